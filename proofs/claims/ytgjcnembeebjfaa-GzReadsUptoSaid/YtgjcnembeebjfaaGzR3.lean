/- Walk over package ferretref03: Fixed. -/
import Derived.Test.YtgjcnembeebjfaaGLaw
import Derived.Test.YtgjcnembeebjfaaInfW7
import Derived.Deep.DeepCutAuto
namespace Go.Proofs.Ytgjcnembeebjfaa
open Go.RowKit
set_option linter.unusedVariables false

/-- a row of ints that grows, new in this call -/
structure IG (w0 : World) (v : Value) (M : List Int) (w : World) : Prop where
  row : IRow w v M
  fresh : ∀ g, v.ownBlock = some g → w0.heap.size ≤ g
  kept : Mut [] w0 w

theorem IG.start (w : World) : IG w (.slice none 0 0) [] w := ⟨IRow.nil _, by simp [Value.ownBlock], Mut.refl _ _⟩
theorem IG.mut {w0 w w' : World} {v : Value} {M : List Int} (h : IG w0 v M w) (m : Mut [] w w') : IG w0 v M w' := ⟨h.row.mut m (by simp), h.fresh, h.kept.trans' m⟩
theorem IG.sl {w0 w : World} {v : Value} {M : List Int} (h : IG w0 v M w) : ∃ p c, v = .slice p M.length c := by
  obtain ⟨p, c, e, -⟩ := h.row.read
  exact ⟨p, c, e⟩
theorem IG.app {w0 wr w1 : World} {v v' : Value} {M xs : List Int} {o : Obj} (h : IG w0 v M wr) (r1 : IRow w1 v' (M ++ xs)) (m : Mut v.ownBlock.toList (wr.alloc o) w1) (f : ∀ g, v'.ownBlock = some g → v.ownBlock = some g ∨ wr.heap.size + 1 ≤ g) : IG w0 v' (M ++ xs) w1 := by
  refine ⟨r1, fun g hg => ?_, (h.kept.alloc o).trans m (fun x hx => .inr (h.fresh x (by simpa using hx)))⟩
  rcases f g hg with h1 | h1
  · exact h.fresh g h1
  · have := h.kept.size
    omega

theorem takeD_snoc (M : List Int) (i : Nat) (h : i < M.length) : M.take (i + 1) = M.take i ++ [M.getD i 0] := by
  rw [List.take_succ_eq_append_getElem h]
  simp [List.getD, h]

set_option maxHeartbeats 1600000 in
set_option maxRecDepth 100000 in
theorem rfixed_any (w : World) :
    Calls Try.prog 41 #[] w fun e w' => ∃ x y, e = .returned (.tuple #[x, y]) ∧ IRow w' x (toI fixedL) ∧ IRow w' y (toI fixedD) ∧ Mut [] w w' ∧ (∀ g, x.ownBlock = some g → w.heap.size ≤ g) ∧ (∀ g, y.ownBlock = some g → w.heap.size ≤ g) := by
  have hlL : (toI fixedL).length = 288 := by decide +kernel
  have hlD : (toI fixedD).length = 32 := by decide +kernel
  have HG0 : Hid (IG w (.slice none 0 0) ((toI fixedL).take 0) w) := Lib.hid (by rw [List.take_zero]; exact IG.start w)
  go_enter Try.func41, Try.ntmps41
  go_wp2_with fail
  go_loopw [2, 4] (fun a b wx => ∃ (i : Nat) (p : Option Addr) (c : Nat), a = .slice p i c ∧ b = .int .i64 (i : Int) ∧ i ≤ 288 ∧ Hid (IG w (.slice p i c) ((toI fixedL).take i) wx)) (fun a b _ => 288 - (intOf b).toNat)
  case atStart => exact ⟨0, none, 0, rfl, rfl, Nat.zero_le _, HG0⟩
  case round =>
    obtain ⟨i, p, c, rfl, rfl, hi, HG⟩ := hrel
    clear HG0
    by_cases hlt : i < 288
    case pos =>
      have hltI : (i : Int) < 288 := by omega
      obtain ⟨v, hv⟩ : ∃ v, (toI fixedL).getD i 0 = v := ⟨_, rfl⟩
      have hva := fixedL_at i hlt
      rw [hv] at hva
      have htk := takeD_snoc (toI fixedL) i (by omega)
      rw [hv] at htk
      have hln : ((toI fixedL).take i).length = i := by rw [List.length_take]; omega
      have HTK := Lib.hid htk
      have HLN := Lib.hid hln
      clear hv htk hln
      have h4 : (i < 144 ∧ v = 8) ∨ (144 ≤ i ∧ i < 256 ∧ v = 9) ∨ (256 ≤ i ∧ i < 280 ∧ v = 7) ∨ (280 ≤ i ∧ v = 8) := by
        split at hva
        · rename_i h
          rcases h with h | h
          · exact .inl ⟨h, hva⟩
          · exact .inr (.inr (.inr ⟨h, hva⟩))
        · rename_i h
          split at hva
          · exact .inr (.inl ⟨by omega, by assumption, hva⟩)
          · exact .inr (.inr (.inl ⟨by omega, by omega, hva⟩))
      clear hva
      have hn1 : i ≤ 287 := by omega
      rcases h4 with ⟨h1, rfl⟩ | ⟨h1, h2, rfl⟩ | ⟨h1, h2, rfl⟩ | ⟨h1, rfl⟩
      · have h1J : ¬ (144 : Int) ≤ (i : Int) := by omega
        have h1K : ¬ (256 : Int) ≤ (i : Int) := by omega
        go_upto_region 10 with fail
        have hrow := HG.out.row.mut ((Mut.refl [] wr).alloc (.cells #[.int .i64 8] 3)) (by simp)
        go_wp2_with (at_builtin; (refine wp_appI rfl (.tmp 23) (.tmp 25) rfl hrow rfl (src_one (heap_alloc_new wr _)) rfl ?b1 ?_))
        case b1 => omega
        intro v' w' r1 m1 f1
        have hS := HG.out.app r1 m1 (by simpa using f1)
        rw [← HTK.out] at hS
        obtain ⟨p', c', e⟩ := hS.sl
        rw [List.length_take, Nat.min_eq_left (by omega)] at e
        subst e
        have HS2 := Lib.hid hS
        clear hS r1 m1 f1 hrow HG
        go_wp2_with fail
        exact ⟨⟨i + 1, p', c', rfl, by rw [Int.natCast_add]; rfl, by omega, HS2⟩, by simp only [intOf]; omega⟩
      · have h1J : (144 : Int) ≤ (i : Int) := by omega
        have h1K : (i : Int) < 256 := by omega
        have h1L : ¬ (256 : Int) ≤ (i : Int) := by omega
        go_upto_region 10 with fail
        have hrow := HG.out.row.mut ((Mut.refl [] wr).alloc (.cells #[.int .i64 9] 3)) (by simp)
        go_wp2_with (at_builtin; (refine wp_appI rfl (.tmp 23) (.tmp 25) rfl hrow rfl (src_one (heap_alloc_new wr _)) rfl ?b1 ?_))
        case b1 => omega
        intro v' w' r1 m1 f1
        have hS := HG.out.app r1 m1 (by simpa using f1)
        rw [← HTK.out] at hS
        obtain ⟨p', c', e⟩ := hS.sl
        rw [List.length_take, Nat.min_eq_left (by omega)] at e
        subst e
        have HS2 := Lib.hid hS
        clear hS r1 m1 f1 hrow HG
        go_wp2_with fail
        exact ⟨⟨i + 1, p', c', rfl, by rw [Int.natCast_add]; rfl, by omega, HS2⟩, by simp only [intOf]; omega⟩
      · have h1J : (144 : Int) ≤ (i : Int) := by omega
        have h1K : ¬ (i : Int) < 256 := by omega
        have h1L : (256 : Int) ≤ (i : Int) := by omega
        have h3I : (i : Int) < 280 := by omega
        go_upto_region 10 with fail
        have hrow := HG.out.row.mut ((Mut.refl [] wr).alloc (.cells #[.int .i64 7] 3)) (by simp)
        go_wp2_with (at_builtin; (refine wp_appI rfl (.tmp 23) (.tmp 25) rfl hrow rfl (src_one (heap_alloc_new wr _)) rfl ?b1 ?_))
        case b1 => omega
        intro v' w' r1 m1 f1
        have hS := HG.out.app r1 m1 (by simpa using f1)
        rw [← HTK.out] at hS
        obtain ⟨p', c', e⟩ := hS.sl
        rw [List.length_take, Nat.min_eq_left (by omega)] at e
        subst e
        have HS2 := Lib.hid hS
        clear hS r1 m1 f1 hrow HG
        go_wp2_with fail
        exact ⟨⟨i + 1, p', c', rfl, by rw [Int.natCast_add]; rfl, by omega, HS2⟩, by simp only [intOf]; omega⟩
      · have h1J : (144 : Int) ≤ (i : Int) := by omega
        have h1K : ¬ (i : Int) < 256 := by omega
        have h1L : (256 : Int) ≤ (i : Int) := by omega
        have h3I : ¬ (i : Int) < 280 := by omega
        go_upto_region 10 with fail
        have hrow := HG.out.row.mut ((Mut.refl [] wr).alloc (.cells #[.int .i64 8] 3)) (by simp)
        go_wp2_with (at_builtin; (refine wp_appI rfl (.tmp 23) (.tmp 25) rfl hrow rfl (src_one (heap_alloc_new wr _)) rfl ?b1 ?_))
        case b1 => omega
        intro v' w' r1 m1 f1
        have hS := HG.out.app r1 m1 (by simpa using f1)
        rw [← HTK.out] at hS
        obtain ⟨p', c', e⟩ := hS.sl
        rw [List.length_take, Nat.min_eq_left (by omega)] at e
        subst e
        have HS2 := Lib.hid hS
        clear hS r1 m1 f1 hrow HG
        go_wp2_with fail
        exact ⟨⟨i + 1, p', c', rfl, by rw [Int.natCast_add]; rfl, by omega, HS2⟩, by simp only [intOf]; omega⟩
    case neg =>
      have hltI : ¬ (i : Int) < 288 := by omega
      obtain rfl : i = 288 := by omega
      obtain ⟨wo, rfl⟩ : ∃ x, x = wr := ⟨_, rfl⟩
      have HL : Hid (IG w (.slice p 288 c) (toI fixedL) wo) := Lib.hid (by
        have := HG.out
        rw [List.take_of_length_le (by omega)] at this
        exact this)
      have HD0 : Hid (IG wo (.slice none 0 0) ((toI fixedD).take 0) wo) := Lib.hid (by rw [List.take_zero]; exact IG.start wo)
      clear HG
      go_wp2_with fail
      go_loopw [3, 6] (fun a b wx => ∃ (j : Nat) (p2 : Option Addr) (c2 : Nat), a = .slice p2 j c2 ∧ b = .int .i64 (j : Int) ∧ j ≤ 32 ∧ Hid (IG wo (.slice p2 j c2) ((toI fixedD).take j) wx)) (fun a b _ => 32 - (intOf b).toNat)
      case atStart => exact ⟨0, none, 0, rfl, rfl, Nat.zero_le _, HD0⟩
      case round =>
        obtain ⟨j, p2, c2, rfl, rfl, hj, HD⟩ := hrel
        clear HD0
        by_cases hlt2 : j < 32
        case pos =>
          have hltJ : (j : Int) < 32 := by omega
          have htk := takeD_snoc (toI fixedD) j (by omega)
          rw [fixedD_at j hlt2] at htk
          have hln : ((toI fixedD).take j).length = j := by rw [List.length_take]; omega
          have HTK := Lib.hid htk
          have HLN := Lib.hid hln
          have hn1 : j ≤ 31 := by omega
          clear htk hln
          have hrow := HD.out.row.mut ((Mut.refl [] _).alloc (.cells #[.int .i64 5] 3)) (by simp)
          go_upto_region 14 with fail
          go_wp2_with (at_builtin; (refine wp_appI rfl (.tmp 31) (.tmp 32) rfl hrow rfl (src_one (heap_alloc_new _ _)) rfl ?b1 ?_))
          case b1 => rw [HLN.out]; simp; omega
          intro v' w' r1 m1 f1
          have hS := HD.out.app r1 m1 (by simpa using f1)
          rw [← HTK.out] at hS
          obtain ⟨p', c', e⟩ := hS.sl
          rw [List.length_take, Nat.min_eq_left (by omega)] at e
          subst e
          have HS2 := Lib.hid hS
          clear hS r1 m1 f1 hrow HD
          go_wp2_with fail
          exact ⟨⟨j + 1, p', c', rfl, by rw [Int.natCast_add]; rfl, by omega, HS2⟩, by simp only [intOf]; omega⟩
        case neg =>
          have hltJ : ¬ (j : Int) < 32 := by omega
          obtain rfl : j = 32 := by omega
          have HD2 : Hid (IRow wr (.slice p2 32 c2) (toI fixedD)) := Lib.hid (by
            have := HD.out.row
            rw [List.take_of_length_le (by omega)] at this
            exact this)
          have HL2 : Hid (IRow wr (.slice p 288 c) (toI fixedL)) := Lib.hid (HL.out.row.mut HD.out.kept (by simp))
          have HM := Lib.hid (And.intro (HL.out.kept.trans' HD.out.kept) (And.intro HL.out.fresh (fun g hg => Nat.le_trans HL.out.kept.size (HD.out.fresh g hg))))
          clear HD HL
          go_wp2_with fail
          exact bodyPost_ret (results_tmp2 rfl _ _ _) rfl ⟨.slice p 288 c, .slice p2 32 c2, rfl, HL2.out, HD2.out, HM.out⟩

end Go.Proofs.Ytgjcnembeebjfaa
