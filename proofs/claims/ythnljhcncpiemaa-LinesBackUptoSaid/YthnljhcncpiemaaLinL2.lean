/- The laws of lines: LinesBack. -/
import Derived.Test.YthnljhcncpiemaaLinL1
namespace Go.Proofs.Ythnljhcncpiemaa
open Go.RowKit
set_option linter.unusedVariables false

theorem info_u8L : (Try.prog.info? 5).map (fun i => (i.zero, i.size, i.bytes)) = some (some (.int .u8 0), 1, 1) := by kernel_rfl

def u8L (M : List Nat) : List Value := M.map fun n : Nat => Value.int .u8 (n : Int)

theorem u8L_bytes (s : ByteArray) : byteCells s = u8L (bytesOf s) := by
  unfold u8L bytesOf
  rw [List.map_map]
  rfl

/-- a row of bytes that grows, new in this call -/
structure BkG (w0 : World) (v : Value) (M : List Nat) (w : World) : Prop where
  row : w.ownsRow 0 5 1 v M.length (u8L M)
  fresh : ∀ g, v.ownBlock = some g → w0.heap.size ≤ g
  kept : Mut [] w0 w

theorem BkG.form {w0 w : World} {v : Value} {M : List Nat} (h : BkG w0 v M w) : ∃ p c, v = .slice p M.length c := by
  rcases h.row.2 with ⟨h, h'⟩ | ⟨g, cap, _, h, _⟩
  · exact ⟨none, 0, by rw [h, h']⟩
  · exact ⟨_, cap, h⟩
theorem BkG.mut {w0 w w' : World} {v : Value} {M : List Nat} (h : BkG w0 v M w) (m : Mut [] w w') : BkG w0 v M w' := ⟨m.row h.row (by simp), h.fresh, h.kept.trans' m⟩
theorem BkG.app {w0 w w' : World} {v v' : Value} {M N : List Nat} {n : Nat} (h : BkG w0 v M w) (hn : N.length = n) (r1 : w'.ownsRow 0 5 1 v' (M.length + n) (u8L M ++ u8L N)) (r2 : w.grownBy w' v.ownBlock) (r3 : ∀ g, v'.ownBlock = some g → v.ownBlock = some g ∨ w.heap.size ≤ g) : BkG w0 v' (M ++ N) w' := by
  subst hn
  refine ⟨by rw [List.length_append, u8L, List.map_append]; exact r1, fun g hg => ?_, h.kept.grown r2 (fun k hk => .inr (h.fresh k hk))⟩
  rcases r3 g hg with h1 | h1
  · exact h.fresh g h1
  · have := h.kept.size
    omega
/-- blocks of spans lie as they lay -/
theorem BkG.span {w0 w w' : World} {v : Value} {M : List Nat} (h : BkG w0 v M w) (m : Mut v.ownBlock.toList w w') {u : Value} {L : List (Nat × Nat)} (hu : PRow 31 w u L) : PRow 31 w' u L := by
  refine hu.mut m (fun g hg hm => ?_)
  obtain ⟨c, hc⟩ := hu.blkT hg
  exact row_ne h.row hc (by decide) (by simpa using hm)

theorem whole_empty (s : ByteArray) (h : s.size = 0) : whole (bytesOf s) = true := by
  have : bytesOf s = [] := List.eq_nil_of_length_eq_zero (by rw [bytesOf_length]; exact h)
  rw [this]
  rfl
theorem whole_last (s : ByteArray) (i : Nat) (hi : i + 1 = s.size) (h : i < s.size) : whole (bytesOf s) = decide ((s[i]'h).toNat = 10) := by
  have hl := bytesOf_length s
  rw [bytesOf_get s i h]
  have h2 : i < (bytesOf s).length := by omega
  unfold whole
  rw [List.getLast?_eq_getElem?, show (bytesOf s).length - 1 = i by omega, List.getElem?_eq_getElem h2]
  have : (bytesOf s).isEmpty = false := by
    cases hb : bytesOf s with
    | nil => rw [hb] at hl; simp at hl; omega
    | cons => rfl
  rw [this, Bool.false_or]
  by_cases h10 : (bytesOf s)[i]'h2 = 10
  · rw [decide_eq_true h10, h10]; rfl
  · rw [decide_eq_false h10, beq_eq_false_iff_ne]
    simpa using h10

theorem bk_take (D : List Nat) (L : List (Nat × Nat)) (k : Nat) (hk : k < L.length) : bk D (L.take (k + 1)) = bk D (L.take k) ++ ((D.take (L[k]'hk).2).drop (L[k]'hk).1 ++ [10]) := by
  rw [List.take_succ_eq_append_getElem hk]
  simp only [bk, List.flatMap_append, List.flatMap_cons, List.flatMap_nil, List.append_nil]
theorem bk_pre (D : List Nat) (L : List (Nat × Nat)) (k : Nat) : (bk D (L.take k)).length ≤ (bk D L).length := by
  conv => rhs; rw [← List.take_append_drop k L]
  simp only [bk, List.flatMap_append, List.length_append]
  omega

theorem BkG.nil {w0 w : World} (m : Mut [] w0 w) : BkG w0 (.slice none 0 0) [] w := ⟨World.ownsRow_nil _ _ _ _, by simp [Value.ownBlock], m⟩

theorem BkG.conv {w0 w : World} {v : Value} {M : List Nat} (h : BkG w0 v M w) : (convert 41 9 v).run Try.prog w = .ok (.string (strOf M)) w := by
  have h : w.ownsRow 0 5 1 v M.length ((M.map fun n : Nat => (n : Int)).map (Value.int .u8)) := by rw [List.map_map]; exact h.row
  rw [conv_row Try.underlying41 Try.underlying5 Try.underlying9 h]
  simp only [List.map_map]
  rfl

set_option maxHeartbeats 3200000 in
set_option maxRecDepth 100000 in
theorem lawLinesBack {w : World} (s : ByteArray) (wd : s.size ≤ maxLen) (zd : s.size ≤ 1048576) :
    Calls Try.prog 5 #[.string s] w fun e w' => e = .returned (.bool true) ∧ Below w.heap.size w w' := by
  clear wd
  obtain ⟨D, hD⟩ : ∃ D, bytesOf s = D := ⟨_, rfl⟩
  have hDl : D.length = s.size := by rw [← hD, bytesOf_length]
  obtain ⟨L, hL⟩ : ∃ L, lns D = L := ⟨_, rfl⟩
  have HSP := Lib.hid fun w => split_any s (by omega) w
  rw [hD, hL] at HSP
  have hLs : L.length ≤ s.size := by rw [← hL, ← hDl]; exact lns_len D
  have HBK := Lib.hid (lns_bk D)
  rw [hL] at HBK
  have HEND : Hid (∀ k (h : k < L.length), (L[k]'h).1 ≤ (L[k]'h).2 ∧ (L[k]'h).2 ≤ s.size) := Lib.hid fun k h => by
    have := splF_le D 0 0 (Nat.le_refl _) (L[k]'h) (by rw [show splF D 0 0 = L from hL]; exact List.getElem_mem h)
    rw [hDl] at this
    omega
  have HD := Lib.hid hD
  clear hD hL
  go_enter Try.func5, Try.ntmps5
  go_wp2_with fail
  refine (speaks_any _).mono ?_
  rintro e w1 ⟨rfl, hm1⟩
  have HM1 := Lib.hid hm1
  clear hm1
  dsimp only
  go_wp2_with fail
  refine (HSP.out _).mono ?_
  rintro e w2 ⟨v, rfl, hr, -, hm2⟩
  obtain ⟨p, c, rfl⟩ := hr.form
  have HR := Lib.hid hr
  have HG0 : Hid (BkG w (.slice none 0 0) [] w2) := Lib.hid (BkG.nil (HM1.out.trans' hm2))
  clear hr hm2 HM1 HSP
  go_wp2_with fail
  go_loopw [4, 5] (fun a b wx => ∃ (k : Nat) (M : List Nat) (p' : Option Addr) (c' : Nat), a = .slice p' M.length c' ∧ b = .int .i64 (k : Int) ∧ k ≤ L.length ∧ Hid (M = bk D (L.take k)) ∧ Hid (BkG w (.slice p' M.length c') M wx) ∧ Hid (PRow 31 wx (.slice p L.length c) L)) (fun a b _ => L.length - (intOf b).toNat)
  case atStart => exact ⟨0, [], none, 0, rfl, rfl, Nat.zero_le _, Lib.hid rfl, HG0, HR⟩
  case round =>
    obtain ⟨k, M, p', c', rfl, rfl, hk, HM, HG, HR1⟩ := hrel
    clear HG0 HR
    by_cases hlt : k < L.length
    case pos =>
      have hkI : (k : Int) < (L.length : Int) := by omega
      have hMs : M.length ≤ s.size + 1 := by
        have h1 := bk_pre D L k
        rw [← HM.out, HBK.out.1, List.length_append] at h1
        have : (if whole D = true then [] else [10] : List Nat).length ≤ 1 := by split <;> simp
        omega
      obtain ⟨g, c1, hv, -, -⟩ := row_some HR1.out (by omega)
      simp only [Value.slice.injEq] at hv
      obtain ⟨rfl, -, rfl⟩ := hv
      obtain ⟨x0, x1⟩ := HR1.out.cells k hlt
      rw [Nat.mul_comm] at x0 x1
      have hbd := HEND.out k hlt
      have hbt := bk_take D L k hlt
      obtain ⟨⟨a, b⟩, hab⟩ : ∃ x, L[k]'hlt = x := ⟨_, rfl⟩
      rw [hab] at x0 x1 hbd hbt
      simp only at x0 x1 hbd hbt
      obtain ⟨hb1, hb2⟩ := hbd
      rw [← HM.out] at hbt
      obtain ⟨y, hy⟩ : ∃ y, s.extract a b = y := ⟨_, rfl⟩
      have hyb : bytesOf y = (D.take b).drop a := by rw [← hy, bytesOf_extract, HD.out]
      have hyl : y.size = b - a := by rw [← hy, ByteArray.size_extract]; omega
      have HNX : Hid (M ++ bytesOf y ++ [10] = bk D (L.take (k + 1))) := Lib.hid (by rw [hbt, hyb, List.append_assoc])
      have HY := Lib.hid hy
      have hcut : ∀ W, (Instr.slice 9 (.string s) (some (.int .i64 (a : Int))) (some (.int .i64 (b : Int))) none).run Try.prog W = .ok (.string y) W := fun W => by
        have := sub_str (P := Try.prog) Try.underlying9 W s .i64 .i64 (a : Int) (b : Int) a b rfl rfl hb1 hb2
        rw [hy] at this
        exact this
      have HCUT := Lib.hid hcut
      have r0 : ∀ v : WIn (Mut [] wr), v.w.cell? ⟨g, k * 2, none⟩ = some (.int .i64 (a : Int)) := fun v => v.ok.cell x0 (by simp)
      have r1 : ∀ v : WIn (Mut [] wr), v.w.cell? ⟨g, k * 2 + 1, none⟩ = some (.int .i64 (b : Int)) := fun v => v.ok.cell x1 (by simp)
      haveI : Nonempty (WIn (Mut [] wr)) := ⟨⟨wr, Mut.refl _ _⟩⟩
      clear hab hbt hyb hy hcut x0 x1
      go_upto_region 8 with fail
      refine wp_region_mix (fun w' => ∃ v : WIn (Mut [] wr), w' = v.w) 13 1 [] [0, 1, 2, 3, 4, 5, 6, 7, 8, 9, 10, 11] [12, 13, 14]
        (fun l => []) (fun l => l.take 12) (fun l => l.drop 12) rfl rfl rfl (by kernel_rfl) (by kernel_rfl) (by kernel_rfl) (by kernel_rfl) (fun _ _ _ _ _ h => h) ⟨⟨wr.drew, (Mut.refl _ _).drew⟩, rfl⟩ ?_
      simp only [List.take_succ_cons, List.take_zero, List.drop_succ_cons, List.drop_zero]
      refine wpQuiet_nil ?_
      repeat (go_big_quiet_step (fail))
      refine wpQuiet_nil ?_
      have hcw := HCUT.out wr.drew
      intro K hK
      go_simp
      refine hK _ _ (fun _ => ⟨⟨wr.drew, (Mut.refl _ _).drew⟩, rfl⟩) ?_
      clear hK K r0 r1 this hcw
      intro K hK
      obtain ⟨i0, hi, hz0, hz1, hz2⟩ := info_parts info_u8L
      have hmd : Mut [] wr wr.drew := (Mut.refl _ _).drew
      refine step_append rfl (.tmp 18) (.tmp 30) 41 9 rfl 5 i0 (.int .u8 0) 1 1 Try.underlying41 hi hz0 hz1 hz2 rfl (HG.out.mut hmd).row rfl (Src.ofString _ Try.underlying9 y) rfl (by unfold maxLen; omega) (by omega) ?_
      intro v' w' r1 r2 r3
      rw [u8L_bytes] at r1
      have hg1 := (HG.out.mut hmd).app (bytesOf_length y) r1 r2 r3
      have hr1 := (HG.out.mut hmd).span ((Mut.refl _ _).grown r2 (by intro g hg; simp [hg])) (HR1.out.mut hmd (by simp))
      obtain ⟨p2, c2, e⟩ := hg1.form
      subst e
      have HG1 := Lib.hid hg1
      have HR2 := Lib.hid hr1
      have hM2 : (M ++ bytesOf y).length ≤ 2 * s.size + 1 := by rw [List.length_append, bytesOf_length]; omega
      clear r1 r2 r3 hg1 hr1 hmd HG HR1
      generalize M ++ bytesOf y = M2 at *
      refine hK _ _ (fun h => absurd h (by decide)) ?_
      clear hK K
      intro K hK
      go_simp
      refine hK _ _ (fun h => absurd h (by decide)) ?_
      clear hK K
      unfold wpMov
      have hrow := (HG1.out.mut ((Mut.refl [] w').alloc (.cells #[.int .u8 10] 5))).row
      go_wp2_with (at_builtin; refine wp_app rfl (.tmp 32) (.tmp 33) 41 41 rfl 5 i0 (.int .u8 0) 1 1 Try.underlying41 hi hz0 hz1 hz2 rfl hrow rfl (src1 Try.underlying41 (heap_alloc_new w' _) rfl (one1 rfl)) rfl ?b1 ?b2 ?_)
      case b1 => unfold maxLen; omega
      case b2 => omega
      intro v' w3 r1 r2 r3
      have hg2 := (HG1.out.mut ((Mut.refl [] w').alloc (.cells #[.int .u8 10] 5))).app (N := [10]) rfl r1 r2 (by simpa using r3)
      have hr2 := (HG1.out.mut ((Mut.refl [] w').alloc (.cells #[.int .u8 10] 5))).span ((Mut.refl _ _).grown r2 (by intro g hg; simp [hg])) (HR2.out.mut ((Mut.refl [] w').alloc (.cells #[.int .u8 10] 5)) (by simp))
      obtain ⟨p3, c3, e⟩ := hg2.form
      subst e
      have HG3 := Lib.hid hg2
      have HR3 := Lib.hid hr2
      clear r1 r2 r3 hg2 hr2 hrow HG1 HR2 hi hz0 hz1 hz2
      go_wp2_with fail
      exact ⟨⟨k + 1, M2 ++ [10], p3, c3, rfl, by rw [Int.natCast_add]; rfl, hlt, HNX, HG3, HR3⟩, by simp only [intOf]; omega⟩
    case neg =>
      have hkI : ¬ (k : Int) < (L.length : Int) := by omega
      obtain rfl : k = L.length := by omega
      have hM : M = D ++ (if whole D then [] else [10]) := by
        have := HM.out
        rw [List.take_length, HBK.out.1] at this
        exact this
      have HMD := Lib.hid hM
      have HLN := Lib.hid HBK.out.2
      clear hM HM HBK
      go_wp2_with fail
      go_loop [6, 7] (fun a b => ∃ k : Nat, a = .int .i64 ((D.take k).count 10 : Nat) ∧ b = .int .i64 (k : Int) ∧ k ≤ s.size) (fun a b => s.size - (intOf b).toNat)
      case atStart => exact ⟨0, by simp, rfl, Nat.zero_le _⟩
      case round =>
        obtain ⟨k, rfl, rfl, hk2⟩ := hrel
        obtain ⟨n, hn⟩ : ∃ n, (D.take k).count 10 = n := ⟨_, rfl⟩
        have hnk : n ≤ k := by rw [← hn]; exact Nat.le_trans List.count_le_length (by rw [List.length_take]; omega)
        rw [hn]
        by_cases hlt2 : k < s.size
        case pos =>
          have hkI2 : (k : Int) < (s.size : Int) := by omega
          have hb := byte10 (s[k]'hlt2)
          have hkD : k < D.length := by omega
          have hbD : (s[k]'hlt2).toNat = D[k]'hkD := by
            rw [bytesOf_get s k hlt2]
            simp only [HD.out]
          have hnext : (D.take (k + 1)).count 10 = n + if D[k]'hkD = 10 then 1 else 0 := by
            rw [List.take_succ_eq_append_getElem hkD, List.count_append, hn]
            congr 1
            simp [List.count_cons]
          clear hn
          by_cases h10 : D[k]'hkD = 10
          case pos =>
            rw [if_pos h10] at hnext
            rw [hbD, decide_eq_true h10] at hb
            have hb2 : ((s[k]'hlt2) == 10) = true := by
              rw [beq_iff_eq]
              exact UInt8.toNat_inj.1 (hbD.trans h10)
            have HN := Lib.hid hnext
            clear hnext h10
            go_wp2_with fail
            exact ⟨⟨k + 1, by rw [HN.out, Int.natCast_add]; rfl, by rw [Int.natCast_add]; rfl, hlt2⟩, by simp only [intOf]; omega⟩
          case neg =>
            rw [if_neg h10] at hnext
            rw [hbD, decide_eq_false h10] at hb
            have HN := Lib.hid hnext
            clear hnext h10
            go_wp2_with fail
            exact ⟨⟨k + 1, by rw [HN.out]; rfl, by rw [Int.natCast_add]; rfl, hlt2⟩, by simp only [intOf]; omega⟩
        case neg =>
          have hkI2 : ¬ (k : Int) < (s.size : Int) := by omega
          have hnD : D.count 10 = n := by
            rw [← hn, List.take_of_length_le (by omega)]
          have hcv := HG.out.conv
          have hMlt : ∀ x ∈ M, x < 256 := by
            intro x hx
            rw [HMD.out] at hx
            rcases List.mem_append.1 hx with h | h
            · rw [← HD.out] at h
              exact bytesOf_lt s x h
            · split at h
              · simp at h
              · simp at h; omega
          obtain ⟨z, hz⟩ : ∃ z, strOf M = z := ⟨_, rfl⟩
          have hzb : bytesOf z = M := by rw [← hz, bytesOf_strOf M hMlt]
          rw [hz] at hcv
          have HZ := Lib.hid hzb
          have HND := Lib.hid hnD
          clear hn hz hzb hnD hMlt
          have HBL : Hid (Below w.heap.size w wr) := Lib.hid (HG.out.kept.nil (by simp))
          have hLI : (L.length : Int) = (n : Int) + ((if whole D = true then 0 else 1 : Nat) : Int) := by
            have := HLN.out
            rw [HND.out] at this
            omega
          have HLI := Lib.hid hLI
          clear hLI HLN HND HR1 HEND hkI
          have hwt : whole D = true → (z.toList == s.toList) = true ∧ ((L.length : Int) == (n : Int)) = true := fun h => by
            refine ⟨?_, ?_⟩
            · rw [str_eq_bytes, decide_eq_true_eq, HZ.out, HMD.out, if_pos h, HD.out, List.append_nil]
            · have := HLI.out
              rw [if_pos h] at this
              rw [beq_iff_eq]
              omega
          have hwf : whole D = false → (z.toList == (s ++ ⟨#[10]⟩).toList) = true ∧ ((L.length : Int) == (n : Int) + 1) = true := fun h => by
            refine ⟨?_, ?_⟩
            · rw [str_eq_bytes, decide_eq_true_eq, HZ.out, HMD.out, if_neg (by rw [h]; simp), bytesOf_append, HD.out]
              rfl
            · have := HLI.out
              rw [if_neg (by rw [h]; simp)] at this
              rw [beq_iff_eq]
              omega
          have HWT := Lib.hid hwt
          have HWF := Lib.hid hwf
          clear hwt hwf
          by_cases h0 : s.size = 0
          case pos =>
            have hsl : s.toList = [] := by
              have : s.data.toList = [] := List.eq_nil_of_length_eq_zero (by simpa using h0)
              rw [str_toList, this]
            obtain ⟨q1, q2⟩ := HWT.out (by rw [← HD.out]; exact whole_empty s h0)
            have hzl : z.toList = [] := by
              rw [beq_iff_eq, hsl] at q1
              exact q1
            clear HLI HWT HWF q1
            go_wp2_with fail
            exact bodyPost_ret (results_tmp rfl _ _ _) rfl ⟨rfl, HBL.out⟩
          case neg =>
            have hsl : ¬ s.toList = [] := by
              intro e
              apply h0
              rw [str_toList] at e
              have := congrArg List.length e
              simpa using this
            have hse : s.toList.isEmpty = false := by
              cases hb : s.toList with
              | nil => exact absurd hb hsl
              | cons => rfl
            have hse2 : (s.toList == []) = false := by
              rw [beq_eq_false_iff_ne]
              exact hsl
            obtain ⟨i, hi⟩ : ∃ i, i + 1 = s.size := ⟨s.size - 1, by omega⟩
            have hil : i < s.size := by omega
            have hiI : (s.size : Int) - 1 = (i : Int) := by omega
            have hwl := whole_last s i hi hil
            rw [HD.out] at hwl
            have hb := byte10 (s[i]'hil)
            have hb3 : ((s[i]'hil) == 10) = decide ((s[i]'hil).toNat = 10) := by
              by_cases h : (s[i]'hil).toNat = 10
              · rw [decide_eq_true h, beq_iff_eq]
                exact UInt8.toNat_inj.1 h
              · rw [decide_eq_false h, beq_eq_false_iff_ne]
                intro e
                apply h
                rw [e]
                rfl
            cases hwD : whole D with
            | true =>
              obtain ⟨q1, q2⟩ := HWT.out hwD
              rw [← hwl, hwD] at hb hb3
              clear HLI HWT HWF hwl hwD
              go_wp2_with fail
              exact bodyPost_ret (results_tmp rfl _ _ _) rfl ⟨rfl, HBL.out⟩
            | false =>
              obtain ⟨q1, q2⟩ := HWF.out hwD
              rw [← hwl, hwD] at hb hb3
              clear HLI HWT HWF hwl hwD
              go_wp2_with fail
              exact bodyPost_ret (results_tmp rfl _ _ _) rfl ⟨rfl, HBL.out⟩

end Go.Proofs.Ythnljhcncpiemaa
