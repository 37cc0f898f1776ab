/- Walks over package ferretref20: Split, At. -/
import Derived.Test.YthnljhcncpiemaaLinR
import Derived.Deep.DeepCutAuto
import Derived.BigQuiet
namespace Go.Proofs.Ythnljhcncpiemaa
open Go.RowKit
set_option linter.unusedVariables false

theorem info_rspan : (Try.prog.info? 30).map (fun i => (i.zero, i.size, i.bytes)) = some (some (.agg #[.int .i64 0, .int .i64 0]), 2, 16) := by kernel_rfl

/-- a row of spans that grows, new in this call -/
structure SpG (e : TypeId) (w0 : World) (v : Value) (O : List (Nat × Nat)) (w : World) : Prop where
  row : PRow e w v O
  fresh : ∀ g, v.ownBlock = some g → w0.heap.size ≤ g
  kept : Mut [] w0 w

theorem SpG.start (e : TypeId) (w : World) : SpG e w (.slice none 0 0) [] w := ⟨PRow.nil _ _, by simp [Value.ownBlock], Mut.refl _ _⟩
theorem SpG.alloc {e : TypeId} {w0 w : World} {v : Value} {O : List (Nat × Nat)} (h : SpG e w0 v O w) (o : Obj) : SpG e w0 v O (w.alloc o) :=
  ⟨h.row.mut ((Mut.refl [] w).alloc o) (by simp), h.fresh, h.kept.alloc o⟩
theorem SpG.mut {e : TypeId} {w0 w w' : World} {v : Value} {O : List (Nat × Nat)} (h : SpG e w0 v O w) (m : Mut [] w w') : SpG e w0 v O w' :=
  ⟨h.row.mut m (by simp), h.fresh, h.kept.trans' m⟩
theorem SpG.app {e : TypeId} {w0 wr w1 : World} {v v' : Value} {O : List (Nat × Nat)} {x : Nat × Nat} {o : Obj} (h : SpG e w0 v O wr)
    (hr1 : w1.ownsRow 0 e 2 v' (O.length + 1) (spCells O ++ spCell x)) (hg1 : (wr.alloc o).grownBy w1 v.ownBlock) (hf1 : ∀ g, v'.ownBlock = some g → v.ownBlock = some g ∨ wr.heap.size + 1 ≤ g) : SpG e w0 v' (O ++ [x]) w1 := by
  refine ⟨?_, fun k hk => (hf1 k hk).elim (fun h' => h.fresh k h') (fun h' => by have := h.kept.size; omega), (h.kept.alloc o).grown hg1 (fun k hk => .inr (h.fresh k hk))⟩
  unfold PRow
  rw [List.length_append, spCells_snoc]
  exact hr1

theorem byte10 (x : UInt8) : ((x.toNat : Int) == 10) = decide (x.toNat = 10) := by
  by_cases h : x.toNat = 10
  · rw [decide_eq_true h, h]; rfl
  · rw [decide_eq_false h, beq_eq_false_iff_ne]; omega

set_option maxHeartbeats 1600000 in
set_option maxRecDepth 100000 in
theorem rsplit_any (s : ByteArray) (hz : s.size ≤ 1073741824) (w : World) :
    Calls Try.prog 9 #[.string s] w fun e w' => ∃ v, e = .returned v ∧ SpG 30 w v (lns (bytesOf s)) w' := by
  have hl := bytesOf_length s
  obtain ⟨D, hD⟩ : ∃ D, bytesOf s = D := ⟨_, rfl⟩
  rw [hD] at hl ⊢
  have HD := Lib.hid hD
  have HS0 := Lib.hid (SpG.start 30 w)
  have HE0 : Hid ([] ++ splF (D.drop 0) 0 0 = lns D) := Lib.hid rfl
  obtain ⟨i0, hi, hz0, hz1, hz2⟩ := info_parts info_rspan
  clear hD
  go_enter Try.func9, Try.ntmps9
  go_wp2_with fail
  go_loopw [3, 4, 5] (fun a b c wx => ∃ (O : List (Nat × Nat)) (p : Option Addr) (cap f k : Nat), a = .slice p O.length cap ∧ b = .int .i64 (f : Int) ∧ c = .int .i64 (k : Int) ∧ f ≤ k ∧ k ≤ s.size ∧ O.length ≤ k ∧ Hid (SpG 30 w (.slice p O.length cap) O wx) ∧ Hid (O ++ splF (D.drop k) f k = lns D)) (fun a b c _ => s.size - (intOf c).toNat)
  case atStart => exact ⟨[], none, 0, 0, 0, rfl, rfl, rfl, Nat.le_refl _, Nat.zero_le _, Nat.le_refl _, HS0, HE0⟩
  case round =>
    obtain ⟨O, p, cap, f, k, rfl, rfl, rfl, hfk, hk, hO, HS, HE⟩ := hrel
    clear HS0 HE0
    by_cases hlt : k < s.size
    case neg =>
      have hI : ¬ (k : Int) < (s.size : Int) := by omega
      obtain rfl : k = s.size := by omega
      have hfin : O ++ (if f < s.size then [(f, s.size)] else []) = lns D := by
        have := HE.out
        rw [← hl, List.drop_length, splF, hl] at this
        exact this
      have HF := Lib.hid hfin
      clear hfin
      by_cases hfs : f < s.size
      case neg =>
        have hJ : ¬ (f : Int) < (s.size : Int) := by omega
        have HOE : Hid (O = lns D) := Lib.hid (by have := HF.out; rw [if_neg hfs, List.append_nil] at this; exact this)
        clear HF HE
        go_wp2_with fail
        exact bodyPost_ret (results_tmp rfl _ _ _) rfl ⟨.slice p O.length cap, rfl, by rw [← HOE.out]; exact HS.out⟩
      case pos =>
        have hJ : (f : Int) < (s.size : Int) := by omega
        have HOE : Hid (O ++ [(f, s.size)] = lns D) := Lib.hid (by have := HF.out; rw [if_pos hfs] at this; exact this)
        clear HF HE
        go_wp2_with (at_builtin; refine wp_app rfl (.tmp 28) (.tmp 33) 25 25 rfl 30 i0 (.agg #[.int .i64 0, .int .i64 0]) 2 16 Try.underlying25 hi hz0 hz1 hz2 rfl (HS.out.row.mut ((Mut.refl [] wr).alloc _) (by simp)) rfl (src1 Try.underlying25 (heap_alloc_new wr _) rfl (sp_one (f, s.size))) rfl ?b1 ?b2 ?_)
        case b1 => unfold maxLen; omega
        case b2 => omega
        intro v' w1 hr1 hg1 hf1
        have hS := SpG.app (x := (f, s.size)) HS.out hr1 hg1 (by simpa using hf1)
        rw [HOE.out] at hS
        have HS2 := Lib.hid hS
        clear hr1 hg1 hf1 hS
        go_wp2_with fail
        exact bodyPost_ret (results_tmp rfl _ _ _) rfl ⟨v', rfl, HS2.out⟩
    case pos =>
      have hI : (k : Int) < (s.size : Int) := by omega
      have hkD : k < D.length := by omega
      have hb := byte10 (s[k]'hlt)
      have hbD : (s[k]'hlt).toNat = D[k]'hkD := by
        rw [bytesOf_get s k hlt]
        simp only [HD.out]
      have hstep : splF (D.drop k) f k = if D[k]'hkD = 10 then (f, k) :: splF (D.drop (k + 1)) (k + 1) (k + 1) else splF (D.drop (k + 1)) f (k + 1) := by
        rw [List.drop_eq_getElem_cons hkD, splF]
      have hw1 : wrap64 ((k : Int) + 1) = ((k + 1 : Nat) : Int) := by rw [IntWalk.wrap64_in _ (by omega)]; omega
      by_cases h10 : D[k]'hkD = 10
      case pos =>
        rw [if_pos h10] at hstep
        have HE2 : Hid ((O ++ [(f, k)]) ++ splF (D.drop (k + 1)) (k + 1) (k + 1) = lns D) := Lib.hid (by rw [← HE.out, hstep, List.append_assoc]; rfl)
        rw [hbD, decide_eq_true h10] at hb
        have hb2 : ((s[k]'hlt) == 10) = true := by
          rw [beq_iff_eq]
          exact UInt8.toNat_inj.1 (hbD.trans h10)
        clear HE hstep h10
        go_upto_region 7 with fail
        go_wp2_with (at_builtin; refine wp_app rfl (.tmp 16) (.tmp 20) 25 25 rfl 30 i0 (.agg #[.int .i64 0, .int .i64 0]) 2 16 Try.underlying25 hi hz0 hz1 hz2 rfl (HS.out.row.mut ((Mut.refl [] wr).alloc _) (by simp)) rfl (src1 Try.underlying25 (heap_alloc_new wr _) rfl (sp_one (f, k))) rfl ?b1 ?b2 ?_)
        case b1 => unfold maxLen; omega
        case b2 => omega
        intro v' w1 hr1 hg1 hf1
        have hS := SpG.app (x := (f, k)) HS.out hr1 hg1 (by simpa using hf1)
        obtain ⟨p', c', e⟩ := hS.row.form
        subst e
        have HS2 := Lib.hid hS
        clear hr1 hg1 hf1 hS HS
        rw [List.length_append] at HS2 ⊢
        go_wp2_with fail
        exact ⟨⟨O ++ [(f, k)], p', c', k + 1, k + 1, by rw [List.length_append], by rw [Int.natCast_add]; rfl, by rw [Int.natCast_add]; rfl, by omega, by omega, by rw [List.length_append]; simp; omega, by rw [List.length_append]; exact HS2, HE2⟩, by simp only [intOf]; omega⟩
      case neg =>
        rw [if_neg h10] at hstep
        have HE2 : Hid (O ++ splF (D.drop (k + 1)) f (k + 1) = lns D) := Lib.hid (by rw [← HE.out, hstep])
        rw [hbD, decide_eq_false h10] at hb
        clear HE hstep h10
        go_wp2_with fail
        exact ⟨⟨O, p, cap, f, k + 1, rfl, rfl, by rw [Int.natCast_add]; rfl, by omega, by omega, by omega, HS, HE2⟩, by simp only [intOf]; omega⟩

/-- how many of the first lines begin at a place or ahead of it -/
theorem cnt_take (L : List (Nat × Nat)) (hs : Sq 0 L) (p : Int) (k : Nat) (hk : k ≤ L.length) : (cnt (L.take k) p : Int) = min (k : Int) (cnt L p : Int) := by
  induction k with
  | zero => simp [cnt]; omega
  | succ k ih =>
    have h := cnt_get L 0 p k hs (by omega)
    have e : cnt (L.take (k + 1)) p = cnt (L.take k) p + if ((L[k]'(by omega)).1 : Int) ≤ p then 1 else 0 := by
      rw [List.take_succ_eq_append_getElem (by omega)]
      unfold cnt
      rw [List.countP_append]
      simp
    have ih := ih (by omega)
    split at e <;> omega

set_option maxHeartbeats 800000 in
set_option maxRecDepth 100000 in
theorem rat_any {e : TypeId} (L : List (Nat × Nat)) (hs : Sq 0 L) (hL : L.length ≤ 1073741824) (place : Int) (v : Value) (w : World) (hr : PRow e w v L) :
    Calls Try.prog 11 #[v, .int .i64 place] w fun e w' => e = .returned (.int .i64 ((cnt L place : Int) - 1)) ∧ w' = w := by
  obtain ⟨p, c, rfl⟩ := hr.form
  have HC := Lib.hid (cnt_get L 0 place)
  have HSq := Lib.hid hs
  have hC := cnt_le L place
  have HR := Lib.hid hr
  clear hr hs
  go_enter Try.func11, Try.ntmps11
  go_wp2_with fail
  go_loop [5, 6] (fun a b => ∃ k : Nat, a = .int .i64 (((min k (cnt L place) : Nat) : Int) - 1) ∧ b = .int .i64 (k : Int) ∧ k ≤ L.length) (fun a b => L.length - (intOf b).toNat)
  case atStart => exact ⟨0, by simp, rfl, Nat.zero_le _⟩
  case round =>
    obtain ⟨k, rfl, rfl, hk⟩ := hrel
    by_cases hlt : k < L.length
    case neg =>
      have hI : ¬ (k : Int) < (L.length : Int) := by omega
      have e : min k (cnt L place) = cnt L place := by omega
      rw [e]
      clear e
      go_wp2_with fail
      exact bodyPost_ret (results_tmp rfl _ _ _) rfl ⟨rfl, rfl⟩
    case pos =>
      have hI : (k : Int) < (L.length : Int) := by omega
      obtain ⟨g, c', hv, -, -⟩ := row_some HR.out (by omega)
      simp only [Value.slice.injEq] at hv
      obtain ⟨rfl, -, rfl⟩ := hv
      have hx := (PRow.cells HR.out k hlt).1
      rw [Nat.mul_comm] at hx
      have hcg := HC.out k HSq.out hlt
      generalize (L[k]'hlt).1 = x at hx hcg
      generalize cnt L place = C at *
      by_cases hc : k < C
      case pos =>
        have hle : (x : Int) ≤ place := hcg.2 hc
        have e1 : ((min k C : Nat) : Int) - 1 = (k : Int) - 1 := by omega
        have e2 : (k : Int) = ((min (k + 1) C : Nat) : Int) - 1 := by omega
        have E2 := Lib.hid e2
        rw [e1]
        clear hcg e1 e2
        go_wp2_with fail
        exact ⟨⟨k + 1, congrArg _ E2.out, by rw [Int.natCast_add]; rfl, hlt⟩, by simp only [intOf]; omega⟩
      case neg =>
        have hle : ¬ (x : Int) ≤ place := fun h => hc (hcg.1 h)
        have e1 : ((min k C : Nat) : Int) - 1 = (C : Int) - 1 := by omega
        have e2 : (C : Int) - 1 = ((min (k + 1) C : Nat) : Int) - 1 := by omega
        have E2 := Lib.hid e2
        rw [e1]
        clear hcg e1 e2
        go_wp2_with fail
        exact ⟨⟨k + 1, congrArg _ E2.out, by rw [Int.natCast_add]; rfl, hlt⟩, by simp only [intOf]; omega⟩

end Go.Proofs.Ythnljhcncpiemaa
