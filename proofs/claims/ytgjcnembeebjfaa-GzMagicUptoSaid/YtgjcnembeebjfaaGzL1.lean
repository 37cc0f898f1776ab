/- Walk over the law GzMagic. -/
import Derived.Test.YtgjcnembeebjfaaGzQ
import Derived.Test.YtgjcnembeebjfaaGLaw
import Derived.Deep.DeepCutAuto
import Derived.Deep.RegionWith
namespace Go.Proofs.Ytgjcnembeebjfaa
open Go.RowKit
set_option linter.unusedVariables false

/-- a part of its own, as one row -/
theorem one_row (w : World) (p : GPart) : (w.alloc (.cells (gpC p).toArray 37)).ownsRow 0 37 9 (.slice (some ⟨w.heap.size, 0, none⟩) 1 1) 1 (gpL [p]) :=
  ⟨rfl, .inr ⟨w.heap.size, 1, (gpC p).toArray, rfl, Nat.zero_le _, heap_alloc_new w _, Nat.le_refl _, by decide, rfl, rfl⟩⟩

theorem partB_size (d : ByteArray) (C : List Ch) : (partB { data := d } C).size = 10 + ((packAll (bytesOf d) C).length + 7) / 8 + 8 := by
  unfold partB
  rw [hd2_data]
  rw [ByteArray.size_append, ByteArray.size_append, ByteArray.size_append, packed_size, strOf_size, strOf_size, lowL_len, lowL_len, H10_facts.1]

set_option maxHeartbeats 3200000 in
set_option maxRecDepth 100000 in
theorem lawGzMagic {w : World} (s : ByteArray) (ws : s.size ≤ maxLen) (hsz : s.size ≤ 1048576) :
    Calls Try.prog 8 #[.string s] w fun e w' => e = .returned (.bool true) ∧ Below w.heap.size w w' := by
  clear ws
  have HS := Lib.hid (speaks5_any w)
  obtain ⟨P, hP⟩ : ∃ P, partB { data := ⟨#[97]⟩ } [] = P := ⟨_, rfl⟩
  have hPz : 18 ≤ P.size ∧ P.size ≤ 1000 := by
    have h1 := partB_size ⟨#[97]⟩ []
    have h2 := packAll_len (bytesOf ⟨#[97]⟩) (bytesOf_lt _) []
    have h3 : (bytesOf ⟨#[97]⟩).length = 1 := rfl
    rw [hP] at h1
    rw [h3, List.length_nil] at h2
    omega
  have HIS : Hid (∀ q, isM s = q → ∀ w, Calls Try.prog 13 #[.string s] w fun e w' => e = .returned (.bool q) ∧ w' = w) := Lib.hid fun q hq w => gz_is_any s q hq w
  have HW : Hid (∀ w, Calls Try.prog 16 #[.slice (some ⟨w.heap.size, 0, none⟩) 1 1, .slice none 0 0] (w.alloc (.cells (gpC { data := ⟨#[97]⟩ }).toArray 37)) fun e w' => e = .returned (.tuple #[.string P, .int .i64 0]) ∧ Mut [] w w') := Lib.hid fun w => by
    have h := gz_write_ok [{ data := ⟨#[97]⟩ }] (by simp) (by decide) (by intro p hp; simp at hp; subst hp; exact ⟨rfl, by decide⟩) (some ⟨w.heap.size, 0, none⟩) 1 [] (by decide) (by simp) (.slice none 0 0) P (by simp [fileL, hP]) (by omega)
      (w.alloc (.cells (gpC { data := ⟨#[97]⟩ }).toArray 37)) (one_row w _) (CRow.nil _ _)
    exact h.mono fun e w' h => ⟨h.1, ((Mut.refl [] w).alloc _).trans' h.2⟩
  have HR1 : Hid (isM s = false → ∀ w, Calls Try.prog 10 #[.string s, .int .i64 99] w fun e w' => e = .returned (.tuple #[.slice none 0 0, .agg #[.int .i64 12, .int .i64 0]]) ∧ Mut [] w w') := Lib.hid fun h w => by
    refine (gz_read_any (8 * s.size + 1) s (by omega) 99 (by decide) (by omega) _ (magic_first _ 99 s h) w).mono ?_
    rintro e w' ⟨v, rfl, rfl, hm⟩
    exact ⟨rfl, hm⟩
  have HR2 : Hid (isM s = false → ∀ w, Calls Try.prog 10 #[.string (P ++ s), .int .i64 99] w fun e w' => (∃ x y z, e = .returned (.tuple #[.slice x y z, .agg #[.int .i64 (if s.size = 0 then 0 else 12), .int .i64 (if s.size = 0 then 0 else (P.size : Int))]])) ∧ Mut [] w w') := Lib.hid fun h w => by
    have hr := magic_behind (8 * (P.size + s.size) + 10) 99 s ⟨#[97]⟩ [] h (by decide) (by decide) (by rw [List.length_nil]; change 1 + 0 + 1 ≤ _; omega)
    rw [hP] at hr
    refine (gz_read_any (8 * (P.size + s.size) + 10) (P ++ s) (by rw [ByteArray.size_append]; omega) 99 (by decide) (by rw [ByteArray.size_append]; omega) _ hr w).mono ?_
    rintro e w' ⟨v, rfl, hv, hm⟩
    refine ⟨?_, hm⟩
    by_cases h0 : s.size = 0
    · rw [if_pos h0] at hv ⊢
      rw [if_pos h0]
      obtain ⟨p, c, rfl, -⟩ := hv
      exact ⟨_, _, _, rfl⟩
    · rw [if_neg h0] at hv ⊢
      rw [if_neg h0]
      exact ⟨_, _, _, congrArg _ hv⟩
  clear hP
  go_enter Try.func8, Try.ntmps8
  go_wp2_with fail
  refine HS.out.mono ?_
  rintro e w1 ⟨rfl, hm⟩
  have HM1 := Lib.hid hm
  clear hm HS
  go_wp2_with fail
  cases hq : isM s with
  | true =>
    refine (HIS.out true hq _).mono ?_
    rintro e w2 ⟨rfl, rfl⟩
    go_wp2_with fail
    go_ret
    exact ⟨rfl, HM1.out.nil (by simp)⟩
  | false =>
    refine (HIS.out false hq _).mono ?_
    rintro e w2 ⟨rfl, rfl⟩
    clear HIS
    go_wp2_with fail
    refine (HW.out _).mono ?_
    rintro e w3 ⟨rfl, hm⟩
    have HM3 := Lib.hid (HM1.out.trans' hm)
    clear hm HW HM1
    go_wp2_with fail
    refine (HR1.out hq _).mono ?_
    rintro e w4 ⟨rfl, hm⟩
    have HM4 := Lib.hid (HM3.out.trans' hm)
    clear hm HR1 HM3
    have hsm : P.size + s.size ≤ 9223372036854775807 := by omega
    go_upto_region 7 with fail
    have hfa := heap_alloc_new w4 (.cells #[.int .i64 12, .int .i64 0] 26)
    have HM5 := Lib.hid (HM4.out.alloc (.cells #[.int .i64 12, .int .i64 0] 26))
    clear HM4
    generalize w4.alloc (.cells #[.int .i64 12, .int .i64 0] 26) = w5 at *
    generalize w4.heap.size = fa at *
    go_wp2_with fail
    refine (HR2.out hq _).mono ?_
    rintro e w6 ⟨⟨x, y, z, rfl⟩, hm⟩
    have HM6 := Lib.hid (HM5.out.trans' hm)
    have hfb := hm.get hfa (by simp)
    clear hm HM5 HR2 hfa
    by_cases h0 : s.size = 0
    · rw [if_pos h0, if_pos h0]
      have hse : s.toList.isEmpty = true := by
        have h1 : s = .empty := by apply bytesOf_inj; rw [List.eq_nil_of_length_eq_zero (l := bytesOf s) (by rw [bytesOf_length]; exact h0)]; rfl
        rw [h1]
        simp
      go_upto_region 8 with fail
      have HM7 := Lib.hid (HM6.out.alloc (.cells #[.int .i64 0, .int .i64 0] 26))
      obtain ⟨c0, c1, -, -⟩ := cells2 (((Mut.refl [] w6).alloc (.cells #[.int .i64 0, .int .i64 0] 26)).get hfb (by simp))
      obtain ⟨d0, d1, -, -⟩ := cells2 (heap_alloc_new w6 (.cells #[.int .i64 0, .int .i64 0] 26))
      generalize w6.alloc (.cells #[.int .i64 0, .int .i64 0] 26) = w7 at *
      generalize w6.heap.size = fb at *
      clear hfb HM6
      go_wp2_with fail
      go_ret
      exact ⟨rfl, HM7.out.nil (by simp)⟩
    · rw [if_neg h0, if_neg h0]
      obtain ⟨hse0, hse⟩ := ne_facts (s := s) (fun h => h0 (by rw [h]; rfl))
      go_upto_region 8 with fail
      have HM7 := Lib.hid (HM6.out.alloc (.cells #[.int .i64 12, .int .i64 (P.size : Int)] 26))
      obtain ⟨c0, c1, -, -⟩ := cells2 (((Mut.refl [] w6).alloc (.cells #[.int .i64 12, .int .i64 (P.size : Int)] 26)).get hfb (by simp))
      obtain ⟨d0, d1, -, -⟩ := cells2 (heap_alloc_new w6 (.cells #[.int .i64 12, .int .i64 (P.size : Int)] 26))
      generalize w6.alloc (.cells #[.int .i64 12, .int .i64 (P.size : Int)] 26) = w7 at *
      generalize w6.heap.size = fb at *
      clear hfb HM6
      go_wp2_with fail
      go_ret
      exact ⟨rfl, HM7.out.nil (by simp)⟩

end Go.Proofs.Ytgjcnembeebjfaa
