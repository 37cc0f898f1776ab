/- The law CodingBytes. -/
import Derived.Test.YtkoheodcledcfaaCodL1
import Derived.Deep.DeepCutAuto
import Derived.Deep.LoopGhost
import Derived.BigQuiet
namespace Go.Proofs.Ytkoheodcledcfaa
open Go.RowKit

theorem latin_told (l : List Nat) : ∀ (at_ : Nat), decAll 4 l at_ = (l.zip (List.range' at_ l.length)).map fun p => ((p.1 : Int), p.2) := by
  induction l with
  | nil => intro at_; rfl
  | cons b r ih =>
    intro at_
    rw [decAll_cons 4 _ _ (by simp)]
    have e : dec1 4 (b :: r) = ((b : Int), 1) := rfl
    rw [e]
    simp only [List.drop_succ_cons, List.drop_zero, ih]
    rfl

theorem latin_runes (l : List Nat) : runesOf (told 4 l) = l.map (fun n : Nat => (n : Int)) ∧ placesOf (told 4 l) = List.range' 0 l.length ∧ badOf (told 4 l) = 0 := by
  have e : told 4 l = (l.zip (List.range' 0 l.length)).map fun p => ((p.1 : Int), p.2) := by
    have h0 : startOf 4 l = 0 := by unfold startOf; split <;> rfl
    unfold told
    rw [h0, List.drop_zero, latin_told]
  rw [e]
  have hlen : l.length ≤ (List.range' 0 l.length).length := by simp
  refine ⟨?_, ?_, ?_⟩
  · unfold runesOf
    rw [List.map_map]
    have : ((fun p : Int × Nat => if p.1 < 0 then 65533 else p.1) ∘ fun p : Nat × Nat => ((p.1 : Int), p.2)) = (fun n : Nat => (n : Int)) ∘ Prod.fst := by
      funext p
      simp only [Function.comp]
      rw [if_neg (by omega)]
    rw [this, ← List.map_map, List.map_fst_zip hlen]
  · unfold placesOf
    rw [List.map_map]
    have : ((fun p : Int × Nat => p.2) ∘ fun p : Nat × Nat => ((p.1 : Int), p.2)) = Prod.snd := by funext p; rfl
    rw [this, List.map_snd_zip (by simp)]
  · unfold badOf
    rw [List.length_eq_zero_iff, List.filter_eq_nil_iff]
    intro p hp
    obtain ⟨q, _, rfl⟩ := List.mem_map.1 hp
    simp

theorem encAll_latin (l : List Nat) : encAll (l.map fun n : Nat => (n : Int)) 4 = l := by
  induction l with
  | nil => rfl
  | cons b r ih =>
    rw [List.map_cons, encAll_cons, ih]
    simp [enc1]

set_option maxHeartbeats 1600000 in
set_option maxRecDepth 1000000 in
theorem lawCodingBytes {w : World} (s : ByteArray) (_ : s.size ≤ maxLen) (hs : s.size ≤ 1048576) (strict : Bool) : Calls Try.prog 7 #[.string s, .bool strict] w fun e w' => e = .returned (.bool true) ∧ Below w.heap.size w w' := by
  obtain ⟨l1, l2, l3⟩ := latin_runes (bytesOf s)
  have hl := bytesOf_length s
  have L1 := Lib.hid l1
  have L2 := Lib.hid l2
  have L3 := Lib.hid l3
  clear l1 l2 l3
  go_enter Try.func7, Try.ntmps7
  go_wp2_with fail
  refine (speaks_any w).mono ?_
  rintro e w1 ⟨rfl, m1⟩
  have M1 := Lib.hid m1
  clear m1
  go_wp2_with fail
  refine (decode_go s 4 strict (by decide) (by omega) w1).mono ?_
  rintro e w2 ⟨x, rfl, hp, m2⟩
  obtain ⟨vr, vp, rfl, hr, hq⟩ := hp.whole L3.out
  rw [show codingOf 4 (bytesOf s) = 4 from rfl, L1.out] at hr
  rw [show codingOf 4 (bytesOf s) = 4 from rfl, L2.out] at hq
  have HR := Lib.hid hr
  obtain ⟨p1, c1, rfl, k1⟩ := hr.read
  obtain ⟨p2, c2, rfl, k2⟩ := hq.read
  have K1 : Hid (∀ w', Mut [] w2 w' → ∀ i, (h : i < s.size) → ∃ a : Addr, p1 = some a ∧ w'.cell? (a.add i) = some (.int .i64 ((s[i]'h).toNat : Int))) := Lib.hid fun w' m i h => by
    obtain ⟨a, e1, e2⟩ := k1 w' m i (by rw [List.length_map]; omega)
    refine ⟨a, e1, ?_⟩
    rw [e2]
    simp [List.getD, bytesOf, h, ByteArray.getElem_eq_getElem_data]
  have K2 : Hid (∀ w', Mut [] w2 w' → ∀ i, (h : i < s.size) → ∃ a : Addr, p2 = some a ∧ w'.cell? (a.add i) = some (.int .i64 (i : Int))) := Lib.hid fun w' m i h => by
    obtain ⟨a, e1, e2⟩ := k2 w' m i (by rw [List.length_append, List.length_map, List.length_range']; omega)
    refine ⟨a, e1, ?_⟩
    rw [e2]
    have e3 : (List.map (fun n : Nat => (n : Int)) (List.range' 0 (bytesOf s).length) ++ [(s.size : Int)]).getD i 0 = (i : Int) := by
      rw [List.getD_eq_getElem?_getD, List.getElem?_append_left (by rw [List.length_map, List.length_range', hl]; exact h)]
      simp [hl, h]
    rw [e3]
  have n1 : ((bytesOf s).map fun n : Nat => (n : Int)).length = s.size := by rw [List.length_map, hl]
  have n2 : (((List.range' 0 (bytesOf s).length).map fun n : Nat => (n : Int)) ++ [(s.size : Int)]).length = s.size + 1 := by rw [List.length_append, List.length_map, List.length_range', hl]; rfl
  rw [n1, n2]
  rw [n1] at HR
  have hss : ((s.size : Int) == (s.size : Int)) = true := by simp
  have M2 := Lib.hid (M1.out.trans m2 (by simp))
  obtain ⟨h1, m3⟩ := hold_new w2 (.int .i64 ((codingOf 4 (bytesOf s) : Nat) : Int)) (.slice p1 s.size c1) (.slice p2 (s.size + 1) c2) (.int .i64 0) (.int .i64 0) (.int .i64 0)
  have H1 := Lib.hid h1
  have M3 := Lib.hid m3
  clear hr hq hp k1 k2 m2 n1 n2 h1 m3
  generalize codingOf 4 (bytesOf s) = k at *
  go_wp2_with fail
  generalize ((w2.alloc (.cells #[.int .i64 (k : Int), .slice p1 s.size c1, .slice p2 (s.size + 1) c2, .int .i64 0] 25)).alloc (.cells #[.int .i64 0, .int .i64 0] 28)) = W at *
  go_loopw [7] (fun x wx => ∃ (i m : Nat), x = .int .i64 (i : Int) ∧ i ≤ s.size ∧ wx = W.drewN m) (fun x _ => s.size - (intOf x).toNat)
  case atStart => exact ⟨0, 0, rfl, by omega, rfl⟩
  case round =>
    obtain ⟨i, m, rfl, hi, rfl⟩ := hrel
    obtain ⟨d0, d1, d2, d3, d4, d5⟩ := H1.out.cells
    have d1' : ∀ j, (W.drewN j).cell? ⟨w2.heap.size, 1, none⟩ = some (.slice p1 s.size c1) := fun j => d1
    have d2' : ∀ j, (W.drewN j).cell? ⟨w2.heap.size, 2, none⟩ = some (.slice p2 (s.size + 1) c2) := fun j => d2
    clear d0 d3 d4 d5 d1 d2
    by_cases hend : i < s.size
    · have hendI : (i : Int) < (s.size : Int) := by omega
      have hi0 : (0 : Int) ≤ (i : Int) := by omega
      have hendI2 : (i : Int) < ((s.size + 1 : Nat) : Int) := by omega
      obtain ⟨a, rfl, ca⟩ := K1.out W M3.out i hend
      obtain ⟨b, rfl, cb⟩ := K2.out W M3.out i hend
      have ca' : ∀ j, (W.drewN j).cell? (a.add i) = some (.int .i64 ((s[i]'hend).toNat : Int)) := fun j => ca
      have cb' : ∀ j, (W.drewN j).cell? (b.add i) = some (.int .i64 (i : Int)) := fun j => cb
      clear ca cb
      have hbe : (((s[i]'hend).toNat : Int) == ((s[i]'hend).toNat : Int)) = true := by simp
      have hii : ((i : Int) == (i : Int)) = true := by simp
      have hwb : IntKind.i64.wrap ((s[i]'hend).toNat : Int) = ((s[i]'hend).toNat : Int) := IntWalk.i64_in _ (by have := (s[i]'hend).toNat_lt; omega)
      go_wp2_with fail
      go_quiet (fail)
      go_wp2_with fail
      exact ⟨⟨i + 1, _, by rw [Int.natCast_add]; rfl, by omega, rfl⟩, by simp only [intOf]; omega⟩
    · have hendI : ¬ (i : Int) < (s.size : Int) := by omega
      have MW : Hid (Mut [] w (W.drewN m)) := Lib.hid ((M2.out.trans M3.out (by simp)).drewN m)
      go_wp2_with fail
      refine (encode_go ((bytesOf s).map fun n : Nat => (n : Int)) 4 strict (by decide) (by rw [List.length_map, hl]; omega) _ _ (HR.out.mut (M3.out.drewN m) (by simp))).mono ?_
      rintro e w3 ⟨rfl, m3⟩
      have hres : encRes ((bytesOf s).map fun n : Nat => (n : Int)) 4 strict = .tuple #[.string s, .int .i64 0] := by
        rw [encRes_ok, encAll_latin]
        · have : (if strict = true then markB 4 else []) = [] := by cases strict <;> rfl
          rw [this, List.nil_append, strOf_bytesOf]
        · intro r hr
          obtain ⟨b, hb, rfl⟩ := List.mem_map.1 hr
          have := bytesOf_lt s b hb
          unfold okRune
          omega
      rw [hres]
      have MF := Lib.hid (MW.out.trans m3 (by simp))
      have hse : (s.data.toList == s.data.toList) = true := by simp
      clear hres m3
      go_wp2_with fail
      exact bodyPost_ret (results_tmp rfl _ _ _) rfl ⟨rfl, MF.out.nil (by simp)⟩

end Go.Proofs.Ytkoheodcledcfaa
