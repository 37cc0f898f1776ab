/- Walks over the document's answer for bits: Pack. -/
import Derived.Test.YtlcfegckjkemhaaBitsW
import Derived.Test.YtlcfegckjkemhaaBitsQ
import Derived.Deep.LoopGhost
namespace Go.Proofs.Ytlcfegckjkemhaa
open Go.RowKit

/-- a row of the call's own that holds bits as integers -/
def BRow (w : World) (v : Value) (L : List Bool) : Prop := w.ownsRow 0 3 1 v L.length (L.map fun c : Bool => Value.int .i64 (c.toNat : Int))

theorem BRow.mut {w w' : World} {v : Value} {L : List Bool} {S : List Nat} (h : BRow w v L) (hm : Mut S w w') (hs : ∀ g, v.ownBlock = some g → g ∉ S) : BRow w' v L := hm.row h hs

/-- the bytes when the first k bits have been laid -/
def bytesTo (L : List Bool) (k : Nat) : List Nat := (List.range ((L.length + 7) / 8)).map (byteAt (L.take k))

theorem bytesTo_len (L : List Bool) (k : Nat) : (bytesTo L k).length = (L.length + 7) / 8 := by simp [bytesTo]
theorem bytesTo_all (L : List Bool) : bytesTo L L.length = pack L := by simp [bytesTo, pack]
theorem bytesTo_zero (L : List Bool) : bytesTo L 0 = List.replicate ((L.length + 7) / 8) 0 := by
  unfold bytesTo
  apply List.ext_getElem?
  intro i
  by_cases h : i < (L.length + 7) / 8
  · simp [h, byteAt]
  · simp [h]
theorem bytesTo_get (L : List Bool) (k i : Nat) (h : i < (L.length + 7) / 8) : (bytesTo L k).getD i 0 = byteAt (L.take k) i := by
  simp [bytesTo, List.getD, h]
theorem bytesTo_succ (L : List Bool) (k : Nat) (h : k < L.length) : bytesTo L (k + 1) = (bytesTo L k).set (k / 8) (byteAt (L.take k) (k / 8) + (L.getD k false).toNat * 2 ^ (k % 8)) := by
  have ht : L.take (k + 1) = L.take k ++ [L.getD k false] := by
    rw [List.take_succ_eq_append_getElem h]; simp [List.getD, h]
  have hl : (L.take k).length = k := by rw [List.length_take]; omega
  unfold bytesTo
  apply List.ext_getElem?
  intro i
  rw [List.getElem?_set]
  by_cases hi : i < (L.length + 7) / 8
  · simp only [List.getElem?_map, List.getElem?_range hi, Option.map_some, ht, byteAt_snoc, hl]
    by_cases e : k / 8 = i
    · subst e; simp [hi]
    · rw [if_neg (by omega), if_neg e]; rfl
  · rw [if_neg (by omega)]; simp [hi]
theorem bytesTo_lt (L : List Bool) (k : Nat) (h : k ≤ L.length) : byteAt (L.take k) (k / 8) < 2 ^ (k % 8) := by
  have := byteAt_last_lt (L.take k)
  rwa [List.length_take, Nat.min_eq_left h] at this

theorem info_u8' : (Try.prog.info? 5).map (fun i => (i.zero, i.size, i.bytes)) = some (some (.int .u8 0), 1, 1) := by kernel_rfl

theorem shl_one (k : Nat) (hk : k < 8) : IntKind.u8.wrap (2 ^ k : Int) = ((2 ^ k : Nat) : Int) := by
  have hp : (2 : Nat) ^ k ≤ 2 ^ 7 := Nat.pow_le_pow_right (by decide) (by omega)
  rw [show (2 ^ k : Int) = ((2 ^ k : Nat) : Int) by simp]
  generalize (2 : Nat) ^ k = P at *
  exact IntWalk.u8_in _ (by omega)

set_option maxHeartbeats 800000 in
theorem pack_any (v : Value) (L : List Bool) (w : World) (h : BRow w v L) (hl : L.length ≤ 70368744177664) :
    Calls Try.prog 17 #[v] w fun e w' => e = .returned (.string (strOf (pack L))) ∧ Mut [] w w' := by
  obtain ⟨i0, hi, hz0, hz1, hz2⟩ := info_parts info_u8'
  have H := Lib.hid h
  obtain ⟨ao, cap, hv, hne⟩ : ∃ ao cap, v = .slice ao L.length cap ∧ (0 < L.length → ∃ g, ao = some ⟨g, 0, none⟩) := by
    rcases h.2 with ⟨h1, h2⟩ | ⟨g, cap, _, h1, _⟩
    · exact ⟨none, 0, by rw [h1, h2], fun hp => by omega⟩
    · exact ⟨_, cap, h1, fun _ => ⟨g, rfl⟩⟩
  subst hv
  clear h
  go_enter Try.func17, Try.ntmps17
  go_wp2_with (at_make; refine wpList_make_full _ rfl (.tmp 8) (.tmp 8) 23 rfl 0 5 i0 (.int .u8 0) 1 Try.underlying23 hi hz0 hz1 _ _ _ _ ((L.length + 7) / 8) rfl rfl (by omega) (by omega) ?b1 ?b2 (Nat.zero_le _) ?_)
  case b1 => rw [hz2]; omega
  case b2 => unfold maxLen; omega
  intro w1 hr1 hg1
  have hr : w1.ownsRow 0 5 1 (.slice (some ⟨w.heap.size, 0, none⟩) ((L.length + 7) / 8) ((L.length + 7) / 8)) ((L.length + 7) / 8) ((bytesTo L 0).map fun n : Nat => Value.int .u8 (n : Int)) := by
    rw [bytesTo_zero, List.map_replicate]
    have := hr1
    rw [toList_madeCells_one] at this
    exact this
  have HR := Lib.hid hr
  have HM := Lib.hid ((Mut.refl [] w).grown hg1 (by simp))
  clear hr1 hg1 hr hi hz0 hz1 hz2
  generalize hG : w.heap.size = G at *
  have HG := Lib.hid hG
  clear hG
  go_wp2
  go_loopw [4] (fun i wr => ∃ k : Nat, k ≤ L.length ∧ i = .int .i64 (k : Int) ∧ wr.ownsRow 0 5 1 (.slice (some ⟨G, 0, none⟩) ((L.length + 7) / 8) ((L.length + 7) / 8)) ((L.length + 7) / 8) ((bytesTo L k).map fun n : Nat => Value.int .u8 (n : Int)) ∧ Mut [] w wr) (fun i _ => L.length - (intOf i).toNat)
  case atStart => exact ⟨0, Nat.zero_le _, rfl, HR.out, HM.out⟩
  case round =>
    obtain ⟨k, hk, rfl, hr, hm⟩ := hrel
    by_cases hlt : k < L.length
    · obtain ⟨g, rfl⟩ := hne (by omega)
      have hb := H.out.mut hm (by simp)
      have cb : wr.cell? ⟨g, k, none⟩ = some (.int .i64 ((L.getD k false).toNat : Int)) := by
        rw [hb.cellAt k (by omega)]; simp [List.getD, hlt]
      have hc8 : (bytesTo L k).getD (k / 8) 0 = byteAt (L.take k) (k / 8) := bytesTo_get L k (k / 8) (by omega)
      have cg : wr.cell? ⟨G, k / 8, none⟩ = some (.int .u8 ((byteAt (L.take k) (k / 8) : Nat) : Int)) := by
        rw [hr.cellAt (k / 8) (by omega), ← hc8]
        simp [List.getD, bytesTo_len, show k / 8 < (L.length + 7) / 8 by omega]
      have fg := hr.frozenAt (k / 8)
      have HR := Lib.hid hr
      have HM := Lib.hid hm
      have HS := Lib.hid (bytesTo_succ L k hlt)
      have hlt8 := bytesTo_lt L k (by omega)
      have hpw : (2 : Nat) ^ (k % 8) ≤ 2 ^ 7 := Nat.pow_le_pow_right (by decide) (by omega)
      clear hr hm hb hc8
      by_cases hbit : L.getD k false = true
      · have HB := Lib.hid hbit
        rw [hbit] at cb
        simp only [Bool.toNat_true] at cb
        clear hbit
        have hw8 : IntKind.i64.wrap ((k : Int) / 8) = (k : Int) / 8 := IntWalk.i64_in _ (by omega)
        have h08 : 0 ≤ (k : Int) / 8 := by omega
        have hn8 : ((k : Int) / 8).toNat = k / 8 := by omega
        have hix : (k : Int) / 8 < ((L.length : Int) + 7) / 8 := by omega
        have hq : ((k : Int) % 8).toNat = k % 8 := by omega
        have ht : (k : Int).tmod 8 = (k : Int) % 8 := Int.tmod_eq_emod_of_nonneg (by omega)
        have hq0 : 0 ≤ (k : Int) % 8 := by omega
        have hq8 : (k : Int) % 8 ≤ 8 := by omega
        have hs := shl_one (k % 8) (by omega)
        generalize byteAt (L.take k) (k / 8) = Y at *
        generalize (2 : Nat) ^ (k % 8) = P at *
        have ha : IntKind.u8.wrap ((Y : Int) + (P : Int)) = (Y : Int) + (P : Int) := by exact IntWalk.u8_in _ (by omega)
        have HE : Hid ((wr.setCell ⟨G, k / 8, none⟩ (.int .u8 ((Y : Int) + (P : Int)))).ownsRow 0 5 1 (.slice (some ⟨G, 0, none⟩) ((L.length + 7) / 8) ((L.length + 7) / 8)) ((L.length + 7) / 8) ((bytesTo L (k + 1)).map fun n : Nat => Value.int .u8 (n : Int))) := by
          have := (HR.out.stored (k / 8) (.int .u8 ((Y : Int) + (P : Int)))).1
          rw [HS.out, HB.out, List.map_set, Bool.toNat_true, Nat.one_mul, Int.natCast_add]
          exact this
        have HX : Hid (Mut [] w (wr.setCell ⟨G, k / 8, none⟩ (.int .u8 ((Y : Int) + (P : Int))))) := Lib.hid (HM.out.setCell (.inr (by rw [HG.out]; exact Nat.le_refl _)) _)
        go_wp2
        go_still_tail 10, (by kernel_rfl)
        change wpList _ _ _ _ _ wr.drew
        go_wp2
        exact ⟨⟨k + 1, by omega, by go_num, HE.out, HX.out.drew⟩, by simp [intOf]; omega⟩
      · have hbit' : L.getD k false = false := by simpa using hbit
        have HB := Lib.hid hbit'
        rw [hbit'] at cb
        simp only [Bool.toNat_false] at cb
        have he : bytesTo L (k + 1) = bytesTo L k := by
          rw [HS.out, hbit', Bool.toNat_false, Nat.zero_mul, Nat.add_zero]
          have hl8 : k / 8 < (bytesTo L k).length := by rw [bytesTo_len]; omega
          have := bytesTo_get L k (k / 8) (by omega)
          rw [← this]
          simp [List.getD, hl8]
        have HE := Lib.hid he
        clear he hbit hbit' cg fg hlt8 hpw HS
        go_wp2
        go_roundw
        case rel => exact ⟨k + 1, by omega, by go_num, by rw [HE.out]; exact HR.out, HM.out⟩
        case measure => simp [intOf]; omega
    · have e : k = L.length := by omega
      subst e
      rw [bytesTo_all] at hr
      have hc : (convert 23 9 (.slice (some ⟨G, 0, none⟩) ((L.length + 7) / 8) ((L.length + 7) / 8))).run Try.prog wr = .ok (.string (strOf (pack L))) wr := by
        have h : wr.ownsRow 0 5 1 (.slice (some ⟨G, 0, none⟩) ((L.length + 7) / 8) ((L.length + 7) / 8)) ((L.length + 7) / 8) (((pack L).map fun n : Nat => (n : Int)).map (Value.int .u8)) := by rw [List.map_map]; exact hr
        rw [conv_row Try.underlying23 Try.underlying5 Try.underlying9 h]
        simp only [List.map_map]
        rfl
      have HM := Lib.hid hm
      clear hr hm
      go_wp2
      go_ret
      exact ⟨rfl, HM.out⟩

end Go.Proofs.Ytlcfegckjkemhaa
