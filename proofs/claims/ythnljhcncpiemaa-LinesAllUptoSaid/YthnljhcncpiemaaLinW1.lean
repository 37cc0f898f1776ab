/- Walks over package strings: IndexByte, TrimSuffix, Lines and what it hands back. -/
import Derived.Test.YthnljhcncpiemaaLinQ
import Derived.Test.YthnljhcncpiemaaRngS
import Derived.Lib.Walk
import Derived.BigRegionIn
import Derived.Sort.CutIn
namespace Go.Proofs.Ythnljhcncpiemaa
open Go.RowKit
set_option linter.unusedVariables false

set_option maxRecDepth 100000 in
theorem index2_any (s : ByteArray) (c : Int) (w : World) :
    Calls Try.prog 20 #[.string s, .int .u8 c] w fun e w' => e = .returned (.int .i64 (Lib.indexByte s.data.toList c.toNat.toUInt8)) ∧ w' = w := by
  go_enter Try.func20, Try.ntmps20
  go_wp2
  rw [run_callFunc_extern Try.func22 (by kernel_rfl) (by kernel_rfl) (by kernel_rfl) (e := Extern.BytealgIndexByte.indexByte) (by kernel_rfl), Lib.run_indexByteString]
  simp only [Result.andThen]
  rw [Oper.upon_value]
  go_wp2
  go_ret
  exact ⟨rfl, rfl⟩

theorem index_any (s : ByteArray) (c : Int) (w : World) :
    Calls Try.prog 18 #[.string s, .int .u8 c] w fun e w' => e = .returned (.int .i64 (Lib.indexByte s.data.toList c.toNat.toUInt8)) ∧ w' = w := by
  go_enter Try.func18, Try.ntmps18
  go_wp2_with (refine (index2_any _ _ _).mono ?_; rintro e w' ⟨rfl, rfl⟩)
  go_ret
  exact ⟨rfl, rfl⟩

theorem has_any (s p : ByteArray) (hp : p.size ≤ s.size) (hz : s.size ≤ 1073741824) (b : Bool) (hb : ((s.extract (s.size - p.size) s.size).toList == p.toList) = b) (w : World) :
    Calls Try.prog 21 #[.string s, .string p] w fun e w' => e = .returned (.bool b) ∧ w' = w := by
  have h1I : (p.size : Int) ≤ (s.size : Int) := by omega
  have hw : (s.size : Int) - (p.size : Int) = ((s.size - p.size : Nat) : Int) := by omega
  go_enter Try.func21, Try.ntmps21
  go_wp2
  all_goals (go_ret; exact ⟨by simp_all, rfl⟩)

theorem trim2_any (s p : ByteArray) (hp : p.size ≤ s.size) (hz : s.size ≤ 1073741824) (b : Bool) (hb : ((s.extract (s.size - p.size) s.size).toList == p.toList) = b) (w : World) :
    Calls Try.prog 19 #[.string s, .string p] w fun e w' => e = .returned (.string (if b then s.extract 0 (s.size - p.size) else s)) ∧ w' = w := by
  have h1I : (p.size : Int) ≤ (s.size : Int) := by omega
  have hw : (s.size : Int) - (p.size : Int) = ((s.size - p.size : Nat) : Int) := by omega
  have HB := Lib.hid hb
  clear hb
  go_enter Try.func19, Try.ntmps19
  cases b with
  | true =>
    go_wp2_with (refine (has_any s p hp hz _ HB.out _).mono ?_; rintro e w' ⟨rfl, rfl⟩)
    go_ret
    exact ⟨rfl, rfl⟩
  | false =>
    go_wp2_with (refine (has_any s p hp hz _ HB.out _).mono ?_; rintro e w' ⟨rfl, rfl⟩)
    go_ret
    exact ⟨rfl, rfl⟩

theorem trim_any (s p : ByteArray) (hp : p.size ≤ s.size) (hz : s.size ≤ 1073741824) (b : Bool) (hb : ((s.extract (s.size - p.size) s.size).toList == p.toList) = b) (w : World) :
    Calls Try.prog 14 #[.string s, .string p] w fun e w' => e = .returned (.string (if b then s.extract 0 (s.size - p.size) else s)) ∧ w' = w := by
  have H := Lib.hid fun w => trim2_any s p hp hz b hb w
  generalize (if b then s.extract 0 (s.size - p.size) else s) = x at H ⊢
  go_enter Try.func14, Try.ntmps14
  go_wp2_with (refine (H.out _).mono ?_; rintro e w' ⟨rfl, rfl⟩)
  go_ret
  exact ⟨rfl, rfl⟩

theorem slines_any (s : ByteArray) (w : World) :
    Calls Try.prog 13 #[.string s] w fun e w' => e = .returned (.func (.func 17) #[] #[.pointer (some ⟨w.heap.size, 0, none⟩)]) ∧ w' = w.alloc (.cells #[.string s] 9) := by
  go_enter Try.func13, Try.ntmps13
  go_wp2
  go_ret
  exact ⟨rfl, rfl⟩

/-- the k-th line, with its newline -/
def lineOf (s : ByteArray) (k : Nat) : ByteArray := s.extract ((lns (bytesOf s)).getD k (0, 0)).1 (((lns (bytesOf s)).getD k (0, 0)).2 + 1)

/-- where the iterator is: the lines ahead are taken, the rest is r -/
def ItAt (s : ByteArray) (k : Nat) (r : ByteArray) : Prop :=
  k ≤ (lns (bytesOf s)).length ∧ ∃ p, bytesOf r = (bytesOf s).drop p ∧ (lns (bytesOf s)).drop k = splF (bytesOf r) p p

theorem ItAt.start (s : ByteArray) : ItAt s 0 s := ⟨Nat.zero_le _, 0, by simp, by simp [lns]⟩

theorem ItAt.end_ {s r : ByteArray} {k : Nat} (h : ItAt s k r) (hr : r.size = 0) : k = (lns (bytesOf s)).length := by
  obtain ⟨h1, p, h2, h3⟩ := h
  have : bytesOf r = [] := List.eq_nil_of_length_eq_zero (by rw [bytesOf_length]; exact hr)
  rw [this] at h3
  simp only [splF, Nat.lt_irrefl, if_false] at h3
  have := congrArg List.length h3
  simp at this
  omega

theorem ItAt.none {s r : ByteArray} {k : Nat} (h : ItAt s k r) (hr : 0 < r.size) (hn : ∀ c ∈ bytesOf r, c ≠ 10) : k < (lns (bytesOf s)).length ∧ lineOf s k = r ∧ ItAt s (k + 1) ⟨#[]⟩ := by
  obtain ⟨h1, p, h2, h3⟩ := h
  have hl : (bytesOf r).length = r.size := bytesOf_length r
  rw [splF_none _ _ _ hn, if_pos (by omega)] at h3
  have hk : k < (lns (bytesOf s)).length := by
    have := congrArg List.length h3
    simp at this
    omega
  have hg : (lns (bytesOf s)).getD k (0, 0) = (p, p + (bytesOf r).length) := by
    rw [List.drop_eq_getElem_cons hk, List.cons.injEq] at h3
    rw [List.getD_eq_getElem?_getD, List.getElem?_eq_getElem hk, h3.1]
    rfl
  have hlen : (bytesOf r).length = (bytesOf s).length - p := by rw [h2, List.length_drop]
  refine ⟨hk, ?_, hk, p + (bytesOf r).length, ?_, ?_⟩
  · apply bytesOf_inj
    unfold lineOf
    rw [bytesOf_extract, hg, List.take_of_length_le (by show (bytesOf s).length ≤ p + (bytesOf r).length + 1; omega), h2]
  · rw [List.drop_of_length_le (by omega)]
    rfl
  · rw [List.drop_eq_getElem_cons hk, List.cons.injEq] at h3
    rw [h3.2]
    simp [bytesOf, splF]

theorem ItAt.some {s r : ByteArray} {k o : Nat} (h : ItAt s k r) (ho : (bytesOf r)[o]? = some 10) (hn : ∀ c ∈ (bytesOf r).take o, c ≠ 10) :
    k < (lns (bytesOf s)).length ∧ lineOf s k = r.extract 0 (o + 1) ∧ ItAt s (k + 1) (r.extract (o + 1) r.size) := by
  obtain ⟨h1, p, h2, h3⟩ := h
  have hl : (bytesOf r).length = r.size := bytesOf_length r
  obtain ⟨hlt, hoe⟩ := List.getElem?_eq_some_iff.1 ho
  have hsp : bytesOf r = (bytesOf r).take o ++ 10 :: (bytesOf r).drop (o + 1) := by
    conv => lhs; rw [← List.take_append_drop o (bytesOf r)]
    rw [List.drop_eq_getElem_cons hlt, hoe]
  have htl : ((bytesOf r).take o).length = o := by rw [List.length_take]; omega
  rw [hsp, splF_some _ _ _ _ hn, htl] at h3
  have hk : k < (lns (bytesOf s)).length := by
    have := congrArg List.length h3
    simp at this
    omega
  rw [List.drop_eq_getElem_cons hk, List.cons.injEq] at h3
  have hg : (lns (bytesOf s)).getD k (0, 0) = (p, p + o) := by
    rw [List.getD_eq_getElem?_getD, List.getElem?_eq_getElem hk, h3.1]
    rfl
  have hrest : bytesOf (r.extract (o + 1) r.size) = (bytesOf r).drop (o + 1) := by
    rw [bytesOf_extract, List.take_of_length_le (by omega)]
  refine ⟨hk, ?_, hk, p + o + 1, ?_, ?_⟩
  · apply bytesOf_inj
    unfold lineOf
    rw [bytesOf_extract, bytesOf_extract, hg, h2]
    simp only [List.drop_zero]
    rw [List.take_drop, show p + (o + 1) = p + o + 1 by omega]
  · rw [hrest, h2, List.drop_drop]
    congr 1
  · rw [hrest, h3.2]

/-- what lies in the iterator's cell -/
def strAt (b : Nat) (w : World) : Nat :=
  match w.cell? ⟨b, 0, none⟩ with
  | some (.string r) => r.size
  | _ => 0

theorem strAt_of {b : Nat} {w : World} {r : ByteArray} {t : TypeId} (h : w.heap[b]? = some (.cells #[.string r] t (0, 0))) : strAt b w = r.size := by
  simp [strAt, World.cell?, h]

theorem idx_none {r : ByteArray} (h : Lib.indexByte r.data.toList 10 = -1) : ∀ c ∈ bytesOf r, c ≠ 10 := by
  intro c hc
  obtain ⟨x, hx, rfl⟩ := List.mem_map.1 hc
  obtain ⟨k, hk, rfl⟩ := List.getElem_of_mem hx
  intro e
  apply Lib.indexByte_none h k
  rw [List.getElem?_eq_getElem hk]
  congr 1
  exact UInt8.toNat_inj.1 e
theorem idx_some {r : ByteArray} {o : Nat} (h : Lib.indexByte r.data.toList 10 = o) : (bytesOf r)[o]? = some 10 ∧ ∀ c ∈ (bytesOf r).take o, c ≠ 10 := by
  obtain ⟨h1, h2⟩ := Lib.indexByte_some h
  refine ⟨by simp only [bytesOf, List.getElem?_map, h1]; rfl, ?_⟩
  intro c hc
  rw [bytesOf, ← List.map_take] at hc
  obtain ⟨x, hx, rfl⟩ := List.mem_map.1 hc
  obtain ⟨k, hk, rfl⟩ := List.getElem_of_mem hx
  rw [List.length_take] at hk
  intro e
  apply h2 k (by omega)
  rw [List.getElem?_eq_getElem (by omega)]
  congr 1
  rw [List.getElem_take] at e
  exact UInt8.toNat_inj.1 e

set_option maxHeartbeats 1600000 in
set_option maxRecDepth 100000 in
theorem slines1_gives (s : ByteArray) (hz : s.size ≤ 1073741824) (n Bs : Nat) (hn : 1 ≤ n) (w : World) (hb : w.heap[Bs]? = some (.cells #[.string s] 9 (0, 0))) :
    Gives n Try.prog 17 #[.pointer (some ⟨Bs, 0, none⟩)] (fun k => #[.string (lineOf s k)]) Bs (lns (bytesOf s)).length w := fun l J W hW hJ hY h0 => by
  have hB := (hW.block Bs (lt_of_heap hb)).trans hb
  have HS := Lib.hid (ItAt.start s)
  have HI : ∀ r : ByteArray, ∀ w : World, CallsIn Fence.wide (n - 1) Try.prog 18 #[.string r, .int .u8 10] w fun e w' => e = .returned (.int .i64 (Lib.indexByte r.data.toList 10)) ∧ w' = w := fun r w => callsIn_wide.2 (index_any r 10 w)
  refine callsIn_of_wp Try.func17 rfl trivial ?_ rfl
  simp only [Try.ntmps17, List.size_toArray, List.length_cons, List.length_nil, Nat.reduceAdd, Nat.reduceSub, Array.replicate_succ, Array.replicate_zero, List.push_toArray, List.append_toArray, List.nil_append, List.cons_append]
  gi_wp2
  gi_loopw [3] (fun a wr => ∃ (k : Nat) (r : ByteArray), wr.heap[Bs]? = some (.cells #[.string r] 9 (0, 0)) ∧ r.size ≤ 1073741824 ∧ Hid (ItAt s k r) ∧ Hid (J k wr)) (fun a wr => strAt Bs wr)
  case atStart => exact ⟨0, s, hB, hz, HS, Lib.hid h0⟩
  case round =>
    obtain ⟨k, r, hcell, hrz, HA, HJ⟩ := hrel
    clear HS hB
    have hc0 := cellOf hcell 0 (x := .string r) rfl
    have hf0 := frozenOf hcell 0
    by_cases hr : 0 < r.size
    case neg =>
      have hI : ¬ (0 : Int) < (r.size : Int) := by omega
      have hfin := HA.out.end_ (by omega)
      gi_wp2
      go_end0
      exact ⟨⟨_, rfl⟩, by rw [← hfin]; exact HJ.out⟩
    case pos =>
      have hI : (0 : Int) < (r.size : Int) := by omega
      obtain ⟨i, hi⟩ : ∃ i, Lib.indexByte r.data.toList 10 = i := ⟨_, rfl⟩
      have hge := Lib.indexByte_ge r.data.toList 10
      have HR := HI r
      have HJJ := Lib.hid hJ
      rw [hi] at hge HR
      by_cases hneg : i = -1
      case pos =>
        subst hneg
        obtain ⟨hkN, hline, hnx⟩ := HA.out.none hr (idx_none hi)
        have HJ2 : J k (wr.setCell ⟨Bs, 0, none⟩ (.string ⟨#[]⟩)) := hJ k wr _ (some Bs) HJ.out (grownBy_setCell' _ _ _) (fun r e => by cases e; rfl)
        obtain ⟨fn, tmps, assign, body, hy, hRd⟩ := hY k _ hkN HJ2
        rw [hline] at hy
        have HNX := Lib.hid hnx
        have HRD := Lib.hid hRd
        clear hi hge hnx hline hRd HA HJ HJ2
        gi_wp2_with (refine ⟨trivial, ?_⟩; gi_at_call 18; refine (HR _).mono ?_; rintro e w' ⟨rfl, rfl⟩)
        refine HRD.out.mono ?_
        rintro e W3 ⟨rfl, hJ3, hb3⟩
        have hcell3 : W3.heap[Bs]? = some (.cells #[.string ⟨#[]⟩] 9 (0, 0)) := hb3.trans (by simpa using heap_set hcell 0 _)
        have h4 := strAt_of hcell
        gi_wp2
        go_roundw
        case rel => exact ⟨k + 1, ⟨#[]⟩, hcell3, by decide, HNX, Lib.hid hJ3⟩
        case measure => rw [strAt_of hcell3, h4]; exact hr
      case neg =>
        obtain ⟨o, rfl⟩ : ∃ o : Nat, i = (o : Int) := ⟨i.toNat, by omega⟩
        obtain ⟨ho, hno⟩ := idx_some hi
        obtain ⟨hkN, hline, hnx⟩ := HA.out.some ho hno
        have holt : o + 1 ≤ r.size := by
          have := (List.getElem?_eq_some_iff.1 ho).1
          rw [bytesOf_length] at this
          omega
        obtain ⟨x, hx⟩ : ∃ x, r.extract 0 (o + 1) = x := ⟨_, rfl⟩
        obtain ⟨y, hy'⟩ : ∃ y, r.extract (o + 1) r.size = y := ⟨_, rfl⟩
        rw [hx] at hline
        rw [hy'] at hnx
        have hys : y.size < r.size := by
          rw [← hy', ByteArray.size_extract]
          omega
        have HLN := Lib.hid (And.intro hline hnx)
        have HXY := Lib.hid (And.intro hx hy')
        have HYS := Lib.hid hys
        have HKN := Lib.hid hkN
        have hoI : (0 : Int) ≤ (o : Int) := by omega
        have how : wrap64 ((o : Int) + 1) = ((o + 1 : Nat) : Int) := by rw [IntWalk.wrap64_in _ (by omega)]; omega
        have how2 : ((o + 1 : Nat) : Int) ≤ (r.size : Int) := by omega
        clear hi hge hnx hline ho hno hneg hx hy' hys hr hkN
        have HYY := Lib.hid hY
        clear hY hJ hW hb h0
        gi_upto_region 4 with (refine ⟨trivial, ?_⟩; gi_at_call 18; refine (HR _).mono ?_; rintro e w' ⟨rfl, rfl⟩)
        gi_region
        rw [HXY.out.1, HXY.out.2]
        have hg2 : w'.grownBy (w'.setCell ⟨Bs, 0, none⟩ (.string y)).drew (some Bs) := by
          have := grownBy_setCell' w' Bs (.string y)
          exact ⟨this.os, this.tape, this.output, this.size, this.block⟩
        have hc2 : (w'.setCell ⟨Bs, 0, none⟩ (.string y)).drew.heap[Bs]? = some (.cells #[.string y] 9 (0, 0)) := (by simpa using heap_set hcell 0 (.string y) : (w'.setCell ⟨Bs, 0, none⟩ (.string y)).heap[Bs]? = some (.cells #[.string y] 9 (0, 0)))
        have h4 := strAt_of hcell
        generalize (w'.setCell ⟨Bs, 0, none⟩ (.string y)).drew = w2 at *
        have HJ2 : J k w2 := HJJ.out k w' _ (some Bs) HJ.out hg2 (fun r e => by cases e; rfl)
        obtain ⟨fn, tmps, assign, body, hy, hRd⟩ := HYY.out k _ HKN.out HJ2
        rw [HLN.out.1] at hy
        have HRD := Lib.hid hRd
        clear hRd HJ2 HJ
        gi_wp2
        refine HRD.out.mono ?_
        rintro e W3 ⟨rfl, hJ3, hb3⟩
        have hcell3 := hb3.trans hc2
        gi_wp2
        go_roundw
        case rel => exact ⟨k + 1, y, hcell3, by have := HYS.out; omega, Lib.hid HLN.out.2, Lib.hid hJ3⟩
        case measure => rw [strAt_of hcell3, h4]; exact HYS.out

end Go.Proofs.Ythnljhcncpiemaa
