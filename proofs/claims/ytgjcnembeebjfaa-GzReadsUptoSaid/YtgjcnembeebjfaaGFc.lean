/- Walks over package huff: canonical. Plain laws: bits the other way round. No program. Walks over package huff: turned. Plain laws: what a table's lookups find. No program. Tables in memory: their lookups as cells, append of zeros. -/
import Derived.Test.YtgjcnembeebjfaaBase
import Derived.Test.YtgjcnembeebjfaaGFa
import Derived.Test.YtgjcnembeebjfaaGFb
import Derived.Deep.DeepCutAuto
import Derived.Deep.LoopGhost
import Derived.StillTailTactics
import Derived.Laws.BitsAllLaws
import Derived.Lib.AppendZerosOnto

namespace Go.Proofs.Ytgjcnembeebjfaa
open Go.RowKit

/-- an array of ints -/
def arrOf (f : Nat → Int) (n : Nat) : Array Value := ((List.range n).map fun j => Value.int .i64 (f j)).toArray

theorem arrOf_get (f : Nat → Int) (n i : Nat) (h : i < n) : (arrOf f n)[i]? = some (.int .i64 (f i)) := by simp [arrOf, h]
theorem arrOf_size (f : Nat → Int) (n : Nat) : (arrOf f n).size = n := by simp [arrOf]
theorem arrOf_set (f : Nat → Int) (n i : Nat) (x : Int) : (arrOf f n).setIfInBounds i (.int .i64 x) = arrOf (fun j => if j = i then x else f j) n := by
  apply Array.ext
  · simp [arrOf]
  · intro j h1 h2
    have hj : j < (arrOf f n).size := by simpa using h1
    rw [Array.getElem_setIfInBounds (hj)]
    simp only [arrOf, List.getElem_toArray, List.getElem_map, List.getElem_range]
    by_cases e : i = j
    · subst e; simp
    · rw [if_neg e, if_neg (fun h => e h.symm)]
theorem arrOf_congr (f g : Nat → Int) (n : Nat) (h : ∀ j, j < n → f j = g j) : arrOf f n = arrOf g n := by
  unfold arrOf
  congr 1
  apply List.map_congr_left
  intro j hj
  rw [h j (List.mem_range.1 hj)]

/-- the counts of lengths -/
def cntF (l : List Nat) (j : Nat) : Int := if j = 0 then 0 else (l.count j : Nat)

theorem nextOf_le (ls : List Nat) (n : Nat) (h : 1 ≤ n) : nextOf ls n + 2 * ls.length ≤ ls.length * 2 ^ n := by
  induction n with
  | zero => omega
  | succ n ih =>
    by_cases e : n = 0
    · subst e; simp [nextOf]; omega
    · have h1 := ih (by omega)
      have h2 : ls.count n ≤ ls.length := List.count_le_length
      rw [nextOf, if_neg e, Nat.pow_succ, ← Nat.mul_assoc]
      omega

theorem room_snoc (l : List Nat) (n : Nat) : room (l ++ [n]) = room l + (if n = 0 then 0 else 2 ^ (15 - n)) := by simp [room]
theorem used_snoc (l : List Nat) (n : Nat) : usedOf (l ++ [n]) = usedOf l + (if 0 < n then 1 else 0) := by
  unfold usedOf
  rw [List.filter_append, List.length_append]
  by_cases h : 0 < n <;> simp [h]
theorem long_snoc (l : List Nat) (n : Nat) : longOf (l ++ [n]) = max (longOf l) n := by simp [longOf]
theorem cntF_snoc (l : List Nat) (n : Nat) (hn : 0 < n) : cntF (l ++ [n]) = fun j => if j = n then cntF l n + 1 else cntF l j := by
  funext j
  unfold cntF
  by_cases h0 : j = 0
  · subst h0; rw [if_pos rfl, if_neg (by omega), if_pos rfl]
  · rw [if_neg h0, List.count_append]
    by_cases h : j = n
    · subst h; rw [if_pos rfl, if_neg h0]; simp
    · rw [if_neg h, if_neg h0]; simp [Ne.symm h]
theorem cntF_snoc0 (l : List Nat) : cntF (l ++ [0]) = cntF l := by
  funext j
  unfold cntF
  by_cases h0 : j = 0
  · rw [if_pos h0, if_pos h0]
  · rw [if_neg h0, if_neg h0, List.count_append]; simp [Ne.symm h0]
theorem long_le (l : List Nat) (h : ∀ n ∈ l, n ≤ 15) : longOf l ≤ 15 := by
  unfold longOf
  have : ∀ (l : List Nat) (a : Nat), a ≤ 15 → (∀ n ∈ l, n ≤ 15) → l.foldl max a ≤ 15 := by
    intro l
    induction l with
    | nil => intro a ha _; exact ha
    | cons x l ih => intro a ha hl; exact ih _ (by have := hl x (by simp); omega) (fun n hn => hl n (by simp [hn]))
  exact this l 0 (by decide) h
theorem room_le (l : List Nat) : room l ≤ l.length * 32768 := by
  induction l with
  | nil => simp [room]
  | cons n l ih =>
    have e : room (n :: l) = (if n = 0 then 0 else 2 ^ (15 - n)) + room l := by simp [room]
    have h2 : 2 ^ (15 - n) ≤ 32768 := Nat.pow_le_pow_right (n := 2) (by decide) (show 15 - n ≤ 15 by omega)
    rw [e, List.length_cons, Nat.add_mul]
    split <;> omega

theorem set_same {w : World} {A n i : Nat} {F : Nat → Int} {t : TypeId} (h : w.heap[A]? = some (.cells (arrOf F n) t (0, 0))) (_ : i < n) : (w.setCell ⟨A, i, none⟩ (.int .i64 (F i))).heap[A]? = some (.cells (arrOf F n) t (0, 0)) := by
  rw [heap_set h i _, arrOf_set]
  congr 2
  apply arrOf_congr
  intro j _
  by_cases e : j = i
  · rw [if_pos e, e]
  · rw [if_neg e]

theorem results_canon {tmps : Array Value} {w : World} {g1 : Nat} {c : Array Value} {b0 b1 b2 : Value} (h1 : w.heap[g1]? = some (.cells c 170 (0, 0))) (hc : c.size = 17)
    (p1 : tmps.getD 2 undef = .pointer (some ⟨g1, 0, none⟩)) (p2 : tmps.getD 3 undef = b0) (p3 : tmps.getD 4 undef = b1) (p4 : tmps.getD 5 undef = b2) :
    (results Try.f109 tmps).run Try.prog w = .ok (.tuple #[.agg c, b0, b1, b2]) w := by
  have q1 : tmps[2]?.getD undef = .pointer (some ⟨g1, 0, none⟩) := by simpa using p1
  have q2 : tmps[3]?.getD undef = b0 := by simpa using p2
  have q3 : tmps[4]?.getD undef = b1 := by simpa using p3
  have q4 : tmps[5]?.getD undef = b2 := by simpa using p4
  have e1 := run_loadVar_row (P := Try.prog) w g1 170 170 c (0, 0) _ h1 Try.underlying170 rfl (by rw [hc]; kernel_rfl)
  simp [results, q1, q2, q3, q4, asAddr, e1]

set_option maxHeartbeats 3200000 in
set_option maxRecDepth 1000000 in
theorem canonical_any (ls : List Nat) (h15 : ∀ n ∈ ls, n ≤ 15) (hl : ls.length ≤ 1024) (rp0 : Option Addr) (rc0 : Nat) (w : World)
    (hcells : ∀ (w' : World), Mut [] w w' → ∀ i : Nat, i < ls.length → ∃ a : Addr, rp0 = some a ∧ w'.cell? (a.add i) = some (.int .i64 ((ls.getD i 0 : Nat) : Int))) :
    Calls Try.prog 109 #[.slice rp0 ls.length rc0] w fun e w' => e = .returned (.tuple #[.agg (arrOf (fun j => (nextOf ls j : Nat)) 17), .int .i64 (room ls : Nat), .int .i64 (usedOf ls : Nat), .int .i64 (longOf ls : Nat)]) ∧ Mut [] w w' := by
  have HC := Lib.hid hcells
  clear hcells
  go_enter Try.func109, Try.ntmps109
  have HZ : Hid (∀ W : World, W = ((w.alloc (.cells #[.int .i64 0, .int .i64 0, .int .i64 0, .int .i64 0, .int .i64 0, .int .i64 0, .int .i64 0, .int .i64 0, .int .i64 0, .int .i64 0, .int .i64 0, .int .i64 0, .int .i64 0, .int .i64 0, .int .i64 0, .int .i64 0, .int .i64 0] 170)).alloc (.cells #[.int .i64 0, .int .i64 0, .int .i64 0, .int .i64 0, .int .i64 0, .int .i64 0, .int .i64 0, .int .i64 0, .int .i64 0, .int .i64 0, .int .i64 0, .int .i64 0, .int .i64 0, .int .i64 0, .int .i64 0, .int .i64 0] 184)) →
      Mut [] w W ∧ W.heap[w.heap.size]? = some (.cells (arrOf (fun _ => 0) 17) 170 (0, 0)) ∧ W.heap[w.heap.size + 1]? = some (.cells (arrOf (cntF []) 16) 184 (0, 0))) := Lib.hid (by
    rintro W rfl
    refine ⟨((Mut.refl [] w).alloc _).alloc _, ((Mut.refl [] _).alloc _).get (heap_alloc_new w _) (by simp), ?_⟩
    have h := heap_alloc_new (w.alloc (.cells (arrOf (fun _ => 0) 17) 170)) (.cells (arrOf (cntF []) 16) 184)
    rw [World.size_alloc] at h
    exact h)
  go_wp2_with fail
  go_loopw [3, 4, 5, 12] (fun rm us lg at_ wx => ∃ i : Nat, at_ = .int .i64 (i : Int) ∧ i ≤ ls.length ∧ rm = .int .i64 (room (ls.take i) : Nat) ∧ us = .int .i64 (usedOf (ls.take i) : Nat) ∧ lg = .int .i64 (longOf (ls.take i) : Nat) ∧
    Hid (Mut [] w wx ∧ wx.heap[w.heap.size]? = some (.cells (arrOf (fun _ => 0) 17) 170 (0, 0)) ∧ wx.heap[w.heap.size + 1]? = some (.cells (arrOf (cntF (ls.take i)) 16) 184 (0, 0)))) (fun _ _ _ at_ _ => ls.length - (intOf at_).toNat)
  case atStart => exact ⟨0, rfl, by omega, rfl, rfl, rfl, Lib.hid (HZ.out _ rfl)⟩
  case round =>
    obtain ⟨i, rfl, hi, rfl, rfl, rfl, HS⟩ := hrel
    by_cases hend : i < ls.length
    · have hendI : (i : Int) < (ls.length : Int) := by omega
      obtain ⟨a, rfl, ca⟩ := HC.out wr HS.out.1 i hend
      have HT : Hid (ls.take (i + 1) = ls.take i ++ [ls.getD i 0]) := Lib.hid (by rw [List.take_add_one]; simp [List.getD, hend])
      have hn15 : ls.getD i 0 ≤ 15 := by
        have : ls.getD i 0 = ls[i] := by simp [List.getD, hend]
        rw [this]
        exact h15 _ (List.getElem_mem hend)
      have hrl : room (ls.take i) ≤ 33554432 := by have := room_le (ls.take i); rw [List.length_take] at this; omega
      have hul : usedOf (ls.take i) ≤ 1024 := by have h1 := List.length_filter_le (fun n => decide (0 < n)) (ls.take i); rw [List.length_take] at h1; unfold usedOf; omega
      have hll : longOf (ls.take i) ≤ 15 := long_le _ (fun n hn => h15 n (List.mem_of_mem_take hn))
      have hcl : ∀ j, (ls.take i).count j ≤ 1024 := fun j => by have h1 : (ls.take i).count j ≤ (ls.take i).length := List.count_le_length; rw [List.length_take] at h1; omega
      generalize ls.getD i 0 = n at *
      generalize hL : ls.take i = L at *
      by_cases hn0 : n = 0
      · subst hn0
        have HR : Hid (room (L ++ [0]) = room L ∧ usedOf (L ++ [0]) = usedOf L ∧ longOf (L ++ [0]) = longOf L ∧ cntF (L ++ [0]) = cntF L) := Lib.hid ⟨by rw [room_snoc]; simp, by rw [used_snoc]; simp, by rw [long_snoc]; simp, cntF_snoc0 L⟩
        have hn0I : ¬ (0 : Int) < ((0 : Nat) : Int) := by omega
        go_wp2_with fail
        refine ⟨⟨i + 1, by rw [Int.natCast_add]; rfl, by omega, ?_, ?_, ?_, ?_⟩, by simp only [intOf]; omega⟩
        · rw [HT.out, HR.out.1]
        · rw [HT.out, HR.out.2.1]
        · rw [HT.out, HR.out.2.2.1]
        · rw [HT.out, HR.out.2.2.2]; exact HS
      · have hnI : (0 : Int) < (n : Int) := by omega
        have hn16 : (n : Int) < 16 := by omega
        have hn0' : (0 : Int) ≤ (n : Int) := by omega
        have hcn := hcl n
        have cc := cellOf HS.out.2.2 n (arrOf_get _ 16 n (by omega))
        have cf := frozenOf HS.out.2.2 n
        have ecnt : cntF L n = ((L.count n : Nat) : Int) := by unfold cntF; rw [if_neg hn0]
        rw [ecnt] at cc
        have HE := Lib.hid ecnt
        clear ecnt hcl
        have HN := Lib.hid (show 0 < n by omega)
        go_wp2_with fail
        have hp : ((2 : Int) ^ (15 - n)) = ((2 ^ (15 - n) : Nat) : Int) := by simp
        have hp2 : 2 ^ (15 - n) ≤ 32768 := Nat.pow_le_pow_right (n := 2) (by decide) (show 15 - n ≤ 15 by omega)
        refine ⟨⟨i + 1, by rw [Int.natCast_add]; rfl, by omega, ?_, ?_, ?_, Lib.hid ⟨?_, ?_, ?_⟩⟩, by simp only [intOf]; omega⟩
        · rw [HT.out, room_snoc, if_neg hn0, hp]
          generalize 2 ^ (15 - n) = P at *
          rw [IntWalk.wrap64_in (P : Int) (by omega), IntWalk.wrap64_in _ (by omega), Int.natCast_add]
        · rw [HT.out, used_snoc, if_pos HN.out, Int.natCast_add]; rfl
        · rw [HT.out, long_snoc]
          congr 1
          split <;> omega
        · exact HS.out.1.setCell (.inr (Nat.le_succ _)) _
        · rw [heap_set_ne (by omega)]
          exact HS.out.2.1
        · rw [heap_set HS.out.2.2 n _, HT.out, arrOf_set, cntF_snoc L n HN.out, HE.out]
    · have e : i = ls.length := by omega
      have hendI : ¬ (i : Int) < (ls.length : Int) := by omega
      subst e
      rw [List.take_length] at HS
      go_wp2_with fail
      go_loopw [9] (fun x wx => ∃ n : Nat, x = .int .i64 (n : Int) ∧ 1 ≤ n ∧ n ≤ 16 ∧ Hid (Mut [] w wx ∧ wx.heap[w.heap.size]? = some (.cells (arrOf (fun j => if j ≤ n then (nextOf ls j : Nat) else 0) 17) 170 (0, 0)) ∧ wx.heap[w.heap.size + 1]? = some (.cells (arrOf (cntF ls) 16) 184 (0, 0)))) (fun x _ => 17 - (intOf x).toNat)
      case atStart =>
        refine ⟨1, rfl, by omega, by omega, Lib.hid ⟨HS.out.1, ?_, HS.out.2.2⟩⟩
        rw [arrOf_congr (fun j => if j ≤ 1 then ((nextOf ls j : Nat) : Int) else 0) (fun _ => 0) 17 (fun j _ => by
          split
          · rcases (show j = 0 ∨ j = 1 by omega) with rfl | rfl <;> rfl
          · rfl)]
        exact HS.out.2.1
      case round =>
        obtain ⟨n, rfl, hn1, hn16, HQ⟩ := hrel
        clear HS hendI hend
        by_cases hn : n ≤ 15
        · have hnI : (n : Int) ≤ 15 := by omega
          have cA := cellOf HQ.out.2.1 n (arrOf_get _ 17 n (by omega))
          have cA2 := cellOf HQ.out.2.1 (n + 1) (arrOf_get _ 17 (n + 1) (by omega))
          have fA := frozenOf HQ.out.2.1 (n + 1)
          have cB := cellOf HQ.out.2.2 n (arrOf_get _ 16 n (by omega))
          rw [if_pos (Nat.le_refl n)] at cA
          rw [if_neg (by omega)] at cA2
          have ecnt : cntF ls n = ((ls.count n : Nat) : Int) := by unfold cntF; rw [if_neg (by omega)]
          rw [ecnt] at cB
          have hb1 := nextOf_le ls n hn1
          have hb2 : ls.length * 2 ^ n ≤ 1024 * 32768 := Nat.mul_le_mul hl (Nat.pow_le_pow_right (n := 2) (by decide) (show n ≤ 15 by omega))
          have hb3 : ls.count n ≤ 1024 := Nat.le_trans List.count_le_length hl
          have HNX : Hid (((nextOf ls (n + 1) : Nat) : Int) = ((nextOf ls n : Nat) + (ls.count n : Nat) : Int) * 2) := Lib.hid (by rw [nextOf, if_neg (by omega), Int.natCast_mul, Int.natCast_add]; rfl)
          have hsum : ((nextOf ls n : Nat) : Int) + ((ls.count n : Nat) : Int) ≤ 33554432 + 1024 := by omega
          generalize hNX : ((nextOf ls n : Nat) : Int) = NX at *
          generalize hCT : ((ls.count n : Nat) : Int) = CT at *
          have hN0 : 0 ≤ NX := by omega
          have hC0 : 0 ≤ CT := by omega
          have j1 : (n : Int) < 17 := by omega
          have j2 : (n : Int) + 1 < 17 := by omega
          have j3 : (n : Int) < 16 := by omega
          have j4 : (0 : Int) ≤ (n : Int) := by omega
          have j5 : (0 : Int) ≤ (n : Int) + 1 := by omega
          have j6 : ((n : Int) + 1).toNat = n + 1 := by omega
          have w1 : IntKind.i64.wrap ((n : Int) + 1) = (n : Int) + 1 := IntWalk.i64_in _ (by omega)
          have w2 : IntKind.i64.wrap (NX + CT) = NX + CT := IntWalk.i64_in _ (by omega)
          have w3 : IntKind.i64.wrap ((NX + CT) * 2) = (NX + CT) * 2 := IntWalk.i64_in _ (by omega)
          have HNX2 := Lib.hid hNX
          have HCT2 := Lib.hid hCT
          have HEC := Lib.hid ecnt
          clear ecnt hb1 hb2 hb3 hsum hNX hCT
          go_upto_region 14 with fail
          go_still_tail 11, (by kernel_rfl)
          change wpList _ _ _ _ _ wr.drew
          have HQ2 : Hid (Mut [] w wr.drew ∧ wr.drew.heap[w.heap.size]? = some (.cells (arrOf (fun j => if j ≤ n then (nextOf ls j : Nat) else 0) 17) 170 (0, 0)) ∧ wr.drew.heap[w.heap.size + 1]? = some (.cells (arrOf (cntF ls) 16) 184 (0, 0))) := Lib.hid ⟨HQ.out.1.drew, HQ.out.2⟩
          clear cA cA2 cB fA
          generalize wr.drew = W2 at *
          have cA2 := cellOf HQ2.out.2.1 (n + 1) (arrOf_get _ 17 (n + 1) (by omega))
          have fA := frozenOf HQ2.out.2.1 (n + 1)
          go_wp2_with fail
          refine ⟨⟨n + 1, by rw [Int.natCast_add]; rfl, by omega, by omega, Lib.hid ⟨?_, ?_, ?_⟩⟩, by simp only [intOf]; omega⟩
          · exact HQ2.out.1.setCell (.inr (Nat.le_refl _)) _
          · rw [heap_set HQ2.out.2.1 (n + 1) _, arrOf_set]
            congr 2
            apply arrOf_congr
            intro j hj
            by_cases e : j = n + 1
            · rw [if_pos e, e, if_pos (Nat.le_refl _), HNX.out]
            · rw [if_neg e]
              by_cases h : j ≤ n
              · rw [if_pos h, if_pos (by omega)]
              · rw [if_neg h, if_neg (by omega)]
          · rw [heap_set_ne (by omega)]
            exact HQ2.out.2.2
        · have hnI : ¬ (n : Int) ≤ 15 := by omega
          have e16 : n = 16 := by omega
          subst e16
          have hA := HQ.out.2.1
          rw [arrOf_congr (fun j => if j ≤ 16 then ((nextOf ls j : Nat) : Int) else 0) (fun j => ((nextOf ls j : Nat) : Int)) 17 (fun j hj => if_pos (by omega))] at hA
          obtain ⟨F, hF⟩ : ∃ F, (fun j => ((nextOf ls j : Nat) : Int)) = F := ⟨_, rfl⟩
          rw [hF] at hA
          have HA := Lib.hid hA
          have HF := Lib.hid hF
          clear hF
          have d0 := cellOf hA 0 (arrOf_get F 17 0 (by decide))
          have f0 := frozenOf hA 0
          have d1 := cellOf hA 1 (arrOf_get F 17 1 (by decide))
          have f1 := frozenOf hA 1
          have d2 := cellOf hA 2 (arrOf_get F 17 2 (by decide))
          have f2 := frozenOf hA 2
          have d3 := cellOf hA 3 (arrOf_get F 17 3 (by decide))
          have f3 := frozenOf hA 3
          have d4 := cellOf hA 4 (arrOf_get F 17 4 (by decide))
          have f4 := frozenOf hA 4
          have d5 := cellOf hA 5 (arrOf_get F 17 5 (by decide))
          have f5 := frozenOf hA 5
          have d6 := cellOf hA 6 (arrOf_get F 17 6 (by decide))
          have f6 := frozenOf hA 6
          have d7 := cellOf hA 7 (arrOf_get F 17 7 (by decide))
          have f7 := frozenOf hA 7
          have d8 := cellOf hA 8 (arrOf_get F 17 8 (by decide))
          have f8 := frozenOf hA 8
          have d9 := cellOf hA 9 (arrOf_get F 17 9 (by decide))
          have f9 := frozenOf hA 9
          have d10 := cellOf hA 10 (arrOf_get F 17 10 (by decide))
          have f10 := frozenOf hA 10
          have d11 := cellOf hA 11 (arrOf_get F 17 11 (by decide))
          have f11 := frozenOf hA 11
          have d12 := cellOf hA 12 (arrOf_get F 17 12 (by decide))
          have f12 := frozenOf hA 12
          have d13 := cellOf hA 13 (arrOf_get F 17 13 (by decide))
          have f13 := frozenOf hA 13
          have d14 := cellOf hA 14 (arrOf_get F 17 14 (by decide))
          have f14 := frozenOf hA 14
          have d15 := cellOf hA 15 (arrOf_get F 17 15 (by decide))
          have f15 := frozenOf hA 15
          have d16 := cellOf hA 16 (arrOf_get F 17 16 (by decide))
          have f16 := frozenOf hA 16
          clear hA
          have HMW := Lib.hid HQ.out.1
          go_wp2_with fail
          refine bodyPost_ret (results_canon (g1 := w.heap.size) (c := arrOf F 17) ?_ (arrOf_size F 17) rfl rfl rfl rfl) rfl ⟨by rw [HF.out]; rfl, ?_⟩
          · iterate 17 refine set_same ?_ (by decide)
            exact HA.out
          · iterate 17 refine Mut.setCell ?_ (.inr (Nat.le_refl _)) _
            exact HMW.out

end Go.Proofs.Ytgjcnembeebjfaa

namespace Go.Proofs.Ytgjcnembeebjfaa

/-- the lowest n bits the other way round -/
def flipN : Nat → Nat → Nat
  | 0, _ => 0
  | n + 1, v => 2 ^ n * (v % 2) + flipN n (v / 2)

theorem flip_lt (n v : Nat) : flipN n v < 2 ^ n := by
  induction n generalizing v with
  | zero => simp [flipN]
  | succ n ih =>
    have h1 := ih (v / 2)
    have h2 : 2 ^ n * (v % 2) ≤ 2 ^ n * 1 := Nat.mul_le_mul_left _ (by omega)
    rw [flipN, Nat.pow_succ]
    omega

theorem flip_bit (n v i : Nat) : (flipN n v).testBit i = (decide (i < n) && v.testBit (n - 1 - i)) := by
  induction n generalizing v i with
  | zero => simp [flipN]
  | succ n ih =>
    rw [flipN, Nat.testBit_two_pow_mul_add _ (flip_lt n _)]
    by_cases h : i < n
    · rw [if_pos h, ih, decide_eq_true h, decide_eq_true (show i < n + 1 by omega), Nat.testBit_div_two, show n - 1 - i + 1 = n + 1 - 1 - i by omega]
    · rw [if_neg h]
      by_cases h2 : i = n
      · subst h2
        rw [decide_eq_true (show i < i + 1 by omega), Nat.sub_self, show i + 1 - 1 - i = 0 by omega]
        simp [Nat.testBit_zero]
      · rw [decide_eq_false (show ¬ i < n + 1 by omega), Bool.false_and]
        apply Nat.testBit_lt_two_pow
        have h3 : 2 ^ 1 ≤ 2 ^ (i - n) := Nat.pow_le_pow_right (by decide) (by omega)
        omega

theorem flip_flip (n v : Nat) : flipN n (flipN n v) = v % 2 ^ n := by
  apply Nat.eq_of_testBit_eq
  intro i
  rw [flip_bit, flip_bit, Nat.testBit_mod_two_pow]
  by_cases h : i < n
  · rw [decide_eq_true h, decide_eq_true (show n - 1 - i < n by omega), show n - 1 - (n - 1 - i) = i by omega]; simp
  · rw [decide_eq_false h]; simp

theorem flip_mod (n m v : Nat) (h : n ≤ m) : flipN n (v % 2 ^ m) = flipN n v := by
  apply Nat.eq_of_testBit_eq
  intro i
  rw [flip_bit, flip_bit, Nat.testBit_mod_two_pow]
  by_cases hi : i < n
  · rw [decide_eq_true (show n - 1 - i < m by omega)]; simp
  · rw [decide_eq_false hi]; simp

theorem flip_div (n m v : Nat) (h : n ≤ m) : flipN m v / 2 ^ (m - n) = flipN n v := by
  apply Nat.eq_of_testBit_eq
  intro i
  rw [Nat.testBit_div_two_pow, flip_bit, flip_bit]
  by_cases hi : i < n
  · rw [decide_eq_true hi, decide_eq_true (show i + (m - n) < m by omega), show m - 1 - (i + (m - n)) = n - 1 - i by omega]
  · rw [decide_eq_false hi, decide_eq_false (show ¬ i + (m - n) < m by omega)]; simp

/-- fifteen bits begin with a code, told as numbers -/
theorem flip_begins (n c v : Nat) (hn : n ≤ 15) (hc : c < 2 ^ n) : v % 2 ^ n = flipN n c ↔ flipN 15 v / 2 ^ (15 - n) = c := by
  rw [flip_div n 15 v hn]
  constructor
  · intro h
    have := congrArg (flipN n) h
    rw [flip_mod n n v (Nat.le_refl _), flip_flip, Nat.mod_eq_of_lt hc] at this
    exact this
  · intro h
    rw [← h, flip_flip]

theorem flip_in (n c v : Nat) (hn : n ≤ 15) (hc : c < 2 ^ n) : v % 2 ^ n = flipN n c ↔ c * 2 ^ (15 - n) ≤ flipN 15 v ∧ flipN 15 v < c * 2 ^ (15 - n) + 2 ^ (15 - n) := by
  rw [flip_begins n c v hn hc]
  have hp : 0 < 2 ^ (15 - n) := Nat.pow_pos (by decide)
  constructor
  · intro h
    have h1 := Nat.div_mul_le_self (flipN 15 v) (2 ^ (15 - n))
    have h2 := Nat.lt_div_mul_add (a := flipN 15 v) hp
    rw [h] at h1 h2
    exact ⟨h1, h2⟩
  · rintro ⟨h1, h2⟩
    apply Nat.le_antisymm
    · apply Nat.le_of_lt_succ
      rw [Nat.div_lt_iff_lt_mul hp, Nat.succ_mul]
      exact h2
    · rw [Nat.le_div_iff_mul_le hp]
      exact h1

theorem num_bit (l : List Bool) (i : Nat) : (num l).testBit i = l.getD i false := by
  induction l generalizing i with
  | nil => simp [num]
  | cons a l ih =>
    cases i with
    | zero => rw [num, Nat.testBit_zero]; cases a <;> simp <;> omega
    | succ i =>
      rw [num, Nat.testBit_succ, List.getD_cons_succ, ← ih]
      congr 1
      cases a <;> simp <;> omega

/-! ### Reverse32 -/
theorem swap_bit (m k x i : Nat) (hk : 0 < k) (hm : ∀ i, i < 32 → m.testBit i = decide (i / k % 2 = 0)) (hi : i < 32) :
    ((x / 2 ^ k &&& m) ||| ((x &&& m) * 2 ^ k)).testBit i = x.testBit (if i / k % 2 = 0 then i + k else i - k) := by
  rw [Nat.testBit_or, Nat.testBit_and, Nat.testBit_div_two_pow, Nat.testBit_mul_two_pow, Nat.testBit_and, hm i hi]
  by_cases h : i / k % 2 = 0
  · rw [if_pos h, decide_eq_true h]
    by_cases h2 : k ≤ i
    · have h3 : (i - k) / k % 2 = 1 := by
        have h5 := Nat.add_div_left (i - k) hk
        rw [show k + (i - k) = i by omega] at h5
        omega
      rw [hm (i - k) (by omega), h3]; simp
    · rw [decide_eq_false h2]; simp
  · have h2 : k ≤ i := by
      by_cases h4 : k ≤ i
      · exact h4
      · rw [Nat.div_eq_of_lt (by omega)] at h; omega
    have h3 : (i - k) / k % 2 = 0 := by
      have h5 := Nat.add_div_left (i - k) hk
      rw [show k + (i - k) = i by omega] at h5
      omega
    rw [if_neg h, decide_eq_false h, hm (i - k) (by omega), decide_eq_true h3, decide_eq_true h2]; simp

def swapN (k m x : Nat) : Nat := (x / 2 ^ k &&& m) ||| ((x &&& m) * 2 ^ k)

theorem mask_bit (m k : Nat) (h : (List.range 32).all (fun i => m.testBit i == decide (i / k % 2 = 0)) = true) : ∀ i, i < 32 → m.testBit i = decide (i / k % 2 = 0) := by
  intro i hi
  have := List.all_eq_true.1 h i (List.mem_range.2 hi)
  simpa using this

theorem swap1 (x i : Nat) (hi : i < 32) : (swapN 1 1431655765 x).testBit i = x.testBit (if i / 1 % 2 = 0 then i + 1 else i - 1) := swap_bit _ 1 x i (by decide) (mask_bit _ _ (by decide +kernel)) hi
theorem swap2 (x i : Nat) (hi : i < 32) : (swapN 2 858993459 x).testBit i = x.testBit (if i / 2 % 2 = 0 then i + 2 else i - 2) := swap_bit _ 2 x i (by decide) (mask_bit _ _ (by decide +kernel)) hi
theorem swap4 (x i : Nat) (hi : i < 32) : (swapN 4 252645135 x).testBit i = x.testBit (if i / 4 % 2 = 0 then i + 4 else i - 4) := swap_bit _ 4 x i (by decide) (mask_bit _ _ (by decide +kernel)) hi
theorem swap8 (x i : Nat) (hi : i < 32) : (swapN 8 16711935 x).testBit i = x.testBit (if i / 8 % 2 = 0 then i + 8 else i - 8) := swap_bit _ 8 x i (by decide) (mask_bit _ _ (by decide +kernel)) hi

theorem swap16 (x i : Nat) (hi : i < 32) (hx : x < 4294967296) : (x / 2 ^ 16 ||| (x * 2 ^ 16) % 2 ^ 32).testBit i = x.testBit (if i / 16 % 2 = 0 then i + 16 else i - 16) := by
  rw [Nat.testBit_or, Nat.testBit_div_two_pow, Nat.testBit_mod_two_pow, Nat.testBit_mul_two_pow, decide_eq_true hi]
  by_cases h : i < 16
  · rw [if_pos (by omega), decide_eq_false (show ¬ 16 ≤ i by omega)]; simp
  · rw [if_neg (by omega), decide_eq_true (show 16 ≤ i by omega), Nat.testBit_lt_two_pow (show x < 2 ^ (i + 16) from Nat.lt_of_lt_of_le (show x < 2 ^ 32 by omega) (Nat.pow_le_pow_right (by decide) (by omega)))]
    simp

theorem swap_lt (k m x : Nat) (h : m * 2 ^ k < 4294967296) (hm : m < 4294967296) : swapN k m x < 4294967296 := by
  have h1 : x / 2 ^ k &&& m < 2 ^ 32 := Nat.and_lt_two_pow _ hm
  have h2 : (x &&& m) * 2 ^ k < 2 ^ 32 := Nat.lt_of_le_of_lt (Nat.mul_le_mul_right _ Nat.and_le_right) h
  exact Nat.or_lt_two_pow h1 h2

/-- as the library turns 32 bits -/
def turn32 (x : Nat) : Nat :=
  let y := swapN 8 16711935 (swapN 4 252645135 (swapN 2 858993459 (swapN 1 1431655765 x)))
  y / 2 ^ 16 ||| (y * 2 ^ 16) % 2 ^ 32

theorem turn32_bit (x i : Nat) (hi : i < 32) : (turn32 x).testBit i = x.testBit (31 - i) := by
  have hy : swapN 8 16711935 (swapN 4 252645135 (swapN 2 858993459 (swapN 1 1431655765 x))) < 4294967296 := swap_lt _ _ _ (by decide) (by decide)
  have a16 : (if i / 16 % 2 = 0 then i + 16 else i - 16) < 32 := by split <;> omega
  unfold turn32
  simp only
  rw [swap16 _ i hi hy]
  generalize hj : (if i / 16 % 2 = 0 then i + 16 else i - 16) = j at *
  have a8 : (if j / 8 % 2 = 0 then j + 8 else j - 8) < 32 := by split <;> omega
  rw [swap8 _ j a16]
  generalize hk : (if j / 8 % 2 = 0 then j + 8 else j - 8) = k at *
  have a4 : (if k / 4 % 2 = 0 then k + 4 else k - 4) < 32 := by split <;> omega
  rw [swap4 _ k a8]
  generalize hl : (if k / 4 % 2 = 0 then k + 4 else k - 4) = l at *
  have a2 : (if l / 2 % 2 = 0 then l + 2 else l - 2) < 32 := by split <;> omega
  rw [swap2 _ l a4]
  generalize hm : (if l / 2 % 2 = 0 then l + 2 else l - 2) = m at *
  rw [swap1 _ m a2]
  congr 1
  subst hm hl hk hj
  have key : (List.range 32).all (fun i =>
      (let j := if i / 16 % 2 = 0 then i + 16 else i - 16
       let k := if j / 8 % 2 = 0 then j + 8 else j - 8
       let l := if k / 4 % 2 = 0 then k + 4 else k - 4
       let m := if l / 2 % 2 = 0 then l + 2 else l - 2
       (if m / 1 % 2 = 0 then m + 1 else m - 1) == 31 - i)) = true := by decide +kernel
  have := List.all_eq_true.1 key i (List.mem_range.2 hi)
  simpa using this

theorem turn32_lt (x : Nat) : turn32 x < 2 ^ 32 := by
  have hy : swapN 8 16711935 (swapN 4 252645135 (swapN 2 858993459 (swapN 1 1431655765 x))) < 4294967296 := swap_lt _ _ _ (by decide) (by decide)
  unfold turn32
  simp only
  exact Nat.or_lt_two_pow (Nat.lt_of_le_of_lt (Nat.div_le_self _ _) hy) (Nat.mod_lt _ (by decide))

theorem turn32_flip (x n : Nat) (hn : n ≤ 32) : turn32 x / 2 ^ (32 - n) = flipN n x := by
  apply Nat.eq_of_testBit_eq
  intro i
  rw [Nat.testBit_div_two_pow, flip_bit]
  by_cases h : i < n
  · rw [turn32_bit _ _ (by omega), decide_eq_true h, show 31 - (i + (32 - n)) = n - 1 - i by omega]; simp
  · rw [decide_eq_false h, Nat.testBit_lt_two_pow (Nat.lt_of_lt_of_le (turn32_lt x) (Nat.pow_le_pow_right (by decide) (by omega)))]; simp

end Go.Proofs.Ytgjcnembeebjfaa

namespace Go.Proofs.Ytgjcnembeebjfaa
open Go.RowKit

abbrev swI (c m y : Int) : Int := bits .or .u32 (bits .and .u32 (y / c) m) (bits .and .u32 y m * c % 4294967296)

theorem swI_nat (k m x : Nat) (c M : Int) (hc : c = ((2 ^ k : Nat) : Int)) (hM : M = (m : Int)) (hm : m * 2 ^ k < 4294967296) (hm2 : m < 4294967296) (hx : x < 4294967296) : swI c M (x : Int) = ((swapN k m x : Nat) : Int) := by
  subst hc hM
  have h1 : x / 2 ^ k < 4294967296 := Nat.lt_of_le_of_lt (Nat.div_le_self _ _) hx
  have h2 : x / 2 ^ k &&& m < 2 ^ 32 := Nat.and_lt_two_pow _ hm2
  have h3 : (x &&& m) * 2 ^ k < 2 ^ 32 := Nat.lt_of_le_of_lt (Nat.mul_le_mul_right _ Nat.and_le_right) hm
  unfold swI swapN
  rw [show ((x : Int) / ((2 ^ k : Nat) : Int)) = ((x / 2 ^ k : Nat) : Int) by simp, u32_and_nat _ _ h1 hm2, u32_and_nat _ _ hx hm2, show (((x &&& m : Nat) : Int) * ((2 ^ k : Nat) : Int) % 4294967296) = (((x &&& m) * 2 ^ k : Nat) : Int) by rw [Int.natCast_mul] at *; omega]
  exact u32_or_nat _ _ h2 h3

theorem turn32I (x : Nat) (hx : x < 4294967296) :
    bits .or .u32 (swI 256 16711935 (swI 16 252645135 (swI 4 858993459 (swI 2 1431655765 (x : Int)))) / 65536) (swI 256 16711935 (swI 16 252645135 (swI 4 858993459 (swI 2 1431655765 (x : Int)))) * 65536 % 4294967296) = ((turn32 x : Nat) : Int) := by
  rw [swI_nat 1 1431655765 x 2 1431655765 rfl rfl (by decide) (by decide) hx,
    swI_nat 2 858993459 _ 4 858993459 rfl rfl (by decide) (by decide) (swap_lt _ _ _ (by decide) (by decide)),
    swI_nat 4 252645135 _ 16 252645135 rfl rfl (by decide) (by decide) (swap_lt _ _ _ (by decide) (by decide)),
    swI_nat 8 16711935 _ 256 16711935 rfl rfl (by decide) (by decide) (swap_lt _ _ _ (by decide) (by decide))]
  have hy : swapN 8 16711935 (swapN 4 252645135 (swapN 2 858993459 (swapN 1 1431655765 x))) < 4294967296 := swap_lt _ _ _ (by decide) (by decide)
  unfold turn32
  simp only
  generalize swapN 8 16711935 (swapN 4 252645135 (swapN 2 858993459 (swapN 1 1431655765 x))) = y at *
  rw [show ((y : Int) / 65536) = ((y / 2 ^ 16 : Nat) : Int) by omega, show ((y : Int) * 65536 % 4294967296) = ((y * 2 ^ 16 % 2 ^ 32 : Nat) : Int) by omega]
  exact u32_or_nat _ _ (by omega) (by omega)

theorem rev32_any (x : Nat) (hx : x < 4294967296) (w : World) : Calls Try.prog 116 #[.int .u32 (x : Int)] w fun e w' => e = .returned (.int .u32 (turn32 x : Nat)) ∧ w = w' := by
  go_enter Try.func116, Try.ntmps116
  go_wp2
  go_ret
  exact ⟨congrArg (fun z => Ending.returned (.int .u32 z)) (turn32I x hx), rfl⟩

theorem turned_any (c n : Nat) (hn0 : 1 ≤ n) (hn : n ≤ 15) (hc : c < 32768) (w : World) : Calls Try.prog 111 #[.int .i64 (c : Int), .int .i64 (n : Int)] w fun e w' => e = .returned (.int .i64 (flipN n c : Nat)) ∧ w = w' := by
  have hf := turn32_flip c n (by omega)
  have hl := flip_lt n c
  have hp : 2 ^ n ≤ 32768 := Nat.pow_le_pow_right (n := 2) (by decide) hn
  have h0 : (0 : Int) ≤ 32 - (n : Int) := by omega
  have h1 : (32 - (n : Int)).toNat = 32 - n := by omega
  have h2 : 32 - (n : Int) < 32 := by omega
  have ht := turn32_lt c
  have HF := Lib.hid hf
  have HL := Lib.hid hl
  clear hf hl
  go_enter Try.func111, Try.ntmps111
  go_wp2_with (first | (refine (rev32_any c (by omega) _).mono ?_; rintro e w1 ⟨rfl, rfl⟩) | fail)
  generalize turn32 c = T at *
  go_wp2_with fail
  go_ret
  refine ⟨?_, rfl⟩
  show Ending.returned (.int .i64 (wrap64 ((T : Int) / 2 ^ (32 - n)))) = _
  have e : ((T : Int) / 2 ^ (32 - n)) = ((T / 2 ^ (32 - n) : Nat) : Int) := by simp
  rw [e, HF.out]
  have := HL.out
  rw [IntWalk.wrap64_in _ (by omega)]

end Go.Proofs.Ytgjcnembeebjfaa

namespace Go.Proofs.Ytgjcnembeebjfaa

/-- fifteen bits begin with a symbol's code -/
def hit (ls : List Nat) (v s : Nat) : Bool := decide (1 ≤ lenAt ls s) && decide (v % 2 ^ lenAt ls s = flipN (lenAt ls s) (codeOf ls s))
/-- the symbol, among the first k, with whose code fifteen bits begin -/
def symTo (ls : List Nat) (k v : Nat) : Option Nat := (List.range k).find? (hit ls v)
def found (ls : List Nat) (k v : Nat) : Nat × Nat := match symTo ls k v with
  | some s => (s, lenAt ls s)
  | none => (0, 0)

theorem lenAt_mem (ls : List Nat) (s : Nat) (hs : s < ls.length) : lenAt ls s ∈ ls := by
  unfold lenAt
  simp only [List.getD, List.getElem?_eq_getElem hs, Option.getD_some]
  exact List.getElem_mem hs

theorem hit_in (ls : List Nat) (h : ∀ n ∈ ls, n ≤ 15) (hr : room ls ≤ 32768) (v s : Nat) (hs : s < ls.length) (hh : hit ls v s = true) :
    1 ≤ lenAt ls s ∧ loOf ls s ≤ flipN 15 v ∧ flipN 15 v < loOf ls s + 2 ^ (15 - lenAt ls s) := by
  unfold hit at hh
  simp only [Bool.and_eq_true, decide_eq_true_eq] at hh
  refine ⟨hh.1, ?_⟩
  exact (flip_in _ _ _ (h _ (lenAt_mem ls s hs)) (code_lt ls h hr s hs hh.1)).1 hh.2

theorem hit_of (ls : List Nat) (h : ∀ n ∈ ls, n ≤ 15) (hr : room ls ≤ 32768) (v s : Nat) (hs : s < ls.length) (h1 : 1 ≤ lenAt ls s) (h2 : loOf ls s ≤ flipN 15 v) (h3 : flipN 15 v < loOf ls s + 2 ^ (15 - lenAt ls s)) : hit ls v s = true := by
  unfold hit
  simp only [Bool.and_eq_true, decide_eq_true_eq]
  exact ⟨h1, (flip_in _ _ _ (h _ (lenAt_mem ls s hs)) (code_lt ls h hr s hs h1)).2 ⟨h2, h3⟩⟩

/-- no two codes -/
theorem hit_one (ls : List Nat) (h : ∀ n ∈ ls, n ≤ 15) (hr : room ls ≤ 32768) (v s t : Nat) (hs : s < ls.length) (ht : t < ls.length) (h1 : hit ls v s = true) (h2 : hit ls v t = true) : s = t := by
  have a := hit_in ls h hr v s hs h1
  have b := hit_in ls h hr v t ht h2
  by_cases e : s = t
  · exact e
  · exfalso
    have ps : 0 < 2 ^ (15 - lenAt ls s) := Nat.pow_pos (by decide)
    have pt : 0 < 2 ^ (15 - lenAt ls t) := Nat.pow_pos (by decide)
    rcases (show (lenAt ls s < lenAt ls t ∨ (lenAt ls s = lenAt ls t ∧ s < t)) ∨ (lenAt ls t < lenAt ls s ∨ (lenAt ls t = lenAt ls s ∧ t < s)) by omega) with q | q
    · have := lo_order ls h s t hs ht a.1 b.1 q
      omega
    · have := lo_order ls h t s ht hs b.1 a.1 q
      omega

theorem symTo_some (ls : List Nat) (k v s : Nat) (h : symTo ls k v = some s) : s < k ∧ hit ls v s = true := by
  have h1 := List.find?_some h
  have h2 := List.mem_of_find?_eq_some h
  exact ⟨List.mem_range.1 h2, h1⟩

theorem symTo_none (ls : List Nat) (k v s : Nat) (h : symTo ls k v = none) (hs : s < k) : hit ls v s = false := by
  have := List.find?_eq_none.1 h s (List.mem_range.2 hs)
  simpa using this

theorem symTo_is (ls : List Nat) (h : ∀ n ∈ ls, n ≤ 15) (hr : room ls ≤ 32768) (k v s : Nat) (hk : k ≤ ls.length) (hs : s < k) (hh : hit ls v s = true) : symTo ls k v = some s := by
  rcases e : symTo ls k v with _ | t
  · rw [symTo_none ls k v s e hs] at hh; cases hh
  · obtain ⟨h1, h2⟩ := symTo_some ls k v t e
    rw [hit_one ls h hr v t s (by omega) (by omega) h2 hh]

theorem symTo_zero (ls : List Nat) (v : Nat) : symTo ls 0 v = none := rfl

theorem symTo_succ (ls : List Nat) (k v : Nat) : symTo ls (k + 1) v = (symTo ls k v).or (if hit ls v k = true then some k else none) := by
  unfold symTo
  rw [List.range_succ, List.find?_append]
  congr 1
  by_cases hh : hit ls v k = true <;> simp [hh]

theorem found_free (ls : List Nat) (h : ∀ n ∈ ls, n ≤ 15) (hr : room ls ≤ 32768) (k v : Nat) (hk : k < ls.length) (hn : 1 ≤ lenAt ls k) (hv : v % 2 ^ lenAt ls k = flipN (lenAt ls k) (codeOf ls k)) : found ls k v = (0, 0) := by
  have hh : hit ls v k = true := by unfold hit; simp only [Bool.and_eq_true, decide_eq_true_eq]; exact ⟨hn, hv⟩
  unfold found
  rcases e : symTo ls k v with _ | t
  · rfl
  · obtain ⟨h1, h2⟩ := symTo_some ls k v t e
    have := hit_one ls h hr v t k (by omega) hk h2 hh
    omega

theorem found_step (ls : List Nat) (h : ∀ n ∈ ls, n ≤ 15) (hr : room ls ≤ 32768) (k v : Nat) (hk : k < ls.length) (hn : 1 ≤ lenAt ls k) :
    found ls (k + 1) v = if v % 2 ^ lenAt ls k = flipN (lenAt ls k) (codeOf ls k) then (k, lenAt ls k) else found ls k v := by
  by_cases hv : v % 2 ^ lenAt ls k = flipN (lenAt ls k) (codeOf ls k)
  · have hh : hit ls v k = true := by unfold hit; simp only [Bool.and_eq_true, decide_eq_true_eq]; exact ⟨hn, hv⟩
    have := found_free ls h hr k v hk hn hv
    rw [if_pos hv]
    unfold found
    rw [symTo_is ls h hr (k + 1) v k hk (by omega) hh]
  · rw [if_neg hv]
    have hh : hit ls v k = false := by
      unfold hit
      rw [decide_eq_false hv, Bool.and_false]
    unfold found
    rw [symTo_succ, hh]
    simp

theorem found_skip (ls : List Nat) (k v : Nat) (hn : lenAt ls k = 0) : found ls (k + 1) v = found ls k v := by
  have hh : hit ls v k = false := by
    unfold hit
    rw [hn]; rfl
  unfold found
  rw [symTo_succ, hh]
  simp

/-- the lookups of the first k symbols -/
structure LkOf (ls : List Nat) (k : Nat) (E : List Ent) : Prop where
  wf : WFT E (longOf ls)
  len : E.length ≤ 512 + 64 * k
  finds : ∀ v, v < 32768 → find E v = found ls k v

theorem longOf_ge (l : List Nat) (n : Nat) (h : n ∈ l) : n ≤ longOf l := by
  have key : ∀ (l : List Nat) (a : Nat), a ≤ l.foldl max a := by
    intro l
    induction l with
    | nil => intro a; exact Nat.le_refl _
    | cons x l ih => intro a; exact Nat.le_trans (Nat.le_max_left _ _) (ih _)
  have : ∀ (l : List Nat) (a : Nat), n ∈ l → n ≤ l.foldl max a := by
    intro l
    induction l with
    | nil => intro a h; cases h
    | cons x l ih =>
      intro a h
      rcases List.mem_cons.1 h with rfl | h
      · exact Nat.le_trans (Nat.le_max_right _ _) (key _ _)
      · exact ih _ h
  exact this l 0 h

theorem entAt_none (n j : Nat) : entAt (List.replicate n (0, 0, 0)) j = (0, 0, 0) := by
  unfold entAt
  rw [List.getD_eq_getElem?_getD, List.getElem?_replicate]
  split <;> rfl

theorem LkOf.start (ls : List Nat) : LkOf ls 0 (List.replicate 512 (0, 0, 0)) := by
  refine ⟨⟨by rw [List.length_replicate]; exact Nat.le_refl _, ?_, ?_, ?_, ?_⟩, by rw [List.length_replicate]; exact Nat.le_refl _, ?_⟩
  · intro j _; rw [entAt_none]
  · intro i _ h; rw [entAt_none] at h; exact absurd h (Nat.lt_irrefl 0)
  · intro i k _ _ _ h; rw [entAt_none] at h; exact absurd h (Nat.lt_irrefl 0)
  · intro j _ _; rw [entAt_none]
  · intro v _
    unfold find found
    simp only [entAt_none, symTo_zero]
    rfl

theorem LkOf.skip {ls : List Nat} {k : Nat} {E : List Ent} (h : LkOf ls k E) (hn : lenAt ls k = 0) : LkOf ls (k + 1) E :=
  ⟨h.wf, by have := h.len; omega, fun v hv => by rw [found_skip ls k v hn]; exact h.finds v hv⟩

theorem layE_length (E : List Ent) (long s n bits : Nat) (hl : long ≤ 15) : (layE E long s n bits).length ≤ E.length + 64 := by
  unfold layE
  by_cases h : n ≤ 9
  · rw [if_pos h, fillR_length]; omega
  · rw [if_neg h]
    simp only
    rw [fillR_length]
    split
    · simp only [freshE, List.length_append, List.length_set, List.length_replicate]
      have : 2 ^ (long - 9) ≤ 64 := Nat.pow_le_pow_right (n := 2) (by decide) (show long - 9 ≤ 6 by omega)
      omega
    · omega

theorem LkOf.lay {ls : List Nat} (h15 : ∀ n ∈ ls, n ≤ 15) (hr : room ls ≤ 32768) {k : Nat} {E : List Ent} (h : LkOf ls k E) (hk : k < ls.length) (hn : 1 ≤ lenAt ls k) :
    LkOf ls (k + 1) (layE E (longOf ls) k (lenAt ls k) (flipN (lenAt ls k) (codeOf ls k))) := by
  have hm := lenAt_mem ls k hk
  have hl15 : longOf ls ≤ 15 := by
    have key : ∀ (l : List Nat) (a : Nat), a ≤ 15 → (∀ n ∈ l, n ≤ 15) → l.foldl max a ≤ 15 := by
      intro l
      induction l with
      | nil => intro a ha _; exact ha
      | cons x l ih => intro a ha hl; exact ih _ (by have := hl x (by simp); omega) (fun n hn => hl n (by simp [hn]))
    exact key ls 0 (by decide) h15
  have hb := flip_lt (lenAt ls k) (codeOf ls k)
  have hfree : ∀ v, v < 32768 → v % 2 ^ lenAt ls k = flipN (lenAt ls k) (codeOf ls k) → (find E v).2 = 0 := fun v hv hc => by
    rw [h.finds v hv, found_free ls h15 hr k v hk hn hc]
  have hlen := layE_length E (longOf ls) k (lenAt ls k) (flipN (lenAt ls k) (codeOf ls k)) hl15
  have hl := h.len
  by_cases h9 : lenAt ls k ≤ 9
  · obtain ⟨q1, _, q3⟩ := lay_short E (longOf ls) k (lenAt ls k) _ h.wf hl15 hn h9 hb hfree
    exact ⟨q1, by omega, fun v hv => by rw [q3 v hv, found_step ls h15 hr k v hk hn, h.finds v hv]⟩
  · obtain ⟨q1, q3⟩ := lay_long E (longOf ls) k (lenAt ls k) _ h.wf hl15 (by omega) (longOf_ge ls _ hm) hb hfree
    exact ⟨q1, by omega, fun v hv => by rw [q3 v hv, found_step ls h15 hr k v hk hn, h.finds v hv]⟩

end Go.Proofs.Ytgjcnembeebjfaa

namespace Go.Proofs.Ytgjcnembeebjfaa
open Go.RowKit

/-- lookups as cells -/
def entCells (E : List Ent) : List Value := E.flatMap fun e => [.int .i64 (e.1 : Nat), .int .i64 (e.2.1 : Nat), .int .i64 (e.2.2 : Nat)]

theorem entCells_length (E : List Ent) : (entCells E).length = E.length * 3 := by
  induction E with
  | nil => rfl
  | cons a E ih => simp only [entCells, List.flatMap_cons, List.length_append, List.length_cons, List.length_nil] at *; omega

theorem entCells_get (E : List Ent) (i : Nat) (hi : i < E.length) :
    (entCells E)[i * 3]? = some (.int .i64 ((entAt E i).1 : Nat)) ∧ (entCells E)[i * 3 + 1]? = some (.int .i64 ((entAt E i).2.1 : Nat)) ∧ (entCells E)[i * 3 + 2]? = some (.int .i64 ((entAt E i).2.2 : Nat)) := by
  induction E generalizing i with
  | nil => simp at hi
  | cons a E ih =>
    cases i with
    | zero => simp [entCells, entAt]
    | succ i =>
      have := ih i (by simpa using hi)
      rw [show (i + 1) * 3 = i * 3 + 3 by omega, show i * 3 + 3 + 1 = i * 3 + 1 + 3 by omega, show i * 3 + 3 + 2 = i * 3 + 2 + 3 by omega]
      simpa [entCells, entAt] using this

theorem entCells_set (E : List Ent) (i : Nat) (e : Ent) : entCells (E.set i e) = (((entCells E).set (i * 3) (.int .i64 (e.1 : Nat))).set (i * 3 + 1) (.int .i64 (e.2.1 : Nat))).set (i * 3 + 2) (.int .i64 (e.2.2 : Nat)) := by
  induction E generalizing i with
  | nil => simp [entCells]
  | cons a E ih =>
    cases i with
    | zero => simp [entCells]
    | succ i =>
      rw [show (i + 1) * 3 = i * 3 + 3 by omega, show i * 3 + 3 + 1 = i * 3 + 1 + 3 by omega, show i * 3 + 3 + 2 = i * 3 + 2 + 3 by omega]
      have := ih i
      simpa [entCells] using this

/-- lookups in a row of the table's own -/
def LkIs (w : World) (g cap : Nat) (E : List Ent) : Prop := w.ownsRow 0 182 3 (.slice (some ⟨g, 0, none⟩) E.length cap) E.length (entCells E)

theorem LkIs.open {w : World} {g cap : Nat} {E : List Ent} (h : LkIs w g cap E) : ∃ cur : Array Value, w.heap[g]? = some (.cells cur 182 (0, 0)) ∧ E.length ≤ cap ∧ cap ≤ maxLen ∧ cur.size = cap * 3 ∧ cur.toList.take (E.length * 3) = entCells E := by
  rcases h.2 with ⟨h1, _⟩ | ⟨g', cap', cur, h1, _, hh, r1, r2, r3, r4⟩
  · cases h1
  · cases h1
    exact ⟨cur, hh, r1, r2, r3, r4⟩

theorem LkIs.shut {w : World} {g cap : Nat} {E : List Ent} {cur : Array Value} (hh : w.heap[g]? = some (.cells cur 182 (0, 0))) (r1 : E.length ≤ cap) (r2 : cap ≤ maxLen) (r3 : cur.size = cap * 3) (r4 : cur.toList.take (E.length * 3) = entCells E) : LkIs w g cap E :=
  ⟨entCells_length E, .inr ⟨g, cap, cur, rfl, Nat.zero_le _, hh, r1, r2, r3, r4⟩⟩

theorem LkIs.cells {w : World} {g cap : Nat} {E : List Ent} (h : LkIs w g cap E) (i : Nat) (hi : i < E.length) :
    w.cell? ⟨g, i * 3, none⟩ = some (.int .i64 ((entAt E i).1 : Nat)) ∧ w.cell? ⟨g, i * 3 + 1, none⟩ = some (.int .i64 ((entAt E i).2.1 : Nat)) ∧ w.cell? ⟨g, i * 3 + 2, none⟩ = some (.int .i64 ((entAt E i).2.2 : Nat)) ∧
    w.frozen? ⟨g, i * 3, none⟩ = false ∧ w.frozen? ⟨g, i * 3 + 1, none⟩ = false ∧ w.frozen? ⟨g, i * 3 + 2, none⟩ = false := by
  obtain ⟨cur, hh, _, _, _, r4⟩ := h.open
  have key : ∀ k, k < E.length * 3 → cur[k]? = (entCells E)[k]? := by
    intro k hk
    rw [← r4, List.getElem?_take_of_lt hk]; simp
  obtain ⟨e1, e2, e3⟩ := entCells_get E i hi
  exact ⟨cellOf hh _ ((key _ (by omega)).trans e1), cellOf hh _ ((key _ (by omega)).trans e2), cellOf hh _ ((key _ (by omega)).trans e3), frozenOf hh _, frozenOf hh _, frozenOf hh _⟩

theorem LkIs.set {w : World} {g cap : Nat} {E : List Ent} (h : LkIs w g cap E) (i : Nat) (e : Ent) :
    LkIs (((w.setCell ⟨g, i * 3, none⟩ (.int .i64 (e.1 : Nat))).setCell ⟨g, i * 3 + 1, none⟩ (.int .i64 (e.2.1 : Nat))).setCell ⟨g, i * 3 + 2, none⟩ (.int .i64 (e.2.2 : Nat))) g cap (E.set i e) := by
  obtain ⟨cur, hh, r1, r2, r3, r4⟩ := h.open
  refine LkIs.shut (heap_set (heap_set (heap_set hh _ _) _ _) _ _) (by simpa using r1) r2 (by simpa using r3) ?_
  rw [entCells_set, ← r4]
  simp only [List.length_set, Array.toList_setIfInBounds, List.take_set]

/-- a table: its codes, its lookups, its longest code -/
def TabAt (w : World) (b : Nat) (cv : Value) (g cap : Nat) (E : List Ent) (long : Nat) : Prop :=
  w.heap[b]? = some (.cells #[cv, .slice (some ⟨g, 0, none⟩) E.length cap, .int .i64 (long : Nat)] 175 (0, 0)) ∧ LkIs w g cap E

theorem cells3 {w : World} {b : Nat} {x y z : Value} {t : TypeId} (h : w.heap[b]? = some (.cells #[x, y, z] t (0, 0))) :
    w.cell? ⟨b, 0, none⟩ = some x ∧ w.cell? ⟨b, 1, none⟩ = some y ∧ w.cell? ⟨b, 2, none⟩ = some z ∧ w.frozen? ⟨b, 0, none⟩ = false ∧ w.frozen? ⟨b, 1, none⟩ = false ∧ w.frozen? ⟨b, 2, none⟩ = false := by
  simp [World.cell?, World.frozen?, h]

theorem TabAt.ne {w : World} {b : Nat} {cv : Value} {g cap : Nat} {E : List Ent} {long : Nat} (h : TabAt w b cv g cap E long) : b ≠ g := by
  intro e
  obtain ⟨cur, hh, _⟩ := h.2.open
  have h1 := h.1
  rw [e, hh] at h1
  simp at h1

/-- append of zeros to a row of the call's own -/
theorem run_app_zeros {P : Program} (w : World) (t tn ty e : TypeId) (i : TypeInfo) (z : Value) (size bytes : Nat) (kq kn : IntKind) (k : Nat) (ht : P.underlying t = some (.slice e)) (htn : P.underlying tn = some (.int kn)) (hi : P.info? e = some i) (hz : i.zero = some z)
    (hsize : i.size = size) (hby : i.bytes = bytes) (hzs : z.cells.size = size) (hz1 : ∀ u ∈ (Builtin.zeroCells z.cells k).toList, u.oneCell' = true) (v : Value) (n : Nat) (xs : List Value) (hown : w.ownsRow 0 e size v n xs) (h0 : 0 < k) (hs0 : 0 < size)
    (b1 : n + k ≤ maxLen) (b2 : (n + k) * bytes ≤ 140737488355328) :
    ∃ v' w', (Builtin.append_ #[t, tn] ty #[v, .int kq k]).run P w = .ok v' w' ∧ w'.ownsRow 0 e size v' (n + k) (xs ++ (Builtin.zeroCells z.cells k).toList) ∧ w.grownBy w' v.ownBlock ∧ (∀ g, v'.ownBlock = some g → v.ownBlock = some g ∨ w.heap.size ≤ g) := by
  subst hsize hby
  have hk63 : (k : Int) ≤ 9223372036854775807 := by simp only [maxLen] at b1; omega
  have hkb : k * i.bytes ≤ 140737488355328 := Nat.le_trans (Nat.mul_le_mul_right _ (Nat.le_add_left k n)) b2
  have hnl : (Builtin.zeroCells z.cells k).toList.length = k * i.size := by rw [Array.length_toList, size_zeroCells, hzs]
  have hlen : (xs ++ (Builtin.zeroCells z.cells k).toList).length = (n + k) * i.size := by rw [List.length_append, hown.1, hnl, Nat.add_mul]
  have hsmall : n + k ≤ 9223372036854775807 := by simp only [maxLen] at b1; omega
  have grown : ∀ (old : Nat), old < n + k → ∀ (row : Option Nat),
      (w.drew.alloc (.cells (xs.toArray ++ Builtin.zeroCells z.cells k ++ Builtin.zeroCells z.cells (grownCap w (n + k) old e - (n + k))) e)).ownsRow 0 e i.size
        (.slice (some ⟨w.heap.size, 0, none⟩) (n + k) (grownCap w (n + k) old e)) (n + k) (xs ++ (Builtin.zeroCells z.cells k).toList) ∧
      w.grownBy (w.drew.alloc (.cells (xs.toArray ++ Builtin.zeroCells z.cells k ++ Builtin.zeroCells z.cells (grownCap w (n + k) old e - (n + k))) e)) row := by
    intro old ho row
    have hge := grownCap_ge w (n + k) old e
    have hcm : grownCap w (n + k) old e ≤ maxLen := grownCap_le_maxLen w (n + k) old e b1
    refine ⟨⟨hlen, .inr ⟨w.heap.size, _, _, rfl, Nat.zero_le _, heap_alloc_new w.drew _, hge, hcm, ?_, ?_⟩⟩, ⟨rfl, rfl, rfl, by simp, fun j hj _ => Below.heap_alloc w.drew _ j hj⟩⟩
    · simp only [Array.size_append, List.size_toArray, size_zeroCells, hzs, hown.1, ← Nat.add_mul]
      congr 1
      omega
    · rw [Array.toList_append, Array.toList_append, ← hlen]
      exact List.take_left
  rcases hown.2 with ⟨rfl, rfl⟩ | ⟨g, cap, cur, rfl, _, hg, hnc, hcm, hcs, htake⟩
  · have hx : xs = [] := List.eq_nil_of_length_eq_zero (by simpa using hown.1)
    subst hx
    have hr := Lib.run_append_grow_zeros (P := P) w t tn ty e i z kq kn ht htn hi hz none 0 0 [] (by simp [Builtin.firstCells]) k h0 hs0 (by omega) (by omega) (by omega) (growslice_fits (by omega) b2)
    have hgr := grown 0 (by omega) (Value.ownBlock (.slice none 0 0))
    exact ⟨_, _, hr, hgr.1, hgr.2, fun g hg => .inr (by simp [Value.ownBlock] at hg; omega)⟩
  · by_cases hroom : n + k ≤ cap
    · have hfit : n * i.size + (Builtin.zeroCells z.cells k).toList.length ≤ cur.size := by rw [hnl, hcs, ← Nat.add_mul]; exact Nat.mul_le_mul_right _ hroom
      have hst := run_storeCells_cells (P := P) g (0 + n * i.size) (Builtin.zeroCells z.cells k).toList 0 w (fun j hj => by
        rw [cell_of_row w g _ cur e (0, 0) hg]; simp; simp at hj; rw [Array.length_toList] at hfit; omega) (fun j hj => frozen_of_row w g _ cur e hg) hz1
      simp only [Nat.add_zero, Nat.zero_add] at hst
      have hr : (Builtin.append_ #[t, tn] ty #[.slice (some ⟨g, 0, none⟩) n cap, .int kq k]).run P w = .ok (.slice (some ⟨g, 0, none⟩) (n + k) cap) (w.setCells g (0 + n * i.size) (Builtin.zeroCells z.cells k).toList) := by
        have hw : IntKind.i64.wrap (k : Int) = k := by rw [IntKind.wrap_i64]; omega
        have h48i : ¬ (281474976710656 < (k : Int) * (i.bytes : Int)) := by
          rw [← Int.natCast_mul]
          omega
        have hneg : ¬ ((k : Int) < 0) := by omega
        have hns : ¬ (k * i.size = 0) := Nat.mul_ne_zero (by omega) (by omega)
        simp [Builtin.append_, run_underlying ht, run_underlying htn, sizeOf, typeInfo, zeroValue, hi, hz, asInt, asIntOf, hw, hneg, hns, h48i, hroom, Addr.add_lit, Nat.zero_add, hst]
      obtain ⟨cur', c1, c2, c3⟩ := heap_setCells g e (0, 0) (Builtin.zeroCells z.cells k).toList (0 + n * i.size) w cur hg (by omega)
      obtain ⟨s1, s2, s3, s4⟩ := setCells_same g (Builtin.zeroCells z.cells k).toList (0 + n * i.size) w
      refine ⟨_, _, hr, ⟨hlen, .inr ⟨g, cap, cur', rfl, Nat.zero_le _, c1, hroom, hcm, by omega, ?_⟩⟩, ⟨s1, s2, s3, by omega, fun j _ hj => heap_setCells_ne g j (fun h => hj (by simp [Value.ownBlock, h])) _ _ _⟩, fun g' hg' => .inl hg'⟩
      rw [Nat.add_mul, ← hnl, ← htake]
      simpa using c3
    · have hr := Lib.run_append_grow_zeros (P := P) w t tn ty e i z kq kn ht htn hi hz (some ⟨g, 0, none⟩) n cap xs (run_firstCells_some w.drew i.size n ⟨g, 0, none⟩ n cap xs hown.1 (by simpa using hown.cells (g := g) rfl)) k h0 hs0 (by omega) (by omega) (by omega) (growslice_fits (by omega) b2)
      have hgr := grown cap (by omega) (Value.ownBlock (.slice (some ⟨g, 0, none⟩) n cap))
      exact ⟨_, _, hr, hgr.1, hgr.2, fun g hg => .inr (by simp [Value.ownBlock] at hg; omega)⟩

theorem info_entry : (Try.prog.info? 182).map (fun i => (i.zero, i.size, i.bytes)) = some (some (.agg #[.int .i64 0, .int .i64 0, .int .i64 0]), 3, 24) := by kernel_rfl

theorem entCells_zeros (k : Nat) : entCells (List.replicate k (0, 0, 0)) = List.replicate (k * 3) (.int .i64 0) := by
  induction k with
  | zero => rfl
  | succ k ih =>
    rw [List.replicate_succ, show (k + 1) * 3 = k * 3 + 1 + 1 + 1 by omega, List.replicate_succ, List.replicate_succ, List.replicate_succ, ← ih]
    rfl

theorem zeroCells_entry (k : Nat) : (Builtin.zeroCells (Value.agg #[.int .i64 0, .int .i64 0, .int .i64 0]).cells k).toList = entCells (List.replicate k (0, 0, 0)) := by
  rw [entCells_zeros]
  apply List.ext_getElem
  · rw [Array.length_toList, size_zeroCells]; simp [Value.cells]
  · intro i h1 h2
    simp only [Builtin.zeroCells, Array.getElem_toList, Array.getElem_map, Array.getElem_range, List.getElem_replicate, Value.cells]
    rcases (show i % 3 = 0 ∨ i % 3 = 1 ∨ i % 3 = 2 by omega) with h | h | h <;> simp [h]

theorem TabAt.drew {w : World} {b : Nat} {cv : Value} {g cap : Nat} {E : List Ent} {long : Nat} (h : TabAt w b cv g cap E long) : TabAt w.drew b cv g cap E long := h


/-- a table that New made: its blocks lie from lo on and below hi -/
def TableIs (w : World) (lo hi b : Nat) (ls : List Nat) : Prop :=
  ∃ cv g cap E, TabAt w b cv g cap E (longOf ls) ∧ w.ownsRow 0 3 1 cv ls.length ((codesOf ls).map fun n : Nat => Value.int .i64 (n : Int)) ∧ LkOf ls ls.length E ∧
    lo ≤ b ∧ b < hi ∧ lo ≤ g ∧ g < hi ∧ (∀ c, cv.ownBlock = some c → lo ≤ c ∧ c < hi)

theorem TableIs.mut {w w' : World} {lo hi b : Nat} {ls : List Nat} {S : List Nat} (h : TableIs w lo hi b ls) (hm : Mut S w w') (hs : ∀ x, x ∈ S → x < lo ∨ hi ≤ x) : TableIs w' lo hi b ls := by
  obtain ⟨cv, g, cap, E, h1, h2, h3, h4, h5, h6, h7, h8⟩ := h
  have no : ∀ x, lo ≤ x → x < hi → x ∉ S := fun x a c hx => by have := hs x hx; omega
  refine ⟨cv, g, cap, E, ⟨hm.get h1.1 (no b h4 h5), hm.row h1.2 (fun k hk => ?_)⟩, hm.row h2 (fun k hk => no k (h8 k hk).1 (h8 k hk).2), h3, h4, h5, h6, h7, h8⟩
  simp [Value.ownBlock] at hk
  exact no k (by omega) (by omega)

theorem TableIs.wide {w : World} {lo hi lo' hi' b : Nat} {ls : List Nat} (h : TableIs w lo hi b ls) (h1 : lo' ≤ lo) (h2 : hi ≤ hi') : TableIs w lo' hi' b ls := by
  obtain ⟨cv, g, cap, E, q1, q2, q3, q4, q5, q6, q7, q8⟩ := h
  exact ⟨cv, g, cap, E, q1, q2, q3, by omega, by omega, by omega, by omega, fun c hc => by have := q8 c hc; omega⟩

end Go.Proofs.Ytgjcnembeebjfaa
