/- Walks over package huff: canonical. -/
import Derived.Test.YtcdoamaljgjojaaBase
import Derived.Test.YtcdoamaljgjojaaBitsP
import Derived.Test.YtcdoamaljgjojaaHufQ
import Derived.Deep.DeepCutAuto
import Derived.Deep.LoopGhost
import Derived.StillTailTactics
namespace Go.Proofs.Ytcdoamaljgjojaa
open Go.RowKit

/-- an array of ints -/
def arrOf (f : Nat → Int) (n : Nat) : Array Value := ((List.range n).map fun j => Value.int .i64 (f j)).toArray

theorem arrOf_get (f : Nat → Int) (n i : Nat) (h : i < n) : (arrOf f n)[i]? = some (.int .i64 (f i)) := by simp [arrOf, h]
theorem arrOf_size (f : Nat → Int) (n : Nat) : (arrOf f n).size = n := by simp [arrOf]
theorem arrOf_set (f : Nat → Int) (n i : Nat) (x : Int) : (arrOf f n).setIfInBounds i (.int .i64 x) = arrOf (fun j => if j = i then x else f j) n := by
  apply Array.ext
  · simp [arrOf]
  · intro j h1 h2
    have hj : j < (arrOf f n).size := by simpa using h1
    rw [Array.getElem_setIfInBounds (hj)]
    simp only [arrOf, List.getElem_toArray, List.getElem_map, List.getElem_range]
    by_cases e : i = j
    · subst e; simp
    · rw [if_neg e, if_neg (fun h => e h.symm)]
theorem arrOf_congr (f g : Nat → Int) (n : Nat) (h : ∀ j, j < n → f j = g j) : arrOf f n = arrOf g n := by
  unfold arrOf
  congr 1
  apply List.map_congr_left
  intro j hj
  rw [h j (List.mem_range.1 hj)]

/-- the counts of lengths -/
def cntF (l : List Nat) (j : Nat) : Int := if j = 0 then 0 else (l.count j : Nat)

theorem nextOf_le (ls : List Nat) (n : Nat) (h : 1 ≤ n) : nextOf ls n + 2 * ls.length ≤ ls.length * 2 ^ n := by
  induction n with
  | zero => omega
  | succ n ih =>
    by_cases e : n = 0
    · subst e; simp [nextOf]; omega
    · have h1 := ih (by omega)
      have h2 : ls.count n ≤ ls.length := List.count_le_length
      rw [nextOf, if_neg e, Nat.pow_succ, ← Nat.mul_assoc]
      omega

theorem room_snoc (l : List Nat) (n : Nat) : room (l ++ [n]) = room l + (if n = 0 then 0 else 2 ^ (15 - n)) := by simp [room]
theorem used_snoc (l : List Nat) (n : Nat) : usedOf (l ++ [n]) = usedOf l + (if 0 < n then 1 else 0) := by
  unfold usedOf
  rw [List.filter_append, List.length_append]
  by_cases h : 0 < n <;> simp [h]
theorem long_snoc (l : List Nat) (n : Nat) : longOf (l ++ [n]) = max (longOf l) n := by simp [longOf]
theorem cntF_snoc (l : List Nat) (n : Nat) (hn : 0 < n) : cntF (l ++ [n]) = fun j => if j = n then cntF l n + 1 else cntF l j := by
  funext j
  unfold cntF
  by_cases h0 : j = 0
  · subst h0; rw [if_pos rfl, if_neg (by omega), if_pos rfl]
  · rw [if_neg h0, List.count_append]
    by_cases h : j = n
    · subst h; rw [if_pos rfl, if_neg h0]; simp
    · rw [if_neg h, if_neg h0]; simp [Ne.symm h]
theorem cntF_snoc0 (l : List Nat) : cntF (l ++ [0]) = cntF l := by
  funext j
  unfold cntF
  by_cases h0 : j = 0
  · rw [if_pos h0, if_pos h0]
  · rw [if_neg h0, if_neg h0, List.count_append]; simp [Ne.symm h0]
theorem long_le (l : List Nat) (h : ∀ n ∈ l, n ≤ 15) : longOf l ≤ 15 := by
  unfold longOf
  have : ∀ (l : List Nat) (a : Nat), a ≤ 15 → (∀ n ∈ l, n ≤ 15) → l.foldl max a ≤ 15 := by
    intro l
    induction l with
    | nil => intro a ha _; exact ha
    | cons x l ih => intro a ha hl; exact ih _ (by have := hl x (by simp); omega) (fun n hn => hl n (by simp [hn]))
  exact this l 0 (by decide) h
theorem room_le (l : List Nat) : room l ≤ l.length * 32768 := by
  induction l with
  | nil => simp [room]
  | cons n l ih =>
    have e : room (n :: l) = (if n = 0 then 0 else 2 ^ (15 - n)) + room l := by simp [room]
    have h2 : 2 ^ (15 - n) ≤ 32768 := Nat.pow_le_pow_right (n := 2) (by decide) (show 15 - n ≤ 15 by omega)
    rw [e, List.length_cons, Nat.add_mul]
    split <;> omega

theorem set_same {w : World} {A n i : Nat} {F : Nat → Int} {t : TypeId} (h : w.heap[A]? = some (.cells (arrOf F n) t (0, 0))) (_ : i < n) : (w.setCell ⟨A, i, none⟩ (.int .i64 (F i))).heap[A]? = some (.cells (arrOf F n) t (0, 0)) := by
  rw [heap_set h i _, arrOf_set]
  congr 2
  apply arrOf_congr
  intro j _
  by_cases e : j = i
  · rw [if_pos e, e]
  · rw [if_neg e]

theorem results_canon {tmps : Array Value} {w : World} {g1 : Nat} {c : Array Value} {b0 b1 b2 : Value} (h1 : w.heap[g1]? = some (.cells c 127 (0, 0))) (hc : c.size = 17)
    (p1 : tmps.getD 2 undef = .pointer (some ⟨g1, 0, none⟩)) (p2 : tmps.getD 3 undef = b0) (p3 : tmps.getD 4 undef = b1) (p4 : tmps.getD 5 undef = b2) :
    (results Try.f73 tmps).run Try.prog w = .ok (.tuple #[.agg c, b0, b1, b2]) w := by
  have q1 : tmps[2]?.getD undef = .pointer (some ⟨g1, 0, none⟩) := by simpa using p1
  have q2 : tmps[3]?.getD undef = b0 := by simpa using p2
  have q3 : tmps[4]?.getD undef = b1 := by simpa using p3
  have q4 : tmps[5]?.getD undef = b2 := by simpa using p4
  have e1 := run_loadVar_row (P := Try.prog) w g1 127 127 c (0, 0) _ h1 Try.underlying127 rfl (by rw [hc]; kernel_rfl)
  simp [results, q1, q2, q3, q4, asAddr, e1]

set_option maxHeartbeats 3200000 in
set_option maxRecDepth 1000000 in
theorem canonical_any (ls : List Nat) (h15 : ∀ n ∈ ls, n ≤ 15) (hl : ls.length ≤ 1024) (rp0 : Option Addr) (rc0 : Nat) (w : World)
    (hcells : ∀ (w' : World), Mut [] w w' → ∀ i : Nat, i < ls.length → ∃ a : Addr, rp0 = some a ∧ w'.cell? (a.add i) = some (.int .i64 ((ls.getD i 0 : Nat) : Int))) :
    Calls Try.prog 73 #[.slice rp0 ls.length rc0] w fun e w' => e = .returned (.tuple #[.agg (arrOf (fun j => (nextOf ls j : Nat)) 17), .int .i64 (room ls : Nat), .int .i64 (usedOf ls : Nat), .int .i64 (longOf ls : Nat)]) ∧ Mut [] w w' := by
  have HC := Lib.hid hcells
  clear hcells
  go_enter Try.func73, Try.ntmps73
  have HZ : Hid (∀ W : World, W = ((w.alloc (.cells #[.int .i64 0, .int .i64 0, .int .i64 0, .int .i64 0, .int .i64 0, .int .i64 0, .int .i64 0, .int .i64 0, .int .i64 0, .int .i64 0, .int .i64 0, .int .i64 0, .int .i64 0, .int .i64 0, .int .i64 0, .int .i64 0, .int .i64 0] 127)).alloc (.cells #[.int .i64 0, .int .i64 0, .int .i64 0, .int .i64 0, .int .i64 0, .int .i64 0, .int .i64 0, .int .i64 0, .int .i64 0, .int .i64 0, .int .i64 0, .int .i64 0, .int .i64 0, .int .i64 0, .int .i64 0, .int .i64 0] 142)) →
      Mut [] w W ∧ W.heap[w.heap.size]? = some (.cells (arrOf (fun _ => 0) 17) 127 (0, 0)) ∧ W.heap[w.heap.size + 1]? = some (.cells (arrOf (cntF []) 16) 142 (0, 0))) := Lib.hid (by
    rintro W rfl
    refine ⟨((Mut.refl [] w).alloc _).alloc _, ((Mut.refl [] _).alloc _).get (heap_alloc_new w _) (by simp), ?_⟩
    have h := heap_alloc_new (w.alloc (.cells (arrOf (fun _ => 0) 17) 127)) (.cells (arrOf (cntF []) 16) 142)
    rw [World.size_alloc] at h
    exact h)
  go_wp2_with fail
  go_loopw [3, 4, 5, 12] (fun rm us lg at_ wx => ∃ i : Nat, at_ = .int .i64 (i : Int) ∧ i ≤ ls.length ∧ rm = .int .i64 (room (ls.take i) : Nat) ∧ us = .int .i64 (usedOf (ls.take i) : Nat) ∧ lg = .int .i64 (longOf (ls.take i) : Nat) ∧
    Hid (Mut [] w wx ∧ wx.heap[w.heap.size]? = some (.cells (arrOf (fun _ => 0) 17) 127 (0, 0)) ∧ wx.heap[w.heap.size + 1]? = some (.cells (arrOf (cntF (ls.take i)) 16) 142 (0, 0)))) (fun _ _ _ at_ _ => ls.length - (intOf at_).toNat)
  case atStart => exact ⟨0, rfl, by omega, rfl, rfl, rfl, Lib.hid (HZ.out _ rfl)⟩
  case round =>
    obtain ⟨i, rfl, hi, rfl, rfl, rfl, HS⟩ := hrel
    by_cases hend : i < ls.length
    · have hendI : (i : Int) < (ls.length : Int) := by omega
      obtain ⟨a, rfl, ca⟩ := HC.out wr HS.out.1 i hend
      have HT : Hid (ls.take (i + 1) = ls.take i ++ [ls.getD i 0]) := Lib.hid (by rw [List.take_add_one]; simp [List.getD, hend])
      have hn15 : ls.getD i 0 ≤ 15 := by
        have : ls.getD i 0 = ls[i] := by simp [List.getD, hend]
        rw [this]
        exact h15 _ (List.getElem_mem hend)
      have hrl : room (ls.take i) ≤ 33554432 := by have := room_le (ls.take i); rw [List.length_take] at this; omega
      have hul : usedOf (ls.take i) ≤ 1024 := by have h1 := List.length_filter_le (fun n => decide (0 < n)) (ls.take i); rw [List.length_take] at h1; unfold usedOf; omega
      have hll : longOf (ls.take i) ≤ 15 := long_le _ (fun n hn => h15 n (List.mem_of_mem_take hn))
      have hcl : ∀ j, (ls.take i).count j ≤ 1024 := fun j => by have h1 : (ls.take i).count j ≤ (ls.take i).length := List.count_le_length; rw [List.length_take] at h1; omega
      generalize ls.getD i 0 = n at *
      generalize hL : ls.take i = L at *
      by_cases hn0 : n = 0
      · subst hn0
        have HR : Hid (room (L ++ [0]) = room L ∧ usedOf (L ++ [0]) = usedOf L ∧ longOf (L ++ [0]) = longOf L ∧ cntF (L ++ [0]) = cntF L) := Lib.hid ⟨by rw [room_snoc]; simp, by rw [used_snoc]; simp, by rw [long_snoc]; simp, cntF_snoc0 L⟩
        have hn0I : ¬ (0 : Int) < ((0 : Nat) : Int) := by omega
        go_wp2_with fail
        refine ⟨⟨i + 1, by rw [Int.natCast_add]; rfl, by omega, ?_, ?_, ?_, ?_⟩, by simp only [intOf]; omega⟩
        · rw [HT.out, HR.out.1]
        · rw [HT.out, HR.out.2.1]
        · rw [HT.out, HR.out.2.2.1]
        · rw [HT.out, HR.out.2.2.2]; exact HS
      · have hnI : (0 : Int) < (n : Int) := by omega
        have hn16 : (n : Int) < 16 := by omega
        have hn0' : (0 : Int) ≤ (n : Int) := by omega
        have hcn := hcl n
        have cc := cellOf HS.out.2.2 n (arrOf_get _ 16 n (by omega))
        have cf := frozenOf HS.out.2.2 n
        have ecnt : cntF L n = ((L.count n : Nat) : Int) := by unfold cntF; rw [if_neg hn0]
        rw [ecnt] at cc
        have HE := Lib.hid ecnt
        clear ecnt hcl
        have HN := Lib.hid (show 0 < n by omega)
        go_wp2_with fail
        have hp : ((2 : Int) ^ (15 - n)) = ((2 ^ (15 - n) : Nat) : Int) := by simp
        have hp2 : 2 ^ (15 - n) ≤ 32768 := Nat.pow_le_pow_right (n := 2) (by decide) (show 15 - n ≤ 15 by omega)
        refine ⟨⟨i + 1, by rw [Int.natCast_add]; rfl, by omega, ?_, ?_, ?_, Lib.hid ⟨?_, ?_, ?_⟩⟩, by simp only [intOf]; omega⟩
        · rw [HT.out, room_snoc, if_neg hn0, hp]
          generalize 2 ^ (15 - n) = P at *
          rw [IntWalk.wrap64_in (P : Int) (by omega), IntWalk.wrap64_in _ (by omega), Int.natCast_add]
        · rw [HT.out, used_snoc, if_pos HN.out, Int.natCast_add]; rfl
        · rw [HT.out, long_snoc]
          congr 1
          split <;> omega
        · exact HS.out.1.setCell (.inr (Nat.le_succ _)) _
        · rw [heap_set_ne (by omega)]
          exact HS.out.2.1
        · rw [heap_set HS.out.2.2 n _, HT.out, arrOf_set, cntF_snoc L n HN.out, HE.out]
    · have e : i = ls.length := by omega
      have hendI : ¬ (i : Int) < (ls.length : Int) := by omega
      subst e
      rw [List.take_length] at HS
      go_wp2_with fail
      go_loopw [9] (fun x wx => ∃ n : Nat, x = .int .i64 (n : Int) ∧ 1 ≤ n ∧ n ≤ 16 ∧ Hid (Mut [] w wx ∧ wx.heap[w.heap.size]? = some (.cells (arrOf (fun j => if j ≤ n then (nextOf ls j : Nat) else 0) 17) 127 (0, 0)) ∧ wx.heap[w.heap.size + 1]? = some (.cells (arrOf (cntF ls) 16) 142 (0, 0)))) (fun x _ => 17 - (intOf x).toNat)
      case atStart =>
        refine ⟨1, rfl, by omega, by omega, Lib.hid ⟨HS.out.1, ?_, HS.out.2.2⟩⟩
        rw [arrOf_congr (fun j => if j ≤ 1 then ((nextOf ls j : Nat) : Int) else 0) (fun _ => 0) 17 (fun j _ => by
          split
          · rcases (show j = 0 ∨ j = 1 by omega) with rfl | rfl <;> rfl
          · rfl)]
        exact HS.out.2.1
      case round =>
        obtain ⟨n, rfl, hn1, hn16, HQ⟩ := hrel
        clear HS hendI hend
        by_cases hn : n ≤ 15
        · have hnI : (n : Int) ≤ 15 := by omega
          have cA := cellOf HQ.out.2.1 n (arrOf_get _ 17 n (by omega))
          have cA2 := cellOf HQ.out.2.1 (n + 1) (arrOf_get _ 17 (n + 1) (by omega))
          have fA := frozenOf HQ.out.2.1 (n + 1)
          have cB := cellOf HQ.out.2.2 n (arrOf_get _ 16 n (by omega))
          rw [if_pos (Nat.le_refl n)] at cA
          rw [if_neg (by omega)] at cA2
          have ecnt : cntF ls n = ((ls.count n : Nat) : Int) := by unfold cntF; rw [if_neg (by omega)]
          rw [ecnt] at cB
          have hb1 := nextOf_le ls n hn1
          have hb2 : ls.length * 2 ^ n ≤ 1024 * 32768 := Nat.mul_le_mul hl (Nat.pow_le_pow_right (n := 2) (by decide) (show n ≤ 15 by omega))
          have hb3 : ls.count n ≤ 1024 := Nat.le_trans List.count_le_length hl
          have HNX : Hid (((nextOf ls (n + 1) : Nat) : Int) = ((nextOf ls n : Nat) + (ls.count n : Nat) : Int) * 2) := Lib.hid (by rw [nextOf, if_neg (by omega), Int.natCast_mul, Int.natCast_add]; rfl)
          have hsum : ((nextOf ls n : Nat) : Int) + ((ls.count n : Nat) : Int) ≤ 33554432 + 1024 := by omega
          generalize hNX : ((nextOf ls n : Nat) : Int) = NX at *
          generalize hCT : ((ls.count n : Nat) : Int) = CT at *
          have hN0 : 0 ≤ NX := by omega
          have hC0 : 0 ≤ CT := by omega
          have j1 : (n : Int) < 17 := by omega
          have j2 : (n : Int) + 1 < 17 := by omega
          have j3 : (n : Int) < 16 := by omega
          have j4 : (0 : Int) ≤ (n : Int) := by omega
          have j5 : (0 : Int) ≤ (n : Int) + 1 := by omega
          have j6 : ((n : Int) + 1).toNat = n + 1 := by omega
          have w1 : IntKind.i64.wrap ((n : Int) + 1) = (n : Int) + 1 := IntWalk.i64_in _ (by omega)
          have w2 : IntKind.i64.wrap (NX + CT) = NX + CT := IntWalk.i64_in _ (by omega)
          have w3 : IntKind.i64.wrap ((NX + CT) * 2) = (NX + CT) * 2 := IntWalk.i64_in _ (by omega)
          have HNX2 := Lib.hid hNX
          have HCT2 := Lib.hid hCT
          have HEC := Lib.hid ecnt
          clear ecnt hb1 hb2 hb3 hsum hNX hCT
          go_upto_region 14 with fail
          go_still_tail 11, (by kernel_rfl)
          change wpList _ _ _ _ _ wr.drew
          have HQ2 : Hid (Mut [] w wr.drew ∧ wr.drew.heap[w.heap.size]? = some (.cells (arrOf (fun j => if j ≤ n then (nextOf ls j : Nat) else 0) 17) 127 (0, 0)) ∧ wr.drew.heap[w.heap.size + 1]? = some (.cells (arrOf (cntF ls) 16) 142 (0, 0))) := Lib.hid ⟨HQ.out.1.drew, HQ.out.2⟩
          clear cA cA2 cB fA
          generalize wr.drew = W2 at *
          have cA2 := cellOf HQ2.out.2.1 (n + 1) (arrOf_get _ 17 (n + 1) (by omega))
          have fA := frozenOf HQ2.out.2.1 (n + 1)
          go_wp2_with fail
          refine ⟨⟨n + 1, by rw [Int.natCast_add]; rfl, by omega, by omega, Lib.hid ⟨?_, ?_, ?_⟩⟩, by simp only [intOf]; omega⟩
          · exact HQ2.out.1.setCell (.inr (Nat.le_refl _)) _
          · rw [heap_set HQ2.out.2.1 (n + 1) _, arrOf_set]
            congr 2
            apply arrOf_congr
            intro j hj
            by_cases e : j = n + 1
            · rw [if_pos e, e, if_pos (Nat.le_refl _), HNX.out]
            · rw [if_neg e]
              by_cases h : j ≤ n
              · rw [if_pos h, if_pos (by omega)]
              · rw [if_neg h, if_neg (by omega)]
          · rw [heap_set_ne (by omega)]
            exact HQ2.out.2.2
        · have hnI : ¬ (n : Int) ≤ 15 := by omega
          have e16 : n = 16 := by omega
          subst e16
          have hA := HQ.out.2.1
          rw [arrOf_congr (fun j => if j ≤ 16 then ((nextOf ls j : Nat) : Int) else 0) (fun j => ((nextOf ls j : Nat) : Int)) 17 (fun j hj => if_pos (by omega))] at hA
          obtain ⟨F, hF⟩ : ∃ F, (fun j => ((nextOf ls j : Nat) : Int)) = F := ⟨_, rfl⟩
          rw [hF] at hA
          have HA := Lib.hid hA
          have HF := Lib.hid hF
          clear hF
          have d0 := cellOf hA 0 (arrOf_get F 17 0 (by decide))
          have f0 := frozenOf hA 0
          have d1 := cellOf hA 1 (arrOf_get F 17 1 (by decide))
          have f1 := frozenOf hA 1
          have d2 := cellOf hA 2 (arrOf_get F 17 2 (by decide))
          have f2 := frozenOf hA 2
          have d3 := cellOf hA 3 (arrOf_get F 17 3 (by decide))
          have f3 := frozenOf hA 3
          have d4 := cellOf hA 4 (arrOf_get F 17 4 (by decide))
          have f4 := frozenOf hA 4
          have d5 := cellOf hA 5 (arrOf_get F 17 5 (by decide))
          have f5 := frozenOf hA 5
          have d6 := cellOf hA 6 (arrOf_get F 17 6 (by decide))
          have f6 := frozenOf hA 6
          have d7 := cellOf hA 7 (arrOf_get F 17 7 (by decide))
          have f7 := frozenOf hA 7
          have d8 := cellOf hA 8 (arrOf_get F 17 8 (by decide))
          have f8 := frozenOf hA 8
          have d9 := cellOf hA 9 (arrOf_get F 17 9 (by decide))
          have f9 := frozenOf hA 9
          have d10 := cellOf hA 10 (arrOf_get F 17 10 (by decide))
          have f10 := frozenOf hA 10
          have d11 := cellOf hA 11 (arrOf_get F 17 11 (by decide))
          have f11 := frozenOf hA 11
          have d12 := cellOf hA 12 (arrOf_get F 17 12 (by decide))
          have f12 := frozenOf hA 12
          have d13 := cellOf hA 13 (arrOf_get F 17 13 (by decide))
          have f13 := frozenOf hA 13
          have d14 := cellOf hA 14 (arrOf_get F 17 14 (by decide))
          have f14 := frozenOf hA 14
          have d15 := cellOf hA 15 (arrOf_get F 17 15 (by decide))
          have f15 := frozenOf hA 15
          have d16 := cellOf hA 16 (arrOf_get F 17 16 (by decide))
          have f16 := frozenOf hA 16
          clear hA
          have HMW := Lib.hid HQ.out.1
          go_wp2_with fail
          refine bodyPost_ret (results_canon (g1 := w.heap.size) (c := arrOf F 17) ?_ (arrOf_size F 17) rfl rfl rfl rfl) rfl ⟨by rw [HF.out]; rfl, ?_⟩
          · iterate 17 refine set_same ?_ (by decide)
            exact HA.out
          · iterate 17 refine Mut.setCell ?_ (.inr (Nat.le_refl _)) _
            exact HMW.out

end Go.Proofs.Ytcdoamaljgjojaa
