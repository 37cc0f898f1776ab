/- Walks over package huff: New. -/
import Derived.Test.YtgjcnembeebjfaaHufW3
import Derived.Deep.DeepCutAuto
namespace Go.Proofs.Ytgjcnembeebjfaa
open Go.RowKit

theorem info_int : (Try.prog.info? 3).map (fun i => (i.zero, i.size, i.bytes)) = some (some (.int .i64 0), 1, 8) := by kernel_rfl

def lensOf (xs : List Int) : List Nat := xs.map Int.toNat
def okLens (xs : List Int) : Bool := xs.all fun x => decide (0 ≤ x) && decide (x ≤ 15)
/-- what New tells of lengths -/
def newErr (xs : List Int) : Nat :=
  if 1024 < xs.length then 1
  else if okLens xs = false then 1
  else if 32768 < room (lensOf xs) then 6
  else if room (lensOf xs) < 32768 ∧ 0 < usedOf (lensOf xs) ∧ ¬ (usedOf (lensOf xs) = 1 ∧ longOf (lensOf xs) = 1) then 7
  else 0

theorem newErr_len (xs : List Int) (h : 1024 < xs.length) : newErr xs = 1 := by unfold newErr; rw [if_pos h]
theorem newErr_bad (xs : List Int) (h : okLens xs = false) : newErr xs = 1 := by unfold newErr; rw [if_pos h]; split <;> rfl

theorem lens_ok (xs : List Int) (h : okLens xs = true) : (∀ n ∈ lensOf xs, n ≤ 15) ∧ ∀ i, (((lensOf xs).getD i 0 : Nat) : Int) = xs.getD i 0 := by
  have h1 := List.all_eq_true.1 h
  simp only [Bool.and_eq_true, decide_eq_true_eq] at h1
  refine ⟨fun n hn => ?_, fun i => ?_⟩
  · obtain ⟨x, hx, rfl⟩ := List.mem_map.1 hn
    have := h1 x hx
    omega
  · unfold lensOf
    by_cases hi : i < xs.length
    · simp only [List.getD, List.getElem?_map, List.getElem?_eq_getElem hi, Option.map_some, Option.getD_some]
      have := h1 _ (List.getElem_mem hi)
      omega
    · simp [List.getD, List.getElem?_eq_none (Nat.le_of_not_lt hi)]

theorem okLens_take (xs : List Int) (i : Nat) (hi : i < xs.length) (h : okLens (xs.take i) = true) (h1 : 0 ≤ xs.getD i 0) (h2 : xs.getD i 0 ≤ 15) : okLens (xs.take (i + 1)) = true := by
  have e : xs.take (i + 1) = xs.take i ++ [xs.getD i 0] := by rw [List.take_add_one]; simp [List.getD, hi]
  unfold okLens at *
  rw [e, List.all_append, h]
  simp only [List.all_cons, List.all_nil, Bool.and_true, Bool.true_and, Bool.and_eq_true, decide_eq_true_eq]
  exact ⟨h1, h2⟩

theorem okLens_not (xs : List Int) (i : Nat) (hi : i < xs.length) (h : xs.getD i 0 < 0 ∨ 15 < xs.getD i 0) : okLens xs = false := by
  by_cases e : okLens xs = true
  · have := List.all_eq_true.1 e xs[i] (List.getElem_mem hi)
    simp only [Bool.and_eq_true, decide_eq_true_eq] at this
    simp only [List.getD, List.getElem?_eq_getElem hi, Option.getD_some] at h
    omega
  · simpa using e

theorem alloc3 (w : World) (o1 o2 o3 : Obj) : (((w.alloc o1).alloc o2).alloc o3).heap[w.heap.size]? = some o1 ∧ (((w.alloc o1).alloc o2).alloc o3).heap[w.heap.size + 1]? = some o2 ∧
    (((w.alloc o1).alloc o2).alloc o3).heap[w.heap.size + 1 + 1]? = some o3 ∧ Mut [] w (((w.alloc o1).alloc o2).alloc o3) := by
  have h1 := heap_alloc_new w o1
  have h2 := heap_alloc_new (w.alloc o1) o2
  have h3 := heap_alloc_new ((w.alloc o1).alloc o2) o3
  rw [World.size_alloc] at h2
  rw [World.size_alloc, World.size_alloc] at h3
  exact ⟨(((Mut.refl [] _).alloc _).alloc _).get h1 (by simp), ((Mut.refl [] _).alloc _).get h2 (by simp), h3, (((Mut.refl [] _).alloc _).alloc _).alloc _⟩

/-- what New's second loop holds -/
structure NSt (w wx : World) (A b ca g cap n lg : Nat) (F : Nat → Int) (E : List Ent) (cs : List Int) : Prop where
  arr : wx.heap[A]? = some (.cells (arrOf F 17) 170 (0, 0))
  tab : TabAt wx b (.slice (some ⟨ca, 0, none⟩) n n) g cap E lg
  row : wx.ownsRow 0 3 1 (.slice (some ⟨ca, 0, none⟩) n n) n (cs.map (Value.int .i64))
  len : cs.length = n
  kept : Mut [] w wx
  fA : w.heap.size ≤ A
  fb : w.heap.size ≤ b
  fc : w.heap.size ≤ ca
  fg : w.heap.size ≤ g

theorem row_set {w : World} {base : Nat} {e : TypeId} {v : Value} {n : Nat} {xs : List Value} (h : w.ownsRow base e 1 v n xs) {g : Nat} (hg : v.ownBlock = some g) (i : Nat) (u : Value) :
    (w.setCell ⟨g, i, none⟩ u).ownsRow base e 1 v n (xs.set i u) := by
  refine ⟨by rw [List.length_set]; exact h.1, ?_⟩
  rcases h.2 with ⟨rfl, h0⟩ | ⟨g', cap, cur, rfl, hb, hh, r1, r2, r3, r4⟩
  · simp [Value.ownBlock] at hg
  · simp [Value.ownBlock] at hg
    subst hg
    refine .inr ⟨g', cap, _, rfl, hb, heap_set hh i u, r1, r2, by simpa using r3, ?_⟩
    rw [← r4, Array.toList_setIfInBounds, List.take_set]

theorem NSt.facts {w wx : World} {A b ca g cap n lg : Nat} {F : Nat → Int} {E : List Ent} {cs : List Int} (h : NSt w wx A b ca g cap n lg F E cs) :
    b ≠ g ∧ b ≠ ca ∧ b ≠ A ∧ g ≠ ca ∧ g ≠ A ∧ ca ≠ A ∧ A < wx.heap.size ∧ b < wx.heap.size ∧ ca < wx.heap.size ∧ g < wx.heap.size := by
  obtain ⟨cur, hg, _⟩ := h.tab.2.open
  have hb := h.tab.1
  have hA := h.arr
  have h1 : ca ≠ b := fun e => row_ne h.row hb (by decide) (by rw [e]; rfl)
  have h2 : ca ≠ g := fun e => row_ne h.row hg (by decide) (by rw [e]; rfl)
  have h3 : ca ≠ A := fun e => row_ne h.row hA (by decide) (by rw [e]; rfl)
  have h4 : b ≠ A := fun e => by rw [e, hA] at hb; simp at hb
  have h5 : g ≠ A := fun e => by rw [e, hA] at hg; simp at hg
  exact ⟨h.tab.ne, fun e => h1 e.symm, h4, fun e => h2 e.symm, h5, h3, lt_of_heap hA, lt_of_heap hb, (h.row.lt ca rfl).2, lt_of_heap hg⟩

theorem NSt.code {w wx : World} {A b ca g cap n lg : Nat} {F : Nat → Int} {E : List Ent} {cs : List Int} (h : NSt w wx A b ca g cap n lg F E cs) (k : Nat) (c : Int) :
    NSt w (wx.setCell ⟨ca, k, none⟩ (.int .i64 c)) A b ca g cap n lg F E (cs.set k c) := by
  obtain ⟨e1, e2, e3, e4, e5, e6, _⟩ := h.facts
  refine ⟨?_, ⟨?_, ?_⟩, ?_, by rw [List.length_set]; exact h.len, h.kept.setCell (.inr h.fc) _, h.fA, h.fb, h.fc, h.fg⟩
  · rw [heap_set_ne (Ne.symm e6)]; exact h.arr
  · rw [heap_set_ne e2]; exact h.tab.1
  · exact row_set_ne h.tab.2 (fun k hk => by simp [Value.ownBlock] at hk; omega) _
  · rw [List.map_set]
    exact row_set h.row rfl k _

theorem NSt.drew {w wx : World} {A b ca g cap n lg : Nat} {F : Nat → Int} {E : List Ent} {cs : List Int} (h : NSt w wx A b ca g cap n lg F E cs) : NSt w wx.drew A b ca g cap n lg F E cs :=
  ⟨h.arr, h.tab, h.row, h.len, h.kept.drew, h.fA, h.fb, h.fc, h.fg⟩

theorem NSt.next {w wx : World} {A b ca g cap n lg : Nat} {F : Nat → Int} {E : List Ent} {cs : List Int} (h : NSt w wx A b ca g cap n lg F E cs) (j : Nat) (x : Int) :
    NSt w (wx.setCell ⟨A, j, none⟩ (.int .i64 x)) A b ca g cap n lg (fun i => if i = j then x else F i) E cs := by
  obtain ⟨e1, e2, e3, e4, e5, e6, _⟩ := h.facts
  refine ⟨?_, ⟨?_, ?_⟩, ?_, h.len, h.kept.setCell (.inr h.fA) _, h.fA, h.fb, h.fc, h.fg⟩
  · rw [heap_set h.arr, arrOf_set]
  · rw [heap_set_ne e3]; exact h.tab.1
  · exact row_set_ne h.tab.2 (fun k hk => by simp [Value.ownBlock] at hk; omega) _
  · exact row_set_ne h.row (fun k hk => by simp [Value.ownBlock] at hk; omega) _

theorem NSt.lay {w wx w' : World} {A b ca g cap g' cap' n lg : Nat} {F : Nat → Int} {E E' : List Ent} {cs : List Int} (h : NSt w wx A b ca g cap n lg F E cs)
    (ht : TabAt w' b (.slice (some ⟨ca, 0, none⟩) n n) g' cap' E' lg) (m : Mut [b, g] wx w') (hg : g' = g ∨ wx.heap.size ≤ g') : NSt w w' A b ca g' cap' n lg F E' cs := by
  obtain ⟨e1, e2, e3, e4, e5, e6, _⟩ := h.facts
  have hs := h.kept.size
  have h1 := h.fb
  have h2 := h.fg
  refine ⟨m.get h.arr (by simp; omega), ht, m.row h.row (fun k hk => by simp [Value.ownBlock] at hk; simp; omega), h.len, h.kept.trans m (fun x hx => ?_), h.fA, h.fb, h.fc, ?_⟩
  · simp at hx
    rcases hx with rfl | rfl <;> exact .inr (by assumption)
  · rcases hg with h | h <;> omega

def nextTo (ls : List Nat) (k : Nat) (j : Nat) : Int := ((nextOf ls j : Nat) : Int) + ((if j = 0 then 0 else (ls.take k).count j : Nat) : Int)
def codesTo (ls : List Nat) (k : Nat) : List Int := (List.range ls.length).map fun j => if j < k then ((codeOf ls j : Nat) : Int) else 0

theorem nextTo_zero (ls : List Nat) : nextTo ls 0 = fun j => ((nextOf ls j : Nat) : Int) := by
  funext j
  simp [nextTo]

theorem take_lenAt (ls : List Nat) (k : Nat) (hk : k < ls.length) : ls.take (k + 1) = ls.take k ++ [lenAt ls k] := by
  rw [List.take_add_one]; simp [lenAt, List.getD, hk]

theorem nextTo_skip (ls : List Nat) (k : Nat) (hk : k < ls.length) (h : lenAt ls k = 0) : nextTo ls (k + 1) = nextTo ls k := by
  funext j
  unfold nextTo
  rw [take_lenAt ls k hk, h, List.count_append]
  by_cases hj : j = 0
  · rw [if_pos hj, if_pos hj]
  · rw [if_neg hj, if_neg hj]
    have : ([0] : List Nat).count j = 0 := by simp [Ne.symm hj]
    rw [this, Nat.add_zero]

theorem nextTo_step (ls : List Nat) (k : Nat) (hk : k < ls.length) (h : lenAt ls k ≠ 0) : nextTo ls (k + 1) = fun j => if j = lenAt ls k then nextTo ls k (lenAt ls k) + 1 else nextTo ls k j := by
  funext j
  unfold nextTo
  rw [take_lenAt ls k hk, List.count_append]
  by_cases hj : j = lenAt ls k
  · subst hj
    rw [if_pos rfl, if_neg h, if_neg h]
    simp
    omega
  · rw [if_neg hj]
    by_cases h0 : j = 0
    · rw [if_pos h0, if_pos h0]
    · rw [if_neg h0, if_neg h0]
      have : ([lenAt ls k] : List Nat).count j = 0 := by simp [Ne.symm hj]
      rw [this, Nat.add_zero]

theorem nextTo_code (ls : List Nat) (k : Nat) (h : lenAt ls k ≠ 0) : nextTo ls k (lenAt ls k) = ((codeOf ls k : Nat) : Int) := by
  unfold nextTo codeOf
  rw [if_neg h, if_neg h]
  simp

theorem codesTo_zero (ls : List Nat) : codesTo ls 0 = List.replicate ls.length 0 := by
  apply List.ext_getElem <;> simp [codesTo]

theorem codesTo_skip (ls : List Nat) (k : Nat) (h : lenAt ls k = 0) : codesTo ls (k + 1) = codesTo ls k := by
  unfold codesTo
  apply List.map_congr_left
  intro j _
  by_cases hj : j < k
  · rw [if_pos hj, if_pos (by omega)]
  · rw [if_neg hj]
    by_cases h2 : j < k + 1
    · rw [if_pos h2, show j = k by omega]
      unfold codeOf
      rw [if_pos h]
      rfl
    · rw [if_neg h2]

theorem codesTo_step (ls : List Nat) (k : Nat) : (codesTo ls k).set k ((codeOf ls k : Nat) : Int) = codesTo ls (k + 1) := by
  apply List.ext_getElem
  · simp [codesTo]
  · intro j h1 h2
    rw [List.getElem_set]
    simp only [codesTo, List.getElem_map, List.getElem_range]
    by_cases hj : k = j
    · rw [if_pos hj, if_pos (by omega), hj]
    · rw [if_neg hj]
      by_cases h3 : j < k
      · rw [if_pos h3, if_pos (by omega)]
      · rw [if_neg h3, if_neg (by omega)]

theorem codesTo_all (ls : List Nat) : codesTo ls ls.length = (codesOf ls).map fun n : Nat => (n : Int) := by
  unfold codesTo codesOf
  rw [List.map_map]
  apply List.map_congr_left
  intro j hj
  rw [if_pos (List.mem_range.1 hj)]
  rfl

theorem NSt.table {w wx : World} {A b ca g cap : Nat} {ls : List Nat} {F : Nat → Int} {E : List Ent} (h : NSt w wx A b ca g cap ls.length (longOf ls) F E (codesTo ls ls.length)) (hE : LkOf ls ls.length E) : TableIs wx w.heap.size wx.heap.size b ls := by
  obtain ⟨_, _, _, _, _, _, h1, h2, h3, h4⟩ := h.facts
  refine ⟨_, g, cap, E, h.tab, ?_, hE, h.fb, h2, h.fg, h4, fun c hc => ?_⟩
  · have := h.row
    rw [codesTo_all, List.map_map] at this
    exact this
  · simp [Value.ownBlock] at hc
    subst hc
    exact ⟨h.fc, h3⟩

theorem lay_any (b : Nat) (cv : Value) (g cap : Nat) (E : List Ent) (long s n bt : Nat) (w : World) (h : TabAt w b cv g cap E long) (hwf : WFT E long) (hl : long ≤ 15) (hE : E.length ≤ 100000) (hn1 : 1 ≤ n) (hn : n ≤ long) (hb : bt < 2 ^ n) :
    Calls Try.prog 110 #[.pointer (some ⟨b, 0, none⟩), .int .i64 (s : Nat), .int .i64 (n : Nat), .int .i64 (bt : Nat)] w fun e w' => e = .returned (.tuple #[]) ∧ ∃ g' cap', TabAt w' b cv g' cap' (layE E long s n bt) long ∧ Mut [b, g] w w' ∧ (g' = g ∨ w.heap.size ≤ g') := by
  by_cases h9 : n ≤ 9
  · refine (lay_short_any b cv g cap E long s n bt w h hwf.len hE hn1 h9 hb).mono fun e w' ⟨he, ht, hm⟩ => ⟨he, g, cap, ?_, hm.mono (by simp), .inl rfl⟩
    unfold layE
    rw [if_pos h9]
    exact ht
  · exact lay_long_any b cv g cap E long s n bt w h hwf hl hE (by omega) hn hb

theorem madeCells_int (n : Nat) : (madeCells (Value.int .i64 0).cells n).toList = (List.replicate n (0 : Int)).map (Value.int .i64) := by
  apply List.ext_getElem
  · rw [Array.length_toList, size_madeCells]; simp
  · intro i h1 h2
    simp [madeCells, Value.cells, Nat.mod_one]

theorem madeCells_entry (n : Nat) : (madeCells (Value.agg #[.int .i64 0, .int .i64 0, .int .i64 0]).cells (n * 3)).toList = entCells (List.replicate n (0, 0, 0)) := by
  rw [entCells_zeros]
  apply List.ext_getElem
  · rw [Array.length_toList, size_madeCells]; simp
  · intro i h1 h2
    simp only [madeCells, Array.getElem_toList, Array.getElem_map, Array.getElem_range, List.getElem_replicate, Value.cells]
    rcases (show i % 3 = 0 ∨ i % 3 = 1 ∨ i % 3 = 2 by omega) with h | h | h <;> simp [h]

theorem new_start {w wc W : World} {A n lg ca g b : Nat} {F : Nat → Int} {Z1 Z2 : Array Value} (hA : w.heap.size ≤ A ∧ wc.heap[A]? = some (.cells (arrOf F 17) 170 (0, 0)) ∧ Mut [] w wc)
    (hZ1 : madeCells (Value.int .i64 0).cells n = Z1) (hZ2 : madeCells (Value.agg #[.int .i64 0, .int .i64 0, .int .i64 0]).cells 1536 = Z2) (hn : n ≤ 1024)
    (m : Mut [] wc W) (h1 : W.heap[ca]? = some (.cells Z1 3 (0, 0))) (h2 : W.heap[g]? = some (.cells Z2 182 (0, 0))) (h3 : W.heap[b]? = some (.cells #[.slice (some ⟨ca, 0, none⟩) n n, .slice (some ⟨g, 0, none⟩) 512 512, .int .i64 (lg : Nat)] 175 (0, 0)))
    (f1 : wc.heap.size ≤ ca) (f2 : wc.heap.size ≤ g) (f3 : wc.heap.size ≤ b) : NSt w W A b ca g 512 n lg F (List.replicate 512 (0, 0, 0)) (List.replicate n 0) := by
  have hs := hA.2.2.size
  refine ⟨m.get hA.2.1 (by simp), ⟨?_, ?_⟩, ?_, by simp, hA.2.2.trans m (by simp), hA.1, by omega, by omega, by omega⟩
  · rw [List.length_replicate]; exact h3
  · refine LkIs.shut h2 (by rw [List.length_replicate]; exact Nat.le_refl _) (by unfold maxLen; decide) (by rw [← hZ2, size_madeCells]) ?_
    rw [List.length_replicate, ← hZ2, show (1536 : Nat) = 512 * 3 from rfl, madeCells_entry, List.take_of_length_le (by rw [entCells_length, List.length_replicate]; exact Nat.le_refl _)]
  · refine ⟨by simp, .inr ⟨ca, n, Z1, rfl, Nat.zero_le _, h1, Nat.le_refl _, by unfold maxLen; omega, by rw [← hZ1, size_madeCells, Nat.mul_one], ?_⟩⟩
    rw [← hZ1, madeCells_int, List.take_of_length_le (by simp)]

set_option maxHeartbeats 3200000 in
set_option maxRecDepth 1000000 in
theorem new_any (xs : List Int) (hlen : xs.length ≤ 1073741824) (rp0 : Option Addr) (rc0 : Nat) (w : World)
    (hcells : ∀ (w' : World), Mut [] w w' → ∀ i : Nat, i < xs.length → ∃ a : Addr, rp0 = some a ∧ w'.cell? (a.add i) = some (.int .i64 (xs.getD i 0))) :
    Calls Try.prog 93 #[.slice rp0 xs.length rc0] w fun e w' => ((newErr xs ≠ 0 ∧ e = .returned (.tuple #[.pointer none, .int .i64 (newErr xs : Nat)])) ∨
      (newErr xs = 0 ∧ ∃ b, e = .returned (.tuple #[.pointer (some ⟨b, 0, none⟩), .int .i64 0]) ∧ TableIs w' w.heap.size w'.heap.size b (lensOf xs))) ∧ Mut [] w w' := by
  have HC := Lib.hid hcells
  clear hcells
  by_cases hl : 1024 < xs.length
  · have hE := newErr_len xs hl
    have HE := Lib.hid hE
    have hlI : (1024 : Int) < (xs.length : Int) := by omega
    clear hE
    go_enter Try.func93, Try.ntmps93
    go_wp2_with fail
    refine bodyPost_ret (results_tmp2 rfl _ _ _) rfl ⟨.inl ⟨by rw [HE.out]; decide, by rw [HE.out]; rfl⟩, Mut.refl _ _⟩
  · have hlI : ¬ (1024 : Int) < (xs.length : Int) := by omega
    go_enter Try.func93, Try.ntmps93
    go_wp2_with fail
    go_loop [18] (fun x => ∃ i : Nat, x = .int .i64 (i : Int) ∧ i ≤ xs.length ∧ Hid (okLens (xs.take i) = true)) (fun x => xs.length - (intOf x).toNat)
    case atStart => exact ⟨0, rfl, by omega, Lib.hid rfl⟩
    case round =>
      obtain ⟨i, rfl, hi, HS⟩ := hrel
      by_cases hend : i < xs.length
      · have hendI : (i : Int) < (xs.length : Int) := by omega
        obtain ⟨a, rfl, ca⟩ := HC.out w (Mut.refl _ _) i hend
        have HT : Hid (0 ≤ xs.getD i 0 → xs.getD i 0 ≤ 15 → okLens (xs.take (i + 1)) = true) := Lib.hid (okLens_take xs i hend HS.out)
        have HB : Hid (xs.getD i 0 < 0 ∨ 15 < xs.getD i 0 → newErr xs = 1) := Lib.hid fun h => newErr_bad xs (okLens_not xs i hend h)
        generalize xs.getD i 0 = x at *
        by_cases h0 : x < 0
        · have HE : Hid (newErr xs = 1) := Lib.hid (HB.out (.inl h0))
          go_wp2_with fail
          refine bodyPost_ret (results_tmp2 rfl _ _ _) rfl ⟨.inl ⟨by rw [HE.out]; decide, by rw [HE.out]; rfl⟩, Mut.refl _ _⟩
        · by_cases h15 : 15 < x
          · have HE : Hid (newErr xs = 1) := Lib.hid (HB.out (.inr h15))
            go_wp2_with fail
            refine bodyPost_ret (results_tmp2 rfl _ _ _) rfl ⟨.inl ⟨by rw [HE.out]; decide, by rw [HE.out]; rfl⟩, Mut.refl _ _⟩
          · go_wp2_with fail
            exact ⟨⟨i + 1, by rw [Int.natCast_add]; rfl, by omega, Lib.hid (HT.out (by omega) (by omega))⟩, by simp only [intOf]; omega⟩
      · have e : i = xs.length := by omega
        have hendI : ¬ (i : Int) < (xs.length : Int) := by omega
        subst e
        rw [List.take_length] at HS
        obtain ⟨h15, hget⟩ := lens_ok xs HS.out
        have hcan := canonical_any (lensOf xs) h15 (by simp [lensOf]; omega) rp0 rc0 w (fun w' m i hi => by
          rw [hget]
          exact HC.out w' m i (by simpa [lensOf] using hi))
        rw [show (lensOf xs).length = xs.length by simp [lensOf]] at hcan
        obtain ⟨F, hF⟩ : ∃ F : Nat → Int, F = fun j => ((nextOf (lensOf xs) j : Nat) : Int) := ⟨_, rfl⟩
        rw [← hF] at hcan
        have hcan2 : Calls Try.prog 109 #[.slice rp0 xs.length rc0] w fun e w' => e = .returned (.tuple #[.agg #[.int .i64 (F 0), .int .i64 (F 1), .int .i64 (F 2), .int .i64 (F 3), .int .i64 (F 4), .int .i64 (F 5), .int .i64 (F 6), .int .i64 (F 7), .int .i64 (F 8), .int .i64 (F 9), .int .i64 (F 10), .int .i64 (F 11), .int .i64 (F 12), .int .i64 (F 13), .int .i64 (F 14), .int .i64 (F 15), .int .i64 (F 16)], .int .i64 (room (lensOf xs) : Nat), .int .i64 (usedOf (lensOf xs) : Nat), .int .i64 (longOf (lensOf xs) : Nat)]) ∧ Mut [] w w' := hcan
        have HF := Lib.hid hF
        have HCAN := Lib.hid hcan2
        clear hF hcan2
        have H15 := Lib.hid h15
        have HG := Lib.hid hget
        clear hcan h15 hget
        obtain ⟨rm, hrm⟩ : ∃ n, room (lensOf xs) = n := ⟨_, rfl⟩
        obtain ⟨us, hus⟩ : ∃ n, usedOf (lensOf xs) = n := ⟨_, rfl⟩
        obtain ⟨lg, hlg⟩ : ∃ n, longOf (lensOf xs) = n := ⟨_, rfl⟩
        rw [hrm, hus, hlg] at HCAN
        have HNE : Hid (newErr xs = if 32768 < rm then 6 else if rm < 32768 ∧ 0 < us ∧ ¬ (us = 1 ∧ lg = 1) then 7 else 0) := Lib.hid (by
          unfold newErr
          rw [if_neg hl, if_neg (by rw [HS.out]; simp), hrm, hus, hlg])
        have HRM := Lib.hid hrm
        have HUS := Lib.hid hus
        have HLG := Lib.hid hlg
        clear hrm hus hlg
        go_upto_region 9 with fail
        go_cut [6, 7, 8, 9] (fun s6 s7 s8 s9 wx => s7 = .int .i64 (rm : Nat) ∧ s8 = .int .i64 (us : Nat) ∧ s9 = .int .i64 (lg : Nat) ∧ ∃ A : Nat, s6 = .pointer (some ⟨A, 0, none⟩) ∧ Hid (w.heap.size ≤ A ∧ wx.heap[A]? = some (.cells (arrOf F 17) 170 (0, 0)) ∧ Mut [] w wx))
        case first =>
          go_wp2_with (go_at_call 109; refine HCAN.out.mono ?_; rintro e w1 ⟨rfl, hm1⟩; have HM1 := Lib.hid hm1; clear hm1)
          go_meet
          exact ⟨rfl, rfl, rfl, w1.heap.size, rfl, Lib.hid ⟨HM1.out.size, heap_alloc_new w1 _, HM1.out.alloc _⟩⟩
        case rest =>
          obtain ⟨rfl, rfl, rfl, A, rfl, HA⟩ := hcut
          go_step
          go_step
          go_cut [] (fun wx => wx = wc ∧ Hid (newErr xs = 0))
          case first =>
            by_cases hr : 32768 < rm
            · have hrI : (32768 : Int) < (rm : Int) := by omega
              have HE : Hid (newErr xs = 6) := Lib.hid (by rw [HNE.out, if_pos hr])
              go_wp2_with fail
              refine bodyPost_ret (results_tmp2 rfl _ _ _) rfl ⟨.inl ⟨by rw [HE.out]; decide, by rw [HE.out]; rfl⟩, HA.out.2.2⟩
            · have hrI : ¬ (32768 : Int) < (rm : Int) := by omega
              by_cases hr2 : rm < 32768
              · have hr2I : (rm : Int) < 32768 := by omega
                by_cases hu0 : 0 < us
                · have hu0I : (0 : Int) < (us : Int) := by omega
                  by_cases hu1 : us = 1
                  · subst hu1
                    by_cases hg1 : lg = 1
                    · subst hg1
                      have HE : Hid (newErr xs = 0) := Lib.hid (by rw [HNE.out, if_neg hr, if_neg (fun h => h.2.2 ⟨rfl, rfl⟩)])
                      go_wp2_with fail
                      go_meet
                      exact ⟨rfl, HE⟩
                    · have hg1I : ((lg : Int) == 1) = false := by simpa using (show ¬ (lg : Int) = 1 by omega)
                      have HE : Hid (newErr xs = 7) := Lib.hid (by rw [HNE.out, if_neg hr, if_pos ⟨hr2, hu0, fun h => hg1 h.2⟩])
                      go_wp2_with fail
                      refine bodyPost_ret (results_tmp2 rfl _ _ _) rfl ⟨.inl ⟨by rw [HE.out]; decide, by rw [HE.out]; rfl⟩, HA.out.2.2⟩
                  · have hu1I : ((us : Int) == 1) = false := by simpa using (show ¬ (us : Int) = 1 by omega)
                    have HE : Hid (newErr xs = 7) := Lib.hid (by rw [HNE.out, if_neg hr, if_pos ⟨hr2, hu0, fun h => hu1 h.1⟩])
                    go_wp2_with fail
                    refine bodyPost_ret (results_tmp2 rfl _ _ _) rfl ⟨.inl ⟨by rw [HE.out]; decide, by rw [HE.out]; rfl⟩, HA.out.2.2⟩
                · have hu0I : ¬ (0 : Int) < (us : Int) := by omega
                  have HE : Hid (newErr xs = 0) := Lib.hid (by rw [HNE.out, if_neg hr, if_neg (fun h => hu0 h.2.1)])
                  go_wp2_with fail
                  go_meet
                  exact ⟨rfl, HE⟩
              · have hr2I : ¬ (rm : Int) < 32768 := by omega
                have HE : Hid (newErr xs = 0) := Lib.hid (by rw [HNE.out, if_neg hr, if_neg (fun h => hr2 h.1)])
                go_wp2_with fail
                go_meet
                exact ⟨rfl, HE⟩
          case rest =>
            obtain ⟨rfl, HE⟩ := hcut
            have hn1024 : xs.length ≤ 1024 := by omega
            obtain ⟨Z1, hZ1⟩ : ∃ Z, madeCells (Value.int .i64 0).cells xs.length = Z := ⟨_, rfl⟩
            obtain ⟨Z2, hZ2⟩ : ∃ Z, madeCells (Value.agg #[.int .i64 0, .int .i64 0, .int .i64 0]).cells 1536 = Z := ⟨_, rfl⟩
            have hmk1 : ∀ W : World, (Instr.makeSlice 88 (.int .i64 (xs.length : Int)) (.int .i64 (xs.length : Int))).run Try.prog W = .ok (.slice (some ⟨W.heap.size, 0, none⟩) xs.length xs.length) (W.alloc (.cells Z1 3)) := by
              intro W
              obtain ⟨i0, hi, hz0, hz1, hz2⟩ := info_parts info_int
              have := run_make (P := Try.prog) W 88 3 i0 _ Try.underlying88 hi hz0 .i64 .i64 (xs.length : Int) (xs.length : Int) (by omega) (by omega) (by rw [hz2]; omega) (by omega)
              rw [hz1, Int.toNat_natCast, Nat.mul_one, hZ1] at this
              exact this
            have hmk2 : ∀ W : World, (Instr.makeSlice 173 (.int .i64 512) (.int .i64 512)).run Try.prog W = .ok (.slice (some ⟨W.heap.size, 0, none⟩) 512 512) (W.alloc (.cells Z2 182)) := by
              intro W
              obtain ⟨i0, hi, hz0, hz1, hz2⟩ := info_parts info_entry
              have := run_make (P := Try.prog) W 173 182 i0 _ Try.underlying173 hi hz0 .i64 .i64 512 512 (by decide) (by decide) (by rw [hz2]; decide) (by decide)
              rw [hz1, show (512 : Int).toNat * 3 = 1536 from rfl, hZ2] at this
              exact this
            have HZ1 := Lib.hid hZ1
            have HZ2 := Lib.hid hZ2
            clear hZ1 hZ2
            go_upto_region 14 with fail
            go_cut [10] (fun s10 wx => ∃ b ca g : Nat, s10 = .pointer (some ⟨b, 0, none⟩) ∧ Hid (NSt w wx A b ca g 512 xs.length lg F (List.replicate 512 (0, 0, 0)) (List.replicate xs.length 0)))
            case first =>
              go_region
              all_goals go_wp2_with fail
              all_goals go_meet
              · obtain ⟨a1, a2, a3, a4⟩ := alloc3 wc (.cells Z1 3) (.cells Z2 182) (.cells #[.slice (some ⟨wc.heap.size, 0, none⟩) xs.length xs.length, .slice (some ⟨wc.heap.size + 1, 0, none⟩) 512 512, .int .i64 (lg : Nat)] 175)
                exact ⟨_, _, _, rfl, Lib.hid (new_start HA.out HZ1.out HZ2.out hn1024 a4.drew a1 a2 a3 (Nat.le_refl _) (by omega) (by omega))⟩
              · obtain ⟨a1, a2, a3, a4⟩ := alloc3 wc (.cells Z2 182) (.cells Z1 3) (.cells #[.slice (some ⟨wc.heap.size + 1, 0, none⟩) xs.length xs.length, .slice (some ⟨wc.heap.size, 0, none⟩) 512 512, .int .i64 (lg : Nat)] 175)
                exact ⟨_, _, _, rfl, Lib.hid (new_start HA.out HZ1.out HZ2.out hn1024 a4.drew a2 a1 a3 (by omega) (Nat.le_refl _) (by omega))⟩
            case rest =>
              obtain ⟨b, ca, g, rfl, HN⟩ := hcut
              clear hmk1 hmk2 HZ1 HZ2 HA
              obtain ⟨ls, hls⟩ : ∃ ls, lensOf xs = ls := ⟨_, rfl⟩
              have hln : ls.length = xs.length := by rw [← hls]; simp [lensOf]
              rw [hls] at HRM HLG H15 HG HF
              have HLS := Lib.hid hls
              have HCL : Hid (∀ W : World, Mut [] w W → ∀ i, i < ls.length → ∃ a : Addr, rp0 = some a ∧ W.cell? (a.add i) = some (.int .i64 ((lenAt ls i : Nat) : Int))) := Lib.hid (fun W m i hi => by
                obtain ⟨a, h1, h2⟩ := HC.out W m i (by omega)
                refine ⟨a, h1, ?_⟩
                rw [h2, ← HG.out i]
                rfl)
              have HN0 : Hid (NSt w wc A b ca g 512 ls.length (longOf ls) (nextTo ls 0) (List.replicate 512 (0, 0, 0)) (codesTo ls 0)) := Lib.hid (by
                rw [hln, HLG.out, nextTo_zero, codesTo_zero, hln, ← HF.out]
                exact HN.out)
              have hroom : room ls ≤ 32768 := by
                have h1 := HNE.out
                rw [HE.out] at h1
                by_cases hh : 32768 < rm
                · rw [if_pos hh] at h1; cases h1
                · have := HRM.out
                  omega
              have hlg15 : longOf ls ≤ 15 := long_le ls H15.out
              have hn1024' : ls.length ≤ 1024 := by omega
              clear hls HF HNE HUS HRM HN HCAN HC HG
              rw [← hln] at *
              clear hln
              go_wp2_with fail
              go_loopw [64] (fun x wx => ∃ k g cap E, x = .int .i64 ((k : Nat) : Int) ∧ k ≤ ls.length ∧ Hid (NSt w wx A b ca g cap ls.length (longOf ls) (nextTo ls k) E (codesTo ls k)) ∧ Hid (LkOf ls k E)) (fun x _ => ls.length - (intOf x).toNat)
              case atStart => exact ⟨0, g, 512, _, rfl, Nat.zero_le _, HN0, Lib.hid (LkOf.start ls)⟩
              case round =>
                obtain ⟨k, g, cap, E, rfl, hk, HS2, HLK⟩ := hrel
                by_cases hend2 : k < ls.length
                · have hend2I : (k : Int) < (ls.length : Int) := by omega
                  obtain ⟨a, rfl, hca⟩ := HCL.out wr HS2.out.kept k hend2
                  have hn15 : lenAt ls k ≤ 15 := H15.out _ (lenAt_mem ls k hend2)
                  have HNL : Hid (lenAt ls k ≤ longOf ls) := Lib.hid (longOf_ge ls _ (lenAt_mem ls k hend2))
                  obtain ⟨nk, hnk⟩ : ∃ n, lenAt ls k = n := ⟨_, rfl⟩
                  rw [hnk] at hca hn15 HNL
                  by_cases hz : nk = 0
                  · subst hz
                    have hS3 := HS2.out
                    rw [← nextTo_skip ls k hend2 hnk, ← codesTo_skip ls k hnk] at hS3
                    have HS3 := Lib.hid hS3
                    have HLK3 := Lib.hid (HLK.out.skip hnk)
                    clear hS3 HS2 HLK hnk
                    go_wp2_with fail
                    exact ⟨⟨k + 1, g, cap, E, by rw [Int.natCast_add]; rfl, by omega, HS3, HLK3⟩, by simp only [intOf]; omega⟩
                  · have hz0 : (0 : Int) < (nk : Int) := by omega
                    have hcode := nextTo_code ls k (by rw [hnk]; exact hz)
                    rw [hnk] at hcode
                    have hclt := code_lt ls H15.out hroom k hend2 (by rw [hnk]; omega)
                    rw [hnk] at hclt
                    have hp15 : 2 ^ nk ≤ 32768 := Nat.pow_le_pow_right (n := 2) (by decide) hn15
                    have hclt2 : codeOf ls k < 32768 := Nat.lt_of_lt_of_le hclt hp15
                    have HCLT := Lib.hid hclt
                    obtain ⟨cd, hcd⟩ : ∃ c, codeOf ls k = c := ⟨_, rfl⟩
                    rw [hcd] at hcode hclt2 HCLT
                    have hS3 := HS2.out
                    have hS4 := hS3.code k (cd : Int)
                    rw [← hcd, codesTo_step] at hS4
                    rw [hcd] at hS4
                    obtain ⟨c0, c1, c2, _, _, _⟩ := cells3 hS3.tab.1
                    have cA := cellOf hS3.arr nk (arrOf_get _ 17 nk (by omega))
                    rw [hcode] at cA
                    have fR := hS3.row.frozenAt k
                    obtain ⟨xv, cR⟩ : ∃ x, wr.cell? ⟨ca, k, none⟩ = some x := by
                      have h1 := hS3.row.cellAt k (by omega)
                      have h2 : k < ((codesTo ls k).map (Value.int .i64)).length := by rw [List.length_map, hS3.len]; omega
                      rw [List.getElem?_eq_getElem h2] at h1
                      exact ⟨_, h1⟩
                    have HS4 := Lib.hid hS4
                    have HCODE := Lib.hid hcode
                    have HCD := Lib.hid hcd
                    have HNK := Lib.hid hnk
                    clear hS3 hS4 HS2 hcode hcd hnk hclt hp15
                    have hnk17 : (nk : Int) < 17 := by omega
                    go_upto_region 19 with fail
                    go_still_tail 9, (by kernel_rfl)
                    change wpList _ _ _ _ _ wr.drew
                    go_upto_region 20 with fail
                    have HS5 : Hid (NSt w (wr.setCell ⟨ca, k, none⟩ (.int .i64 (cd : Int))).drew A b ca g cap ls.length (longOf ls) (nextTo ls k) E (codesTo ls (k + 1))) := Lib.hid HS4.out.drew
                    clear HS4 c0 c1 c2 cA fR cR hca
                    generalize (wr.setCell ⟨ca, k, none⟩ (.int .i64 (cd : Int))).drew = W4 at *
                    have cA := cellOf HS5.out.arr nk (arrOf_get _ 17 nk (by omega))
                    rw [HCODE.out] at cA
                    have hElen : E.length ≤ 100000 := by have := HLK.out.len; omega
                    have HLAY := Lib.hid (lay_any b _ g cap E (longOf ls) k nk (flipN nk cd) W4 HS5.out.tab HLK.out.wf hlg15 hElen (by omega) HNL.out (flip_lt nk cd))
                    have HTU := Lib.hid (turned_any cd nk (by omega) hn15 hclt2 W4)
                    go_upto_region 21 with (first | (go_at_call 111; refine HTU.out.mono ?_; rintro e w5 ⟨rfl, rfl⟩) | (go_at_call 110; refine HLAY.out.mono ?_; rintro e w5 ⟨rfl, g2, cap2, ht, hm, hg⟩; have HT5 := Lib.hid ht; have HM5 := Lib.hid hm; have HG5 := Lib.hid hg; clear ht hm hg))
                    have HS6 : Hid (NSt w w5 A b ca g2 cap2 ls.length (longOf ls) (nextTo ls k) (layE E (longOf ls) k nk (flipN nk cd)) (codesTo ls (k + 1))) := Lib.hid (HS5.out.lay HT5.out HM5.out HG5.out)
                    have HLK6 : Hid (LkOf ls (k + 1) (layE E (longOf ls) k nk (flipN nk cd))) := Lib.hid (by
                      have h1 := HLK.out.lay H15.out hroom hend2 (by rw [HNK.out]; omega)
                      rw [HNK.out, HCD.out] at h1
                      exact h1)
                    clear HLAY HTU HT5 HM5 HG5 HS5 HLK cA
                    generalize layE E (longOf ls) k nk (flipN nk cd) = E6 at *
                    have cA := cellOf HS6.out.arr nk (arrOf_get _ 17 nk (by omega))
                    have fA := frozenOf HS6.out.arr nk
                    rw [HCODE.out] at cA
                    go_wp2_with fail
                    have hS7 := HS6.out.next nk ((cd : Int) + 1)
                    have hstep := nextTo_step ls k hend2 (by rw [HNK.out]; exact hz)
                    rw [HNK.out, HCODE.out] at hstep
                    rw [← hstep] at hS7
                    exact ⟨⟨k + 1, g2, cap2, E6, by rw [Int.natCast_add]; rfl, by omega, Lib.hid hS7, HLK6⟩, by simp only [intOf]; omega⟩
                · have hend2I : ¬ (k : Int) < (ls.length : Int) := by omega
                  have ek : k = ls.length := by omega
                  subst ek
                  go_wp2_with fail
                  refine bodyPost_ret (results_tmp2 rfl _ _ _) rfl ⟨.inr ⟨HE.out, b, rfl, ?_⟩, HS2.out.kept⟩
                  rw [HLS.out]
                  exact HS2.out.table HLK.out

end Go.Proofs.Ytgjcnembeebjfaa
