/- Walks over package huff: Codes; over package ferretlaw02: speaks, ints. The law HuffOrder. Walks over package ferretref02: New. Plain laws: even lengths. No program. -/
import Derived.Test.YtgjcnembeebjfaaHufW4
import Derived.Test.YtgjcnembeebjfaaHufW5
import Derived.Test.YtgjcnembeebjfaaGLaw
import Derived.Deep.LoopGhost
import Derived.Deep.DeepCutAuto

namespace Go.Proofs.Ytgjcnembeebjfaa
open Go.RowKit

def codesI (ls : List Nat) : List Int := (codesOf ls).map fun n : Nat => (n : Int)
theorem codesI_length (ls : List Nat) : (codesI ls).length = ls.length := by simp [codesI, codesOf]
theorem codesI_get (ls : List Nat) (i : Nat) (hi : i < ls.length) : (codesI ls).getD i 0 = ((codeOf ls i : Nat) : Int) := by
  simp [codesI, codesOf, List.getD, hi]

set_option maxRecDepth 100000 in
theorem codes_any (lo hi b : Nat) (ls : List Nat) (w : World) (hT : TableIs w lo hi b ls) (hls : ls.length ≤ 1024) :
    Calls Try.prog 101 #[.pointer (some ⟨b, 0, none⟩)] w fun e w' => ∃ v, e = .returned v ∧ IRow w' v (codesI ls) ∧ Mut [] w w' ∧ ∀ g, v.ownBlock = some g → w.heap.size ≤ g := by
  obtain ⟨cv, g, cap, E, h1, h2, _⟩ := hT
  obtain ⟨c0, c1, c2, _, _, _⟩ := cells3 h1.1
  have hrow : IRow w cv (codesI ls) := by
    unfold IRow
    rw [codesI_length]
    unfold codesI
    rw [List.map_map]
    exact h2
  have HROW := Lib.hid hrow
  clear h1 h2 hrow
  have hcl := codesI_length ls
  go_enter Try.func101, Try.ntmps101
  go_wp2_with (at_builtin; (refine wp_appI rfl (.const (.slice none 0 0)) (.tmp 8) rfl (IRow.nil _) rfl (HROW.out.src (Mut.refl _ _)) rfl (by rw [hcl]; simp; omega) ?_))
  intro v' w' r1 r2 r3
  have R1 := Lib.hid r1
  have R2 := Lib.hid r2
  have R3 := Lib.hid r3
  obtain ⟨p, l, c, rfl⟩ := r1.form
  clear r1 r2 r3
  go_wp2_with fail
  go_ret
  exact ⟨_, rfl, R1.out, R2.out, fun g hg => by rcases R3.out g hg with h | h; simp [Value.ownBlock] at h; exact h⟩

theorem codes_nil (w : World) : Calls Try.prog 101 #[.pointer none] w fun e w' => e = .returned (.slice none 0 0) ∧ w = w' := by
  go_enter Try.func101, Try.ntmps101
  go_wp2_with fail
  go_ret
  exact ⟨rfl, rfl⟩

/-- New, of a row of the call's own -/
theorem new_row (xs : List Int) (hlen : xs.length ≤ 1073741824) (v : Value) (w : World) (hv : IRow w v xs) :
    Calls Try.prog 93 #[v] w fun e w' => ((newErr xs ≠ 0 ∧ e = .returned (.tuple #[.pointer none, .int .i64 (newErr xs : Nat)])) ∨
      (newErr xs = 0 ∧ ∃ b, e = .returned (.tuple #[.pointer (some ⟨b, 0, none⟩), .int .i64 0]) ∧ TableIs w' w.heap.size w'.heap.size b (lensOf xs))) ∧ Mut [] w w' := by
  obtain ⟨p, cap, rfl, hr⟩ := hv.read
  exact new_any xs hlen p cap w hr

theorem newErr_len' (xs : List Int) (h : newErr xs = 0) : xs.length ≤ 1024 ∧ okLens xs = true ∧ room (lensOf xs) ≤ 32768 ∧ (room (lensOf xs) = 32768 ∨ usedOf (lensOf xs) = 0 ∨ (usedOf (lensOf xs) = 1 ∧ longOf (lensOf xs) = 1)) := by
  unfold newErr at h
  by_cases h1 : 1024 < xs.length
  · rw [if_pos h1] at h; cases h
  · rw [if_neg h1] at h
    by_cases h2 : okLens xs = false
    · rw [if_pos h2] at h; cases h
    · rw [if_neg h2] at h
      by_cases h3 : 32768 < room (lensOf xs)
      · rw [if_pos h3] at h; cases h
      · rw [if_neg h3] at h
        by_cases h4 : room (lensOf xs) < 32768 ∧ 0 < usedOf (lensOf xs) ∧ ¬ (usedOf (lensOf xs) = 1 ∧ longOf (lensOf xs) = 1)
        · rw [if_pos h4] at h; cases h
        · refine ⟨by omega, by simpa using h2, by omega, ?_⟩
          by_cases h5 : room (lensOf xs) = 32768
          · exact .inl h5
          · by_cases h6 : usedOf (lensOf xs) = 0
            · exact .inr (.inl h6)
            · refine .inr (.inr ?_)
              by_cases h7 : usedOf (lensOf xs) = 1 ∧ longOf (lensOf xs) = 1
              · exact h7
              · exact absurd ⟨by omega, by omega, h7⟩ h4

end Go.Proofs.Ytgjcnembeebjfaa

namespace Go.Proofs.Ytgjcnembeebjfaa
open Go.RowKit

theorem lens_get (xs : List Int) (h : okLens xs = true) (i : Nat) : xs.getD i 0 = ((lenAt (lensOf xs) i : Nat) : Int) := ((lens_ok xs h).2 i).symm
theorem lensOf_length (xs : List Int) : (lensOf xs).length = xs.length := by simp [lensOf]

/-- what a table's maker is handed: a copy of the lengths -/
theorem order_told (ls : List Nat) (h15 : ∀ n ∈ ls, n ≤ 15) (i k : Nat) (hk : k < i) (hi : i < ls.length) (ha : 1 ≤ lenAt ls k) (hb : 1 ≤ lenAt ls i) : decide (lenAt ls k ≤ lenAt ls i) = decide (loOf ls k < loOf ls i) := by
  have pk : 0 < 2 ^ (15 - lenAt ls k) := Nat.pow_pos (by decide)
  have pi : 0 < 2 ^ (15 - lenAt ls i) := Nat.pow_pos (by decide)
  by_cases h : lenAt ls k ≤ lenAt ls i
  · have := lo_order ls h15 k i (by omega) hi ha hb (by omega)
    rw [decide_eq_true h, decide_eq_true (by omega)]
  · have := lo_order ls h15 i k hi (by omega) hb ha (by omega)
    rw [decide_eq_false h, decide_eq_false (by omega)]

end Go.Proofs.Ytgjcnembeebjfaa

namespace Go.Proofs.Ytgjcnembeebjfaa
open Go.RowKit

theorem used_take (ls : List Nat) : ∀ k, k ≤ ls.length → (usedOf (ls.take k) = 0 → room (ls.take k) = 0 ∧ longOf (ls.take k) = 0) ∧
    (usedOf (ls.take k) = 1 → ∃ n, 0 < n ∧ n ∈ ls ∧ room (ls.take k) = 2 ^ (15 - n) ∧ longOf (ls.take k) = n) := by
  intro k
  induction k with
  | zero => intro _; exact ⟨fun _ => ⟨rfl, rfl⟩, fun h => by simp [usedOf] at h⟩
  | succ k ih =>
    intro hk
    obtain ⟨h0, h1⟩ := ih (by omega)
    rw [take_lenAt ls k (by omega), used_snoc, room_snoc, long_snoc]
    by_cases hz : lenAt ls k = 0
    · rw [hz]
      simp only [if_true, Nat.add_zero, Nat.lt_irrefl, if_false, Nat.max_zero]
      exact ⟨h0, h1⟩
    · rw [if_pos (by omega), if_neg hz]
      refine ⟨fun h => by omega, fun h => ?_⟩
      obtain ⟨e1, e2⟩ := h0 (by omega)
      exact ⟨lenAt ls k, by omega, lenAt_mem ls k (by omega), by rw [e1, Nat.zero_add], by rw [e2]; exact Nat.zero_max _⟩

theorem one_code (ls : List Nat) (h15 : ∀ n ∈ ls, n ≤ 15) (hu : usedOf ls = 1) : room ls = 16384 ↔ longOf ls = 1 := by
  have := (used_take ls ls.length (Nat.le_refl _)).2
  rw [List.take_length] at this
  obtain ⟨n, h0, hn, h1, h2⟩ := this hu
  rw [h1, h2]
  have hn15 := h15 n hn
  by_cases e : n = 1
  · subst e; exact ⟨fun _ => rfl, fun _ => rfl⟩
  · have : 2 ^ (15 - n) ≤ 2 ^ 13 := Nat.pow_le_pow_right (by decide) (by omega)
    exact ⟨fun h => by omega, fun h => absurd h e⟩

/-- the codes that the document's answer has laid, at lengths n, before symbol s -/
def codesAt (ls : List Nat) (n s : Nat) : List Int := (List.range ls.length).map fun j => if lenAt ls j ≠ 0 ∧ (lenAt ls j < n ∨ (lenAt ls j = n ∧ j < s)) then ((codeOf ls j : Nat) : Int) else 0
def nxt (ls : List Nat) (n s : Nat) : Nat := nextOf ls n + (ls.take s).count n

theorem codesAt_length (ls : List Nat) (n s : Nat) : (codesAt ls n s).length = ls.length := by simp [codesAt]
theorem codesAt_start (ls : List Nat) : codesAt ls 1 0 = List.replicate ls.length 0 := by
  apply List.ext_getElem
  · simp [codesAt]
  · intro j h1 h2
    simp only [codesAt, List.getElem_map, List.getElem_range, List.getElem_replicate]
    rw [if_neg (by omega)]
theorem codesAt_skip (ls : List Nat) (n s : Nat) (h : lenAt ls s ≠ n) : codesAt ls n (s + 1) = codesAt ls n s := by
  unfold codesAt
  apply List.map_congr_left
  intro j _
  by_cases hj : j = s
  · subst hj
    by_cases hc : lenAt ls j ≠ 0 ∧ lenAt ls j < n
    · rw [if_pos ⟨hc.1, .inl hc.2⟩, if_pos ⟨hc.1, .inl hc.2⟩]
    · rw [if_neg (by omega), if_neg (by omega)]
  · by_cases hc : lenAt ls j ≠ 0 ∧ (lenAt ls j < n ∨ (lenAt ls j = n ∧ j < s))
    · rw [if_pos hc, if_pos (by omega)]
    · rw [if_neg hc, if_neg (by omega)]
theorem codesAt_store (ls : List Nat) (n s : Nat) (hn : n ≠ 0) (h : lenAt ls s = n) : (codesAt ls n s).set s ((codeOf ls s : Nat) : Int) = codesAt ls n (s + 1) := by
  apply List.ext_getElem
  · simp [codesAt]
  · intro j h1 h2
    rw [List.getElem_set]
    simp only [codesAt, List.getElem_map, List.getElem_range]
    by_cases hj : s = j
    · subst hj
      rw [if_pos rfl, if_pos (by omega)]
    · rw [if_neg hj]
      by_cases hc : lenAt ls j ≠ 0 ∧ (lenAt ls j < n ∨ (lenAt ls j = n ∧ j < s))
      · rw [if_pos hc, if_pos (by omega)]
      · rw [if_neg hc, if_neg (by omega)]
theorem codesAt_next (ls : List Nat) (n : Nat) : codesAt ls n ls.length = codesAt ls (n + 1) 0 := by
  unfold codesAt
  apply List.map_congr_left
  intro j hj
  have := List.mem_range.1 hj
  by_cases hc : lenAt ls j ≠ 0 ∧ lenAt ls j < n + 1
  · rw [if_pos (by omega), if_pos (by omega)]
  · rw [if_neg (by omega), if_neg (by omega)]
theorem codesAt_end (ls : List Nat) (h15 : ∀ n ∈ ls, n ≤ 15) : codesAt ls 16 0 = codesI ls := by
  unfold codesAt codesI codesOf
  rw [List.map_map]
  apply List.map_congr_left
  intro j hj
  have h1 := h15 _ (lenAt_mem ls j (List.mem_range.1 hj))
  by_cases hz : lenAt ls j = 0
  · rw [if_neg (by omega)]
    simp [codeOf, hz]
  · rw [if_pos (by omega)]
    rfl

theorem nxt_skip (ls : List Nat) (n s : Nat) (hs : s < ls.length) (h : lenAt ls s ≠ n) : nxt ls n (s + 1) = nxt ls n s := by
  unfold nxt
  rw [take_lenAt ls s hs, List.count_append]
  have : ([lenAt ls s] : List Nat).count n = 0 := by simp [h]
  omega
theorem nxt_store (ls : List Nat) (n s : Nat) (hs : s < ls.length) (h : lenAt ls s = n) : nxt ls n (s + 1) = nxt ls n s + 1 := by
  unfold nxt
  rw [take_lenAt ls s hs, List.count_append, h]
  simp
  omega
theorem nxt_next (ls : List Nat) (n : Nat) (hn : n ≠ 0) : nxt ls (n + 1) 0 = nxt ls n ls.length * 2 := by
  unfold nxt
  rw [List.take_length, nextOf, if_neg hn]
  simp
theorem nxt_code (ls : List Nat) (n s : Nat) (hn : n ≠ 0) (h : lenAt ls s = n) : nxt ls n s = codeOf ls s := by
  unfold nxt codeOf
  rw [h, if_neg hn]
theorem nxt_le (ls : List Nat) (h15 : ∀ n ∈ ls, n ≤ 15) (hr : room ls ≤ 32768) (n s : Nat) (h1 : 1 ≤ n) (h2 : n ≤ 15) : nxt ls n s ≤ 32768 := by
  have h3 := cum_end ls h15 n h1 h2
  have h4 : (ls.take s).count n ≤ ls.count n := List.Sublist.count_le n (List.take_sublist s ls)
  unfold cum at h3
  rw [← Nat.add_mul] at h3
  have h5 : 1 ≤ 2 ^ (15 - n) := Nat.pow_pos (by decide)
  have h6 : (nextOf ls n + ls.count n) * 1 ≤ (nextOf ls n + ls.count n) * 2 ^ (15 - n) := Nat.mul_le_mul_left _ h5
  unfold nxt
  omega

/-- the code and the last length, before symbol s at lengths n -/
def CLn (ls : List Nat) (n s c l : Nat) : Prop := (l = 0 ∧ c = 0 ∧ nxt ls n s = 0) ∨ (1 ≤ l ∧ l ≤ n ∧ (c + 1) * 2 ^ (n - l) = nxt ls n s)

theorem CLn.start (ls : List Nat) : CLn ls 1 0 0 0 := .inl ⟨rfl, rfl, by simp [nxt, nextOf]⟩
theorem CLn.skip {ls : List Nat} {n s c l : Nat} (h : CLn ls n s c l) (hs : s < ls.length) (hn : lenAt ls s ≠ n) : CLn ls n (s + 1) c l := by
  unfold CLn
  rw [nxt_skip ls n s hs hn]
  exact h
theorem CLn.next {ls : List Nat} {n c l : Nat} (h : CLn ls n ls.length c l) (hn : n ≠ 0) : CLn ls (n + 1) 0 c l := by
  unfold CLn
  rw [nxt_next ls n hn]
  rcases h with ⟨h1, h2, h3⟩ | ⟨h1, h2, h3⟩
  · exact .inl ⟨h1, h2, by rw [h3]⟩
  · refine .inr ⟨h1, by omega, ?_⟩
    rw [← h3, show n + 1 - l = n - l + 1 by omega, Nat.pow_succ, Nat.mul_assoc]
theorem CLn.store {ls : List Nat} {n s : Nat} (hs : s < ls.length) (hn : lenAt ls s = n) (h0 : n ≠ 0) : CLn ls n (s + 1) (codeOf ls s) n := by
  refine .inr ⟨by omega, Nat.le_refl _, ?_⟩
  rw [nxt_store ls n s hs hn, nxt_code ls n s h0 hn, Nat.sub_self]
  simp

/-- the row that the document's answer fills -/
structure RSt (w wx : World) (g n : Nat) (cs : List Int) : Prop where
  row : wx.ownsRow 0 3 1 (.slice (some ⟨g, 0, none⟩) n n) n (cs.map (Value.int .i64))
  len : cs.length = n
  kept : Mut [] w wx
  fg : w.heap.size ≤ g

theorem RSt.set {w wx : World} {g n : Nat} {cs : List Int} (h : RSt w wx g n cs) (k : Nat) (c : Int) : RSt w (wx.setCell ⟨g, k, none⟩ (.int .i64 c)) g n (cs.set k c) :=
  ⟨by rw [List.map_set]; exact row_set h.row rfl k _, by rw [List.length_set]; exact h.len, h.kept.setCell (.inr h.fg) _, h.fg⟩

theorem RSt.start (w : World) (n : Nat) (hn : n ≤ 1024) (Z : Array Value) (hZ : madeCells (Value.int .i64 0).cells n = Z) : RSt w (w.alloc (.cells Z 3)) w.heap.size n (List.replicate n 0) := by
  refine ⟨⟨by simp, .inr ⟨w.heap.size, n, Z, rfl, Nat.zero_le _, heap_alloc_new w _, Nat.le_refl _, by unfold maxLen; omega, by rw [← hZ, size_madeCells, Nat.mul_one], ?_⟩⟩, by simp, (Mut.refl [] w).alloc _, Nat.le_refl _⟩
  rw [← hZ, madeCells_int, List.take_of_length_le (by simp)]

set_option maxHeartbeats 3200000 in
set_option maxRecDepth 1000000 in
theorem refnew_any (xs : List Int) (hlen : xs.length ≤ 1073741824) (rp0 : Option Addr) (rc0 : Nat) (w : World)
    (hcells : ∀ (w' : World), Mut [] w w' → ∀ i : Nat, i < xs.length → ∃ a : Addr, rp0 = some a ∧ w'.cell? (a.add i) = some (.int .i64 (xs.getD i 0))) :
    Calls Try.prog 64 #[.slice rp0 xs.length rc0] w fun e w' => ((newErr xs ≠ 0 ∧ e = .returned (.tuple #[.slice none 0 0, .int .i64 (newErr xs : Nat)])) ∨
      (newErr xs = 0 ∧ ∃ v, e = .returned (.tuple #[v, .int .i64 0]) ∧ IRow w' v (codesI (lensOf xs)) ∧ ∀ g, v.ownBlock = some g → w.heap.size ≤ g)) ∧ Mut [] w w' := by
  have HC := Lib.hid hcells
  clear hcells
  by_cases hl : 1024 < xs.length
  · have HE := Lib.hid (newErr_len xs hl)
    have hlI : (1024 : Int) < (xs.length : Int) := by omega
    go_enter Try.func64, Try.ntmps64
    go_wp2_with fail
    refine bodyPost_ret (results_tmp2 rfl _ _ _) rfl ⟨.inl ⟨by rw [HE.out]; decide, by rw [HE.out]; rfl⟩, Mut.refl _ _⟩
  · have hlI : ¬ (1024 : Int) < (xs.length : Int) := by omega
    go_enter Try.func64, Try.ntmps64
    go_wp2_with fail
    go_loop [4, 5, 6] (fun rm us x => ∃ i : Nat, x = .int .i64 (i : Int) ∧ i ≤ xs.length ∧ Hid (okLens (xs.take i) = true) ∧ rm = .int .i64 (room (lensOf (xs.take i)) : Nat) ∧ us = .int .i64 (usedOf (lensOf (xs.take i)) : Nat)) (fun _ _ x => xs.length - (intOf x).toNat)
    case atStart => exact ⟨0, rfl, by omega, Lib.hid rfl, rfl, rfl⟩
    case round =>
      obtain ⟨i, rfl, hi, HS, rfl, rfl⟩ := hrel
      by_cases hend : i < xs.length
      · have hendI : (i : Int) < (xs.length : Int) := by omega
        obtain ⟨a, rfl, ca⟩ := HC.out w (Mut.refl _ _) i hend
        have HT : Hid (0 ≤ xs.getD i 0 → xs.getD i 0 ≤ 15 → okLens (xs.take (i + 1)) = true ∧ lensOf (xs.take (i + 1)) = lensOf (xs.take i) ++ [(xs.getD i 0).toNat]) := Lib.hid fun h1 h2 => ⟨okLens_take xs i hend HS.out h1 h2, by
          unfold lensOf
          rw [List.take_add_one, List.map_append]; simp [List.getD, hend]⟩
        have HB : Hid (xs.getD i 0 < 0 ∨ 15 < xs.getD i 0 → newErr xs = 1) := Lib.hid fun h => newErr_bad xs (okLens_not xs i hend h)
        have hrl : room (lensOf (xs.take i)) ≤ 33554432 := by have := room_le (lensOf (xs.take i)); rw [lensOf_length, List.length_take] at this; omega
        have hul : usedOf (lensOf (xs.take i)) ≤ 1024 := by have h1 := List.length_filter_le (fun n => decide (0 < n)) (lensOf (xs.take i)); rw [lensOf_length, List.length_take] at h1; unfold usedOf; omega
        generalize xs.getD i 0 = x at *
        generalize lensOf (xs.take i) = L at *
        by_cases h0 : x < 0
        · have HE : Hid (newErr xs = 1) := Lib.hid (HB.out (.inl h0))
          go_wp2_with fail
          refine bodyPost_ret (results_tmp2 rfl _ _ _) rfl ⟨.inl ⟨by rw [HE.out]; decide, by rw [HE.out]; rfl⟩, Mut.refl _ _⟩
        · by_cases h15 : 15 < x
          · have HE : Hid (newErr xs = 1) := Lib.hid (HB.out (.inr h15))
            go_wp2_with fail
            refine bodyPost_ret (results_tmp2 rfl _ _ _) rfl ⟨.inl ⟨by rw [HE.out]; decide, by rw [HE.out]; rfl⟩, Mut.refl _ _⟩
          · obtain ⟨q1, q2⟩ := HT.out (by omega) (by omega)
            obtain ⟨n, rfl⟩ : ∃ n : Nat, x = (n : Int) := ⟨x.toNat, by omega⟩
            rw [Int.toNat_natCast] at q2
            have Q1 := Lib.hid q1
            have Q2 := Lib.hid q2
            clear q1 q2 HT HB
            by_cases hn0 : n = 0
            · subst hn0
              go_wp2_with fail
              refine ⟨⟨i + 1, by rw [Int.natCast_add]; rfl, by omega, Q1, ?_, ?_⟩, by simp only [intOf]; omega⟩
              · rw [Q2.out, room_snoc]; simp
              · rw [Q2.out, used_snoc]; simp
            · have hnI : (0 : Int) < (n : Int) := by omega
              have hd : (15 : Int) - (n : Int) = ((15 - n : Nat) : Int) := by omega
              have hp2 : 2 ^ (15 - n) ≤ 32768 := Nat.pow_le_pow_right (n := 2) (by decide) (show 15 - n ≤ 15 by omega)
              have HP2 := Lib.hid hp2
              clear hp2
              go_wp2_with fail
              have hp : ((2 : Int) ^ (15 - n)) = ((2 ^ (15 - n) : Nat) : Int) := by simp
              have hp2 := HP2.out
              refine ⟨⟨i + 1, by rw [Int.natCast_add]; rfl, by omega, Q1, ?_, ?_⟩, by simp only [intOf]; omega⟩
              · rw [Q2.out, room_snoc, if_neg hn0, hp]
                clear hp hd
                generalize 2 ^ (15 - n) = P at *
                rw [IntWalk.wrap64_in (P : Int) (by omega), IntWalk.wrap64_in _ (by omega), Int.natCast_add]
              · rw [Q2.out, used_snoc, if_pos (by omega), Int.natCast_add]; rfl
      · have e : i = xs.length := by omega
        have hendI : ¬ (i : Int) < (xs.length : Int) := by omega
        subst e
        rw [List.take_length] at HS ⊢
        obtain ⟨h15, hget⟩ := lens_ok xs HS.out
        have hln := lensOf_length xs
        have hone := one_code (lensOf xs) h15
        have hnl := nxt_le (lensOf xs) h15
        have hcl := codesAt_end (lensOf xs) h15
        obtain ⟨ls, hls⟩ : ∃ ls, lensOf xs = ls := ⟨_, rfl⟩
        rw [hls] at h15 hget hln hone hnl hcl ⊢
        obtain ⟨rm, hrm⟩ : ∃ n, room ls = n := ⟨_, rfl⟩
        obtain ⟨us, hus⟩ : ∃ n, usedOf ls = n := ⟨_, rfl⟩
        have HNE : Hid (newErr xs = if 32768 < rm then 6 else if rm < 32768 ∧ 0 < us ∧ ¬ (us = 1 ∧ rm = 16384) then 7 else 0) := Lib.hid (by
          unfold newErr
          rw [if_neg hl, if_neg (by rw [HS.out]; simp), hls, hrm, hus]
          by_cases hu : us = 1
          · have h1 := hone (by omega)
            rw [hrm] at h1
            simp only [h1]
          · simp [hu])
        have HCL : Hid (∀ W : World, Mut [] w W → ∀ i, i < ls.length → ∃ a : Addr, rp0 = some a ∧ W.cell? (a.add i) = some (.int .i64 ((lenAt ls i : Nat) : Int))) := Lib.hid (fun W m i hi => by
          obtain ⟨a, h1, h2⟩ := HC.out W m i (by omega)
          refine ⟨a, h1, ?_⟩
          rw [h2, ← hget i]
          rfl)
        have H15 := Lib.hid h15
        have HNL := Lib.hid hnl
        have HEND := Lib.hid hcl
        have hn1024 : ls.length ≤ 1024 := by omega
        have HRM := Lib.hid hrm
        have HLS := Lib.hid hls
        rw [hrm, hus]
        clear hone hus hls hget HC h15 hnl hcl hrm
        rw [← hln] at *
        clear hln
        by_cases hr : 32768 < rm
        · have hrI : (32768 : Int) < (rm : Int) := by omega
          have HE : Hid (newErr xs = 6) := Lib.hid (by rw [HNE.out, if_pos hr])
          go_wp2_with fail
          refine bodyPost_ret (results_tmp2 rfl _ _ _) rfl ⟨.inl ⟨by rw [HE.out]; decide, by rw [HE.out]; rfl⟩, Mut.refl _ _⟩
        · have hrI : ¬ (32768 : Int) < (rm : Int) := by omega
          have hroom : room ls ≤ 32768 := by rw [HRM.out]; omega
          have HNX : Hid (∀ n s, 1 ≤ n → n ≤ 15 → nxt ls n s ≤ 32768) := Lib.hid (HNL.out hroom)
          go_upto_region 14 with fail
          go_cut [7] (fun s7 wx => wx = w ∧ s7 = .bool (decide (us = 1 ∧ rm = 16384)))
          case first =>
            by_cases hu : us = 1
            · subst hu
              by_cases h16 : rm = 16384
              · subst h16
                go_wp2_with fail
                go_meet
                exact ⟨rfl, rfl⟩
              · have h16I : ((rm : Int) == 16384) = false := by simpa using (show ¬ (rm : Int) = 16384 by omega)
                go_wp2_with fail
                go_meet
                exact ⟨rfl, by simp [h16]⟩
            · have huI : ((us : Int) == 1) = false := by simpa using (show ¬ (us : Int) = 1 by omega)
              go_wp2_with fail
              go_meet
              exact ⟨rfl, by simp [hu]⟩
          case rest =>
            obtain ⟨rfl, rfl⟩ := hcut
            obtain ⟨q, hq⟩ : ∃ q, decide (us = 1 ∧ rm = 16384) = q := ⟨_, rfl⟩
            have hq2 : (us = 1 ∧ rm = 16384) ↔ q = true := by rw [← hq]; simp
            have HQ := Lib.hid hq2
            rw [hq]
            clear hq hq2
            go_upto_region 15 with fail
            go_cut [66] (fun s66 wx => wx = wc ∧ ∃ q2 : Bool, s66 = .bool q2 ∧ Hid (q2 = true ↔ rm < 32768 ∧ 0 < us ∧ q = false))
            case first =>
              by_cases hr2 : rm < 32768
              · have hr2I : (rm : Int) < 32768 := by omega
                by_cases hu0 : 0 < us
                · have hu0I : (0 : Int) < (us : Int) := by omega
                  cases q
                  · go_wp2_with fail
                    go_meet
                    exact ⟨rfl, _, rfl, Lib.hid (by simp; exact ⟨hr2, hu0⟩)⟩
                  · go_wp2_with fail
                    go_meet
                    exact ⟨rfl, _, rfl, Lib.hid (by simp)⟩
                · have hu0I : ¬ (0 : Int) < (us : Int) := by omega
                  go_wp2_with fail
                  go_meet
                  exact ⟨rfl, _, rfl, Lib.hid ⟨fun h => by simp at h, fun h => absurd h.2.1 hu0⟩⟩
              · have hr2I : ¬ (rm : Int) < 32768 := by omega
                go_wp2_with fail
                go_meet
                exact ⟨rfl, _, rfl, Lib.hid ⟨fun h => by simp at h, fun h => absurd h.1 hr2⟩⟩
            case rest =>
              obtain ⟨rfl, q2, rfl, HQ2⟩ := hcut
              cases q2
              case true =>
                have HE : Hid (newErr xs = 7) := Lib.hid (by
                  rw [HNE.out, if_neg hr]
                  obtain ⟨a1, a2, a3⟩ := HQ2.out.1 rfl
                  rw [if_pos ⟨a1, a2, fun h => by have := HQ.out.1 h; rw [a3] at this; cases this⟩])
                go_wp2_with fail
                refine bodyPost_ret (results_tmp2 rfl _ _ _) rfl ⟨.inl ⟨by rw [HE.out]; decide, by rw [HE.out]; rfl⟩, Mut.refl _ _⟩
              case false =>
                have HE : Hid (newErr xs = 0) := Lib.hid (by
                  rw [HNE.out, if_neg hr]
                  rw [if_neg (fun h => by
                    have h1 := HQ2.out.2 ⟨h.1, h.2.1, by
                      cases q
                      · rfl
                      · exact absurd (HQ.out.2 rfl) h.2.2⟩
                    cases h1)])
                obtain ⟨Z1, hZ1⟩ : ∃ Z, madeCells (Value.int .i64 0).cells ls.length = Z := ⟨_, rfl⟩
                have hmk1 : ∀ W : World, (Instr.makeSlice 88 (.int .i64 (ls.length : Int)) (.int .i64 (ls.length : Int))).run Try.prog W = .ok (.slice (some ⟨W.heap.size, 0, none⟩) ls.length ls.length) (W.alloc (.cells Z1 3)) := by
                  intro W
                  obtain ⟨i0, hi, hz0, hz1, hz2⟩ := info_parts info_int
                  have := run_make (P := Try.prog) W 88 3 i0 _ Try.underlying88 hi hz0 .i64 .i64 (ls.length : Int) (ls.length : Int) (by omega) (by omega) (by rw [hz2]; omega) (by omega)
                  rw [hz1, Int.toNat_natCast, Nat.mul_one, hZ1] at this
                  exact this
                have HST := Lib.hid (RSt.start wc ls.length hn1024 Z1 hZ1)
                clear hZ1 HNE HRM HNL HQ HQ2 hr hroom
                go_upto_region 18 with fail
                clear hmk1
                have hW : wc.heap.size ≤ wc.heap.size := Nat.le_refl _
                generalize wc.alloc (.cells Z1 3) = W0 at *
                generalize wc.heap.size = g at *
                clear hW
                go_wp2_with fail
                go_loopw [9, 10, 11] (fun cd la nn wx => ∃ n c l : Nat, nn = .int .i64 (n : Int) ∧ cd = .int .i64 (c : Int) ∧ la = .int .i64 (l : Int) ∧ 1 ≤ n ∧ n ≤ 16 ∧ Hid (CLn ls n 0 c l ∧ RSt wc wx g ls.length (codesAt ls n 0))) (fun _ _ nn _ => 17 - (intOf nn).toNat)
                case atStart => exact ⟨1, 0, 0, rfl, rfl, rfl, by omega, by omega, Lib.hid ⟨CLn.start ls, by rw [codesAt_start]; exact HST.out⟩⟩
                case round =>
                  obtain ⟨n, c, l, rfl, rfl, rfl, hn1, hn16, HO⟩ := hrel
                  by_cases hn15 : n ≤ 15
                  · have hn15I : (n : Int) ≤ 15 := by omega
                    go_wp2_with fail
                    go_loopw [9, 10, 12] (fun cd la ss wx => ∃ s c l : Nat, ss = .int .i64 (s : Int) ∧ cd = .int .i64 (c : Int) ∧ la = .int .i64 (l : Int) ∧ s ≤ ls.length ∧ Hid (CLn ls n s c l ∧ RSt wc wx g ls.length (codesAt ls n s))) (fun _ _ ss _ => ls.length - (intOf ss).toNat)
                    case atStart => exact ⟨0, c, l, rfl, rfl, rfl, Nat.zero_le _, HO⟩
                    case round =>
                      obtain ⟨s, c, l, rfl, rfl, rfl, hs, HI⟩ := hrel
                      clear HO
                      by_cases hend2 : s < ls.length
                      · have hend2I : (s : Int) < (ls.length : Int) := by omega
                        obtain ⟨a, rfl, ca⟩ := HCL.out wr HI.out.2.kept s hend2
                        by_cases hne : lenAt ls s = n
                        · have heI : ((lenAt ls s : Int) == (n : Int)) = true := by simp [hne]
                          have hT := nxt_code ls n s (by omega) hne
                          have hT2 := HNX.out n s hn1 hn15
                          have HSTO := Lib.hid (codesAt_store ls n s (by omega) hne)
                          have HCLS : Hid (CLn ls n (s + 1) (codeOf ls s) n) := Lib.hid (CLn.store hend2 hne (by omega))
                          rw [hT] at hT2
                          have HCLO : Hid ((l = 0 ∧ c = 0 ∧ codeOf ls s = 0) ∨ (1 ≤ l ∧ l ≤ n ∧ (c + 1) * 2 ^ (n - l) = codeOf ls s)) := Lib.hid (by rw [← hT]; exact HI.out.1)
                          obtain ⟨T, hTT⟩ : ∃ T, codeOf ls s = T := ⟨_, rfl⟩
                          rw [hTT] at hT2 HSTO HCLS HCLO
                          clear hT hTT
                          generalize lenAt ls s = L at *
                          subst hne
                          go_upto_if 87 with fail
                          go_cut [9] (fun s9 wx => wx = wr ∧ ∃ c1 : Nat, s9 = .int .i64 (c1 : Int) ∧ Hid ((l = 0 ∧ c1 = T) ∨ (1 ≤ l ∧ l ≤ L ∧ c1 * 2 ^ (L - l) = T)))
                          case first =>
                            by_cases hl0 : l = 0
                            · subst hl0
                              go_wp2_with fail
                              go_meet
                              exact ⟨rfl, c, rfl, Lib.hid (.inl ⟨by trivial, by rcases HCLO.out with h | h <;> omega⟩)⟩
                            · have hl0I : (0 : Int) < (l : Int) := by omega
                              have hcb : c ≤ 32768 := by
                                rcases HCLO.out with h | h
                                · omega
                                · have h1 : 1 ≤ 2 ^ (L - l) := Nat.pow_pos (by decide)
                                  have h2 : (c + 1) * 1 ≤ (c + 1) * 2 ^ (L - l) := Nat.mul_le_mul_left _ h1
                                  omega
                              go_wp2_with fail
                              go_meet
                              exact ⟨rfl, c + 1, by rw [Int.natCast_add]; rfl, Lib.hid (.inr (by rcases HCLO.out with h | h; omega; exact h))⟩
                          case rest =>
                            obtain ⟨rfl, c1, rfl, HC1⟩ := hcut
                            go_wp2_with fail
                            go_loop [9, 10] (fun cd la => ∃ c1 l : Nat, cd = .int .i64 (c1 : Int) ∧ la = .int .i64 (l : Int) ∧ Hid ((l = 0 ∧ c1 = T) ∨ (1 ≤ l ∧ l ≤ L ∧ c1 * 2 ^ (L - l) = T))) (fun _ la => L - (intOf la).toNat)
                            case atStart => exact ⟨c1, l, rfl, rfl, HC1⟩
                            case round =>
                              clear HC1
                              obtain ⟨c1, l, rfl, rfl, HC1⟩ := hrel
                              by_cases hgo : 0 < l ∧ l < L
                              · have hg1 : (0 : Int) < (l : Int) := by omega
                                have hg2 : (l : Int) < (L : Int) := by omega
                                have hc2 : c1 * 2 * 2 ^ (L - (l + 1)) = T := by
                                  rcases HC1.out with h | h
                                  · omega
                                  · rw [Nat.mul_assoc, ← Nat.pow_succ', show (L - (l + 1)).succ = L - l by omega]
                                    exact h.2.2
                                have hcb : c1 * 2 ≤ 32768 := by
                                  have h1 : 1 ≤ 2 ^ (L - (l + 1)) := Nat.pow_pos (by decide)
                                  have h2 : c1 * 2 * 1 ≤ c1 * 2 * 2 ^ (L - (l + 1)) := Nat.mul_le_mul_left _ h1
                                  omega
                                have HC2 : Hid (c1 * 2 * 2 ^ (L - (l + 1)) = T) := Lib.hid hc2
                                clear hc2
                                go_wp2_with fail
                                exact ⟨⟨c1 * 2, l + 1, by rw [Int.natCast_mul]; rfl, by rw [Int.natCast_add]; rfl, Lib.hid (.inr ⟨by omega, by omega, HC2.out⟩)⟩, by simp only [intOf]; omega⟩
                              · have hc1T : c1 = T := by
                                  rcases HC1.out with h | h
                                  · exact h.2
                                  · have h1 := h.2.2
                                    rw [show L - l = 0 by omega, Nat.pow_zero, Nat.mul_one] at h1
                                    exact h1
                                subst hc1T
                                have hl0 : l = 0 ∨ (0 < l ∧ ¬ l < L) := by omega
                                obtain ⟨xv, cR⟩ : ∃ x, wc.cell? ⟨g, s, none⟩ = some x := by
                                  have h1 := HI.out.2.row.cellAt s (by omega)
                                  have h2 : s < ((codesAt ls L s).map (Value.int .i64)).length := by rw [List.length_map, HI.out.2.len]; omega
                                  rw [List.getElem?_eq_getElem h2] at h1
                                  exact ⟨_, h1⟩
                                have fR := HI.out.2.row.frozenAt s
                                have hset := HI.out.2.set s (c1 : Int)
                                rw [HSTO.out] at hset
                                have HSET := Lib.hid hset
                                clear hset HSTO HCLO HC1 heI ca HI
                                rcases hl0 with hl0 | ⟨hl0, hl1⟩
                                · subst hl0
                                  go_wp2_with fail
                                  exact ⟨⟨s + 1, c1, L, by rw [Int.natCast_add]; rfl, rfl, rfl, by omega, Lib.hid ⟨HCLS.out, HSET.out⟩⟩, by simp only [intOf]; omega⟩
                                · have hg1 : (0 : Int) < (l : Int) := by omega
                                  have hg2 : ¬ (l : Int) < (L : Int) := by omega
                                  go_wp2_with fail
                                  exact ⟨⟨s + 1, c1, L, by rw [Int.natCast_add]; rfl, rfl, rfl, by omega, Lib.hid ⟨HCLS.out, HSET.out⟩⟩, by simp only [intOf]; omega⟩
                        · have heI : ((lenAt ls s : Int) == (n : Int)) = false := by rw [beq_eq_false_iff_ne]; omega
                          have HNX2 : Hid (CLn ls n (s + 1) c l ∧ RSt wc wr g ls.length (codesAt ls n (s + 1))) := Lib.hid ⟨HI.out.1.skip hend2 hne, by rw [codesAt_skip ls n s hne]; exact HI.out.2⟩
                          generalize lenAt ls s = L at *
                          clear HI
                          go_wp2_with fail
                          exact ⟨⟨s + 1, c, l, by rw [Int.natCast_add]; rfl, rfl, rfl, by omega, HNX2⟩, by simp only [intOf]; omega⟩
                      · have hend2I : ¬ (s : Int) < (ls.length : Int) := by omega
                        have es : s = ls.length := by omega
                        subst es
                        have HN : Hid (CLn ls (n + 1) 0 c l ∧ RSt wc wr g ls.length (codesAt ls (n + 1) 0)) := Lib.hid ⟨HI.out.1.next (by omega), by rw [← codesAt_next]; exact HI.out.2⟩
                        clear HI
                        go_wp2_with fail
                        exact ⟨⟨n + 1, c, l, by rw [Int.natCast_add]; rfl, rfl, rfl, by omega, by omega, HN⟩, by simp only [intOf]; omega⟩
                  · have hn15I : ¬ (n : Int) ≤ 15 := by omega
                    have e16 : n = 16 := by omega
                    subst e16
                    have hfin := HO.out.2
                    rw [HEND.out] at hfin
                    have HFIN := Lib.hid hfin
                    clear hfin HO
                    go_wp2_with fail
                    refine bodyPost_ret (results_tmp2 rfl _ _ _) rfl ⟨.inr ⟨HE.out, .slice (some ⟨g, 0, none⟩) ls.length ls.length, rfl, ?_, ?_⟩, HFIN.out.kept⟩
                    · have h1 := HFIN.out.row
                      rw [HLS.out]
                      unfold IRow
                      rw [codesI_length]
                      exact h1
                    · intro g' hg'
                      simp [Value.ownBlock] at hg'
                      subst hg'
                      exact HFIN.out.fg

end Go.Proofs.Ytgjcnembeebjfaa

namespace Go.Proofs.Ytgjcnembeebjfaa

def cntTo (U : List Bool) (i : Nat) : Nat := (U.take i).count true
def numOf (U : List Bool) : Nat := U.count true
def kOf (m : Nat) : Nat := if m = 1 then 1 else m.log2
def shortOf (m : Nat) : Nat := 2 ^ (m.log2 + 1) - m
def evenAt (U : List Bool) (i : Nat) : Nat :=
  if numOf U = 0 ∨ 32768 < numOf U then 0
  else if U.getD i false = true then (if cntTo U i < shortOf (numOf U) then kOf (numOf U) else kOf (numOf U) + 1) else 0
def evenOf (U : List Bool) : List Nat := (List.range U.length).map (evenAt U)
def evenI (U : List Bool) : List Int := (evenOf U).map fun n : Nat => (n : Int)
def evenTo (U : List Bool) (i : Nat) : List Int := (List.range U.length).map fun j => if j < i then ((evenAt U j : Nat) : Int) else 0

theorem evenI_length (U : List Bool) : (evenI U).length = U.length := by simp [evenI, evenOf]
theorem evenOf_length (U : List Bool) : (evenOf U).length = U.length := by simp [evenOf]
theorem lensOf_evenI (U : List Bool) : lensOf (evenI U) = evenOf U := by
  unfold lensOf evenI
  rw [List.map_map]
  have : (Int.toNat ∘ fun n : Nat => (n : Int)) = id := by funext n; simp
  rw [this, List.map_id]
theorem evenTo_zero (U : List Bool) : evenTo U 0 = List.replicate U.length 0 := by
  apply List.ext_getElem <;> simp [evenTo]
theorem evenTo_all (U : List Bool) : evenTo U U.length = evenI U := by
  unfold evenTo evenI evenOf
  rw [List.map_map]
  apply List.map_congr_left
  intro j hj
  rw [if_pos (List.mem_range.1 hj)]
  rfl
theorem evenTo_step (U : List Bool) (i : Nat) : (evenTo U i).set i ((evenAt U i : Nat) : Int) = evenTo U (i + 1) := by
  apply List.ext_getElem
  · simp [evenTo]
  · intro j h1 h2
    rw [List.getElem_set]
    simp only [evenTo, List.getElem_map, List.getElem_range]
    by_cases hj : i = j
    · rw [if_pos hj, if_pos (by omega), hj]
    · rw [if_neg hj]
      by_cases h3 : j < i
      · rw [if_pos h3, if_pos (by omega)]
      · rw [if_neg h3, if_neg (by omega)]
theorem evenTo_skip (U : List Bool) (i : Nat) (h : U.getD i false = false) : evenTo U (i + 1) = evenTo U i := by
  unfold evenTo
  apply List.map_congr_left
  intro j _
  by_cases hj : j < i
  · rw [if_pos hj, if_pos (by omega)]
  · rw [if_neg hj]
    by_cases h2 : j < i + 1
    · rw [if_pos h2, show j = i by omega]
      unfold evenAt
      rw [h]
      split <;> simp
    · rw [if_neg h2]
theorem evenI_none (U : List Bool) (h : numOf U = 0 ∨ 32768 < numOf U) : evenI U = List.replicate U.length 0 := by
  apply List.ext_getElem
  · simp [evenI, evenOf]
  · intro j h1 h2
    simp [evenI, evenOf, evenAt, h]

theorem cntTo_succ (U : List Bool) (i : Nat) (hi : i < U.length) : cntTo U (i + 1) = cntTo U i + (if U.getD i false = true then 1 else 0) := by
  unfold cntTo
  rw [List.take_add_one, List.count_append]
  simp only [List.getElem?_eq_getElem hi, Option.toList_some, List.getD, Option.getD_some]
  cases U[i] <;> simp
theorem cntTo_all (U : List Bool) : cntTo U U.length = numOf U := by unfold cntTo numOf; rw [List.take_length]
theorem cntTo_le (U : List Bool) (i : Nat) : cntTo U i ≤ numOf U := List.Sublist.count_le true (List.take_sublist i U)
theorem cntTo_len (U : List Bool) (i : Nat) : cntTo U i ≤ U.length := Nat.le_trans (cntTo_le U i) List.count_le_length
theorem cntTo_lt (U : List Bool) (i : Nat) (hi : i < U.length) (h : U.getD i false = true) : cntTo U i < numOf U := by
  have h1 := cntTo_succ U i hi
  rw [if_pos h] at h1
  have := cntTo_le U (i + 1)
  omega

theorem log2_is (m k : Nat) (h1 : 2 ^ k ≤ m) (h2 : m < 2 ^ (k + 1)) : m.log2 = k := by
  have h0 : m ≠ 0 := by have : 0 < 2 ^ k := Nat.pow_pos (by decide); omega
  exact (Nat.log2_eq_iff h0).2 ⟨h1, h2⟩

theorem log2_spec (m : Nat) (h : 0 < m) : 2 ^ m.log2 ≤ m ∧ m < 2 ^ (m.log2 + 1) := ⟨Nat.log2_self_le (by omega), Nat.lt_log2_self⟩

theorem lenAt_even (U : List Bool) (i : Nat) (hi : i < U.length) : lenAt (evenOf U) i = evenAt U i := by
  simp [lenAt, evenOf, List.getD, hi]

theorem even_take (U : List Bool) (k s : Nat) (hk : k ≤ 13) (hat : ∀ i, i < U.length → evenAt U i = if U.getD i false = true then (if cntTo U i < s then k else k + 1) else 0) (hk0 : 0 < k) :
    ∀ i, i ≤ U.length → usedOf ((evenOf U).take i) = cntTo U i ∧ room ((evenOf U).take i) = min (cntTo U i) s * 2 ^ (15 - k) + (cntTo U i - s) * 2 ^ (14 - k) := by
  intro i
  induction i with
  | zero => intro _; exact ⟨rfl, by simp [room, cntTo]⟩
  | succ i ih =>
    intro hi
    obtain ⟨h1, h2⟩ := ih (by omega)
    rw [take_lenAt _ i (by rw [evenOf_length]; omega), used_snoc, room_snoc, lenAt_even U i (by omega), hat i (by omega), cntTo_succ U i (by omega), h1, h2]
    by_cases hu : U.getD i false = true
    · rw [if_pos hu, if_pos hu]
      by_cases hs : cntTo U i < s
      · rw [if_pos hs, if_pos hk0, if_neg (by omega), show min (cntTo U i + 1) s = min (cntTo U i) s + 1 by omega, show cntTo U i + 1 - s = 0 by omega, show cntTo U i - s = 0 by omega, Nat.add_mul]
        exact ⟨rfl, by omega⟩
      · rw [if_neg hs, if_pos (by omega), if_neg (by omega), show min (cntTo U i + 1) s = min (cntTo U i) s by omega, show cntTo U i + 1 - s = (cntTo U i - s) + 1 by omega, Nat.add_mul, show 15 - (k + 1) = 14 - k by omega]
        exact ⟨rfl, by omega⟩
    · rw [if_neg hu, if_neg hu]
      simp

theorem even_good (U : List Bool) (hl : U.length ≤ 1024) : newErr (evenI U) = 0 ∧ (2 ≤ numOf U → room (evenOf U) = 32768) ∧ (numOf U = 1 → longOf (evenOf U) = 1 ∧ room (evenOf U) = 16384) ∧ (numOf U = 0 → usedOf (evenOf U) = 0) := by
  have hml : numOf U ≤ 1024 := Nat.le_trans List.count_le_length hl
  have hok : okLens (evenI U) = true := by
    apply List.all_eq_true.2
    intro x hx
    obtain ⟨n, hn, rfl⟩ := List.mem_map.1 hx
    obtain ⟨j, _, rfl⟩ := List.mem_map.1 hn
    have hb : evenAt U j ≤ 15 := by
      unfold evenAt
      split
      · omega
      · rename_i h0
        have hlg : (numOf U).log2 ≤ 10 := by
          have h1 := (log2_spec (numOf U) (by omega)).1
          by_cases h : (numOf U).log2 ≤ 10
          · exact h
          · have : 2 ^ 11 ≤ 2 ^ (numOf U).log2 := Nat.pow_le_pow_right (by decide) (by omega)
            omega
        have hk : kOf (numOf U) ≤ 10 := by unfold kOf; split <;> omega
        split
        · split <;> omega
        · omega
    simp only [Bool.and_eq_true, decide_eq_true_eq]
    omega
  have h15 := (lens_ok _ hok).1
  rw [lensOf_evenI] at h15
  have fin : ∀ rm us lg, room (evenOf U) = rm → usedOf (evenOf U) = us → longOf (evenOf U) = lg → (rm = 32768 ∨ us = 0 ∨ (us = 1 ∧ lg = 1)) → rm ≤ 32768 → newErr (evenI U) = 0 := by
    intro rm us lg e1 e2 e3 hc hr
    unfold newErr
    rw [if_neg (by rw [evenI_length]; omega), if_neg (by rw [hok]; simp), lensOf_evenI, e1, e2, e3, if_neg (by omega), if_neg]
    rintro ⟨a1, a2, a3⟩
    omega
  by_cases hm0 : numOf U = 0
  · have hz : evenOf U = List.replicate U.length 0 := by
      have := congrArg lensOf (evenI_none U (.inl hm0))
      rw [lensOf_evenI] at this
      rw [this]
      simp [lensOf]
    have hu : usedOf (evenOf U) = 0 := by rw [hz]; simp [usedOf]
    have hr := (used_take (evenOf U) _ (Nat.le_refl _)).1
    rw [List.take_length] at hr
    obtain ⟨r1, r2⟩ := hr hu
    exact ⟨fin _ _ _ rfl rfl rfl (.inr (.inl hu)) (by rw [r1]; omega), fun h => by omega, fun h => by omega, fun _ => hu⟩
  · have hat : ∀ i, i < U.length → evenAt U i = if U.getD i false = true then (if cntTo U i < shortOf (numOf U) then kOf (numOf U) else kOf (numOf U) + 1) else 0 := by
      intro i _
      unfold evenAt
      rw [if_neg (by omega)]
    have hlg : (numOf U).log2 ≤ 10 := by
      have h1 := (log2_spec (numOf U) (by omega)).1
      by_cases h : (numOf U).log2 ≤ 10
      · exact h
      · have : 2 ^ 11 ≤ 2 ^ (numOf U).log2 := Nat.pow_le_pow_right (by decide) (by omega)
        omega
    have hk13 : kOf (numOf U) ≤ 13 := by unfold kOf; split <;> omega
    have hk0 : 0 < kOf (numOf U) := by
      unfold kOf
      split
      · omega
      · rename_i h1
        have := (log2_spec (numOf U) (by omega)).2
        by_cases h : 0 < (numOf U).log2
        · exact h
        · have e : (numOf U).log2 = 0 := by omega
          rw [e] at this
          omega
    obtain ⟨hu, hr⟩ := even_take U _ _ hk13 hat hk0 U.length (Nat.le_refl _)
    have htk : (evenOf U).take U.length = evenOf U := List.take_of_length_le (by rw [evenOf_length]; exact Nat.le_refl _)
    rw [htk, cntTo_all] at hu hr
    by_cases hm1 : numOf U = 1
    · have e1 : kOf (numOf U) = 1 := by unfold kOf; rw [if_pos hm1]
      have e2 : shortOf (numOf U) = 1 := by rw [hm1]; decide
      rw [e1, e2, hm1] at hr
      have hr' : room (evenOf U) = 16384 := by simpa using hr
      have hlong := (one_code (evenOf U) h15 (by omega)).1 hr'
      exact ⟨fin 16384 1 1 hr' (hu.trans hm1) hlong (.inr (.inr ⟨rfl, rfl⟩)) (by decide), fun h => absurd h (by rw [hm1]; decide), fun _ => ⟨hlong, hr'⟩, fun h => absurd h (by rw [hm1]; decide)⟩
    · have e1 : kOf (numOf U) = (numOf U).log2 := by unfold kOf; rw [if_neg hm1]
      obtain ⟨s1, s2⟩ := log2_spec (numOf U) (by omega)
      rw [e1] at hr hk13 hk0
      have hsm : shortOf (numOf U) ≤ numOf U := by unfold shortOf; rw [Nat.pow_succ]; omega
      have hfull : room (evenOf U) = 32768 := by
        rw [hr, Nat.min_eq_right hsm, show 15 - (numOf U).log2 = (14 - (numOf U).log2) + 1 by omega, Nat.pow_succ, ← Nat.mul_assoc, Nat.mul_right_comm, ← Nat.add_mul]
        have e3 : shortOf (numOf U) * 2 + (numOf U - shortOf (numOf U)) = 2 ^ ((numOf U).log2 + 1) := by
          have : shortOf (numOf U) = 2 ^ ((numOf U).log2 + 1) - numOf U := rfl
          omega
        rw [e3, ← Nat.pow_add, show (numOf U).log2 + 1 + (14 - (numOf U).log2) = 15 by omega]
      exact ⟨fin _ _ _ rfl rfl rfl (.inl hfull) (by omega), fun _ => hfull, fun h => by omega, fun h => by omega⟩

end Go.Proofs.Ytgjcnembeebjfaa
