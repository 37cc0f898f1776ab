/- Symbols that are written by their codes: what is read again; the writer and the row of what was written. -/
import Derived.Test.YtbgejebnpmogoaaHufL5
import Derived.Test.YtbgejebnpmogoaaHufL4
import Derived.Test.YtbgejebnpmogoaaBitsW2
namespace Go.Proofs.Ytbgejebnpmogoaa
open Go.RowKit

/-- the bits of symbols, written one behind the other -/
def wbits (ls : List Nat) (want : List Nat) : List Bool := want.flatMap fun k => highBits ((codeOf ls k : Nat) : Int) (lenAt ls k)

theorem wbits_snoc (ls want : List Nat) (k : Nat) : wbits ls (want ++ [k]) = wbits ls want ++ highBits ((codeOf ls k : Nat) : Int) (lenAt ls k) := by simp [wbits]
theorem wbits_append (ls a b : List Nat) : wbits ls (a ++ b) = wbits ls a ++ wbits ls b := by simp [wbits]
theorem wbits_len (ls want : List Nat) (h15 : ∀ n ∈ ls, n ≤ 15) (h : ∀ k ∈ want, k < ls.length) : (wbits ls want).length ≤ 15 * want.length := by
  induction want with
  | nil => simp [wbits]
  | cons a want ih =>
    have h1 := h15 _ (lenAt_mem ls a (h a (by simp)))
    have h2 := ih (fun k hk => h k (by simp [hk]))
    have e : wbits ls (a :: want) = highBits ((codeOf ls a : Nat) : Int) (lenAt ls a) ++ wbits ls want := by simp [wbits]
    rw [e, List.length_append, highBits_length, List.length_cons]
    omega

theorem highBits_getD (c n j : Nat) (hj : j < n) : (highBits (c : Int) n).getD j false = c.testBit (n - 1 - j) := by
  simp only [highBits, List.getD, List.getElem?_map, List.getElem?_range hj, Option.map_some, Option.getD_some, bitOf]
  rw [Nat.testBit_eq_decide_div_mod_eq]
  have : ((c : Int) / 2 ^ (n - 1 - j) % 2) = ((c / 2 ^ (n - 1 - j) % 2 : Nat) : Int) := by simp
  rw [this]
  congr 1
  simp only [eq_iff_iff]
  omega

/-- where the i-th symbol's bits begin -/
def posAt (ls want : List Nat) (i : Nat) : Nat := (wbits ls (want.take i)).length

theorem posAt_succ (ls want : List Nat) (i : Nat) (hi : i < want.length) : posAt ls want (i + 1) = posAt ls want i + lenAt ls (want.getD i 0) := by
  unfold posAt
  have e : want.take (i + 1) = want.take i ++ [want.getD i 0] := by rw [List.take_add_one]; simp [List.getD, hi]
  rw [e, wbits_snoc, List.length_append, highBits_length]

theorem posAt_le (ls want : List Nat) (i : Nat) : posAt ls want i ≤ (wbits ls want).length := by
  unfold posAt
  have e : want = want.take i ++ want.drop i := (List.take_append_drop i want).symm
  have : (wbits ls want).length = (wbits ls (want.take i)).length + (wbits ls (want.drop i)).length := by
    rw [← List.length_append, ← wbits_append, ← e]
  omega

theorem wstr_size (l : List Bool) : 8 * (strOf (pack l)).size = 8 * ((l.length + 7) / 8) := by rw [strOf_size, pack_length]

theorem back_next (ls : List Nat) (hg : Good ls) (want : List Nat) (hw : ∀ k ∈ want, k < ls.length ∧ 1 ≤ lenAt ls k) (i : Nat) (hi : i < want.length) :
    nextRes ls (peekNum (strOf (pack (wbits ls want))) (posAt ls want i) 15) (min 15 (8 * (strOf (pack (wbits ls want))).size - posAt ls want i)) = (want.getD i 0, lenAt ls (want.getD i 0), 0) := by
  have hk : want.getD i 0 ∈ want := by simp only [List.getD, List.getElem?_eq_getElem hi, Option.getD_some]; exact List.getElem_mem hi
  obtain ⟨h1, h2⟩ := hw _ hk
  have hs := posAt_succ ls want i hi
  have hle := posAt_le ls want (i + 1)
  refine next_hit ls hg _ _ _ _ h1 ⟨h2, ?_, ?_⟩
  · rw [wstr_size]; omega
  · intro j hj
    unfold strBit
    rw [strBits_pack, pad8_getD]
    have e : wbits ls want = wbits ls (want.take i) ++ (highBits ((codeOf ls (want.getD i 0) : Nat) : Int) (lenAt ls (want.getD i 0)) ++ wbits ls (want.drop (i + 1))) := by
      have e1 : want = want.take i ++ ([want.getD i 0] ++ want.drop (i + 1)) := by
        have h3 : want.drop i = want.getD i 0 :: want.drop (i + 1) := by
          rw [List.drop_eq_getElem_cons hi]; simp [List.getD, hi]
        rw [List.singleton_append, ← h3, List.take_append_drop]
      have e2 := congrArg (wbits ls) e1
      rw [wbits_append, wbits_append] at e2
      rw [e2]
      simp [wbits]
    rw [← highBits_getD _ _ _ hj]
    unfold posAt
    rw [e]
    simp only [List.getD]
    rw [List.getElem?_append_right (by omega), Nat.add_sub_cancel_left, List.getElem?_append_left (by rw [highBits_length]; exact hj)]

def natI (l : List Nat) : List Int := l.map fun n : Nat => (n : Int)

/-- the writer, and the row of what was written -/
structure BSt (w0 wx : World) (wb : Nat) (l : List Bool) (wv : Value) (want : List Nat) : Prop where
  wr : ∃ r, WrIs wx wb r l ∧ ∀ g, r = some g → w0.heap.size ≤ g
  row : IRow wx wv (natI want)
  fresh : ∀ g, wv.ownBlock = some g → w0.heap.size ≤ g
  kept : Mut [wb] w0 wx
  lt : wb < w0.heap.size

theorem BSt.start (w : World) : BSt (w.alloc (.cells #[.slice none 0 0, .int .i64 0] 49)) (w.alloc (.cells #[.slice none 0 0, .int .i64 0] 49)) w.heap.size [] (.slice none 0 0) [] :=
  ⟨⟨none, writer_new w, fun g hg => by cases hg⟩, IRow.nil _, fun g hg => by simp [Value.ownBlock] at hg, Mut.refl _ _, by simp⟩

theorem BSt.drew {w0 wx : World} {wb : Nat} {l : List Bool} {wv : Value} {want : List Nat} (h : BSt w0 wx wb l wv want) : BSt w0 wx.drew wb l wv want := by
  obtain ⟨r, h1, h2⟩ := h.wr
  exact ⟨⟨r, h1.drew, h2⟩, h.row, h.fresh, h.kept.drew, h.lt⟩

theorem BSt.code {w0 wx : World} {wb : Nat} {l : List Bool} {wv : Value} {want : List Nat} (h : BSt w0 wx wb l wv want) (c : Int) (n : Nat) (hl : l.length ≤ 1125899906841000) (hn : n ≤ 32) :
    Calls Try.prog 22 #[.pointer (some ⟨wb, 0, none⟩), .int .i64 c, .int .i64 (n : Int)] wx fun e w' => e = .returned (.tuple #[]) ∧ BSt w0 w' wb (l ++ highBits c n) wv want := by
  obtain ⟨r, h1, h2⟩ := h.wr
  refine (code_any wb r l c n wx h1 hl hn).mono fun e w' ⟨he, r', k1, k2, k3⟩ => ⟨he, ⟨r', k1, fun g hg => ?_⟩, ?_, h.fresh, ?_, h.lt⟩
  · rcases k2 g hg with h3 | h3
    · exact h2 g h3
    · exact Nat.le_trans h.kept.size h3
  · refine h.row.mut k3 (fun g hg hm => ?_)
    rcases List.mem_cons.1 hm with rfl | hm
    · have := h.fresh g hg
      have := h.lt
      omega
    · have hr : r = some g := by simpa using hm
      rcases h.row.2 with ⟨e1, _⟩ | ⟨b, cap, cur, e1, _, hh, _⟩
      · rw [e1] at hg; simp [Value.ownBlock] at hg
      · rw [e1] at hg
        simp [Value.ownBlock] at hg
        subst hg
        exact h1.row_ne hh (by decide) b hr rfl
  · refine h.kept.trans k3 (fun x hx => ?_)
    rcases List.mem_cons.1 hx with rfl | hx
    · exact .inl (by simp)
    · exact .inr (h2 x (by simpa using hx))

theorem BSt.add {w0 wx w' : World} {wb : Nat} {l : List Bool} {wv wv' : Value} {want : List Nat} (h : BSt w0 wx wb l wv want) (o : Obj) (k : Nat) (hr : IRow w' wv' (natI want ++ [(k : Int)])) (m : Mut wv.ownBlock.toList (wx.alloc o) w')
    (hf : ∀ g, wv'.ownBlock = some g → wv.ownBlock = some g ∨ wx.heap.size + 1 ≤ g) : BSt w0 w' wb l wv' (want ++ [k]) := by
  obtain ⟨r, h1, h2⟩ := h.wr
  have hs := h.kept.size
  have m2 : Mut wv.ownBlock.toList wx w' := ((Mut.refl _ wx).alloc o).trans m (fun x hx => .inl hx)
  refine ⟨⟨r, h1.mut m2 (fun hm => ?_) (fun g hg hm => ?_), h2⟩, ?_, fun g hg => ?_, ?_, h.lt⟩
  · have := h.fresh wb (by simpa using hm)
    have := h.lt
    omega
  · have hv : wv.ownBlock = some g := by simpa using hm
    rcases h.row.2 with ⟨e1, _⟩ | ⟨b, cap, cur, e1, _, hh, _⟩
    · rw [e1] at hv; simp [Value.ownBlock] at hv
    · rw [e1] at hv
      simp [Value.ownBlock] at hv
      subst hv
      exact h1.row_ne hh (by decide) b hg rfl
  · have e : natI (want ++ [k]) = natI want ++ [(k : Int)] := by simp [natI]
    rw [e]; exact hr
  · rcases hf g hg with h3 | h3
    · exact h.fresh g h3
    · omega
  · refine h.kept.trans m2 (fun x hx => .inr (h.fresh x (by simpa using hx)))

/-- what a reader of written symbols holds -/
structure ESt (w wx : World) (lo hi b rb : Nat) (ls : List Nat) (wv : Value) (want : List Nat) (s : ByteArray) (k : Nat) : Prop where
  tab : TableIs wx lo hi b ls
  rd : RdIs wx rb s k
  row : IRow wx wv (natI want)
  kept : Mut [] w wx
  hi_le : hi ≤ rb
  fresh : w.heap.size ≤ rb
  wvne : ∀ g, wv.ownBlock = some g → g ≠ rb

theorem ESt.step {w wx wy : World} {lo hi b rb : Nat} {ls : List Nat} {wv : Value} {want : List Nat} {s : ByteArray} {k k' : Nat} (h : ESt w wx lo hi b rb ls wv want s k) (hr : RdIs wy rb s k') (m : Mut [rb] wx wy) : ESt w wy lo hi b rb ls wv want s k' :=
  ⟨h.tab.mut m (fun x hx => by have := h.hi_le; simp at hx; omega), hr, h.row.mut m (fun g hg => by have := h.wvne g hg; simpa using this), h.kept.trans m (fun x hx => by have := h.fresh; simp at hx; omega), h.hi_le, h.fresh, h.wvne⟩

/-- the index of a symbol, of any number -/
theorem sym_mod (x : Int) (n : Nat) (h0 : 0 < n) (hn : n ≤ 1048576) : ∃ k : Nat, k < n ∧ (wrap64 (x.tmod (n : Int) + (n : Int))).tmod (n : Int) = (k : Int) := by
  have h1 : -(n : Int) < x.tmod (n : Int) ∧ x.tmod (n : Int) < (n : Int) := by
    constructor
    · have := Int.lt_tmod_of_pos x (show (0 : Int) < (n : Int) by omega)
      omega
    · exact Int.tmod_lt_of_pos x (by omega)
  have h2 : wrap64 (x.tmod (n : Int) + (n : Int)) = x.tmod (n : Int) + (n : Int) := IntWalk.wrap64_in _ (by omega)
  rw [h2, Int.tmod_eq_emod_of_nonneg (by omega)]
  have h3 := Int.emod_nonneg (x.tmod (n : Int) + (n : Int)) (show (n : Int) ≠ 0 by omega)
  have h4 := Int.emod_lt_of_pos (x.tmod (n : Int) + (n : Int)) (show (0 : Int) < (n : Int) by omega)
  exact ⟨((x.tmod (n : Int) + (n : Int)) % (n : Int)).toNat, by omega, by omega⟩

end Go.Proofs.Ytbgejebnpmogoaa
