/- Plain: the number that lowest bits tell. No program. Tokens put together are the span again, plain. No program. What Pack lays by choices, plain: symbols of lengths and distances, the bits of tokens, of blocks, of all. No program. What Pack lays is what the unpacker's machine takes apart, plain. No program. Blocks, and all of them, taken apart again, plain. No program. -/
import Derived.Test.YtgjcnembeebjfaaGBw
import Derived.Test.YtgjcnembeebjfaaGTok
import Derived.Test.YtgjcnembeebjfaaGInM
import Derived.Test.YtgjcnembeebjfaaGSza
import Derived.Test.YtgjcnembeebjfaaGHuf
import Derived.Test.YtgjcnembeebjfaaGInZ

namespace Go.Proofs.Ytgjcnembeebjfaa
open Go.RowKit

theorem emod_succ (v : Int) (n : Nat) : v % 2 ^ (n + 1) = v % 2 ^ n + v / 2 ^ n % 2 * 2 ^ n := by
  have hp : 0 < (2 : Int) ^ n := Int.pow_pos (by decide)
  have h1 := Int.emod_add_mul_ediv v (2 ^ n)
  have h2 := Int.emod_add_mul_ediv (v / 2 ^ n) 2
  have b0 := Int.emod_nonneg v (show (2 : Int) ^ n ≠ 0 by omega)
  have b1 := Int.emod_lt_of_pos v hp
  have e : v = (v % 2 ^ n + v / 2 ^ n % 2 * 2 ^ n) + 2 ^ (n + 1) * (v / 2 ^ n / 2) := by
    rw [Int.pow_succ]
    generalize v / 2 ^ n = q at *
    generalize v % 2 ^ n = r at *
    generalize (2 : Int) ^ n = p at *
    have h3 : p * q = p * (q % 2) + p * 2 * (q / 2) := by
      conv => lhs; rw [← h2]
      rw [Int.mul_add, Int.mul_assoc]
    rw [Int.mul_comm (q % 2) p]
    omega
  have hlt : v % 2 ^ n + v / 2 ^ n % 2 * 2 ^ n < 2 ^ (n + 1) := by
    rw [Int.pow_succ]
    rcases (show v / 2 ^ n % 2 = 0 ∨ v / 2 ^ n % 2 = 1 by omega) with h | h <;> rw [h] <;> omega
  have hge : 0 ≤ v % 2 ^ n + v / 2 ^ n % 2 * 2 ^ n := by
    rcases (show v / 2 ^ n % 2 = 0 ∨ v / 2 ^ n % 2 = 1 by omega) with h | h <;> rw [h] <;> omega
  conv => lhs; rw [e]
  rw [Int.add_mul_emod_self_left, Int.emod_eq_of_lt hge hlt]

theorem num_lowBits (v : Int) (n : Nat) : ((num (lowBits v n) : Nat) : Int) = v % 2 ^ n := by
  induction n with
  | zero => simp [lowBits, num, Int.emod_one]
  | succ n ih =>
    rw [lowBits_succ, num_append, Int.natCast_add, ih, emod_succ, lowBits_length]
    have := int_bit (v / 2 ^ n)
    simp only [num, Nat.mul_zero, Nat.add_zero]
    rw [Int.natCast_mul, ← this]; simp

end Go.Proofs.Ytgjcnembeebjfaa

namespace Go.Proofs.Ytgjcnembeebjfaa
open Go.RowKit
set_option linter.unusedVariables false

/-- what a token adds -/
def untk (out : List Nat) (x : Tok) : List Nat := if x.2.1 = 0 then out ++ [x.1] else copyN out x.2.2 x.2.1

theorem take_snoc' (D : List Nat) (k : Nat) (h : k < D.length) : D.take (k + 1) = D.take k ++ [D.getD k 0] := by
  rw [List.take_succ_eq_append_getElem h]
  simp [List.getD, h]

theorem getD_take' (D : List Nat) (k i : Nat) (h : i < k) : (D.take k).getD i 0 = D.getD i 0 := by
  simp only [List.getD, List.getElem?_take_of_lt h]

theorem copy_is (D : List Nat) (p te d : Nat) (hte : te ≤ D.length) (hd1 : 1 ≤ d) (hd : d ≤ p) : ∀ n, (∀ j, j < n → alkC D p te d j) → copyN (D.take p) d n = D.take (p + n)
  | 0, _ => rfl
  | n + 1, h => by
    have h1 := h n (by omega)
    unfold alkC at h1
    rw [copyN, copy_is D p te d hte hd1 hd n (fun j hj => h j (by omega)), List.length_take, show min (p + n) D.length = p + n by omega, getD_take' _ _ _ (by omega), ← h1.2, ← Nat.add_assoc, take_snoc' D (p + n) (by omega)]

theorem untk_at (D : List Nat) (p te M : Nat) (hte : te ≤ D.length) (hp : p < te) (hM : M ≤ p) : untk (D.take p) (tokAt D p (bst D p te M)) = D.take (p + max (bst D p te M).1 1) ∧ p + max (bst D p te M).1 1 ≤ te := by
  rcases bst_form D p te M with h | ⟨h1, h2, h3, h4, h5⟩
  · rw [h]
    refine ⟨?_, by show p + 1 ≤ te; omega⟩
    show D.take p ++ [D.getD p 0] = D.take (p + 1)
    rw [take_snoc' D p (by omega)]
  · have hall := alk_all D p te (bst D p te M).2 258
    rw [← h5] at hall
    have e : tokAt D p (bst D p te M) = (0, (bst D p te M).1, (bst D p te M).2) := by
      unfold tokAt
      rw [if_neg (by omega)]
    have e0 : ¬ (bst D p te M).1 = 0 := by omega
    rw [e]
    unfold untk
    simp only
    rw [if_neg e0, copy_is D p te _ hte h3 (by omega) _ hall, Nat.max_eq_left (by omega)]
    refine ⟨rfl, ?_⟩
    have := hall ((bst D p te M).1 - 1) (by omega)
    unfold alkC at this
    omega

theorem untks (D : List Nat) (te R : Nat) (hte : te ≤ D.length) : ∀ f p, p ≤ te → te - p ≤ f → (tks D te R f p).foldl untk (D.take p) = D.take te
  | 0, p, h1, h2 => by rw [show p = te by omega]; rfl
  | f + 1, p, h1, h2 => by
    rw [tks]
    by_cases h : p < te
    · rw [if_pos h, List.foldl_cons]
      obtain ⟨e1, e2⟩ := untk_at D p te (min R p) hte h (by omega)
      rw [e1]
      exact untks D te R hte f _ e2 (by omega)
    · rw [if_neg h, show p = te by omega]
      rfl

/-- of each token of a span: the length and the distance fit -/
def tokOk (R : Nat) (out : Nat) (x : Tok) : Prop := (x.2.1 = 0 ∧ x.2.2 = 0 ∧ x.1 < 256) ∨ (3 ≤ x.2.1 ∧ x.2.1 ≤ 258 ∧ 1 ≤ x.2.2 ∧ x.2.2 ≤ R ∧ x.2.2 ≤ out ∧ x.1 = 0)

theorem tokAt_ok (D : List Nat) (hD : ∀ x ∈ D, x < 256) (p te R : Nat) : tokOk R p (tokAt D p (bst D p te (min R p))) := by
  rcases bst_form D p te (min R p) with h | ⟨h1, h2, h3, h4, h5⟩
  · rw [h]
    refine .inl ⟨rfl, rfl, ?_⟩
    show D.getD p 0 < 256
    by_cases h : p < D.length
    · rw [show D.getD p 0 = D[p] by simp [List.getD, h]]
      exact hD _ (List.getElem_mem h)
    · rw [show D.getD p 0 = 0 by simp [List.getD, h]]
      decide
  · unfold tokAt
    rw [if_neg (by omega)]
    exact .inr ⟨h1, h2, h3, by simp only; omega, by simp only; omega, rfl⟩

theorem untk_len (out : List Nat) (x : Tok) : (untk out x).length = out.length + max x.2.1 1 := by
  unfold untk
  by_cases h : x.2.1 = 0
  · rw [if_pos h, h, List.length_append]
    simp
  · rw [if_neg h]
    obtain ⟨l, e, hl⟩ := copyN_len out x.2.2 x.2.1
    rw [e, List.length_append, hl]
    omega

/-- all tokens of a span fit -/
def toksOk (R : Nat) : Nat → List Tok → Prop
  | _, [] => True
  | o, x :: r => tokOk R o x ∧ toksOk R (o + max x.2.1 1) r

theorem tokAt_max (D : List Nat) (p te M : Nat) : max (tokAt D p (bst D p te M)).2.1 1 = max (bst D p te M).1 1 := by
  rcases bst_form D p te M with h | ⟨h1, h2, h3, h4, h5⟩
  · rw [h]
    rfl
  · unfold tokAt
    rw [if_neg (by omega)]

theorem tks_ok (D : List Nat) (hD : ∀ x ∈ D, x < 256) (te R : Nat) : ∀ f p, toksOk R p (tks D te R f p)
  | 0, p => trivial
  | f + 1, p => by
    rw [tks]
    split
    · refine ⟨tokAt_ok D hD p te R, ?_⟩
      rw [tokAt_max]
      exact tks_ok D hD te R f _
    · trivial

theorem toksOk_at (R : Nat) : ∀ (T : List Tok) (o : Nat), toksOk R o T → ∀ (i : Nat) (out : List Nat), out.length = o → (hi : i < T.length) → tokOk R ((T.take i).foldl untk out).length T[i]
  | [], _, _, i, _, _, hi => by simp at hi
  | x :: r, o, h, 0, out, ho, hi => by
    simp only [List.take_zero, List.foldl_nil, List.getElem_cons_zero]
    rw [ho]
    exact h.1
  | x :: r, o, h, i + 1, out, ho, hi => by
    simp only [List.take_succ_cons, List.foldl_cons, List.getElem_cons_succ]
    exact toksOk_at R r _ h.2 i _ (by rw [untk_len, ho]) (by simpa using hi)

theorem fold_grow : ∀ (T : List Tok) (out : List Nat), out.length ≤ (T.foldl untk out).length
  | [], out => Nat.le_refl _
  | x :: r, out => by
    rw [List.foldl_cons]
    have := fold_grow r (untk out x)
    have := untk_len out x
    omega

end Go.Proofs.Ytgjcnembeebjfaa

namespace Go.Proofs.Ytgjcnembeebjfaa
open Go.RowKit
set_option linter.unusedVariables false

/-- the last symbol of those from 'first' on whose least number is no greater -/
def symDn (R : Nat → Nat × Nat) (n first : Nat) : Nat → Nat
  | 0 => 0
  | k + 1 => if (R (first + k)).1 ≤ n then first + k else symDn R n first k

theorem symDn_spec (R : Nat → Nat × Nat) (n first : Nat) (h0 : (R first).1 ≤ n) : ∀ k, 0 < k → first ≤ symDn R n first k ∧ symDn R n first k < first + k ∧ (R (symDn R n first k)).1 ≤ n ∧ ∀ s, symDn R n first k < s → s < first + k → n < (R s).1
  | 0, h => by omega
  | k + 1, _ => by
    rw [symDn]
    by_cases h : (R (first + k)).1 ≤ n
    · rw [if_pos h]
      exact ⟨by omega, by omega, h, fun s h1 h2 => by omega⟩
    · rw [if_neg h]
      have hk : 0 < k := by
        by_cases hk : k = 0
        · subst hk; exact absurd h0 h
        · omega
      obtain ⟨h1, h2, h3, h4⟩ := symDn_spec R n first h0 k hk
      refine ⟨h1, by omega, h3, fun s h5 h6 => ?_⟩
      by_cases h7 : s = first + k
      · subst h7; omega
      · exact h4 s h5 (by omega)

def lenSym (n : Nat) : Nat := symDn lenR n 257 29
def distSym (n : Nat) : Nat := symDn distR n 0 30

theorem lenSym_all : (List.range 256).all (fun i => decide (257 ≤ lenSym (i + 3)) && (decide (lenSym (i + 3) ≤ 285) && (decide ((lenR (lenSym (i + 3))).1 ≤ i + 3) && decide (i + 3 - (lenR (lenSym (i + 3))).1 < 2 ^ (lenR (lenSym (i + 3))).2)))) = true := by decide +kernel

theorem lenSym_spec (n : Nat) (h3 : 3 ≤ n) (h : n ≤ 258) : 257 ≤ lenSym n ∧ lenSym n ≤ 285 ∧ (lenR (lenSym n)).1 ≤ n ∧ n - (lenR (lenSym n)).1 < 2 ^ (lenR (lenSym n)).2 := by
  have := List.all_eq_true.1 lenSym_all (n - 3) (List.mem_range.2 (by omega))
  simp only [Bool.and_eq_true, decide_eq_true_eq, show n - 3 + 3 = n by omega] at this
  exact ⟨this.1, this.2.1, this.2.2.1, this.2.2.2⟩

theorem distSym_spec (n : Nat) (h1 : 1 ≤ n) (h : n ≤ 32768) : distSym n ≤ 29 ∧ (distR (distSym n)).1 ≤ n ∧ n - (distR (distSym n)).1 < 2 ^ (distR (distSym n)).2 := by
  obtain ⟨a1, a2, a3, a4⟩ := symDn_spec distR n 0 (by show 1 ≤ n; exact h1) 30 (by omega)
  change distSym n < 0 + 30 at a2
  change (distR (distSym n)).1 ≤ n at a3
  change ∀ s, distSym n < s → s < 0 + 30 → n < (distR s).1 at a4
  refine ⟨by omega, a3, ?_⟩
  have hs := distR_succ (distSym n) (by omega)
  have : n < (distR (distSym n + 1)).1 := by
    by_cases h29 : distSym n = 29
    · rw [h29]
      show n < 32769
      omega
    · exact a4 _ (by omega) (by omega)
  omega

/-- the code of a symbol -/
def hb (ls : List Nat) (k : Nat) : List Bool := highBits ((codeOf ls k : Nat) : Int) (lenAt ls k)
theorem hb_len (ls : List Nat) (k : Nat) : (hb ls k).length = lenAt ls k := by rw [hb, highBits_length]

/-- the bits of a token -/
def tok1 (l d : List Nat) (x : Tok) : List Bool :=
  if x.2.1 = 0 then hb l x.1
  else hb l (lenSym x.2.1) ++ lowBits ((x.2.1 - (lenR (lenSym x.2.1)).1 : Nat) : Int) (lenR (lenSym x.2.1)).2 ++ hb d (distSym x.2.2) ++ lowBits ((x.2.2 - (distR (distSym x.2.2)).1 : Nat) : Int) (distR (distSym x.2.2)).2
def toks (l d : List Nat) (T : List Tok) : List Bool := T.flatMap (tok1 l d) ++ hb l 256

theorem toks_snoc (l d : List Nat) (T : List Tok) (x : Tok) : (T ++ [x]).flatMap (tok1 l d) = T.flatMap (tok1 l d) ++ tok1 l d x := by simp

/-- which symbols tokens use -/
def useL1 (a : List Bool) (x : Tok) : List Bool := if x.2.1 = 0 then a.set x.1 true else a.set (lenSym x.2.1) true
def useD1 (b : List Bool) (x : Tok) : List Bool := if x.2.1 = 0 then b else b.set (distSym x.2.2) true
def useL (T : List Tok) : List Bool := T.foldl useL1 ((List.replicate 286 false).set 256 true)
def useD (T : List Tok) : List Bool := T.foldl useD1 (List.replicate 30 false)
def useE (b : List Bool) : List Bool := if numOf b < 2 then (b.set 0 true).set 1 true else b

/-- the lengths that a block tells, and these of all lengths -/
def told4 (x y : List Nat) : List Bool :=
  lowBits 29 5 ++ lowBits 29 5 ++ lowBits 15 4 ++ (lowBits 0 3 ++ lowBits 0 3 ++ lowBits 0 3 ++ (List.replicate 16 (lowBits 4 3)).flatten) ++ (x ++ y).flatMap (fun n : Nat => highBits (n : Int) 4)
def xOf (T : List Tok) : List Nat := evenOf (useL T)
def yOf (T : List Tok) : List Nat := evenOf (useE (useD T))

abbrev Ch := Int × Int × Int
def kindOf (k : Int) : Nat := ((if k < 0 then -(k + 1) else k) % 3).toNat
def chAt (C : List Ch) (sz i : Nat) : Ch := C.getD i (0, (sz : Int), 0)
def leftOf (C : List Ch) (sz a i : Nat) : Nat := (min (max (chAt C sz i).2.1 0) ((sz - a : Nat) : Int)).toNat
def reachOf (r : Int) : Nat := (min (max r 0) 32768).toNat
def cutOf (k L : Nat) : Nat := if k = 0 then min L 65535 else L

def span (D : List Nat) (a n R : Nat) : List Tok := tks D (a + n) R (n + 1) a

/-- a block -/
def blkB (D : List Nat) (k a n R : Nat) (q : Bool) (B : List Bool) : List Bool :=
  let H := B ++ lowBits (q.toNat : Int) 1 ++ lowBits (k : Int) 2
  if k = 0 then pad8 H ++ bytesBits [n % 256, n / 256, 255 - n % 256, 255 - n / 256] ++ bytesBits ((D.drop a).take n)
  else if k = 1 then H ++ toks fixedL fixedD (span D a n R)
  else H ++ told4 (xOf (span D a n R)) (yOf (span D a n R)) ++ toks (xOf (span D a n R)) (yOf (span D a n R)) (span D a n R)

def nextI (i L n : Nat) : Nat := if L - n = 0 then i + 1 else i
def nextL (C : List Ch) (sz a i L n : Nat) : Nat := if L - n = 0 then leftOf C sz (a + n) (i + 1) else L - n
def isLast (C : List Ch) (sz a i L n : Nat) : Bool := decide (a + n = sz ∧ C.length ≤ nextI i L n)

/-- all blocks from a place on -/
def packR (D : List Nat) (C : List Ch) : Nat → Nat → Nat → Nat → List Bool → List Bool
  | 0, _, _, _, B => B
  | f + 1, a, i, L, B =>
    let k := kindOf (chAt C D.length i).1
    let n := cutOf k L
    let q := isLast C D.length a i L n
    let B' := blkB D k a n (reachOf (chAt C D.length i).2.2) q B
    if q = true then B' else packR D C f (a + n) (nextI i L n) (nextL C D.length a i L n) B'

def packAll (D : List Nat) (C : List Ch) : List Bool := packR D C (D.length + C.length + 1) 0 0 (leftOf C D.length 0 0) []

/-- what holds where a block begins -/
structure PInv (sz : Nat) (C : List Ch) (a i L : Nat) : Prop where
  le : a ≤ sz
  room : L ≤ sz - a
  past : C.length ≤ i → L = sz - a

theorem leftOf_le (C : List Ch) (sz a i : Nat) : leftOf C sz a i ≤ sz - a := by unfold leftOf; omega
theorem leftOf_past (C : List Ch) (sz a i : Nat) (h : C.length ≤ i) : leftOf C sz a i = sz - a := by
  unfold leftOf chAt
  rw [show C.getD i (0, (sz : Int), 0) = (0, (sz : Int), 0) by simp [List.getD, h]]
  simp only
  omega
theorem kind_past (C : List Ch) (sz i : Nat) (h : C.length ≤ i) : kindOf (chAt C sz i).1 = 0 := by
  unfold chAt
  rw [show C.getD i (0, (sz : Int), 0) = (0, (sz : Int), 0) by simp [List.getD, h]]
  rfl

theorem PInv.start (sz : Nat) (C : List Ch) : PInv sz C 0 0 (leftOf C sz 0 0) := ⟨Nat.zero_le _, leftOf_le _ _ _ _, fun h => leftOf_past _ _ _ _ h⟩

theorem cut_le (k L : Nat) : cutOf k L ≤ L := by unfold cutOf; split <;> omega
theorem cut_zero (k L : Nat) (h : L - cutOf k L ≠ 0) : k = 0 ∧ cutOf k L = 65535 := by unfold cutOf at h ⊢; split at h <;> simp_all <;> omega

theorem PInv.next {sz : Nat} {C : List Ch} {a i L : Nat} (h : PInv sz C a i L) (k : Nat) : PInv sz C (a + cutOf k L) (nextI i L (cutOf k L)) (nextL C sz a i L (cutOf k L)) := by
  have h1 := cut_le k L
  have h2 := h.room
  have h3 := h.le
  refine ⟨by omega, ?_, fun h4 => ?_⟩
  · unfold nextL
    split
    · exact leftOf_le _ _ _ _
    · omega
  · unfold nextL nextI at *
    by_cases h5 : L - cutOf k L = 0
    · rw [if_pos h5] at h4 ⊢
      exact leftOf_past _ _ _ _ h4
    · rw [if_neg h5] at h4 ⊢
      have := h.past h4
      omega

/-- what is left to do -/
def muOf (sz : Nat) (C : List Ch) (a i : Nat) : Nat := (sz - a) + (C.length - i)

theorem mu_next {sz : Nat} {C : List Ch} {a i L : Nat} (h : PInv sz C a i L) (k : Nat) (hq : isLast C sz a i L (cutOf k L) = false) : muOf sz C (a + cutOf k L) (nextI i L (cutOf k L)) < muOf sz C a i := by
  have h1 := cut_le k L
  have h2 := h.room
  have h3 := h.le
  have hq' := of_decide_eq_false hq
  unfold muOf nextI at *
  by_cases h5 : L - cutOf k L = 0
  · rw [if_pos h5] at hq' ⊢
    by_cases h6 : C.length ≤ i
    · have := h.past h6
      exact absurd ⟨by omega, by omega⟩ hq'
    · omega
  · rw [if_neg h5] at hq' ⊢
    have := cut_zero k L h5
    omega

theorem packR_next {D : List Nat} {C : List Ch} {f a i L : Nat} {B F : List Bool} (h : PInv D.length C a i L) (hf : muOf D.length C a i < f) (hF : packR D C f a i L B = F) (k n : Nat) (q : Bool) (hk : kindOf (chAt C D.length i).1 = k) (hn : cutOf k L = n) (hq : isLast C D.length a i L n = q) :
    (q = true ∧ blkB D k a n (reachOf (chAt C D.length i).2.2) q B = F ∧ a + n = D.length ∧ C.length ≤ nextI i L n) ∨
    (q = false ∧ ∃ f', muOf D.length C (a + n) (nextI i L n) < f' ∧ packR D C f' (a + n) (nextI i L n) (nextL C D.length a i L n) (blkB D k a n (reachOf (chAt C D.length i).2.2) q B) = F ∧ PInv D.length C (a + n) (nextI i L n) (nextL C D.length a i L n) ∧ muOf D.length C (a + n) (nextI i L n) < muOf D.length C a i) := by
  obtain ⟨g, rfl⟩ : ∃ g, f = g + 1 := ⟨f - 1, by omega⟩
  rw [packR] at hF
  simp only [hk, hn, hq] at hF
  cases q with
  | true =>
    rw [if_pos rfl] at hF
    have := of_decide_eq_true hq
    exact .inl ⟨rfl, hF, this.1, this.2⟩
  | false =>
    rw [if_neg (by decide)] at hF
    have hm : muOf D.length C (a + n) (nextI i L n) < muOf D.length C a i := by
      subst hn
      exact mu_next h k hq
    refine .inr ⟨rfl, g, by omega, hF, ?_, hm⟩
    subst hn
    exact h.next k

end Go.Proofs.Ytgjcnembeebjfaa

namespace Go.Proofs.Ytgjcnembeebjfaa
open Go.RowKit
set_option linter.unusedVariables false

theorem highBits_getD' (c n j : Nat) (hj : j < n) : (highBits (c : Int) n).getD j false = c.testBit (n - 1 - j) := by
  simp only [highBits, List.getD, List.getElem?_map, List.getElem?_range hj, Option.map_some, Option.getD_some, bitOf]
  rw [Nat.testBit_eq_decide_div_mod_eq]
  have : ((c : Int) / 2 ^ (n - 1 - j) % 2) = ((c / 2 ^ (n - 1 - j) % 2 : Nat) : Int) := by simp
  rw [this]
  congr 1
  simp only [eq_iff_iff]
  omega

/-- a string's bits from a place on begin with these -/
def Has (s : ByteArray) (t : Nat) (l : List Bool) : Prop := t ≤ 8 * s.size ∧ ∃ r, (strBits s).drop t = l ++ r

theorem Has.left {s : ByteArray} {t : Nat} {a b : List Bool} (h : Has s t (a ++ b)) : Has s t a := by
  obtain ⟨h0, r, h⟩ := h
  exact ⟨h0, b ++ r, by rw [h, List.append_assoc]⟩
theorem Has.fits {s : ByteArray} {t : Nat} {l : List Bool} (h : Has s t l) : t + l.length ≤ 8 * s.size := by
  obtain ⟨h0, r, h⟩ := h
  have := congrArg List.length h
  rw [List.length_drop, strBits_length, List.length_append] at this
  omega
theorem Has.right {s : ByteArray} {t : Nat} {a b : List Bool} (h : Has s t (a ++ b)) : Has s (t + a.length) b := by
  have h1 := h.left.fits
  obtain ⟨h0, r, h⟩ := h
  exact ⟨h1, r, by rw [← List.drop_drop, h, List.append_assoc, List.drop_left]⟩
theorem Has.to {s : ByteArray} {t u : Nat} {a b : List Bool} (h : Has s t (a ++ b)) (hu : t + a.length = u) : Has s u b := hu ▸ h.right
theorem Has.num {s : ByteArray} {t : Nat} {l : List Bool} (h : Has s t l) : peekNum s t l.length = Go.Proofs.Ytgjcnembeebjfaa.num l := by
  obtain ⟨h0, r, h⟩ := h
  unfold peekNum
  rw [h, List.take_left]
theorem Has.bit {s : ByteArray} {t : Nat} {l : List Bool} (h : Has s t l) (j : Nat) (hj : j < l.length) : strBit s (t + j) = l.getD j false := by
  obtain ⟨h0, r, h⟩ := h
  have : (strBits s)[t + j]? = l[j]? := by
    rw [← List.getElem?_drop, h, List.getElem?_append_left hj]
  simp only [strBit, List.getD, this]

theorem bind_eq {α β : Type} {f : UM α} {g : α → UM β} {s : ByteArray} {m : Nat} {st st' : US} {v : α} (h : f s m st = (v, st')) : (f.bind g) s m st = g v s m st' := by
  unfold UM.bind
  rw [h]
theorem err_0 (s : ByteArray) (m t : Nat) (out : List Nat) : errU s m ⟨t, out, 0⟩ = (false, ⟨t, out, 0⟩) := rfl
theorem fail_0 (s : ByteArray) (m t : Nat) (out : List Nat) (b : Bool) (k : Nat) (hb : b = false) : failU b k s m ⟨t, out, 0⟩ = (false, ⟨t, out, 0⟩) := by subst hb; rfl
theorem long_0 (s : ByteArray) (m t : Nat) (out : List Nat) (n : Nat) (h : ¬ m < out.length + n) : longU n s m ⟨t, out, 0⟩ = (false, ⟨t, out, 0⟩) := fail_0 s m t out _ 2 (decide_eq_false h)
theorem far_0 (s : ByteArray) (m t : Nat) (out : List Nat) (n : Nat) (h : ¬ out.length < n) : farU n s m ⟨t, out, 0⟩ = (false, ⟨t, out, 0⟩) := fail_0 s m t out _ 9 (decide_eq_false h)
theorem ret_eq {α : Type} (v : α) (s : ByteArray) (m : Nat) (st : US) : UM.ret v s m st = (v, st) := rfl

theorem low_num (v n : Nat) (h : v < 2 ^ n) : num (lowBits (v : Int) n) = v := by
  have h1 := num_lowBits (v : Int) n
  have h2 : (v : Int) % 2 ^ n = (v : Int) := Int.emod_eq_of_lt (by omega) (by exact_mod_cast h)
  omega

theorem take_has {s : ByteArray} {t v n : Nat} (m : Nat) (out : List Nat) (h : Has s t (lowBits (v : Int) n)) (hv : v < 2 ^ n) : takeU n s m ⟨t, out, 0⟩ = (v, ⟨t + n, out, 0⟩) := by
  have h1 := h.fits
  have h2 := h.num
  rw [lowBits_length] at h1 h2
  unfold takeU
  rw [if_neg (by simp), if_pos h1, h2, low_num v n hv]

theorem next_has {s : ByteArray} {t k : Nat} (m : Nat) (out : List Nat) {ls : List Nat} (hg : Good ls) (hk : k < ls.length) (h1 : 1 ≤ lenAt ls k) (h : Has s t (hb ls k)) : nextU ls s m ⟨t, out, 0⟩ = (k, ⟨t + lenAt ls k, out, 0⟩) := by
  have hf := h.fits
  rw [hb_len] at hf
  have := next_hit ls hg s t (8 * s.size - t) k hk ⟨h1, by omega, fun j hj => by
    rw [h.bit j (by rw [hb_len]; exact hj)]
    unfold hb
    rw [highBits_getD' _ _ _ hj]⟩
  unfold nextU
  rw [if_neg (by simp)]
  simp only
  rw [this]

/-- the codes have what a token needs -/
def covT (l d : List Nat) (x : Tok) : Prop := if x.2.1 = 0 then 1 ≤ lenAt l x.1 else 1 ≤ lenAt l (lenSym x.2.1) ∧ 1 ≤ lenAt d (distSym x.2.2)

theorem lit_has {s : ByteArray} {t k m : Nat} (out d : List Nat) (hk : k < 256) (hm : out.length + 1 ≤ m) : symbolU k d s m ⟨t, out, 0⟩ = ((), ⟨t, out ++ [k], 0⟩) := by
  have h0 : ¬ m < out.length + 1 := by omega
  unfold symbolU
  rw [if_neg (by omega), bind_eq (long_0 s m t out 1 h0), if_neg (by decide)]
  rfl

theorem copy_has {s : ByteArray} {t m L K : Nat} (out d : List Nat) (hg : Good d) (hd : 30 ≤ d.length) (h3 : 3 ≤ L) (h258 : L ≤ 258) (hK : 1 ≤ K) (hK2 : K ≤ 32768) (hKo : K ≤ out.length) (hm : out.length + L ≤ m) (hc : 1 ≤ lenAt d (distSym K))
    (h : Has s t (lowBits ((L - (lenR (lenSym L)).1 : Nat) : Int) (lenR (lenSym L)).2 ++ hb d (distSym K) ++ lowBits ((K - (distR (distSym K)).1 : Nat) : Int) (distR (distSym K)).2)) :
    symbolU (lenSym L) d s m ⟨t, out, 0⟩ = ((), ⟨t + (lenR (lenSym L)).2 + lenAt d (distSym K) + (distR (distSym K)).2, copyN out K L, 0⟩) := by
  obtain ⟨a1, a2, a3, a4⟩ := lenSym_spec L h3 h258
  obtain ⟨b1, b2, b3⟩ := distSym_spec K hK hK2
  have e1 := take_has m out h.left.left a4
  have h2 := h.left.to (by rw [lowBits_length])
  have e2 := next_has m out hg (by omega) hc h2
  have h4 := h.to (by rw [List.length_append, lowBits_length, hb_len, ← Nat.add_assoc])
  have e3 := take_has m out h4 b3
  have q1 : (distR (distSym K)).1 + (K - (distR (distSym K)).1) = K := by omega
  have q2 : (lenR (lenSym L)).1 + (L - (lenR (lenSym L)).1) = L := by omega
  have n1 : ¬ out.length < K := by omega
  have n2 : ¬ m < out.length + L := by omega
  unfold symbolU copiedU
  rw [if_pos (by omega), if_pos ⟨a1, a2⟩, bind_eq e1, bind_eq e2, if_pos b1, bind_eq e3, q1, q2]
  rw [bind_eq (far_0 s m _ out K n1), if_neg (by decide), bind_eq (long_0 s m _ out L n2), if_neg (by decide)]
  rfl

theorem symbols_has {s : ByteArray} (l d : List Nat) (hl : Good l) (hd : Good d) (hll : 286 ≤ l.length) (hdl : 30 ≤ d.length) (h256 : 1 ≤ lenAt l 256) (m R : Nat) (hR : R ≤ 32768) :
    ∀ (T : List Tok) (out : List Nat) (t F : Nat), (∀ x ∈ T, covT l d x) → toksOk R out.length T → Has s t (toks l d T) → T.length < F → (T.foldl untk out).length ≤ m →
    symbolsU l d F s m ⟨t, out, 0⟩ = ((), ⟨t + (toks l d T).length, T.foldl untk out, 0⟩)
  | [], out, t, F, _, _, h, hF, hm => by
    obtain ⟨f, rfl⟩ : ∃ f, F = f + 1 := ⟨F - 1, by omega⟩
    have e1 := next_has m out hl (by omega) h256 (show Has s t (hb l 256) from h)
    rw [symbolsU, bind_eq e1, bind_eq (err_0 _ _ _ _), if_pos (by simp), ret_eq, show toks l d [] = hb l 256 from rfl, hb_len]
    rfl
  | x :: T, out, t, F, hc, hok, h, hF, hm => by
    obtain ⟨f, rfl⟩ : ∃ f, F = f + 1 := ⟨F - 1, by omega⟩
    have e0 : toks l d (x :: T) = tok1 l d x ++ toks l d T := by simp [toks]
    rw [e0] at h ⊢
    have hx := hc x (by simp)
    have hgr := fold_grow T (untk out x)
    have hul := untk_len out x
    rw [List.foldl_cons] at hm ⊢
    rw [List.length_cons] at hF
    obtain ⟨hk, hrest⟩ := hok
    have hh := h.left
    have main : ∃ sym t1, nextU l s m ⟨t, out, 0⟩ = (sym, ⟨t1, out, 0⟩) ∧ sym ≠ 256 ∧ symbolU sym d s m ⟨t1, out, 0⟩ = ((), ⟨t + (tok1 l d x).length, untk out x, 0⟩) := by
      unfold covT at hx
      unfold tok1 at hh ⊢
      rcases hk with ⟨k1, k2, k3⟩ | ⟨k1, k2, k3, k4, k5, k6⟩
      · rw [if_pos k1] at hx hh ⊢
        refine ⟨x.1, _, next_has m out hl (by omega) hx hh, by omega, ?_⟩
        rw [lit_has out d k3 (by omega), hb_len]
        unfold untk
        rw [if_pos k1]
      · rw [if_neg (by omega)] at hx hh ⊢
        obtain ⟨a1, a2, a3, a4⟩ := lenSym_spec x.2.1 k1 k2
        rw [List.append_assoc, List.append_assoc] at hh
        refine ⟨lenSym x.2.1, _, next_has m out hl (by omega) hx.1 hh.left, by omega, ?_⟩
        have h2 := hh.to (by rw [hb_len])
        rw [← List.append_assoc] at h2
        rw [copy_has out d hd hdl k1 k2 k3 (by omega) k5 (by omega) hx.2 h2]
        unfold untk
        rw [if_neg (by omega)]
        simp only [List.length_append, hb_len, lowBits_length]
        congr 2
        omega
    obtain ⟨sym, t1, e1, e2, e3⟩ := main
    have ih := symbols_has l d hl hd hll hdl h256 m R hR T (untk out x) (t + (tok1 l d x).length) f (fun y hy => hc y (by simp [hy])) (by rw [hul]; exact hrest) h.right (by omega) hm
    rw [symbolsU, bind_eq e1, bind_eq (err_0 _ _ _ _), if_neg (by simp [e2]), bind_eq e3, bind_eq (err_0 _ _ _ _), if_neg (by decide), ih, List.length_append, Nat.add_assoc]

/-! the lengths that a block tells -/
def sh19 : List Nat := List.replicate 16 4 ++ [0, 0, 0]
def v19 : List Nat := [0, 0, 0] ++ List.replicate 16 4
def shTo : Nat → List Nat
  | 0 => List.replicate 19 0
  | k + 1 => (shTo k).set (orderU.getD k 0) (v19.getD k 0)
theorem shTo_all : shTo 19 = sh19 := by decide +kernel
theorem v19_lt : ∀ k, v19.getD k 0 < 2 ^ 3 := by
  intro k
  by_cases h : k < 19
  · revert k
    decide +kernel
  · rw [show v19.getD k 0 = 0 by
      have : v19.length ≤ k := by show 19 ≤ k; omega
      simp [List.getD, this]]
    decide
theorem sh_codes : (List.range 16).all (fun c => decide (codeOf sh19 c = c) && decide (lenAt sh19 c = 4)) = true := by decide +kernel
theorem sh_good : Good sh19 := ⟨by decide +kernel, by decide +kernel, .inl (by decide +kernel)⟩
theorem sh_new : newErr (toI sh19) = 0 := by decide +kernel
theorem lens_toI (l : List Nat) : lensOf (toI l) = l := by
  unfold lensOf toI
  rw [List.map_map]
  conv => rhs; rw [← List.map_id l]
  apply List.map_congr_left
  intro x _
  simp

theorem short_has {s : ByteArray} (m : Nat) (out : List Nat) (t : Nat) : ∀ k, k ≤ 19 → Has s t ((v19.take k).flatMap fun n : Nat => lowBits (n : Int) 3) → shortU k s m ⟨t, out, 0⟩ = (shTo k, ⟨t + 3 * k, out, 0⟩)
  | 0, _, _ => rfl
  | k + 1, hk, h => by
    have e : v19.take (k + 1) = v19.take k ++ [v19.getD k 0] := take_snoc' v19 k (by show k < 19; omega)
    rw [e, List.flatMap_append] at h
    have hl : ((v19.take k).flatMap fun n : Nat => lowBits (n : Int) 3).length = 3 * k := by
      have : ∀ l : List Nat, (l.flatMap fun n : Nat => lowBits (n : Int) 3).length = 3 * l.length := by
        intro l
        induction l with
        | nil => rfl
        | cons a r ih => simp only [List.flatMap_cons, List.length_append, ih, lowBits_length, List.length_cons]; omega
      rw [this, List.length_take]
      show 3 * min k 19 = _
      omega
    have h1 := short_has m out t k (by omega) h.left
    have h2 := h.to (by rw [hl])
    rw [List.flatMap_cons, List.flatMap_nil, List.append_nil] at h2
    have h3 := take_has m out h2 (v19_lt k)
    rw [shortU, bind_eq h1, bind_eq h3, ret_eq, shTo, show t + 3 * k + 3 = t + 3 * (k + 1) by omega]

theorem lengths_has {s : ByteArray} (m n : Nat) (out : List Nat) : ∀ (z l : List Nat) (t F : Nat), (∀ c ∈ z, c < 16) → Has s t (z.flatMap fun c : Nat => highBits (c : Int) 4) → l.length + z.length = n → z.length < F →
    lengthsU sh19 n F l s m ⟨t, out, 0⟩ = (l ++ z, ⟨t + 4 * z.length, out, 0⟩)
  | [], l, t, F, _, _, hn, hF => by
    obtain ⟨f, rfl⟩ : ∃ f, F = f + 1 := ⟨F - 1, by omega⟩
    rw [lengthsU, bind_eq (err_0 _ _ _ _), if_pos (by simp at hn; simp [hn]), ret_eq]
    simp
  | c :: z, l, t, F, hz, h, hn, hF => by
    obtain ⟨f, rfl⟩ : ∃ f, F = f + 1 := ⟨F - 1, by omega⟩
    rw [List.length_cons] at hn hF
    rw [List.flatMap_cons] at h
    have hc : c < 16 := hz c (by simp)
    have hcc := List.all_eq_true.1 sh_codes c (List.mem_range.2 hc)
    simp only [Bool.and_eq_true, decide_eq_true_eq] at hcc
    have e1 := next_has m out sh_good (show c < sh19.length by show c < 19; omega) (by omega) (show Has s t (hb sh19 c) by unfold hb; rw [hcc.1, hcc.2]; exact h.left)
    rw [hcc.2] at e1
    have ih := lengths_has m n out z (l ++ [c]) (t + 4) f (fun y hy => hz y (by simp [hy])) (h.to (by rw [highBits_length])) (by simp; omega) (by omega)
    have g0 : ¬ n ≤ l.length := by omega
    have g1 : ¬ n - l.length < 1 := by omega
    have ag : againU c l = UM.ret (1, c) := by
      unfold againU
      rw [if_neg (by omega), if_neg (by omega), if_neg (by omega)]
    rw [lengthsU, bind_eq (err_0 _ _ _ _), if_neg (by simp [g0]), bind_eq e1, ag, bind_eq (ret_eq (1, c) _ _ _), bind_eq (fail_0 s m _ out _ 5 (decide_eq_false g1)), if_neg (by decide)]
    rw [show List.replicate (1, c).1 (1, c).2 = [c] from rfl, ih, List.append_assoc, List.length_cons, show t + 4 + 4 * z.length = t + 4 * (z.length + 1) by omega]
    rfl

theorem told_has {s : ByteArray} (m : Nat) (out x y : List Nat) (t : Nat) (hx : x.length = 286) (hy : y.length = 30) (hx16 : ∀ c ∈ x, c < 16) (hy16 : ∀ c ∈ y, c < 16) (nx : newErr (toI x) = 0) (ny : newErr (toI y) = 0) (h256 : x.getD 256 0 ≠ 0) (h : Has s t (told4 x y)) :
    toldU s m ⟨t, out, 0⟩ = ((x, y), ⟨t + (told4 x y).length, out, 0⟩) := by
  unfold told4 at h ⊢
  have hv : (lowBits 0 3 ++ lowBits 0 3 ++ lowBits 0 3 ++ (List.replicate 16 (lowBits 4 3)).flatten) = (v19.take 19).flatMap fun n : Nat => lowBits (n : Int) 3 := by decide +kernel
  rw [hv] at h ⊢
  have hvl : ((v19.take 19).flatMap fun n : Nat => lowBits (n : Int) 3).length = 57 := by decide +kernel
  have e1 := take_has (v := 29) (n := 5) m out h.left.left.left.left (by decide)
  have e2 := take_has (v := 29) (n := 5) m out (h.left.left.left.to (by rw [lowBits_length])) (by decide)
  have e3 := take_has (t := t + 5 + 5) (v := 15) (n := 4) m out (h.left.left.to (by first | (rw [List.length_append, lowBits_length]; done) | (rw [List.length_append, lowBits_length]; omega))) (by decide)
  have e4 := short_has m out (t + 14) 19 (by decide) (h.left.to (by simp only [List.length_append, lowBits_length]))
  rw [shTo_all] at e4
  have e5 := lengths_has m 316 out (x ++ y) [] (t + 71) 400 (fun c hc => (List.mem_append.1 hc).elim (hx16 c) (hy16 c)) (h.to (by simp only [List.length_append, lowBits_length, hvl])) (by simp [hx, hy]) (by simp [hx, hy])
  have hfl : ((x ++ y).flatMap fun n : Nat => highBits (n : Int) 4).length = 4 * 316 := by
    have : ∀ l : List Nat, (l.flatMap fun n : Nat => highBits (n : Int) 4).length = 4 * l.length := by
      intro l
      induction l with
      | nil => rfl
      | cons a r ih => simp only [List.flatMap_cons, List.length_append, ih, highBits_length, List.length_cons]; omega
    rw [this, List.length_append, hx, hy]
  have t1 : (x ++ y).take 286 = x := by rw [← hx, List.take_left]
  have t2 : (x ++ y).drop 286 = y := by rw [← hx, List.drop_left]
  have t3 : (x ++ y).getD 256 0 = x.getD 256 0 := by
    simp only [List.getD]
    rw [List.getElem?_append_left (by omega)]
  have tb : ∀ (l : List Nat) (u : Nat), newErr (toI l) = 0 → tableU (toI l) s m ⟨u, out, 0⟩ = (l, ⟨u, out, 0⟩) := fun l u h => by
    unfold tableU
    rw [if_neg (by simp), if_pos h, lens_toI]
  have e256 : ¬ (x ++ y).getD 256 0 = 0 := by rw [t3]; exact h256
  unfold toldU
  rw [bind_eq e1, bind_eq e2, bind_eq e3, bind_eq (fail_0 s m _ out (decide (29 < 29) || decide (29 < 29)) 5 rfl), if_neg (by decide), bind_eq e4, bind_eq (tb sh19 _ sh_new)]
  rw [show t + 14 + 3 * 19 = t + 71 from rfl, show 29 + 257 + 29 + 1 = 316 from rfl, bind_eq e5, List.nil_append, bind_eq (fail_0 s m _ out _ 5 (decide_eq_false e256)), if_neg (by decide)]
  rw [show 29 + 257 = 286 from rfl, t1, t2, bind_eq (tb x _ nx), bind_eq (tb y _ ny), ret_eq]
  simp only [List.length_append, lowBits_length, hvl, hfl, hx, hy]

end Go.Proofs.Ytgjcnembeebjfaa

namespace Go.Proofs.Ytgjcnembeebjfaa
open Go.RowKit
set_option linter.unusedVariables false

/-! even lengths of symbols that are used -/
theorem good_even (U : List Bool) (hl : U.length ≤ 1024) : Good (evenOf U) ∧ newErr (toI (evenOf U)) = 0 := by
  have h := (even_good U hl).1
  obtain ⟨h1, h2, h3, h4⟩ := newErr_len' _ h
  have h5 := (lens_ok _ h2).1
  rw [lensOf_evenI] at h3 h4 h5
  exact ⟨⟨h5, h3, h4⟩, h⟩

theorem kOf_rng (m : Nat) (h1 : 1 ≤ m) (h : m ≤ 1024) : 1 ≤ kOf m ∧ kOf m ≤ 10 := by
  unfold kOf
  by_cases h2 : m = 1
  · rw [if_pos h2]; omega
  · rw [if_neg h2]
    obtain ⟨a, b⟩ := log2_spec m (by omega)
    refine ⟨?_, ?_⟩
    · by_cases h3 : m.log2 = 0
      · rw [h3] at b; simp at b; omega
      · omega
    · by_cases h3 : 11 ≤ m.log2
      · have : 2 ^ 11 ≤ 2 ^ m.log2 := Nat.pow_le_pow_right (by decide) h3
        have e : (2 : Nat) ^ 11 = 2048 := rfl
        omega
      · omega

theorem even_used (U : List Bool) (hl : U.length ≤ 1024) (i : Nat) (h : U.getD i false = true) : 1 ≤ lenAt (evenOf U) i := by
  have hi : i < U.length := by
    by_cases hi : i < U.length
    · exact hi
    · simp [List.getD, show U.length ≤ i by omega] at h
  have hn : 1 ≤ numOf U := by
    have : true ∈ U := by
      have e : U[i] = true := by simpa [List.getD, hi] using h
      rw [← e]; exact List.getElem_mem hi
    exact List.count_pos_iff.2 this
  have hm : numOf U ≤ 1024 := Nat.le_trans List.count_le_length hl
  rw [lenAt_even U i hi]
  unfold evenAt
  rw [if_neg (by omega), if_pos h]
  have := (kOf_rng (numOf U) hn hm).1
  split <;> omega

theorem even_16 (U : List Bool) (hl : U.length ≤ 1024) : ∀ c ∈ evenOf U, c < 16 := by
  intro c hc
  obtain ⟨i, -, rfl⟩ := List.mem_map.1 hc
  have hm : numOf U ≤ 1024 := Nat.le_trans List.count_le_length hl
  unfold evenAt
  split
  · omega
  · split
    · have := kOf_rng (numOf U) (by omega) hm
      split <;> omega
    · omega

theorem getD_set_keep (a : List Bool) (j k : Nat) (h : a.getD k false = true) : (a.set j true).getD k false = true := by
  simp only [List.getD, List.getElem?_set] at h ⊢
  by_cases hj : j = k
  · subst hj
    by_cases hl : j < a.length
    · simp [hl]
    · simp [show a.length ≤ j by omega] at h
  · rw [if_neg hj]; exact h
theorem getD_set_new (a : List Bool) (j : Nat) (h : j < a.length) : (a.set j true).getD j false = true := by
  simp [List.getD, h]

theorem useL1_len (a : List Bool) (x : Tok) : (useL1 a x).length = a.length := by unfold useL1; split <;> simp
theorem useD1_len (a : List Bool) (x : Tok) : (useD1 a x).length = a.length := by unfold useD1; split <;> simp
theorem foldL_len : ∀ (T : List Tok) (a : List Bool), (T.foldl useL1 a).length = a.length
  | [], _ => rfl
  | x :: T, a => by rw [List.foldl_cons, foldL_len T, useL1_len]
theorem foldD_len : ∀ (T : List Tok) (a : List Bool), (T.foldl useD1 a).length = a.length
  | [], _ => rfl
  | x :: T, a => by rw [List.foldl_cons, foldD_len T, useD1_len]
theorem useL_len (T : List Tok) : (useL T).length = 286 := by unfold useL; rw [foldL_len, List.length_set, List.length_replicate]
theorem useD_len (T : List Tok) : (useD T).length = 30 := by unfold useD; rw [foldD_len, List.length_replicate]
theorem useE_len (b : List Bool) : (useE b).length = b.length := by unfold useE; split <;> simp

theorem foldL_keep : ∀ (T : List Tok) (a : List Bool) (k : Nat), a.getD k false = true → (T.foldl useL1 a).getD k false = true
  | [], _, _, h => h
  | x :: T, a, k, h => by
    rw [List.foldl_cons]
    refine foldL_keep T _ k ?_
    unfold useL1
    split <;> exact getD_set_keep _ _ _ h
theorem foldD_keep : ∀ (T : List Tok) (a : List Bool) (k : Nat), a.getD k false = true → (T.foldl useD1 a).getD k false = true
  | [], _, _, h => h
  | x :: T, a, k, h => by
    rw [List.foldl_cons]
    refine foldD_keep T _ k ?_
    unfold useD1
    split
    · exact h
    · exact getD_set_keep _ _ _ h

theorem foldL_has : ∀ (T : List Tok) (a : List Bool) (x : Tok), x ∈ T → ((if x.2.1 = 0 then x.1 else lenSym x.2.1) < a.length) → (T.foldl useL1 a).getD (if x.2.1 = 0 then x.1 else lenSym x.2.1) false = true
  | [], _, _, h, _ => by simp at h
  | y :: T, a, x, h, hl => by
    rw [List.foldl_cons]
    rcases List.mem_cons.1 h with rfl | h
    · refine foldL_keep T _ _ ?_
      unfold useL1
      split
      · rename_i h0
        rw [if_pos h0] at hl
        exact getD_set_new _ _ hl
      · rename_i h0
        rw [if_neg h0] at hl
        exact getD_set_new _ _ hl
    · exact foldL_has T _ x h (by rw [useL1_len]; exact hl)
theorem foldD_has : ∀ (T : List Tok) (a : List Bool) (x : Tok), x ∈ T → x.2.1 ≠ 0 → distSym x.2.2 < a.length → (T.foldl useD1 a).getD (distSym x.2.2) false = true
  | [], _, _, h, _, _ => by simp at h
  | y :: T, a, x, h, h0, hl => by
    rw [List.foldl_cons]
    rcases List.mem_cons.1 h with rfl | h
    · refine foldD_keep T _ _ ?_
      unfold useD1
      rw [if_neg h0]
      exact getD_set_new _ _ hl
    · exact foldD_has T _ x h h0 (by rw [useD1_len]; exact hl)
theorem useE_keep (b : List Bool) (k : Nat) (h : b.getD k false = true) : (useE b).getD k false = true := by
  unfold useE
  split
  · exact getD_set_keep _ _ _ (getD_set_keep _ _ _ h)
  · exact h

theorem toksOk_mem (R : Nat) : ∀ (T : List Tok) (o : Nat), toksOk R o T → ∀ x ∈ T, ∃ o', tokOk R o' x
  | [], _, _, x, hx => by simp at hx
  | y :: T, o, h, x, hx => by
    rcases List.mem_cons.1 hx with rfl | hx
    · exact ⟨o, h.1⟩
    · exact toksOk_mem R T _ h.2 x hx

theorem fixed_lens : (List.range 288).all (fun k => decide (1 ≤ lenAt fixedL k)) = true ∧ (List.range 32).all (fun k => decide (1 ≤ lenAt fixedD k)) = true := by constructor <;> decide +kernel

theorem cov_fixed {R o : Nat} {x : Tok} (hR : R ≤ 32768) (h : tokOk R o x) : covT fixedL fixedD x := by
  have f1 := fun k (hk : k < 288) => of_decide_eq_true (List.all_eq_true.1 fixed_lens.1 k (List.mem_range.2 hk))
  have f2 := fun k (hk : k < 32) => of_decide_eq_true (List.all_eq_true.1 fixed_lens.2 k (List.mem_range.2 hk))
  unfold covT
  rcases h with ⟨h1, _, h2⟩ | ⟨h1, h2, h3, h4, _⟩
  · rw [if_pos h1]
    exact f1 _ (by omega)
  · rw [if_neg (by omega)]
    have := lenSym_spec _ h1 h2
    have := distSym_spec _ h3 (by omega)
    exact ⟨f1 _ (by omega), f2 _ (by omega)⟩

theorem cov_told {R o : Nat} {x : Tok} (T : List Tok) (hx : x ∈ T) (hR : R ≤ 32768) (h : tokOk R o x) : covT (xOf T) (yOf T) x := by
  unfold covT xOf yOf
  have hL := foldL_has T ((List.replicate 286 false).set 256 true) x hx
  have hD := foldD_has T (List.replicate 30 false) x hx
  rw [List.length_set, List.length_replicate] at hL
  rw [List.length_replicate] at hD
  rcases h with ⟨h1, _, h2⟩ | ⟨h1, h2, h3, h4, _⟩
  · rw [if_pos h1]
    rw [if_pos h1] at hL
    exact even_used _ (by rw [useL_len]; decide) _ (hL (by omega))
  · have hne : ¬ x.2.1 = 0 := by omega
    rw [if_neg hne]
    rw [if_neg hne] at hL
    have := lenSym_spec _ h1 h2
    have := distSym_spec _ h3 (by omega)
    exact ⟨even_used _ (by rw [useL_len]; decide) _ (hL (by omega)), even_used _ (by rw [useE_len, useD_len]; decide) _ (useE_keep _ _ (hD hne (by omega)))⟩

theorem x256 (T : List Tok) : 1 ≤ lenAt (xOf T) 256 := even_used _ (by rw [useL_len]; decide) _ (foldL_keep T _ 256 (getD_set_new _ _ (by rw [List.length_replicate]; decide)))

/-- bytes laid at a whole place are the string's bytes there -/
theorem Has.bytes {s : ByteArray} {p : Nat} {L : List Nat} (hL : ∀ x ∈ L, x < 256) (h : Has s (8 * p) (bytesBits L)) : ∃ r, (bytesOf s).drop p = L ++ r := by
  obtain ⟨h0, r, h⟩ := h
  rw [strBits_drop8] at h
  have hlt : ∀ x ∈ (bytesOf s).drop p, x < 256 := fun x hx => bytesOf_lt s x (List.mem_of_mem_drop hx)
  have h1 := pack_bytesBits _ hlt []
  rw [List.append_nil, h, pack_bytesBits L hL r] at h1
  exact ⟨pack r, by rw [h1]; simp [pack]⟩

theorem drop_getD (l r L : List Nat) (p i : Nat) (h : l.drop p = L ++ r) (hi : i < L.length) : l.getD (p + i) 0 = L.getD i 0 := by
  have : l[p + i]? = L[i]? := by rw [← List.getElem?_drop, h, List.getElem?_append_left hi]
  simp only [List.getD, this]

theorem blkB_pre (D : List Nat) (k a n R : Nat) (q : Bool) (B : List Bool) : ∃ r, blkB D k a n R q B = (B ++ (lowBits (q.toNat : Int) 1 ++ lowBits (k : Int) 2)) ++ r := by
  unfold blkB
  simp only
  split
  · exact ⟨List.replicate (8 * (((B ++ lowBits (q.toNat : Int) 1 ++ lowBits (k : Int) 2).length + 7) / 8) - (B ++ lowBits (q.toNat : Int) 1 ++ lowBits (k : Int) 2).length) false ++ (bytesBits [n % 256, n / 256, 255 - n % 256, 255 - n / 256] ++ bytesBits ((D.drop a).take n)), by unfold pad8; simp only [List.append_assoc]⟩
  · split
    · exact ⟨_, by rw [List.append_assoc B]⟩
    · exact ⟨told4 (xOf (span D a n R)) (yOf (span D a n R)) ++ toks (xOf (span D a n R)) (yOf (span D a n R)) (span D a n R), by simp only [List.append_assoc]⟩

set_option maxRecDepth 100000 in
theorem blk_has (D : List Nat) (hD : ∀ x ∈ D, x < 256) {s : ByteArray} (k a n R : Nat) (q : Bool) (B : List Bool) (hk : k < 3) (han : a + n ≤ D.length) (h16 : k = 0 → n ≤ 65535) (hR : R ≤ 32768) (m : Nat) (hm : D.length ≤ m) (F : Nat) (hF : n < F)
    (h : Has s 0 (blkB D k a n R q B)) : blockU F s m ⟨B.length, D.take a, 0⟩ = (q, ⟨(blkB D k a n R q B).length, D.take (a + n), 0⟩) := by
  obtain ⟨r, hr⟩ := blkB_pre D k a n R q B
  have h0 : Has s 0 (B ++ (lowBits (q.toNat : Int) 1 ++ lowBits (k : Int) 2)) := (hr ▸ h).left
  have h1 : Has s B.length (lowBits (q.toNat : Int) 1 ++ lowBits (k : Int) 2) := h0.to (by omega)
  have e1 := take_has m (D.take a) h1.left (by cases q <;> decide)
  have e2 := take_has m (D.take a) (h1.to (by rw [lowBits_length])) (show k < 2 ^ 2 by omega)
  have hta : (D.take a).length = a := by rw [List.length_take]; omega
  have key : (kindU F k s m ⟨B.length + 1 + 2, D.take a, 0⟩).2 = ⟨(blkB D k a n R q B).length, D.take (a + n), 0⟩ := by
    have hok := tks_ok D hD (a + n) R (n + 1) a
    have hun := untks D (a + n) R han (n + 1) a (by omega) (by omega)
    have hln := tks_len D (a + n) R (n + 1) a
    have hmem := toksOk_mem R _ a hok
    have htn : (D.take (a + n)).length ≤ m := by rw [List.length_take]; omega
    unfold blkB at h ⊢
    simp only at h ⊢
    unfold kindU
    by_cases k0 : k = 0
    · rw [if_pos k0] at h ⊢
      rw [if_pos k0]
      have hn := h16 k0
      have hXl : ((D.drop a).take n).length = n := by rw [List.length_take, List.length_drop]; omega
      obtain ⟨p, hp⟩ : ∃ p, (B.length + 1 + 2 + 7) / 8 = p := ⟨_, rfl⟩
      have hpl : (pad8 (B ++ lowBits (q.toNat : Int) 1 ++ lowBits (k : Int) 2)).length = 8 * p := by
        rw [pad8_length]
        simp only [List.length_append, lowBits_length]
        omega
      rw [List.append_assoc, ← bytesBits_append] at h
      obtain ⟨r2, hb⟩ := Has.bytes (p := p) (fun x hx => by
        rcases List.mem_append.1 hx with hx | hx
        · simp at hx; omega
        · exact hD x (List.mem_of_mem_drop (List.mem_of_mem_take hx))) (h.to (by omega))
      have hsz : p + 4 + n ≤ s.size := by
        have := congrArg List.length hb
        rw [List.length_drop, bytesOf_length, List.length_append, List.length_append, hXl] at this
        simp at this
        omega
      have g0 := drop_getD _ _ _ p 0 hb (by simp)
      have g1 := drop_getD _ _ _ p 1 hb (by simp)
      have g2 := drop_getD _ _ _ p 2 hb (by simp)
      have g3 := drop_getD _ _ _ p 3 hb (by simp)
      simp at g0 g1 g2 g3
      have hd4 : ((bytesOf s).drop (p + 4)).take n = (D.drop a).take n := by
        rw [← List.drop_drop, hb, List.append_assoc]
        show (((D.drop a).take n) ++ r2).take n = _
        rw [List.take_left' hXl]
      have hst := stored_eq s m ⟨B.length + 1 + 2, D.take a, 0⟩ rfl
      simp only [hp] at hst
      rw [if_pos (by omega), if_pos (by omega)] at hst
      simp only [List.getD] at hst g0 g1 g2 g3
      rw [g0, g1, g2, g3] at hst
      rw [show n % 256 + 256 * (n / 256) = n by omega, show 255 - n % 256 + 256 * (255 - n / 256) = 65535 - n by omega] at hst
      unfold storedEnd at hst
      rw [if_neg (by rw [xor_ones _ (by omega)]; simp), if_neg (by rw [hta]; omega), if_pos hsz, hd4] at hst
      rw [hst]
      have ht : D.take a ++ (D.drop a).take n = D.take (a + n) := by rw [List.take_add]
      rw [ht]
      simp only [List.length_append, hpl, bytesBits_length, hXl]
      congr 1
      simp
      omega
    · rw [if_neg k0] at h ⊢
      rw [if_neg k0]
      have hHl : (B ++ lowBits (q.toNat : Int) 1 ++ lowBits (k : Int) 2).length = B.length + 1 + 2 := by simp only [List.length_append, lowBits_length]
      by_cases k1 : k = 1
      · rw [if_pos k1] at h ⊢
        rw [if_pos k1]
        have := symbols_has (s := s) fixedL fixedD fixedL_good fixedD_good (by decide) (by decide) (by decide +kernel) m R hR (span D a n R) (D.take a) (B.length + 1 + 2) F
          (fun x hx => by obtain ⟨o, ho⟩ := hmem x hx; exact cov_fixed hR ho) (by rw [hta]; exact hok) (h.to (by omega)) (by unfold span; omega) (by unfold span; rw [hun]; exact htn)
        rw [this]
        unfold span
        rw [hun]
        simp only [List.length_append, lowBits_length]
      · rw [if_neg k1] at h ⊢
        rw [if_neg k1, if_pos (by omega)]
        obtain ⟨ga, na⟩ := good_even (useL (span D a n R)) (by rw [useL_len]; decide)
        obtain ⟨gb, nb⟩ := good_even (useE (useD (span D a n R))) (by rw [useE_len, useD_len]; decide)
        have lx : (xOf (span D a n R)).length = 286 := by unfold xOf; rw [evenOf_length, useL_len]
        have ly : (yOf (span D a n R)).length = 30 := by unfold yOf; rw [evenOf_length, useE_len, useD_len]
        have z := x256 (span D a n R)
        have t1 := told_has (s := s) m (D.take a) (xOf (span D a n R)) (yOf (span D a n R)) (B.length + 1 + 2) lx ly (even_16 _ (by rw [useL_len]; decide)) (even_16 _ (by rw [useE_len, useD_len]; decide)) na nb
          (by unfold lenAt at z; omega) (h.left.to (by omega))
        have t2 := symbols_has (s := s) (xOf (span D a n R)) (yOf (span D a n R)) ga gb (by omega) (by omega) z m R hR (span D a n R) (D.take a) (B.length + 1 + 2 + (told4 (xOf (span D a n R)) (yOf (span D a n R))).length) F
          (fun x hx => by obtain ⟨o, ho⟩ := hmem x hx; exact cov_told _ hx hR ho) (by rw [hta]; exact hok) (h.to (by rw [List.length_append, hHl]; omega)) (by unfold span; omega) (by unfold span; rw [hun]; exact htn)
        rw [bind_eq t1, bind_eq (err_0 _ _ _ _), if_neg (by decide), t2]
        simp only [List.length_append, lowBits_length]
        have e : (span D a n R).foldl untk (D.take a) = D.take (a + n) := hun
        rw [e]
  have hb := (block_steps (F := F) e1 e2 key).2 rfl
  rw [hb]
  cases q <;> rfl

theorem packR_pre (D : List Nat) (C : List Ch) : ∀ f a i L B, ∃ r, packR D C f a i L B = B ++ r
  | 0, _, _, _, B => ⟨[], by simp [packR]⟩
  | f + 1, a, i, L, B => by
    rw [packR]
    obtain ⟨r, hr⟩ := blkB_pre D (kindOf (chAt C D.length i).1) a (cutOf (kindOf (chAt C D.length i).1) L) (reachOf (chAt C D.length i).2.2) (isLast C D.length a i L (cutOf (kindOf (chAt C D.length i).1) L)) B
    split
    · exact ⟨_, by rw [hr, List.append_assoc]⟩
    · obtain ⟨r2, h2⟩ := packR_pre D C f (a + cutOf (kindOf (chAt C D.length i).1) L) (nextI i L (cutOf (kindOf (chAt C D.length i).1) L)) (nextL C D.length a i L (cutOf (kindOf (chAt C D.length i).1) L)) (blkB D (kindOf (chAt C D.length i).1) a (cutOf (kindOf (chAt C D.length i).1) L) (reachOf (chAt C D.length i).2.2) (isLast C D.length a i L (cutOf (kindOf (chAt C D.length i).1) L)) B)
      exact ⟨_, by rw [h2, hr, List.append_assoc, List.append_assoc]⟩

theorem kindOf_lt (k : Int) : kindOf k < 3 := by unfold kindOf; omega
theorem reachOf_le (r : Int) : reachOf r ≤ 32768 := by unfold reachOf; omega
theorem cut_16 (k L : Nat) (h : k = 0) : cutOf k L ≤ 65535 := by unfold cutOf; rw [if_pos h]; omega

theorem run_packR (D : List Nat) (hD : ∀ x ∈ D, x < 256) (C : List Ch) {s : ByteArray} (m : Nat) (hm : D.length ≤ m) (F : Nat) (hF : D.length < F) : ∀ f a i L B K, PInv D.length C a i L → muOf D.length C a i < f → f ≤ K → Has s 0 (packR D C f a i L B) →
    unpackU F K s m ⟨B.length, D.take a, 0⟩ = ((), ⟨(packR D C f a i L B).length, D, 0⟩)
  | 0, _, _, _, _, _, _, h, _, _ => by omega
  | f + 1, a, i, L, B, K, hI, hmu, hK, h => by
    obtain ⟨K, rfl⟩ : ∃ K', K = K' + 1 := ⟨K - 1, by omega⟩
    obtain ⟨FIN, hFIN⟩ : ∃ FIN, packR D C (f + 1) a i L B = FIN := ⟨_, rfl⟩
    rw [hFIN] at h ⊢
    obtain ⟨k, hk⟩ : ∃ k, kindOf (chAt C D.length i).1 = k := ⟨_, rfl⟩
    obtain ⟨n, hn⟩ : ∃ n, cutOf k L = n := ⟨_, rfl⟩
    obtain ⟨q, hq⟩ : ∃ q, isLast C D.length a i L n = q := ⟨_, rfl⟩
    have hk3 : k < 3 := by rw [← hk]; exact kindOf_lt _
    have h16 : k = 0 → n ≤ 65535 := fun h => by rw [← hn]; exact cut_16 k L h
    have hnL : n ≤ L := by rw [← hn]; exact cut_le k L
    have han : a + n ≤ D.length := by have := hI.le; have := hI.room; omega
    have hnx := packR_next hI hmu hFIN k n q hk hn hq
    have hblk : Has s 0 (blkB D k a n (reachOf (chAt C D.length i).2.2) q B) := by
      rcases hnx with ⟨_, h1, _⟩ | ⟨_, f', _, h1, _⟩
      · rw [h1]; exact h
      · obtain ⟨r, hr⟩ := packR_pre D C f' (a + n) (nextI i L n) (nextL C D.length a i L n) (blkB D k a n (reachOf (chAt C D.length i).2.2) q B)
        rw [h1] at hr
        rw [hr] at h
        exact h.left
    have hb := blk_has D hD k a n (reachOf (chAt C D.length i).2.2) q B hk3 han h16 (reachOf_le _) m hm F (by omega) hblk
    rw [unpackU, bind_eq hb]
    have hnx2 := packR_next hI hmu hFIN k n q hk hn hq
    cases q with
    | true =>
      rcases hnx2 with ⟨_, h1, h2, _⟩ | ⟨h1, _⟩
      · rw [if_pos rfl, h1, h2, List.take_length]
        rfl
      · cases h1
    | false =>
      rw [if_neg (by decide)]
      rw [packR] at hFIN
      simp only [hk, hn, hq] at hFIN
      rw [if_neg (by decide)] at hFIN
      rcases hnx2 with ⟨h1, _⟩ | ⟨_, f', h3, h4, h5, h6⟩
      · cases h1
      · have := run_packR D hD C m hm F hF f (a + n) (nextI i L n) (nextL C D.length a i L n) (blkB D k a n (reachOf (chAt C D.length i).2.2) false B) K h5 (by omega) (by omega) (by rw [hFIN]; exact h)
        rw [this, hFIN]

/-- what is packed, bytes behind it or not, is unpacked -/
theorem pack_run (D : List Nat) (hD : ∀ x ∈ D, x < 256) (C : List Ch) (x : ByteArray) (m : Nat) (hm : D.length ≤ m) (F : Nat) (hF : D.length + C.length + 1 ≤ F) : runU F (strOf (pack (packAll D C)) ++ x) m = ⟨(packAll D C).length, D, 0⟩ := by
  unfold runU packAll
  have hm1 : muOf D.length C 0 0 < D.length + C.length + 1 := by unfold muOf; omega
  have := run_packR D hD C (s := strOf (pack (packAll D C)) ++ x) m hm F (by omega) (D.length + C.length + 1) 0 0 (leftOf C D.length 0 0) [] F (PInv.start _ _) hm1 hF ⟨Nat.zero_le _, by
    refine ⟨List.replicate (8 * (((packAll D C).length + 7) / 8) - (packAll D C).length) false ++ strBits x, ?_⟩
    rw [List.drop_zero, strBits, bytesOf_append, bytesBits_append]
    show strBits (strOf (pack (packAll D C))) ++ strBits x = _
    rw [strBits_pack, pad8, List.append_assoc]
    rfl⟩
  exact congrArg Prod.snd this

end Go.Proofs.Ytgjcnembeebjfaa
