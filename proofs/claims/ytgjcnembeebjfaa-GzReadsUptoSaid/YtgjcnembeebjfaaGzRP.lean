/- The lengths that a block of kind 2 tells, without the tables that are laid by them: told_ref: what comes of them with the symbols. -/
import Derived.Test.YtgjcnembeebjfaaGzR4
import Derived.Test.YtgjcnembeebjfaaInfWa
namespace Go.Proofs.Ytgjcnembeebjfaa
open Go.RowKit
set_option linter.unusedVariables false

theorem SB.mutS {S : List Nat} {w0 w w' : World} {b : Nat} {s : ByteArray} {m : Nat} {v : Value} {st : US} (h : SB w0 b s m v st w) (mu : Mut S w w') (hb : b ∉ S) (hv : ∀ g, v.ownBlock = some g → g ∉ S) (hl : ∀ x, x ∈ S → w0.heap.size ≤ x) : SB w0 b s m v st w' :=
  ⟨mu.get h.bx hb, ⟨mu.row h.ob.row hv, h.ob.fresh, h.ob.kept.trans mu (fun x hx => .inr (hl x hx))⟩, h.low⟩

/-- the lengths, and how many are the literals' -/
def rtoldU : UM (List Nat × Nat) :=
  (takeU 5).bind fun nl => (takeU 5).bind fun nd => (takeU 4).bind fun nc => (failU (decide (29 < nl) || decide (29 < nd)) 5).bind fun b => if b = true then UM.ret ([], 0) else
    (shortU (nc + 4)).bind fun sh => (tableU (toI sh)).bind fun t => (lengthsU t (nl + 257 + nd + 1) 400 []).bind fun l =>
      (failU (decide (l.getD 256 0 = 0)) 5).bind fun b => if b = true then UM.ret ([], 0) else UM.ret (l, nl + 257)

theorem rtold_steps {s : ByteArray} {m : Nat} {st s1 s2 s3 s4 s5 s6 s7 s8 : US} {nl nd nc : Nat} {bd b2 : Bool} {sh tb l : List Nat} (h1 : takeU 5 s m st = (nl, s1)) (h2 : takeU 5 s m s1 = (nd, s2)) (h3 : takeU 4 s m s2 = (nc, s3))
    (h4 : failU (decide (29 < nl) || decide (29 < nd)) 5 s m s3 = (bd, s4)) (h5 : shortU (nc + 4) s m s4 = (sh, s5)) (h6 : tableU (toI sh) s m s5 = (tb, s6)) (h7 : lengthsU tb (nl + 257 + nd + 1) 400 [] s m s6 = (l, s7)) (h8 : failU (decide (l.getD 256 0 = 0)) 5 s m s7 = (b2, s8)) :
    rtoldU s m st = if bd = true then (([], 0), s4) else if b2 = true then (([], 0), s8) else ((l, nl + 257), s8) := by
  unfold rtoldU
  simp only [UM.bind, h1, h2, h3, h4]
  cases bd with
  | true => rfl
  | false =>
    simp only [Bool.false_eq_true, if_false]
    show (UM.bind _ _) s m s4 = _
    simp only [UM.bind, h5, h6, h7, h8]
    cases b2 with
    | true => rfl
    | false => rfl

theorem fail_true {bad : Bool} {k : Nat} {s : ByteArray} {m : Nat} {st st' : US} (hk : k ≠ 0) (h : failU bad k s m st = (true, st')) : st'.er ≠ 0 := by
  unfold failU at h
  split at h
  · rename_i h1
    obtain ⟨-, rfl⟩ := Prod.mk.inj h
    exact h1
  · split at h
    · obtain ⟨-, rfl⟩ := Prod.mk.inj h
      exact hk
    · simp at h

/-- the lengths that are told, and the symbols behind -/
theorem told_ref (F : Nat) (s : ByteArray) (m : Nat) (st : US) :
    ((toldU.bind fun p => errU.bind fun e => if e = true then UM.ret () else symbolsU p.1 p.2 F) s m st).2 =
      if (rtoldU s m st).2.er ≠ 0 then (rtoldU s m st).2 else symR ((rtoldU s m st).1.1.take (rtoldU s m st).1.2) ((rtoldU s m st).1.1.drop (rtoldU s m st).1.2) F s m (rtoldU s m st).2 := by
  obtain ⟨⟨nl, s1⟩, h1⟩ : ∃ p, takeU 5 s m st = p := ⟨_, rfl⟩
  obtain ⟨⟨nd, s2⟩, h2⟩ : ∃ p, takeU 5 s m s1 = p := ⟨_, rfl⟩
  obtain ⟨⟨nc, s3⟩, h3⟩ : ∃ p, takeU 4 s m s2 = p := ⟨_, rfl⟩
  obtain ⟨⟨bd, s4⟩, h4⟩ : ∃ p, failU (decide (29 < nl) || decide (29 < nd)) 5 s m s3 = p := ⟨_, rfl⟩
  obtain ⟨⟨sh, s5⟩, h5⟩ : ∃ p, shortU (nc + 4) s m s4 = p := ⟨_, rfl⟩
  obtain ⟨⟨tb, s6⟩, h6⟩ : ∃ p, tableU (toI sh) s m s5 = p := ⟨_, rfl⟩
  obtain ⟨⟨l, s7⟩, h7⟩ : ∃ p, lengthsU tb (nl + 257 + nd + 1) 400 [] s m s6 = p := ⟨_, rfl⟩
  obtain ⟨⟨b2, s8⟩, h8⟩ : ∃ p, failU (decide (l.getD 256 0 = 0)) 5 s m s7 = p := ⟨_, rfl⟩
  obtain ⟨⟨x, s9⟩, h9⟩ : ∃ p, tableU (toI (l.take (nl + 257))) s m s8 = p := ⟨_, rfl⟩
  obtain ⟨⟨y, s10⟩, h10⟩ : ∃ p, tableU (toI (l.drop (nl + 257))) s m s9 = p := ⟨_, rfl⟩
  rw [rtold_steps h1 h2 h3 h4 h5 h6 h7 h8]
  simp only [UM.bind, told_steps h1 h2 h3 h4 h5 h6 h7 h8 h9 h10, errU]
  cases bd with
  | true =>
    have he := fail_true (by decide) h4
    simp [he, UM.ret]
  | false =>
    cases b2 with
    | true =>
      have he := fail_true (by decide) h8
      simp [he, UM.ret]
    | false =>
      obtain ⟨e8, he7, -⟩ := (fail_out h8).2 rfl
      subst e8
      simp only [Bool.false_eq_true, if_false]
      rw [if_neg (c := s8.er ≠ 0) (by simpa using he7)]
      unfold symR
      unfold tableU at h9 h10
      rw [if_neg (by simpa using he7)] at h9
      by_cases hx : newErr (toI (l.take (nl + 257))) = 0
      · rw [if_pos hx, lens_toI] at h9
        obtain ⟨rfl, rfl⟩ := Prod.mk.inj h9
        rw [if_neg (by simpa using he7)] at h10
        rw [if_neg (c := newErr (toI (l.take (nl + 257))) ≠ 0) (by simpa using hx)]
        by_cases hy : newErr (toI (l.drop (nl + 257))) = 0
        · rw [if_pos hy, lens_toI] at h10
          obtain ⟨rfl, rfl⟩ := Prod.mk.inj h10
          rw [if_neg (c := newErr (toI (l.drop (nl + 257))) ≠ 0) (by simpa using hy)]
          rw [if_neg (by simp [he7])]
        · rw [if_neg hy] at h10
          obtain ⟨rfl, rfl⟩ := Prod.mk.inj h10
          rw [if_pos (c := newErr (toI (l.drop (nl + 257))) ≠ 0) hy]
          rw [if_pos (by simp [hy])]
          rfl
      · rw [if_neg hx] at h9
        obtain ⟨rfl, rfl⟩ := Prod.mk.inj h9
        rw [if_pos (c := newErr (toI (l.take (nl + 257))) ≠ 0) hx]
        rw [if_pos (by simpa using hx)] at h10
        obtain ⟨rfl, rfl⟩ := Prod.mk.inj h10
        rw [if_pos (by simp [hx])]
        rfl

/-- the row of lengths, when all went well -/
theorem rtold_len {s : ByteArray} {m : Nat} {st st' : US} {l : List Nat} {n : Nat} (h : rtoldU s m st = ((l, n), st')) (he : st'.er = 0) : 257 ≤ n ∧ n < l.length ∧ l.length ≤ 320 := by
  obtain ⟨⟨nl, s1⟩, h1⟩ : ∃ p, takeU 5 s m st = p := ⟨_, rfl⟩
  obtain ⟨⟨nd, s2⟩, h2⟩ : ∃ p, takeU 5 s m s1 = p := ⟨_, rfl⟩
  obtain ⟨⟨nc, s3⟩, h3⟩ : ∃ p, takeU 4 s m s2 = p := ⟨_, rfl⟩
  obtain ⟨⟨bd, s4⟩, h4⟩ : ∃ p, failU (decide (29 < nl) || decide (29 < nd)) 5 s m s3 = p := ⟨_, rfl⟩
  obtain ⟨⟨sh, s5⟩, h5⟩ : ∃ p, shortU (nc + 4) s m s4 = p := ⟨_, rfl⟩
  obtain ⟨⟨tb, s6⟩, h6⟩ : ∃ p, tableU (toI sh) s m s5 = p := ⟨_, rfl⟩
  obtain ⟨⟨l', s7⟩, h7⟩ : ∃ p, lengthsU tb (nl + 257 + nd + 1) 400 [] s m s6 = p := ⟨_, rfl⟩
  obtain ⟨⟨b2, s8⟩, h8⟩ : ∃ p, failU (decide (l'.getD 256 0 = 0)) 5 s m s7 = p := ⟨_, rfl⟩
  rw [rtold_steps h1 h2 h3 h4 h5 h6 h7 h8] at h
  cases bd with
  | true =>
    rw [if_pos rfl] at h
    obtain ⟨-, rfl⟩ := Prod.mk.inj h
    exact absurd he (fail_true (by decide) h4)
  | false =>
    rw [if_neg (by simp)] at h
    cases b2 with
    | true =>
      rw [if_pos rfl] at h
      obtain ⟨-, rfl⟩ := Prod.mk.inj h
      exact absurd he (fail_true (by decide) h8)
    | false =>
      rw [if_neg (by simp)] at h
      obtain ⟨h, h'⟩ := Prod.mk.inj h
      obtain ⟨hl, hn0⟩ := Prod.mk.inj h
      subst hl hn0 h'
      obtain ⟨e8, he7, -⟩ := (fail_out h8).2 rfl
      have hle := (fail_out h4).2 rfl
      have hn : nl ≤ 29 ∧ nd ≤ 29 := by
        have := hle.2.2
        simp only [Bool.or_eq_false_iff, decide_eq_false_iff_not] at this
        omega
      have := lengths_len tb _ s m 400 [] _ s6 s7 h7 he7 (by simp; omega) (by simp)
      omega

end Go.Proofs.Ytgjcnembeebjfaa
