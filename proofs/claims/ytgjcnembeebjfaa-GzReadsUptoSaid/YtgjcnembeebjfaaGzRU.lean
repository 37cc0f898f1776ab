/- What a block of packed bytes comes to, as the reference takes it. -/
import Derived.Test.YtgjcnembeebjfaaGzRP
import Derived.Test.YtgjcnembeebjfaaGzR3
namespace Go.Proofs.Ytgjcnembeebjfaa
open Go.RowKit
set_option linter.unusedVariables false

/-- what is behind a block's head -/
def bodyU (F kind : Nat) : UM Unit :=
  if kind = 0 then storedU else if kind = 1 then symbolsU fixedL fixedD F
  else if kind = 2 then toldU.bind fun p => errU.bind fun e => if e = true then UM.ret () else symbolsU p.1 p.2 F
  else (failU true 8).bind fun _ => UM.ret ()

theorem runpack_step (F k : Nat) (s : ByteArray) (m : Nat) (st s1 s2 : US) (last kind : Nat) (h1 : takeU 1 s m st = (last, s1)) (h2 : takeU 2 s m s1 = (kind, s2)) :
    (s2.er ≠ 0 → (unpackU F (k + 1) s m st).2 = s2) ∧ (s2.er = 0 → ∀ st3, (bodyU F kind s m s2).2 = st3 → (unpackU F (k + 1) s m st).2 = if last = 1 ∨ st3.er ≠ 0 then st3 else (unpackU F k s m st3).2) := by
  have eb : blockU F s m st = if s2.er ≠ 0 then (true, s2) else (decide (last = 1) || decide ((bodyU F kind s m s2).2.er ≠ 0), (bodyU F kind s m s2).2) := by
    have e1 : blockU F s m st = (if decide (s2.er ≠ 0) = true then UM.ret true else (bodyU F kind).bind fun _ => errU.bind fun e => UM.ret (decide (last = 1) || e)) s m s2 := by
      unfold blockU
      simp only [UM.bind, h1, h2]
      rfl
    rw [e1]
    by_cases h : s2.er ≠ 0
    · rw [if_pos h, if_pos (by simpa using h)]; rfl
    · rw [if_neg h, if_neg (by simpa using h)]; rfl
  have e : (unpackU F (k + 1) s m st).2 = ((if (blockU F s m st).1 = true then UM.ret () else unpackU F k) s m (blockU F s m st).2).2 := rfl
  rw [e, eb]
  refine ⟨fun h => ?_, fun h st3 h3 => ?_⟩
  · rw [if_pos h]; rfl
  · rw [if_neg (c := s2.er ≠ 0) (by simpa using h), h3]
    by_cases hc : last = 1 ∨ st3.er ≠ 0
    · rw [if_pos hc, if_pos (by simpa using hc)]; rfl
    · rw [if_neg hc, if_neg (by simpa using hc)]

theorem newErr_fixed : newErr (toI fixedL) = 0 ∧ newErr (toI fixedD) = 0 := by decide +kernel
theorem body_fixed (F : Nat) (s : ByteArray) (m : Nat) (st : US) : (bodyU F 1 s m st).2 = symR fixedL fixedD F s m st := by
  unfold symR
  rw [if_neg (by rw [newErr_fixed.1]; decide), if_neg (by rw [newErr_fixed.2]; decide)]
  rfl
theorem body_told (F : Nat) (s : ByteArray) (m : Nat) (st : US) : (bodyU F 2 s m st).2 = if (rtoldU s m st).2.er ≠ 0 then (rtoldU s m st).2 else symR ((rtoldU s m st).1.1.take (rtoldU s m st).1.2) ((rtoldU s m st).1.1.drop (rtoldU s m st).1.2) F s m (rtoldU s m st).2 := told_ref F s m st
theorem body_stored (F : Nat) (s : ByteArray) (m : Nat) (st : US) : (bodyU F 0 s m st).2 = (storedU s m st).2 := rfl
theorem body_none (F : Nat) (s : ByteArray) (m : Nat) (st : US) (he : st.er = 0) : (bodyU F 3 s m st).2 = ⟨st.t, st.out, 8⟩ := by
  show (((failU true 8).bind fun _ => UM.ret ()) s m st).2 = _
  simp [UM.bind, failU, he, UM.ret]
theorem body_nice (F kind : Nat) : Nice (bodyU F kind) :=
  Nice.ite stored_nice (Nice.ite (symbols_nice _ _ fixedL_good fixedD_good F) (Nice.ite (kind2_nice F) ((fail_nice _ _).bind fun _ => Nice.ret _)))

theorem rtold_out {s : ByteArray} {m : Nat} {st : US} : (rtoldU s m st).2.out = st.out ∧ (st.t ≤ 8 * s.size → (rtoldU s m st).2.t ≤ 8 * s.size) := by
  obtain ⟨⟨nl, s1⟩, h1⟩ : ∃ p, takeU 5 s m st = p := ⟨_, rfl⟩
  obtain ⟨⟨nd, s2⟩, h2⟩ : ∃ p, takeU 5 s m s1 = p := ⟨_, rfl⟩
  obtain ⟨⟨nc, s3⟩, h3⟩ : ∃ p, takeU 4 s m s2 = p := ⟨_, rfl⟩
  obtain ⟨⟨bd, s4⟩, h4⟩ : ∃ p, failU (decide (29 < nl) || decide (29 < nd)) 5 s m s3 = p := ⟨_, rfl⟩
  obtain ⟨⟨sh, s5⟩, h5⟩ : ∃ p, shortU (nc + 4) s m s4 = p := ⟨_, rfl⟩
  obtain ⟨⟨tb, s6⟩, h6⟩ : ∃ p, tableU (toI sh) s m s5 = p := ⟨_, rfl⟩
  obtain ⟨⟨l', s7⟩, h7⟩ : ∃ p, lengthsU tb (nl + 257 + nd + 1) 400 [] s m s6 = p := ⟨_, rfl⟩
  obtain ⟨⟨b2, s8⟩, h8⟩ : ∃ p, failU (decide (l'.getD 256 0 = 0)) 5 s m s7 = p := ⟨_, rfl⟩
  have o1 := (take_lt h1).2.1
  have o2 := (take_lt h2).2.1
  have o3 := (take_lt h3).2.1
  have o4 := (fail_out h4).1
  have i4 : st.t ≤ 8 * s.size → s4.t ≤ 8 * s.size := fun h => by
    have := (fail_nice (decide (29 < nl) || decide (29 < nd)) 5).inside s m s3 (tk_inside h3 (tk_inside h2 (tk_inside h1 h)))
    rwa [h4] at this
  have o5 : s5.out = s4.out := by
    have hh : ∀ k, (shortU k s m s4).2.out = s4.out := by
      intro k
      induction k with
      | zero => rfl
      | succ k ih =>
        obtain ⟨⟨x, y⟩, hx⟩ : ∃ p, takeU 3 s m (shortU k s m s4).2 = p := ⟨_, rfl⟩
        rw [short_step (l := (shortU k s m s4).1) (st1 := (shortU k s m s4).2) rfl hx]
        rw [(take_lt hx).2.1, ih]
    have := hh (nc + 4)
    rwa [h5] at this
  have o6 : s6.out = s5.out := by
    unfold tableU at h6
    split at h6
    · rw [← (Prod.mk.inj h6).2]
    · split at h6
      · rw [← (Prod.mk.inj h6).2]
      · rw [← (Prod.mk.inj h6).2]
  have hg : Good tb := by have := table_good (toI sh) s m s5; rwa [h6] at this
  have o7 : s7.out = s6.out := by
    have hh : ∀ k L st, (lengthsU tb (nl + 257 + nd + 1) k L s m st).2.out = st.out := by
      intro k
      induction k with
      | zero => intro L st; rfl
      | succ k ih =>
        intro L st
        by_cases hd : st.er ≠ 0 ∨ nl + 257 + nd + 1 ≤ L.length
        · rw [lengths_end tb _ (k + 1) L s m st hd]
        · obtain ⟨⟨sym, st1⟩, hn⟩ : ∃ p, nextU tb s m st = p := ⟨_, rfl⟩
          obtain ⟨⟨⟨A, V⟩, st2⟩, ha⟩ : ∃ p, againU sym L s m st1 = p := ⟨_, rfl⟩
          obtain ⟨⟨bad, st3⟩, hf⟩ : ∃ p, failU (decide (nl + 257 + nd + 1 - L.length < A)) 5 s m st2 = p := ⟨_, rfl⟩
          rw [lengths_step tb _ k L s m st st1 st2 st3 sym A V bad (by simp only [not_or, ne_eq, Classical.not_not] at hd; exact hd.1) (by omega) hn ha hf]
          have p1 := next_out hn
          have p3 := (fail_out hf).1
          have p2 : st2.out = st1.out := by
            have hx : (againU sym L s m st1).2.out = st1.out := by
              unfold againU
              split
              · obtain ⟨⟨b1, q1⟩, r1⟩ : ∃ p, failU (decide (L.length = 0)) 5 s m st1 = p := ⟨_, rfl⟩
                simp only [UM.bind, r1]
                have w1 := (fail_out r1).1
                cases b1 with
                | true => exact w1
                | false =>
                  simp only [Bool.false_eq_true, if_false]
                  show (takeU 2 s m q1).2.out = _
                  rw [(take_lt (show takeU 2 s m q1 = ((takeU 2 s m q1).1, (takeU 2 s m q1).2) from rfl)).2.1, w1]
              · split
                · exact (take_lt (show takeU 3 s m st1 = ((takeU 3 s m st1).1, (takeU 3 s m st1).2) from rfl)).2.1
                · split
                  · exact (take_lt (show takeU 7 s m st1 = ((takeU 7 s m st1).1, (takeU 7 s m st1).2) from rfl)).2.1
                  · rfl
            rwa [ha] at hx
          cases bad with
          | true => rw [if_pos rfl]; rw [p3, p2, p1]
          | false => rw [if_neg (by simp), ih, p3, p2, p1]
    have := hh 400 [] s6
    rwa [h7] at this
  have o8 := (fail_out h8).1
  have i8 : st.t ≤ 8 * s.size → s8.t ≤ 8 * s.size := fun h => by
    have q5 := (short_nice (nc + 4)).inside s m s4 (i4 h)
    rw [h5] at q5
    have q6 := (table_nice (toI sh)).inside s m s5 q5
    rw [h6] at q6
    have q7 := (lengths_nice tb hg (nl + 257 + nd + 1) 400 []).inside s m s6 q6
    rw [h7] at q7
    have q8 := (fail_nice (decide (l'.getD 256 0 = 0)) 5).inside s m s7 q7
    rwa [h8] at q8
  rw [rtold_steps h1 h2 h3 h4 h5 h6 h7 h8]
  cases bd with
  | true =>
    rw [if_pos rfl]
    exact ⟨by rw [o4, o3, o2, o1], i4⟩
  | false =>
    rw [if_neg (by simp)]
    cases b2 with
    | true => exact ⟨by rw [if_pos rfl, o8, o7, o6, o5, o4, o3, o2, o1], by rw [if_pos rfl]; exact i8⟩
    | false => exact ⟨by rw [if_neg (by simp), o8, o7, o6, o5, o4, o3, o2, o1], by rw [if_neg (by simp)]; exact i8⟩

/-- a row that stays -/
theorem krow_of {S : List Nat} {w : World} {l : List Nat} {v : Value} (h : IRow w v (toI l)) (hn : ∀ g, v.ownBlock = some g → g ∉ S) :
    ∃ p c, v = .slice p l.length c ∧ KRow S w p l := by
  obtain ⟨p, c, e, -⟩ := h.read
  rw [toI_length] at e
  refine ⟨p, c, e, fun w' m i hi => ?_⟩
  obtain ⟨p', c', e', h2⟩ := (h.mut m hn).read
  rw [e, toI_length] at e'
  injection e' with e1 e2 e3
  subst e1
  obtain ⟨a, ha, hc⟩ := h2 w' (Mut.refl _ _) i (by rw [toI_length]; exact hi)
  exact ⟨a, ha, by rw [hc, toI_at]⟩

theorem KRow.take {S : List Nat} {w : World} {p : Option Addr} {l : List Nat} (h : KRow S w p l) (n : Nat) : KRow S w p (l.take n) := fun w' m i hi => by
  have h1 : i < n ∧ i < l.length := by rw [List.length_take] at hi; omega
  obtain ⟨a, e, hc⟩ := h w' m i h1.2
  refine ⟨a, e, ?_⟩
  rw [hc]
  unfold lenAt
  rw [List.getD_eq_getElem?_getD, List.getD_eq_getElem?_getD, List.getElem?_take_of_lt h1.1]
theorem KRow.drop {S : List Nat} {w : World} {a : Addr} {l : List Nat} (h : KRow S w (some a) l) (n : Nat) : KRow S w (some (a.add n)) (l.drop n) := fun w' m i hi => by
  rw [List.length_drop] at hi
  obtain ⟨a', e, hc⟩ := h w' m (n + i) (by omega)
  cases e
  refine ⟨_, rfl, ?_⟩
  rw [Addr.add_add, hc]
  unfold lenAt
  rw [List.getD_eq_getElem?_getD, List.getD_eq_getElem?_getD, List.getElem?_drop]

end Go.Proofs.Ytgjcnembeebjfaa
