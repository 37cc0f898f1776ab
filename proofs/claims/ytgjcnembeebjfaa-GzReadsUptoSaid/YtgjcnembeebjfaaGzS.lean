/- The machine of InfM lays at most 300 bytes for a bit that it takes. -/
import Derived.Test.YtgjcnembeebjfaaInfW6
namespace Go.Proofs.Ytgjcnembeebjfaa
open Go.RowKit
set_option linter.unusedVariables false

/-- at most 300 bytes for a bit -/
def Slow {α : Type} (f : UM α) : Prop := ∀ s m st, (f s m st).2.out.length + 300 * st.t ≤ st.out.length + 300 * (f s m st).2.t

theorem Slow.ret {α : Type} (v : α) : Slow (UM.ret v) := fun _ _ _ => Nat.le_refl _
theorem Slow.bind {α β : Type} {f : UM α} {g : α → UM β} (hf : Slow f) (hg : ∀ v, Slow (g v)) : Slow (f.bind g) := fun s m st => by
  have h1 := hf s m st
  have h2 := hg (f s m st).1 s m (f s m st).2
  have e : (f.bind g) s m st = g (f s m st).1 s m (f s m st).2 := rfl
  rw [e]
  omega
theorem Slow.ite {α : Type} {c : Prop} [Decidable c] {f g : UM α} (hf : Slow f) (hg : Slow g) : Slow (if c then f else g) := by split <;> assumption
theorem Slow.of {α : Type} {f : UM α} (h : ∀ s m st, (f s m st).2.out = st.out ∧ st.t ≤ (f s m st).2.t) : Slow f := fun s m st => by
  obtain ⟨h1, h2⟩ := h s m st
  rw [h1]
  omega

theorem take_slow (n : Nat) : Slow (takeU n) := Slow.of fun s m st => ⟨(take_lt (show takeU n s m st = ((takeU n s m st).1, (takeU n s m st).2) from rfl)).2.1, (take_nice n).fwd s m st⟩
theorem fail_slow (b : Bool) (k : Nat) : Slow (failU b k) := Slow.of fun s m st => ⟨(fail_out (show failU b k s m st = ((failU b k s m st).1, (failU b k s m st).2) from rfl)).1, (fail_nice b k).fwd s m st⟩
theorem err_slow : Slow errU := Slow.of fun s m st => ⟨rfl, Nat.le_refl _⟩
theorem table_slow (xs : List Int) : Slow (tableU xs) := Slow.of fun s m st => by
  unfold tableU
  split
  · exact ⟨rfl, Nat.le_refl _⟩
  · split
    · exact ⟨rfl, Nat.le_refl _⟩
    · exact ⟨rfl, Nat.le_refl _⟩
theorem next_slow (ls : List Nat) : Slow (nextU ls) := Slow.of fun s m st => by
  refine ⟨next_out (show nextU ls s m st = ((nextU ls s m st).1, (nextU ls s m st).2) from rfl), ?_⟩
  unfold nextU
  split
  · exact Nat.le_refl _
  · exact Nat.le_add_right _ _
theorem bytes_slow (n : Nat) : Slow (bytesU n) := Slow.of fun s m st => by
  unfold bytesU
  split
  · exact ⟨rfl, Nat.le_refl _⟩
  · split
    · exact ⟨rfl, by simp only; omega⟩
    · exact ⟨rfl, Nat.le_refl _⟩

theorem bytes_push_slow (n : Nat) : Slow ((bytesU n).bind pushU) := fun s m st => by
  have e : (bytesU n).bind pushU s m st = pushU (bytesU n s m st).1 s m (bytesU n s m st).2 := rfl
  rw [e]
  unfold bytesU
  split
  · rename_i h
    simp [pushU, h]
  · split
    · rename_i h1 h2
      simp only [pushU]
      rw [if_neg (by simp)]
      simp only [List.length_append]
      have := List.length_take_le n ((bytesOf s).drop ((st.t + 7) / 8))
      omega
    · simp [pushU]

theorem stored_slow : Slow storedU :=
  (bytes_slow 2).bind fun h => (bytes_slow 2).bind fun o => (fail_slow _ _).bind fun b => Slow.ite (Slow.ret _) (Slow.bind (fun s m st => fail_slow _ _ s m st) fun b => Slow.ite (Slow.ret _) (bytes_push_slow _))

theorem short_slow (k : Nat) : Slow (shortU k) := by
  induction k with
  | zero => exact Slow.ret _
  | succ k ih => exact ih.bind fun l => (take_slow _).bind fun x => Slow.ret _
theorem again_slow (sym : Nat) (l : List Nat) : Slow (againU sym l) := by
  unfold againU
  exact Slow.ite ((fail_slow _ _).bind fun b => Slow.ite (Slow.ret _) ((take_slow _).bind fun x => Slow.ret _)) (Slow.ite ((take_slow _).bind fun x => Slow.ret _) (Slow.ite ((take_slow _).bind fun x => Slow.ret _) (Slow.ret _)))
theorem lengths_slow (t : List Nat) (n k : Nat) : ∀ l, Slow (lengthsU t n k l) := by
  induction k with
  | zero => intro l; exact Slow.ret _
  | succ k ih => intro l; exact err_slow.bind fun e => Slow.ite (Slow.ret _) ((next_slow t).bind fun sym => (again_slow sym l).bind fun p => (fail_slow _ _).bind fun b => Slow.ite (Slow.ret _) (ih _))
theorem told_slow : Slow toldU :=
  (take_slow _).bind fun nl => (take_slow _).bind fun nd => (take_slow _).bind fun nc => (fail_slow _ _).bind fun b => Slow.ite (Slow.ret _) ((short_slow _).bind fun sh => (table_slow _).bind fun t =>
    (lengths_slow t _ _ _).bind fun l => (fail_slow _ _).bind fun b => Slow.ite (Slow.ret _) ((table_slow _).bind fun x => (table_slow _).bind fun y => Slow.ret _))

theorem copied_slow (sym : Nat) (d : List Nat) : Slow (copiedU sym d) := fun s m st => by
  by_cases h : 257 ≤ sym ∧ sym ≤ 285
  · obtain ⟨⟨x, st1⟩, hx⟩ : ∃ p, takeU (lenR sym).2 s m st = p := ⟨_, rfl⟩
    obtain ⟨⟨y, st2⟩, hy⟩ : ∃ p, nextU d s m st1 = p := ⟨_, rfl⟩
    obtain ⟨c1, c2, c3⟩ := copied_cases sym d s m st st1 st2 x y h.1 h.2 hx hy
    have ho1 := (take_lt hx).2.1
    have ho2 := next_out hy
    have hf1 := (take_nice (lenR sym).2).fwd s m st
    rw [hx] at hf1
    have hf2 := next_slow d s m st1
    rw [hy, ho2] at hf2
    simp only at hf1 hf2
    by_cases he : st2.er = 0
    · have hmore := next_more hy he
      by_cases hy2 : 29 < y
      · rw [c2 he hy2]
        simp only
        rw [ho2, ho1]
        omega
      · obtain ⟨⟨z, st3⟩, hz⟩ : ∃ p, takeU (distR y).2 s m st2 = p := ⟨_, rfl⟩
        rw [c3 (by omega) z st3 hz]
        have ho3 := (take_lt hz).2.1
        have hf3 := (take_nice (distR y).2).fwd s m st2
        rw [hz] at hf3
        simp only at hf3
        have hls := lenR_small sym (by omega) h.1
        have hp5 : (2 : Nat) ^ (lenR sym).2 ≤ 2 ^ 5 := Nat.pow_le_pow_right (by decide) hls.2
        have hx5 := (take_lt hx).1
        unfold copyRest
        simp only [UM.bind]
        obtain ⟨⟨b1, st4⟩, h4⟩ : ∃ p, farU ((distR y).1 + z) s m st3 = p := ⟨_, rfl⟩
        have g4 := fail_slow (decide (st3.out.length < (distR y).1 + z)) 9 s m st3
        rw [show failU (decide (st3.out.length < (distR y).1 + z)) 9 s m st3 = (b1, st4) from h4] at g4
        simp only at g4
        rw [h4]
        cases b1 with
        | true =>
          show st4.out.length + _ ≤ _ + 300 * st4.t
          rw [ho3, ho2, ho1] at g4
          omega
        | false =>
          obtain ⟨⟨b2, st5⟩, h5⟩ : ∃ p, longU ((lenR sym).1 + x) s m st4 = p := ⟨_, rfl⟩
          have g5 := fail_slow (decide (m < st4.out.length + ((lenR sym).1 + x))) 2 s m st4
          rw [show failU (decide (m < st4.out.length + ((lenR sym).1 + x))) 2 s m st4 = (b2, st5) from h5] at g5
          simp only at g5
          rw [ho3, ho2, ho1] at g4
          show ((if (longU ((lenR sym).1 + x) s m st4).1 = true then UM.ret () else copyU ((distR y).1 + z) ((lenR sym).1 + x)) s m (longU ((lenR sym).1 + x) s m st4).2).2.out.length + _ ≤ _ + 300 * ((if (longU ((lenR sym).1 + x) s m st4).1 = true then UM.ret () else copyU ((distR y).1 + z) ((lenR sym).1 + x)) s m (longU ((lenR sym).1 + x) s m st4).2).2.t
          rw [h5]
          cases b2 with
          | true =>
            show st5.out.length + _ ≤ _ + 300 * st5.t
            omega
          | false =>
            simp only [Bool.false_eq_true, if_false]
            unfold copyU
            split
            · simp only
              omega
            · obtain ⟨l, e1, e2⟩ := copyN_len st5.out ((distR y).1 + z) ((lenR sym).1 + x)
              simp only [e1, List.length_append, e2]
              omega
    · rw [(c1 he).2, ho2, ho1]
      omega
  · unfold copiedU
    rw [if_neg h]
    exact Slow.bind (fail_slow _ _) (fun _ => Slow.ret _) s m st

theorem symbol_slack (sym : Nat) (d : List Nat) (s : ByteArray) (m : Nat) (st : US) : (symbolU sym d s m st).2.out.length + 300 * st.t ≤ st.out.length + 300 * (symbolU sym d s m st).2.t + 1 := by
  unfold symbolU
  split
  · have := copied_slow sym d s m st
    omega
  · simp only [UM.bind]
    obtain ⟨⟨b, st1⟩, h1⟩ : ∃ p, longU 1 s m st = p := ⟨_, rfl⟩
    have g1 := fail_slow (decide (m < st.out.length + 1)) 2 s m st
    rw [show failU (decide (m < st.out.length + 1)) 2 s m st = (b, st1) from h1] at g1
    simp only at g1
    rw [h1]
    cases b with
    | true =>
      show st1.out.length + _ ≤ _ + 300 * st1.t + 1
      omega
    | false =>
      simp only [Bool.false_eq_true, if_false]
      unfold pushU
      split
      · simp only
        omega
      · simp only [List.length_append, List.length_singleton]
        omega

theorem symbols_slow (l d : List Nat) (k : Nat) : Slow (symbolsU l d k) := by
  induction k with
  | zero => exact Slow.ret _
  | succ k ih =>
    intro s m st
    obtain ⟨⟨sym, st1⟩, hn⟩ : ∃ p, nextU l s m st = p := ⟨_, rfl⟩
    obtain ⟨x1, x2, x3⟩ := symbols_step l d k s m st st1 sym hn
    have h1 := next_slow l s m st
    rw [hn] at h1
    simp only at h1
    by_cases he : st1.er = 0
    · by_cases h256 : sym = 256
      · rw [x2 h256]
        exact h1
      · obtain ⟨y1, y2⟩ := x3 he h256
        have hm := next_more hn he
        have ho := next_out hn
        have hs := symbol_slack sym d s m st1
        rw [ho] at hs
        by_cases he3 : (symbolU sym d s m st1).2.er = 0
        · rw [y2 he3]
          have := ih s m (symbolU sym d s m st1).2
          omega
        · rw [y1 he3]
          omega
    · rw [x1 he]
      exact h1

theorem block_slow (F : Nat) : Slow (blockU F) :=
  (take_slow _).bind fun last => (take_slow _).bind fun kind => err_slow.bind fun e => Slow.ite (Slow.ret _) (Slow.bind (Slow.ite stored_slow (Slow.ite (symbols_slow _ _ F) (Slow.ite (told_slow.bind fun p => err_slow.bind fun e => Slow.ite (Slow.ret _) (symbols_slow _ _ F)) ((fail_slow _ _).bind fun _ => Slow.ret _)))) fun _ => err_slow.bind fun e => Slow.ret _)
theorem unpack_slow (F : Nat) : ∀ k, Slow (unpackU F k)
  | 0 => Slow.ret _
  | k + 1 => (block_slow F).bind fun stop => Slow.ite (Slow.ret _) (unpack_slow F k)

theorem run_small (F : Nat) (s : ByteArray) (m : Nat) : (runU F s m).out.length ≤ 2400 * s.size := by
  have h1 := unpack_slow F F s m st0
  have h2 := run_inside F s m
  unfold runU at *
  have h3 : st0.out.length = 0 := rfl
  have h4 : st0.t = 0 := rfl
  omega

end Go.Proofs.Ytgjcnembeebjfaa
