/- Walks over package inflate: next, table. -/
import Derived.Test.YtgjcnembeebjfaaInfW3
import Derived.Test.YtgjcnembeebjfaaHufW5
import Derived.Test.YtgjcnembeebjfaaHufW4
import Derived.Test.YtgjcnembeebjfaaGLaw
namespace Go.Proofs.Ytgjcnembeebjfaa
open Go.RowKit
set_option linter.unusedVariables false

/-- a table that an unpacker uses: it lies apart from the unpacker and its reader -/
structure TabOf (w : World) (lo hi tb b rb : Nat) (ls : List Nat) : Prop where
  tab : TableIs w lo hi tb ls
  good : Good ls
  len : ls.length ≤ 1024
  nb : b < lo ∨ hi ≤ b
  nr : rb < lo ∨ hi ≤ rb
  top : hi ≤ w.heap.size

theorem TabOf.mut {w w' : World} {lo hi tb b rb : Nat} {ls : List Nat} (h : TabOf w lo hi tb b rb ls) {S : List Nat} (m : Mut S w w') (hs : ∀ x, x ∈ S → x < lo ∨ hi ≤ x) : TabOf w' lo hi tb b rb ls :=
  ⟨h.tab.mut m hs, h.good, h.len, h.nb, h.nr, Nat.le_trans h.top m.size⟩

theorem TabOf.mut2 {w w' : World} {lo hi tb b rb : Nat} {ls : List Nat} (h : TabOf w lo hi tb b rb ls) (m : Mut [b, rb] w w') : TabOf w' lo hi tb b rb ls :=
  h.mut m (fun x hx => by simp at hx; rcases hx with rfl | rfl; exact h.nb; exact h.nr)

theorem unext_err (b rb : Nat) (s : ByteArray) (t : Nat) (tv : Value) (ov : Value) (out : List Nat) (most : Int) (er : Nat) (w : World) (h : UIs w b rb s t ov out most er) (he : er ≠ 0) :
    Calls Try.prog 91 #[.pointer (some ⟨b, 0, none⟩), tv] w fun e w' => e = .returned (.int .i64 0) ∧ w = w' := by
  obtain ⟨c0, c1, c2, c3, f1, f3⟩ := cells4 h.box
  clear h
  have hI : ((er : Int) == 0) = false := by rw [beq_eq_false_iff_ne]; omega
  go_enter Try.func91, Try.ntmps91
  go_wp2_with fail
  go_ret
  exact ⟨rfl, rfl⟩

theorem unext_ok (b rb lo hi tb : Nat) (ls : List Nat) (s : ByteArray) (t : Nat) (ov : Value) (out : List Nat) (most : Int) (w : World) (h : UIs w b rb s t ov out most 0) (hT : TabOf w lo hi tb b rb ls) (hs : s.size ≤ 140737488351232) (ht : t ≤ 8 * s.size)
    (x n e2 : Nat) (hu : nextRes ls (peekNum s t 15) (min 15 (8 * s.size - t)) = (x, n, e2)) :
    Calls Try.prog 91 #[.pointer (some ⟨b, 0, none⟩), .pointer (some ⟨tb, 0, none⟩)] w fun e w' => e = .returned (.int .i64 (x : Int)) ∧ UIs w' b rb s (t + n) ov out most e2 ∧ Mut [b, rb] w w' := by
  obtain ⟨c0, c1, c2, c3, f1, f3⟩ := cellsU h.box
  have HT : Hid (Calls Try.prog 108 #[.pointer (some ⟨tb, 0, none⟩), .pointer (some ⟨rb, 0, none⟩)] w fun e w' => e = .returned (.tuple #[.int .i64 (x : Int), .int .i64 (e2 : Int)]) ∧ UIs w' b rb s (t + n) ov out most 0 ∧ Mut [rb] w w') :=
    Lib.hid ((next_any lo hi tb ls rb s t w hT.tab h.rd (by omega) ht (long_le ls hT.good.h15) hT.len).mono fun e w' ⟨h1, h2, h3⟩ => by
      rw [hu] at h1 h2
      exact ⟨h1, h.rdto h3 h2, h3⟩)
  clear h hT hu
  go_enter Try.func91, Try.ntmps91
  go_wp2_with fail
  refine HT.out.mono ?_
  rintro e w1 ⟨rfl, hu, hm1⟩
  have HU := Lib.hid hu
  have HM := Lib.hid hm1
  obtain ⟨d0, d1, d2, d3, g1, g3⟩ := cellsU HU.out.box
  clear hu hm1
  go_wp2_with fail
  go_ret
  exact ⟨rfl, HU.out.err e2, (HM.out.mono (by simp)).setCell (by simp) _⟩

theorem unext_any (b rb lo hi tb : Nat) (ls : List Nat) (s : ByteArray) (st st' : US) (x : Nat) (ov : Value) (m : Nat) (w : World) (h : UAt w b rb s ov m st) (hT : TabOf w lo hi tb b rb ls) (hs : s.size ≤ 140737488351232) (ht : st.t ≤ 8 * s.size) (hu : nextU ls s m st = (x, st')) :
    Calls Try.prog 91 #[.pointer (some ⟨b, 0, none⟩), .pointer (some ⟨tb, 0, none⟩)] w fun e w' => e = .returned (.int .i64 (x : Int)) ∧ UAt w' b rb s ov m st' ∧ Mut [b, rb] w w' := by
  obtain ⟨t, out, er⟩ := st
  unfold nextU at hu
  by_cases he : er = 0
  · subst he
    rw [if_neg (by simp)] at hu
    obtain ⟨rfl, rfl⟩ := Prod.mk.inj hu
    exact unext_ok b rb lo hi tb ls s t ov out m w h hT hs ht _ _ _ rfl
  · rw [if_pos (by simpa using he)] at hu
    obtain ⟨rfl, rfl⟩ := Prod.mk.inj hu
    exact (unext_err b rb s t _ ov out m er w h he).mono fun e w' ⟨h1, h2⟩ => ⟨h1, h2 ▸ h, h2 ▸ Mut.refl _ _⟩

theorem utable_err (b rb : Nat) (s : ByteArray) (t : Nat) (tv : Value) (ov : Value) (out : List Nat) (most : Int) (er : Nat) (w : World) (h : UIs w b rb s t ov out most er) (he : er ≠ 0) :
    Calls Try.prog 95 #[.pointer (some ⟨b, 0, none⟩), tv] w fun e w' => e = .returned (.pointer none) ∧ w = w' := by
  obtain ⟨c0, c1, c2, c3, f1, f3⟩ := cells4 h.box
  clear h
  have hI : ((er : Int) == 0) = false := by rw [beq_eq_false_iff_ne]; omega
  go_enter Try.func95, Try.ntmps95
  go_wp2_with fail
  go_ret
  exact ⟨rfl, rfl⟩

theorem Mut.row0 {w w' : World} {b rb : Nat} {s : ByteArray} {t : Nat} {ov : Value} {out : List Nat} {most : Int} {er : Nat} (h : UIs w b rb s t ov out most er) (m : Mut [] w w') : UIs w' b rb s t ov out most er := h.mut m (by simp) (by simp) (by simp)

theorem utable_ok (b rb : Nat) (xs : List Int) (s : ByteArray) (t : Nat) (ov : Value) (out : List Nat) (most : Int) (w : World) (h : UIs w b rb s t ov out most 0) (hlen : xs.length ≤ 1073741824) (rp0 : Option Addr) (rc0 : Nat)
    (hcells : ∀ (w' : World), Mut [] w w' → ∀ i : Nat, i < xs.length → ∃ a : Addr, rp0 = some a ∧ w'.cell? (a.add i) = some (.int .i64 (xs.getD i 0))) :
    Calls Try.prog 95 #[.pointer (some ⟨b, 0, none⟩), .slice rp0 xs.length rc0] w fun e w' => (∃ p, e = .returned (.pointer p) ∧ (newErr xs = 0 → ∃ tb, p = some ⟨tb, 0, none⟩ ∧ TableIs w' w.heap.size w'.heap.size tb (lensOf xs))) ∧ UIs w' b rb s t ov out most (newErr xs) ∧ Mut [b] w w' := by
  obtain ⟨c0, c1, c2, c3, f1, f3⟩ := cellsU h.box
  have HN : Hid (Calls Try.prog 93 #[.slice rp0 xs.length rc0] w fun e w' => ∃ p, e = .returned (.tuple #[.pointer p, .int .i64 (newErr xs : Nat)]) ∧ (newErr xs = 0 → ∃ tb, p = some ⟨tb, 0, none⟩ ∧ TableIs w' w.heap.size w'.heap.size tb (lensOf xs)) ∧ UIs w' b rb s t ov out most 0 ∧ Mut [] w w') :=
    Lib.hid ((new_any xs hlen rp0 rc0 w hcells).mono fun e w' ⟨h1, h2⟩ => by
      rcases h1 with ⟨q1, q2⟩ | ⟨q1, tb, q2, q3⟩
      · exact ⟨none, q2, fun h => absurd h q1, Mut.row0 h h2, h2⟩
      · exact ⟨_, by rw [q2, q1]; rfl, fun _ => ⟨tb, rfl, q3⟩, Mut.row0 h h2, h2⟩)
  have hlt := lt_of_heap h.box
  obtain ⟨ne, hne⟩ : ∃ ne, newErr xs = ne := ⟨_, rfl⟩
  rw [hne] at HN ⊢
  clear h hcells hne
  go_enter Try.func95, Try.ntmps95
  go_wp2_with fail
  refine HN.out.mono ?_
  rintro e w1 ⟨p, rfl, ht, hu, hm⟩
  have HT := Lib.hid ht
  have HU := Lib.hid hu
  have HM := Lib.hid hm
  obtain ⟨d0, d1, d2, d3, g1, g3⟩ := cellsU HU.out.box
  clear ht hu hm c0 c1 c2 c3 f1 f3
  go_wp2_with fail
  go_ret
  refine ⟨⟨p, rfl, fun h0 => ?_⟩, HU.out.err ne, (HM.out.mono (by simp)).setCell (by simp) _⟩
  obtain ⟨tb, h1, h2⟩ := HT.out h0
  refine ⟨tb, h1, ?_⟩
  have m : Mut [b] w1 (w1.setCell ⟨b, 3, none⟩ (.int .i64 (ne : Int))) := (Mut.refl _ w1).setCell (by simp) _
  exact (h2.mut m (fun x hx => by simp at hx; omega)).wide (Nat.le_refl _) m.size

theorem utable_any (b rb : Nat) (xs : List Int) (ls : List Nat) (s : ByteArray) (st st' : US) (ov : Value) (m : Nat) (w : World) (h : UAt w b rb s ov m st) (hlen : xs.length ≤ 1073741824) (rp0 : Option Addr) (rc0 : Nat)
    (hcells : ∀ (w' : World), Mut [] w w' → ∀ i : Nat, i < xs.length → ∃ a : Addr, rp0 = some a ∧ w'.cell? (a.add i) = some (.int .i64 (xs.getD i 0))) (hu : tableU xs s m st = (ls, st')) :
    Calls Try.prog 95 #[.pointer (some ⟨b, 0, none⟩), .slice rp0 xs.length rc0] w fun e w' => (∃ p, e = .returned (.pointer p) ∧ (st'.er = 0 → ∃ tb, p = some ⟨tb, 0, none⟩ ∧ TabOf w' w.heap.size w'.heap.size tb b rb ls)) ∧ UAt w' b rb s ov m st' ∧ Mut [b] w w' := by
  obtain ⟨t, out, er⟩ := st
  have hb := lt_of_heap h.box
  have hr : rb < w.heap.size := lt_of_heap (show w.heap[rb]? = _ from h.rd)
  unfold tableU at hu
  by_cases he : er = 0
  · subst he
    rw [if_neg (by simp)] at hu
    by_cases h0 : newErr xs = 0
    · rw [if_pos h0] at hu
      obtain ⟨rfl, rfl⟩ := Prod.mk.inj hu
      refine (utable_ok b rb xs s t ov out m w h hlen rp0 rc0 hcells).mono fun e w' ⟨⟨p, h1, h2⟩, h3, h4⟩ => ⟨⟨p, h1, fun _ => ?_⟩, by rw [h0] at h3; exact h3, h4⟩
      obtain ⟨tb, e1, e2⟩ := h2 h0
      refine ⟨tb, e1, e2, good_new xs h0, ?_, .inl hb, .inl hr, Nat.le_refl _⟩
      unfold newErr at h0
      by_cases h5 : 1024 < xs.length
      · rw [if_pos h5] at h0; cases h0
      · simp [lensOf]; omega
    · rw [if_neg h0] at hu
      obtain ⟨rfl, rfl⟩ := Prod.mk.inj hu
      exact (utable_ok b rb xs s t ov out m w h hlen rp0 rc0 hcells).mono fun e w' ⟨⟨p, h1, h2⟩, h3, h4⟩ => ⟨⟨p, h1, fun h => absurd h h0⟩, h3, h4⟩
  · rw [if_pos (by simpa using he)] at hu
    obtain ⟨rfl, rfl⟩ := Prod.mk.inj hu
    exact (utable_err b rb s t _ ov out m er w h he).mono fun e w' ⟨h1, h2⟩ => ⟨⟨none, h1, fun h => absurd h he⟩, h2 ▸ h, h2 ▸ Mut.refl _ _⟩

end Go.Proofs.Ytgjcnembeebjfaa
