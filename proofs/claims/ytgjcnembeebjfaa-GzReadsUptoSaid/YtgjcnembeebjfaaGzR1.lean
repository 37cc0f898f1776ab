/- Walks over package ferretref03: take, next, bytes: the machine of InfM. -/
import Derived.Test.YtgjcnembeebjfaaGzY1
import Derived.Test.YtgjcnembeebjfaaGInM
import Derived.Test.YtgjcnembeebjfaaBitsF
import Derived.Test.YtgjcnembeebjfaaHufF2
import Derived.Deep.RegionWith
import Derived.StillTailTactics
import Derived.BigQuiet
import Derived.Deep.DeepCutAuto
namespace Go.Proofs.Ytgjcnembeebjfaa
open Go.RowKit
set_option linter.unusedVariables false

/-- the state's box, and the bytes that came -/
structure SB (w0 : World) (b : Nat) (s : ByteArray) (m : Nat) (v : Value) (st : US) (w : World) : Prop where
  bx : w.heap[b]? = some (.cells #[.string s, .int .i64 (st.t : Int), v, .int .i64 (m : Int), .int .i64 (st.er : Int)] 105 (0, 0))
  ob : OB w0 v st.out w
  low : w0.heap.size ≤ b

theorem SB.mut {w0 w w' : World} {b : Nat} {s : ByteArray} {m : Nat} {v : Value} {st : US} (h : SB w0 b s m v st w) (mu : Mut [] w w') : SB w0 b s m v st w' := ⟨mu.get h.bx (by simp), h.ob.mut mu, h.low⟩
theorem SB.cells {w0 w : World} {b : Nat} {s : ByteArray} {m : Nat} {v : Value} {st : US} (h : SB w0 b s m v st w) :
    w.cell? ⟨b, 0, none⟩ = some (.string s) ∧ w.cell? ⟨b, 1, none⟩ = some (.int .i64 (st.t : Int)) ∧ w.cell? ⟨b, 2, none⟩ = some v ∧ w.cell? ⟨b, 3, none⟩ = some (.int .i64 (m : Int)) ∧ w.cell? ⟨b, 4, none⟩ = some (.int .i64 (st.er : Int)) ∧
    w.frozen? ⟨b, 1, none⟩ = false ∧ w.frozen? ⟨b, 2, none⟩ = false ∧ w.frozen? ⟨b, 4, none⟩ = false :=
  ⟨cellOf h.bx 0 rfl, cellOf h.bx 1 rfl, cellOf h.bx 2 rfl, cellOf h.bx 3 rfl, cellOf h.bx 4 rfl, frozenOf h.bx 1, frozenOf h.bx 2, frozenOf h.bx 4⟩

theorem SB.ne {w0 w : World} {b : Nat} {s : ByteArray} {m : Nat} {v : Value} {st : US} (h : SB w0 b s m v st w) : v.ownBlock ≠ some b := row_ne h.ob.row h.bx (by decide)
theorem SB.set {w0 w : World} {b : Nat} {s : ByteArray} {m : Nat} {v : Value} {st : US} (h : SB w0 b s m v st w) (st' : US) (ho : st'.out = st.out) (i : Nat) (x : Value)
    (e : (#[.string s, .int .i64 (st.t : Int), v, .int .i64 (m : Int), .int .i64 (st.er : Int)] : Array Value).setIfInBounds i x = #[.string s, .int .i64 (st'.t : Int), v, .int .i64 (m : Int), .int .i64 (st'.er : Int)]) : SB w0 b s m v st' (w.setCell ⟨b, i, none⟩ x) where
  bx := by rw [heap_set h.bx i x, e]
  ob := by
    refine ⟨?_, h.ob.fresh, h.ob.kept.setCell (.inr h.low) _⟩
    rw [ho]
    exact row_set_ne h.ob.row (fun g hg => fun e' => h.ne (by rw [hg]; exact congrArg some e')) _
  low := h.low
theorem SB.setAt {w0 w : World} {b : Nat} {s : ByteArray} {m : Nat} {v : Value} {t t' er : Nat} {out : List Nat} (h : SB w0 b s m v ⟨t, out, er⟩ w) (x : Int) (hx : x = (t' : Int)) : SB w0 b s m v ⟨t', out, er⟩ (w.setCell ⟨b, 1, none⟩ (.int .i64 x)) :=
  h.set ⟨t', out, er⟩ rfl 1 _ (by rw [hx]; rfl)
theorem SB.setEr {w0 w : World} {b : Nat} {s : ByteArray} {m : Nat} {v : Value} {t er er' : Nat} {out : List Nat} (h : SB w0 b s m v ⟨t, out, er⟩ w) (x : Int) (hx : x = (er' : Int)) : SB w0 b s m v ⟨t, out, er'⟩ (w.setCell ⟨b, 4, none⟩ (.int .i64 x)) :=
  h.set ⟨t, out, er'⟩ rfl 4 _ (by rw [hx]; rfl)

set_option maxHeartbeats 1600000 in
set_option maxRecDepth 100000 in
theorem rtake_any (w0 : World) (b : Nat) (s : ByteArray) (m : Nat) (v : Value) (st : US) (n : Nat) (hn : n ≤ 15) (hs : s.size ≤ 1099511627776) (ht : st.t ≤ 8 * s.size) (w : World) (h : SB w0 b s m v st w) :
    Calls Try.prog 51 #[.pointer (some ⟨b, 0, none⟩), .int .i64 (n : Int)] w fun e w' => e = .returned (.int .i64 (((takeU n s m st).1 : Nat) : Int)) ∧ SB w0 b s m v (takeU n s m st).2 w' ∧ Mut [b] w w' := by
  obtain ⟨t, out, er⟩ := st
  simp only at ht
  have HSB := Lib.hid h
  obtain ⟨c0, c1, c2, c3, c4, f1, f2, f4⟩ := h.cells
  simp only at c1 c4
  clear h
  by_cases he : er = 0
  case neg =>
    have heI : ((er : Int) == 0) = false := by rw [beq_eq_false_iff_ne]; omega
    have e : takeU n s m ⟨t, out, er⟩ = (0, ⟨t, out, er⟩) := by unfold takeU; rw [if_pos he]
    rw [e]
    go_enter Try.func51, Try.ntmps51
    go_wp2_with fail
    exact bodyPost_ret (results_tmp rfl _ _ _) rfl ⟨rfl, HSB.out, Mut.refl _ _⟩
  case pos =>
    subst he
    have c4 : w.cell? ⟨b, 4, none⟩ = some (.int .i64 0) := c4
    by_cases hfit : t + n ≤ 8 * s.size
    case neg =>
      have hI : 8 * (s.size : Int) - (t : Int) < (n : Int) := by omega
      have hD : decide (8 * (s.size : Int) - (t : Int) < (n : Int)) = true := decide_eq_true hI
      have e : takeU n s m ⟨t, out, 0⟩ = (0, ⟨t, out, 3⟩) := by unfold takeU; rw [if_neg (by simp), if_neg hfit]
      rw [e]
      go_enter Try.func51, Try.ntmps51
      go_wp2_with fail
      go_quiet (fail)
      have HQ := Lib.hid ((HSB.out.mut ((Mut.refl [] w).drewN nq)).setEr 3 (er' := 3) rfl)
      have HM : Hid (Mut [b] w ((w.drewN nq).setCell ⟨b, 4, none⟩ (.int .i64 3))) := Lib.hid ((((Mut.refl [b] w).drewN nq)).setCell (.inl (by simp)) _)
      go_wp2_with fail
      exact bodyPost_ret (results_tmp rfl _ _ _) rfl ⟨rfl, HQ.out, HM.out⟩
    case pos =>
      have hI : ¬ 8 * (s.size : Int) - (t : Int) < (n : Int) := by omega
      have hD : decide (8 * (s.size : Int) - (t : Int) < (n : Int)) = false := decide_eq_false hI
      have e : takeU n s m ⟨t, out, 0⟩ = (peekNum s t n, ⟨t + n, out, 0⟩) := by unfold takeU; rw [if_neg (by simp), if_pos hfit]
      rw [e]
      have HV : Hid (∀ W, Calls Try.prog 74 #[.string s, .int .i64 (t : Int), .int .i64 (n : Int)] W fun e w' => e = .returned (.int .i64 ((peekNum s t n : Nat) : Int)) ∧ W = w') := Lib.hid fun W => by
        have h := value_any s t n W (by omega) (by omega) (by omega)
        rw [valueNum_peek s t n hfit] at h
        exact h
      clear e
      generalize peekNum s t n = V at *
      go_enter Try.func51, Try.ntmps51
      go_wp2_with fail
      go_quiet (fail)
      go_wp2_with fail
      have HS1 := Lib.hid (HSB.out.mut ((Mut.refl [] w).drewN nq))
      have HM1 := Lib.hid (((Mut.refl [b] w)).drewN nq)
      clear c0 c1 c2 c3 c4 f1 f2 f4 HSB
      generalize w.drewN nq = W at *
      obtain ⟨c0, c1, c2, c3, c4, f1, f2, f4⟩ := HS1.out.cells
      simp only at c1 c4
      go_quiet ((go_at_call 74; refine (HV.out _).mono ?_; rintro e w2 ⟨rfl, rfl⟩; exact ⟨rfl, _, rfl⟩))
      have HQ := Lib.hid ((HS1.out.mut ((Mut.refl [] W).drewN nq)).setAt ((t : Int) + (n : Int)) (t' := t + n) (by omega))
      have HM : Hid (Mut [b] w ((W.drewN nq).setCell ⟨b, 1, none⟩ (.int .i64 ((t : Int) + (n : Int))))) := Lib.hid ((HM1.out.drewN nq).setCell (.inl (by simp)) _)
      go_wp2_with fail
      exact bodyPost_ret (results_tmp rfl _ _ _) rfl ⟨rfl, HQ.out, HM.out⟩

set_option maxHeartbeats 1600000 in
set_option maxRecDepth 100000 in
theorem rnext3_any (w0 : World) (b : Nat) (s : ByteArray) (m : Nat) (v : Value) (st : US) (ls : List Nat) (hg : Good ls) (hls : ls.length ≤ 1024) (p1 p2 : Option Addr) (k1 k2 : Nat) (hs : s.size ≤ 1099511627776) (ht : st.t ≤ 8 * s.size) (w : World) (h : SB w0 b s m v st w)
    (hr1 : ∀ w', Mut [] w w' → ∀ i, i < ls.length → ∃ a, p1 = some a ∧ w'.cell? (a.add i) = some (.int .i64 ((lenAt ls i : Nat) : Int)))
    (hr2 : ∀ w', Mut [] w w' → ∀ i, i < ls.length → ∃ a, p2 = some a ∧ w'.cell? (a.add i) = some (.int .i64 ((codeOf ls i : Nat) : Int))) :
    Calls Try.prog 76 #[.pointer (some ⟨b, 0, none⟩), .slice p1 ls.length k1, .slice p2 ls.length k2] w fun e w' => e = .returned (.int .i64 (((nextU ls s m st).1 : Nat) : Int)) ∧ SB w0 b s m v (nextU ls s m st).2 w' ∧ Mut [b] w w' := by
  obtain ⟨t, out, er⟩ := st
  simp only at ht
  have HSB := Lib.hid h
  obtain ⟨c0, c1, c2, c3, c4, f1, f2, f4⟩ := h.cells
  simp only at c1 c4
  clear h
  by_cases he : er = 0
  case neg =>
    have heI : ((er : Int) == 0) = false := by rw [beq_eq_false_iff_ne]; omega
    have e : nextU ls s m ⟨t, out, er⟩ = (0, ⟨t, out, er⟩) := by unfold nextU; rw [if_pos he]
    rw [e]
    go_enter Try.func76, Try.ntmps76
    go_wp2_with fail
    exact bodyPost_ret (results_tmp rfl _ _ _) rfl ⟨rfl, HSB.out, Mut.refl _ _⟩
  case pos =>
    subst he
    have c4 : w.cell? ⟨b, 4, none⟩ = some (.int .i64 0) := c4
    have e : nextU ls s m ⟨t, out, 0⟩ = ((nextRes ls (peekNum s t 15) (min 15 (8 * s.size - t))).1, ⟨t + (nextRes ls (peekNum s t 15) (min 15 (8 * s.size - t))).2.1, out, (nextRes ls (peekNum s t 15) (min 15 (8 * s.size - t))).2.2⟩) := by unfold nextU; rw [if_neg (by simp)]
    rw [e]
    have HNX : Hid (∀ j, Calls Try.prog 98 #[.slice p1 ls.length k1, .slice p2 ls.length k2, .string s, .int .i64 (t : Int)] (w.drewN j) fun e w' =>
      e = .returned (.tuple #[.int .i64 ((nextRes ls (peekNum s t 15) (min 15 (8 * s.size - t))).1 : Nat), .int .i64 ((nextRes ls (peekNum s t 15) (min 15 (8 * s.size - t))).2.1 : Nat), .int .i64 ((nextRes ls (peekNum s t 15) (min 15 (8 * s.size - t))).2.2 : Nat)]) ∧ ∃ n, w' = (w.drewN j).drewN n) := Lib.hid fun j =>
      refnext_any ls hg hls p1 p2 k1 k2 s t (by omega) ht (w.drewN j) (fun i hi => by
        obtain ⟨a, e, -⟩ := hr1 w (Mut.refl _ _) i hi
        refine ⟨a, e, fun n => ?_⟩
        obtain ⟨a', e', h'⟩ := hr1 ((w.drewN j).drewN n) (((Mut.refl [] w).drewN j).drewN n) i hi
        rw [e] at e'
        cases e'
        exact h') (fun i hi => by
        obtain ⟨a, e, -⟩ := hr2 w (Mut.refl _ _) i hi
        refine ⟨a, e, fun n => ?_⟩
        obtain ⟨a', e', h'⟩ := hr2 ((w.drewN j).drewN n) (((Mut.refl [] w).drewN j).drewN n) i hi
        rw [e] at e'
        cases e'
        exact h')
    clear e hr1 hr2
    have hb := nextRes_in ls (peekNum s t 15) (min 15 (8 * s.size - t))
    generalize nextRes ls (peekNum s t 15) (min 15 (8 * s.size - t)) = R at *
    obtain ⟨r1, r2, r3⟩ := R
    simp only at HNX hb ⊢
    have hrb : r2 ≤ 15 := by omega
    go_enter Try.func76, Try.ntmps76
    go_wp2_with fail
    go_quiet ((go_at_call 98; refine (HNX.out _).mono ?_; rintro e w2 ⟨rfl, q, rfl⟩; exact ⟨rfl, _, World.drewN_drewN _ _ _⟩))
    have HS1 := Lib.hid (HSB.out.mut ((Mut.refl [] w).drewN nq))
    have HM1 := Lib.hid (((Mut.refl [b] w)).drewN nq)
    clear c0 c1 c2 c3 c4 f1 f2 f4 HSB HNX
    generalize w.drewN nq = W at *
    obtain ⟨c0, c1, c2, c3, c4, f1, f2, f4⟩ := HS1.out.cells
    simp only at c1 c4
    have HQ := Lib.hid ((HS1.out.setAt ((t : Int) + (r2 : Int)) (t' := t + r2) (by omega)).setEr (r3 : Int) (er' := r3) rfl)
    have HM : Hid (Mut [b] w ((W.setCell ⟨b, 1, none⟩ (.int .i64 ((t : Int) + (r2 : Int)))).setCell ⟨b, 4, none⟩ (.int .i64 (r3 : Int)))) := Lib.hid ((HM1.out.setCell (.inl (by simp)) _).setCell (.inl (by simp)) _)
    have htb : t ≤ 8796093022208 := by omega
    clear hb
    go_wp2_with fail
    exact bodyPost_ret (results_tmp rfl _ _ _) rfl ⟨rfl, HQ.out, HM.out⟩

set_option maxHeartbeats 1600000 in
set_option maxRecDepth 100000 in
theorem rbytes3_any (w0 : World) (b : Nat) (s : ByteArray) (m : Nat) (v : Value) (t : Nat) (out : List Nat) (n : Nat) (hn : n ≤ 65535) (hs : s.size ≤ 1099511627776) (ht : t ≤ 8 * s.size) (w : World) (h : SB w0 b s m v ⟨t, out, 0⟩ w) :
    Calls Try.prog 75 #[.pointer (some ⟨b, 0, none⟩), .int .i64 (n : Int)] w fun e w' => e = .returned (.int .i64 (if (t + 7) / 8 + n ≤ s.size then (((t + 7) / 8 : Nat) : Int) else -1)) ∧ SB w0 b s m v (bytesU n s m ⟨t, out, 0⟩).2 w' ∧ Mut [b] w w' := by
  have HSB := Lib.hid h
  obtain ⟨c0, c1, c2, c3, c4, f1, f2, f4⟩ := h.cells
  simp only at c1 c4
  clear h
  obtain ⟨fr, hfr⟩ : ∃ z, (t + 7) / 8 = z := ⟨_, rfl⟩
  have hdv : ((t : Int) + 7).tdiv 8 = (fr : Int) := by rw [Int.tdiv_eq_ediv_of_nonneg (by omega)]; omega
  have hfrb : fr ≤ 1099511627776 := by omega
  have htb : t ≤ 8796093022208 := by omega
  by_cases hfit : fr + n ≤ s.size
  · have e : bytesU n s m ⟨t, out, 0⟩ = (((bytesOf s).drop fr).take n, ⟨8 * (fr + n), out, 0⟩) := by unfold bytesU; simp only []; rw [hfr, if_neg (by simp), if_pos hfit]
    rw [e, hfr, if_pos hfit]
    have hI : ¬ (s.size : Int) - (fr : Int) < (n : Int) := by omega
    have HQ := Lib.hid (HSB.out.setAt (8 * ((fr : Int) + (n : Int))) (t' := 8 * (fr + n)) (by omega))
    have HM : Hid (Mut [b] w (w.setCell ⟨b, 1, none⟩ (.int .i64 (8 * ((fr : Int) + (n : Int)))))) := Lib.hid ((Mut.refl [b] w).setCell (.inl (by simp)) _)
    clear e hfr
    go_enter Try.func75, Try.ntmps75
    go_wp2_with fail
    exact bodyPost_ret (results_tmp rfl _ _ _) rfl ⟨rfl, HQ.out, HM.out⟩
  · have e : bytesU n s m ⟨t, out, 0⟩ = ([], ⟨t, out, 3⟩) := by unfold bytesU; simp only []; rw [hfr, if_neg (by simp), if_neg hfit]
    rw [e, hfr, if_neg hfit]
    have hI : (s.size : Int) - (fr : Int) < (n : Int) := by omega
    have HQ := Lib.hid (HSB.out.setEr 3 (er' := 3) rfl)
    have HM : Hid (Mut [b] w (w.setCell ⟨b, 4, none⟩ (.int .i64 3))) := Lib.hid ((Mut.refl [b] w).setCell (.inl (by simp)) _)
    clear e hfr
    go_enter Try.func75, Try.ntmps75
    go_wp2_with fail
    exact bodyPost_ret (results_tmp rfl _ _ _) rfl ⟨rfl, HQ.out, HM.out⟩

end Go.Proofs.Ytgjcnembeebjfaa
