/- Walks over package ferretlaw07: speaks, ints; what a text is to a caller of Decode. -/
import Derived.Test.YtkoheodcledcfaaCodW3
import Derived.Test.YtkoheodcledcfaaCodW5
import Derived.Deep.LoopGhost
namespace Go.Proofs.Ytkoheodcledcfaa
open Go.RowKit

/-- a text and a fault in a caller's memory -/
def Held (w : World) (A : Nat) (a0 a1 a2 a3 b0 b1 : Value) : Prop :=
  w.heap[A]? = some (.cells #[a0, a1, a2, a3] 25 (0, 0)) ∧ w.heap[A + 1]? = some (.cells #[b0, b1] 28 (0, 0))

theorem Held.step {w w' : World} {A : Nat} {a0 a1 a2 a3 b0 b1 : Value} (h : Held w A a0 a1 a2 a3 b0 b1) (m : Mut [] w w') : Held w' A a0 a1 a2 a3 b0 b1 := ⟨m.get h.1 (by simp), m.get h.2 (by simp)⟩

theorem Held.cells {w : World} {A : Nat} {a0 a1 a2 a3 b0 b1 : Value} (h : Held w A a0 a1 a2 a3 b0 b1) :
    w.cell? ⟨A, 0, none⟩ = some a0 ∧ w.cell? ⟨A, 1, none⟩ = some a1 ∧ w.cell? ⟨A, 2, none⟩ = some a2 ∧ w.cell? ⟨A, 3, none⟩ = some a3 ∧ w.cell? ⟨A + 1, 0, none⟩ = some b0 ∧ w.cell? ⟨A + 1, 1, none⟩ = some b1 :=
  ⟨cellOf h.1 0 rfl, cellOf h.1 1 rfl, cellOf h.1 2 rfl, cellOf h.1 3 rfl, cellOf h.2 0 rfl, cellOf h.2 1 rfl⟩

theorem hold_new (w : World) (a0 a1 a2 a3 b0 b1 : Value) :
    Held ((w.alloc (.cells #[a0, a1, a2, a3] 25)).alloc (.cells #[b0, b1] 28)) w.heap.size a0 a1 a2 a3 b0 b1 ∧ Mut [] w ((w.alloc (.cells #[a0, a1, a2, a3] 25)).alloc (.cells #[b0, b1] 28)) := by
  have h0 := heap_alloc_new w (.cells #[a0, a1, a2, a3] 25)
  have h1 := heap_alloc_new (w.alloc (.cells #[a0, a1, a2, a3] 25)) (.cells #[b0, b1] 28)
  rw [World.size_alloc] at h1
  exact ⟨⟨((Mut.refl [] _).alloc _).get h0 (by simp), h1⟩, ((Mut.refl [] w).alloc _).alloc _⟩

/-- a text all of which is whole -/
theorem DecPost.whole {w : World} {k : Nat} {strict : Bool} {T : List (Int × Nat)} {size : Nat} {x : Value} {w' : World} (h : DecPost w k strict T size x w') (hb : badOf T = 0) :
    ∃ vr vp, x = .tuple #[.agg #[.int .i64 (k : Int), vr, vp, .int .i64 0], .agg #[.int .i64 0, .int .i64 0]] ∧ IRow w' vr (runesOf T) ∧ IRow w' vp (((placesOf T).map fun n : Nat => (n : Int)) ++ [(size : Int)]) := by
  rcases h with ⟨D, p, E, h1, h2, h3, _⟩ | ⟨_, vr, vp, h1, h2, h3, _⟩
  · subst h1
    exfalso
    unfold badOf at hb
    rw [List.filter_append, List.filter_cons_of_pos (by simpa using h3)] at hb
    simp at hb
  · refine ⟨vr, vp, ?_, h2, h3⟩
    rw [h1, hb]
    rfl

/-- a row of numbers, read -/
theorem IRow.at {w : World} {v : Value} {L : List Int} (h : IRow w v L) (hL : 0 < L.length) : ∃ g cap, v = .slice (some ⟨g, 0, none⟩) L.length cap ∧ ∀ w', Mut [] w w' → ∀ i, i < L.length → w'.cell? ⟨g, i, none⟩ = some (.int .i64 (L.getD i 0)) := by
  obtain ⟨g, cap, rfl, -, -⟩ := row_some h hL
  refine ⟨g, cap, rfl, fun w' hm i hi => ?_⟩
  have := (h.mut hm (fun g _ => by simp)).cellAt i (by omega)
  simpa [List.getD, hi] using this

/-- a row of numbers, as the walk reads it -/
theorem IRow.read {w : World} {v : Value} {L : List Int} (h : IRow w v L) : ∃ p cap, v = .slice p L.length cap ∧ ∀ w', Mut [] w w' → ∀ i, i < L.length → ∃ a : Addr, p = some a ∧ w'.cell? (a.add i) = some (.int .i64 (L.getD i 0)) := by
  rcases h.2 with ⟨rfl, e⟩ | ⟨g, cap, cur, rfl, _, hh, _⟩
  · exact ⟨none, 0, by rw [e], fun w' _ i hi => by omega⟩
  · refine ⟨_, cap, rfl, fun w' hm i hi => ⟨_, rfl, ?_⟩⟩
    have := (h.mut hm (fun g _ => by simp)).cellAt i (by omega)
    rw [Addr.add_lit]
    simpa [List.getD, hi] using this

set_option maxHeartbeats 800000 in
set_option maxRecDepth 1000000 in
theorem speaks_any (w : World) : Calls Try.prog 10 #[] w fun e w' => e = .returned (.bool true) ∧ Mut [] w w' := by
  have HD := Lib.hid (decode_go ⟨#[97, 195, 164]⟩ 0 true (by decide) (by decide) w)
  have hT : told (codingOf 0 (bytesOf ⟨#[97, 195, 164]⟩)) (bytesOf ⟨#[97, 195, 164]⟩) = [(97, 0), (228, 1)] := by decide +kernel
  have HT := Lib.hid hT
  clear hT
  go_enter Try.func10, Try.ntmps10
  go_wp2_with fail
  refine HD.out.mono ?_
  rintro e w1 ⟨x, rfl, hp, hm⟩
  rw [HT.out] at hp
  generalize codingOf 0 (bytesOf ⟨#[97, 195, 164]⟩) = k at *
  obtain ⟨vr, vp, rfl, hr, hq⟩ := hp.whole rfl
  have hr' : IRow w1 vr [97, 228] := hr
  have hq' : IRow w1 vp [0, 1, 3] := hq
  obtain ⟨g1, c1, rfl, k1⟩ := hr'.at (by decide)
  obtain ⟨g2, c2, rfl, k2⟩ := hq'.at (by decide)
  have r1 : ∀ o o', ((w1.alloc o).alloc o').cell? ⟨g1, 1, none⟩ = some (.int .i64 228) := fun o o' => k1 _ (((Mut.refl [] w1).alloc _).alloc _) 1 (by decide)
  have r2 : ∀ o o', ((w1.alloc o).alloc o').cell? ⟨g2, 2, none⟩ = some (.int .i64 3) := fun o o' => k2 _ (((Mut.refl [] w1).alloc _).alloc _) 2 (by decide)
  have HM := Lib.hid hm
  clear hm hp hr hq hr' hq' k1 k2 HD HT
  go_wp2_with fail
  exact bodyPost_ret (results_tmp rfl _ _ _) rfl ⟨rfl, (HM.out.alloc _).alloc _⟩

set_option maxHeartbeats 800000 in
set_option maxRecDepth 1000000 in
theorem ints_any (v1 v2 : Value) (p1 p2 : Option Addr) (c1 c2 : Nat) (A B : List Int) (hA : A.length ≤ 1073741824) (w : World) (e1 : v1 = .slice p1 A.length c1) (e2 : v2 = .slice p2 B.length c2)
    (h1 : ∀ i, i < A.length → ∃ a, p1 = some a ∧ w.cell? (a.add i) = some (.int .i64 (A.getD i 0))) (h2 : ∀ i, i < B.length → ∃ a, p2 = some a ∧ w.cell? (a.add i) = some (.int .i64 (B.getD i 0))) :
    Calls Try.prog 15 #[v1, v2] w fun e w' => e = .returned (.bool (decide (A = B))) ∧ ∃ n, w' = w.drewN n := by
  subst e1 e2
  have H1 := Lib.hid h1
  have H2 := Lib.hid h2
  clear h1 h2
  by_cases hl : A.length = B.length
  · have hlI : ((A.length : Int) == (B.length : Int)) = true := by simp [hl]
    obtain ⟨n, hn⟩ : ∃ n, A.length = n := ⟨_, rfl⟩
    have HA := Lib.hid hn
    have HB : Hid (B.length = n) := Lib.hid (by omega)
    obtain ⟨res, hres⟩ : ∃ res, decide (A = B) = res := ⟨_, rfl⟩
    have HR := Lib.hid hres
    rw [hres]
    clear hres
    go_enter Try.func15, Try.ntmps15
    rw [← hl, hn]
    go_wp2_with fail
    go_loopw [5] (fun x wx => ∃ (i m : Nat), x = .int .i64 (i : Int) ∧ i ≤ n ∧ Hid (A.take i = B.take i) ∧ wx = w.drewN m) (fun x _ => n - (intOf x).toNat)
    case atStart => exact ⟨0, 0, rfl, by omega, Lib.hid rfl, rfl⟩
    case round =>
      obtain ⟨i, m, rfl, hi, HT, rfl⟩ := hrel
      clear hlI
      by_cases hend : i < n
      · have hendI : (i : Int) < (n : Int) := by omega
        have hi0 : (0 : Int) ≤ (i : Int) := by omega
        have hiA : i < A.length := by have := HA.out; omega
        have hiB : i < B.length := by have := HB.out; omega
        obtain ⟨a, rfl, ca⟩ := H1.out i hiA
        obtain ⟨b, rfl, cb⟩ := H2.out i hiB
        have T1 : Hid (A.take (i + 1) = A.take i ++ [A.getD i 0]) := Lib.hid (by rw [List.take_add_one]; simp [List.getD, hiA])
        have T2 : Hid (B.take (i + 1) = B.take i ++ [B.getD i 0]) := Lib.hid (by rw [List.take_add_one]; simp [List.getD, hiB])
        have T3 : Hid (A = B → A.getD i 0 = B.getD i 0) := Lib.hid (by intro h; rw [h])
        generalize A.getD i 0 = x at *
        generalize B.getD i 0 = y at *
        have ca' : ∀ k, (w.drewN k).cell? (a.add i) = some (.int .i64 x) := fun k => ca
        have cb' : ∀ k, (w.drewN k).cell? (b.add i) = some (.int .i64 y) := fun k => cb
        by_cases hxy : x = y
        · subst hxy
          have hnn : (x == x) = true := by simp
          go_wp2_with fail
          go_quiet (fail)
          go_wp2_with fail
          exact ⟨⟨i + 1, _, by rw [Int.natCast_add]; rfl, by omega, Lib.hid (by rw [T1.out, T2.out, HT.out]), rfl⟩, by simp only [intOf]; omega⟩
        · have hxb : (x == y) = false := by rw [beq_eq_false_iff_ne]; exact hxy
          have hne : res = false := by rw [← HR.out]; simp; intro h; exact hxy (T3.out h)
          subst hne
          go_wp2_with fail
          go_quiet (fail)
          go_wp2_with fail
          exact bodyPost_ret (results_tmp rfl _ _ _) rfl ⟨rfl, _, World.drewN_drewN _ _ _⟩
      · have e : i = n := by omega
        have hendI : ¬ (i : Int) < (n : Int) := by omega
        have heq : res = true := by
          rw [← HR.out]
          have h1 := HT.out
          rw [List.take_of_length_le (by have := HA.out; omega), List.take_of_length_le (by have := HB.out; omega)] at h1
          simpa using h1
        subst heq
        go_wp2_with fail
        exact bodyPost_ret (results_tmp rfl _ _ _) rfl ⟨rfl, _, rfl⟩
  · have hlI : ((A.length : Int) == (B.length : Int)) = false := by rw [beq_eq_false_iff_ne]; omega
    have hne : decide (A = B) = false := by simp; intro h; exact hl (by rw [h])
    rw [hne]
    go_enter Try.func15, Try.ntmps15
    go_wp2_with fail
    exact bodyPost_ret (results_tmp rfl _ _ _) rfl ⟨rfl, 0, rfl⟩

end Go.Proofs.Ytkoheodcledcfaa
