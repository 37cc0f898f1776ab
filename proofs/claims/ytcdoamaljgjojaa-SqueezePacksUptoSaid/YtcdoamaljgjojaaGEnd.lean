/- What is packed: how long it is, that it is unpacked, and that no byte cut off it is missed, plain. No program. Walks over package ferretlaw03: speaks. A slice of choices that came in, read. Arrays of two numbers, of three strings, that came in. -/
import Derived.Test.YtcdoamaljgjojaaGSzb
import Derived.Test.YtcdoamaljgjojaaInfN
import Derived.Test.YtcdoamaljgjojaaInfWc
import Derived.Test.YtcdoamaljgjojaaInfS
import Derived.Test.YtcdoamaljgjojaaLaw
import Derived.Test.YtcdoamaljgjojaaGPlain
import Derived.Deep.Slices
import Derived.OpenShut
import Derived.ChangeSame
import Derived.Laws.IdiomArrays

namespace Go.Proofs.Ytcdoamaljgjojaa
open Go.RowKit
set_option linter.unusedVariables false

set_option maxRecDepth 100000 in
theorem packR_len (D : List Nat) (hD : ∀ x ∈ D, x < 256) (C : List Ch) : ∀ f a i L B, PInv D.length C a i L → muOf D.length C a i < f → (packR D C f a i L B).length ≤ B.length + 60 * (D.length - a) + 1400 * (muOf D.length C a i + 1)
  | 0, _, _, _, _, _, h => by omega
  | f + 1, a, i, L, B, hI, hmu => by
    obtain ⟨FIN, hFIN⟩ : ∃ FIN, packR D C (f + 1) a i L B = FIN := ⟨_, rfl⟩
    rw [hFIN]
    obtain ⟨k, hk⟩ : ∃ k, kindOf (chAt C D.length i).1 = k := ⟨_, rfl⟩
    obtain ⟨n, hn⟩ : ∃ n, cutOf k L = n := ⟨_, rfl⟩
    obtain ⟨q, hq⟩ : ∃ q, isLast C D.length a i L n = q := ⟨_, rfl⟩
    have hnL : n ≤ L := by rw [← hn]; exact cut_le k L
    have han : a + n ≤ D.length := by have := hI.le; have := hI.room; omega
    have hbl := blkB_len D hD k a n (reachOf (chAt C D.length i).2.2) (reachOf_le _) q B
    have hnx := packR_next hI hmu hFIN k n q hk hn hq
    rw [packR] at hFIN
    simp only [hk, hn, hq] at hFIN
    rcases hnx with ⟨h1, h2, _⟩ | ⟨h1, _, _, _, h5, h6⟩
    · rw [← h2]
      omega
    · subst h1
      rw [if_neg (by decide)] at hFIN
      have := packR_len D hD C f (a + n) (nextI i L n) (nextL C D.length a i L n) (blkB D k a n (reachOf (chAt C D.length i).2.2) false B) h5 (by omega)
      rw [hFIN] at this
      omega

set_option maxRecDepth 100000 in
theorem packAll_len (D : List Nat) (hD : ∀ x ∈ D, x < 256) (C : List Ch) : (packAll D C).length ≤ 1460 * D.length + 1400 * (C.length + 1) := by
  have := packR_len D hD C (D.length + C.length + 1) 0 0 (leftOf C D.length 0 0) [] (PInv.start _ _) (by unfold muOf; omega)
  unfold packAll
  unfold muOf at this
  simp only [List.length_nil] at this
  omega

set_option maxRecDepth 100000 in
theorem packAll_pos (D : List Nat) (C : List Ch) : 3 ≤ (packAll D C).length := by
  unfold packAll
  rw [packR]
  obtain ⟨r, hr⟩ := blkB_pre D (kindOf (chAt C D.length 0).1) 0 (cutOf (kindOf (chAt C D.length 0).1) (leftOf C D.length 0 0)) (reachOf (chAt C D.length 0).2.2) (isLast C D.length 0 0 (leftOf C D.length 0 0) (cutOf (kindOf (chAt C D.length 0).1) (leftOf C D.length 0 0))) []
  have h3 := congrArg List.length hr
  simp only [List.length_append, lowBits_length, List.length_nil] at h3
  split
  · omega
  · obtain ⟨r2, h2⟩ := packR_pre D C (D.length + C.length) (0 + cutOf (kindOf (chAt C D.length 0).1) (leftOf C D.length 0 0)) (nextI 0 (leftOf C D.length 0 0) (cutOf (kindOf (chAt C D.length 0).1) (leftOf C D.length 0 0))) (nextL C D.length 0 0 (leftOf C D.length 0 0) (cutOf (kindOf (chAt C D.length 0).1) (leftOf C D.length 0 0))) (blkB D (kindOf (chAt C D.length 0).1) 0 (cutOf (kindOf (chAt C D.length 0).1) (leftOf C D.length 0 0)) (reachOf (chAt C D.length 0).2.2) (isLast C D.length 0 0 (leftOf C D.length 0 0) (cutOf (kindOf (chAt C D.length 0).1) (leftOf C D.length 0 0))) [])
    have h4 := congrArg List.length h2
    rw [List.length_append] at h4
    omega

theorem packed_size (D : List Nat) (C : List Ch) : (strOf (pack (packAll D C))).size = ((packAll D C).length + 7) / 8 := by rw [strOf_size, pack_length]

/-- what is cut off its end is missed -/
theorem pack_cut (D : List Nat) (hD : ∀ x ∈ D, x < 256) (C : List Ch) (m F : Nat) (hm : D.length ≤ m) (hF : D.length + C.length + 1 ≤ F) (n : Nat) (hn : n < (strOf (pack (packAll D C))).size) : (runU F ((strOf (pack (packAll D C))).extract 0 n) m).er = 3 := by
  have h1 := pack_run D hD C ByteArray.empty m hm F hF
  rw [ByteArray.append_empty] at h1
  have hs := packed_size D C
  rcases run_cut F _ _ m (pre_extract (strOf (pack (packAll D C))) n) with h | h
  · have hi := run_inside F ((strOf (pack (packAll D C))).extract 0 n) m
    rw [h, h1] at hi
    simp only [ByteArray.size_extract] at hi
    omega
  · exact h

end Go.Proofs.Ytcdoamaljgjojaa

namespace Go.Proofs.Ytcdoamaljgjojaa
open Go.RowKit
set_option linter.unusedVariables false

/-- what Unpack answers, when all is well -/
theorem unpRes_ok {k : Nat} {st : US} (h : st.er = 0) (n : Int) (hn : n = ((k + (st.t + 7) / 8 : Nat) : Int)) : unpRes k st = .tuple #[.string (strOf st.out), .int .i64 n, .agg #[.int .i64 0, .int .i64 0]] := by
  unfold unpRes
  rw [if_pos h, hn]
theorem unpRes_bad {k : Nat} {st : US} (h : st.er ≠ 0) : unpRes k st = .tuple #[.string ByteArray.empty, .int .i64 0, .agg #[.int .i64 (st.er : Int), .int .i64 ((k + st.t / 8 : Nat) : Int)]] := by
  unfold unpRes
  rw [if_neg h]

/-- Unpack, from the beginning -/
theorem unpack_0 (s : ByteArray) (m F : Nat) (w : World) (hs : s.size ≤ 140737488351232) (hm : m ≤ 1073741824) (hF : 8 * s.size < F) (mI : Int) (hmI : mI = (m : Int)) :
    Calls Try.prog 17 #[.string s, .int .i64 0, .int .i64 mI] w fun e w' => e = .returned (unpRes 0 (runU F s m)) ∧ Mut [] w w' :=
  unpack_any s s 0 m F w hs (Nat.zero_le _) (by simp) hm hF 0 mI rfl hmI

theorem ab_run : runU 100 ⟨#[1, 2, 0, 253, 255, 97, 98]⟩ 9 = ⟨56, [97, 98], 0⟩ :=
  run_stored 100 ⟨#[1, 2, 0, 253, 255, 97, 98]⟩ 9 [[97, 98]] (by decide) (by decide) (by decide) (by decide) (by decide)

set_option maxHeartbeats 800000 in
theorem speaks3_any (w : World) : Calls Try.prog 12 #[] w fun e w' => e = .returned (.bool true) ∧ Mut [] w w' := by
  have h := unpack_0 ⟨#[1, 2, 0, 253, 255, 97, 98]⟩ 9 100 w (by decide) (by decide) (by decide) 9 rfl
  rw [ab_run, unpRes_ok rfl 7 rfl] at h
  have hs : strOf [97, 98] = ⟨#[97, 98]⟩ := by decide
  simp only [hs] at h
  have H := Lib.hid h
  clear h hs
  go_enter Try.func12, Try.ntmps12
  go_wp2_with fail
  refine H.out.mono ?_
  rintro e w1 ⟨rfl, hm⟩
  have HM := Lib.hid hm
  clear hm
  go_wp2_with fail
  go_ret
  exact ⟨rfl, HM.out.alloc _⟩

end Go.Proofs.Ytcdoamaljgjojaa

namespace Go.Proofs.Ytcdoamaljgjojaa
open Go Go.ChangeShapes Go.WideShapes Go.ChangeAt Go.RowKit Go.Deep

/-- a slice of choices that came in -/
def ChsT (w : World) (v : Value) (C : List Ch) : Prop :=
  ∃ ao cap, v = .slice ao C.length cap ∧ C.length ≤ cap ∧ cap ≤ maxLen ∧ (0 < C.length → ∃ b off, ao = some ⟨b, off, none⟩ ∧ b < w.heap.size ∧ ∀ i (h : i < C.length), w.cell? ⟨b, off + i * 3, none⟩ = some (.int .i64 (C[i]'h).1) ∧ w.cell? ⟨b, off + i * 3 + 1, none⟩ = some (.int .i64 (C[i]'h).2.1) ∧ w.cell? ⟨b, off + i * 3 + 2, none⟩ = some (.int .i64 (C[i]'h).2.2)) ∧
    ∀ c ∈ C, -9223372036854775808 ≤ c.1 ∧ c.1 ≤ 9223372036854775807

set_option maxRecDepth 100000 in
theorem cells_chT : Try.prog.cellsOf 61 = 3 := by kernel_rfl
set_option maxRecDepth 100000 in
theorem cells_chiT : Try.prog.cellsOf 3 = 1 := by kernel_rfl

set_option maxRecDepth 100000 in
theorem open_ChsT {H : Type} {enc : TypeId × Value → H} {W : World} {r : Reach} {b0 : Nat} {v : Value} {d : DataW H} {p : List MemPlace}
    (hv : Value.okWide Try.prog W r b0 60 v) (h : DataW.Trod enc Try.prog W 0 (fun _ => true) true 60 v d p) : ∃ C, ChsT W v C ∧ C.length = dataLen d := by
  obtain ⟨a0, len0, cap0, rfl⟩ := okWide_slice Try.underlying60 hv
  obtain ⟨fuel, hf⟩ := h
  rcases open_slice Try.underlying60 hf with ⟨hcs, hx⟩ | ⟨a, len, cap, m, n, D, Pl, hcs, _, hl, hm, hmm, hx, hel⟩
  · simp [Value.cells] at hcs
    obtain ⟨rfl, rfl, rfl⟩ := hcs
    simp only [Prod.mk.injEq] at hx
    obtain ⟨rfl, _⟩ := hx
    exact ⟨[], ⟨none, 0, rfl, Nat.le_refl _, Nat.zero_le _, fun h => absurd h (by simp), by simp⟩, rfl⟩
  · simp [Value.cells] at hcs
    obtain ⟨rfl, rfl, rfl⟩ := hcs
    simp only [Prod.mk.injEq] at hx
    obtain ⟨rfl, _⟩ := hx
    simp only [if_true] at hmm
    subst hmm
    obtain ⟨f, hfi⟩ := choose_lt (α := Ch) (p := fun i x => (Lit.int .i64 x.1).wf = true ∧ W.cell? (a.add (i * 3)) = some (.int .i64 x.1) ∧ W.cell? (a.add (i * 3 + 1)) = some (.int .i64 x.2.1) ∧
        W.cell? (a.add (i * 3 + 2)) = some (.int .i64 x.2.2)) (n := m) (fun i hi => by
      obtain ⟨cs', hc, ht⟩ := hel i hi
      rw [cells_chT] at hc
      obtain ⟨_, hlen, hat⟩ := World.cells?_some hc
      obtain ⟨ys, n', _, hy, _, hyl, hf⟩ := DataW.trod_struct Try.underlying61 ht
      simp only [Prod.mk.injEq] at hy
      match cs', hlen with
      | [c0, c1, c2], _ =>
        match ys, hyl with
        | [y0, y1, y2], _ =>
          have g0 : DataW.trod enc Try.prog W 0 (fun _ => true) true n' 3 (([c0, c1, c2].drop 0).take (Try.prog.cellsOf 3)) = some y0 := hf 0 _ rfl
          have g1 : DataW.trod enc Try.prog W 0 (fun _ => true) true n' 3 (([c0, c1, c2].drop 1).take (Try.prog.cellsOf 3)) = some y1 := hf 1 _ rfl
          have g2 : DataW.trod enc Try.prog W 0 (fun _ => true) true n' 3 (([c0, c1, c2].drop 2).take (Try.prog.cellsOf 3)) = some y2 := hf 2 _ rfl
          rw [cells_chiT] at g0 g1 g2
          obtain ⟨z0, e0, r0, w0⟩ := DataW.trod_int Try.underlying3 g0
          obtain ⟨z1, e1, r1, w1⟩ := DataW.trod_int Try.underlying3 g1
          obtain ⟨z2, e2, r2, w2⟩ := DataW.trod_int Try.underlying3 g2
          simp at e0 e1 e2
          subst e0 e1 e2 r0 r1 r2
          refine ⟨(z0, z1, z2), w0, ?_, ?_, ?_⟩
          · have := hat 0 (by decide); rw [add_add] at this; simpa using this
          · have := hat 1 (by decide); rw [add_add] at this; simpa using this
          · have := hat 2 (by decide); rw [add_add] at this; simpa using this)
    have hlC : ((List.range len0).map f).length = len0 := by simp
    refine ⟨(List.range len0).map f, ⟨some a, m, by rw [hlC], by rw [hlC]; exact hl, hm, fun hp => ?_, fun c hc => ?_⟩, by rw [hlC]; simp [dataLen]⟩
    · rw [hlC] at hp
      obtain ⟨b, off, spot⟩ := a
      have hspot : spot = none := by simpa [Addr.add] using World.cell?_spot (hfi 0 (by omega)).2.1
      subst hspot
      have pl : ∀ j, (⟨b, off, none⟩ : Addr).add j = ⟨b, off + j, none⟩ := fun j => add_plain b off j
      refine ⟨b, off, rfl, World.block_lt_of_cell? W ⟨b, off + 0 * 3, none⟩ (by have := (hfi 0 (by omega)).2.1; rwa [pl] at this), fun i hi => ?_⟩
      rw [hlC] at hi
      obtain ⟨_, h0, h1, h2⟩ := hfi i (by omega)
      rw [pl] at h0 h1 h2
      simp only [List.getElem_map, List.getElem_range]
      exact ⟨h0, by rw [← h1, Nat.add_assoc], by rw [← h2, Nat.add_assoc]⟩
    · obtain ⟨i, hi, rfl⟩ := List.mem_map.1 hc
      exact bounds_i64 (hfi i (by have := List.mem_range.1 hi; omega)).1

end Go.Proofs.Ytcdoamaljgjojaa

namespace Go.Proofs.Ytcdoamaljgjojaa
open Go.ChangeShapes Go.WideShapes Go.ChangeAt Go.RowKit

theorem trod_array2 {H : Type} {enc : TypeId × Value → H} {P : Program} {w : World} {base : Nat} {spare : Nat → Bool} {held : Bool} {t e : TypeId} {fuel : Nat} {c0 c1 : Value} {x : DataW H × List MemPlace} (ht : P.underlying t = some (.array 2 e)) (hce : P.cellsOf e = 1)
    (h : DataW.trod enc P w base spare held fuel t [c0, c1] = some x) :
    ∃ y0 y1 n, x = (.agg [y0.1, y1.1], y0.2 ++ y1.2) ∧ DataW.trod enc P w base spare held n e [c0] = some y0 ∧ DataW.trod enc P w base spare held n e [c1] = some y1 := by
  cases fuel with
  | zero => simp [DataW.trod] at h
  | succ n =>
    unfold DataW.trod at h
    rw [ht] at h
    have r2 : List.range 2 = [0, 1] := rfl
    simp [r2, hce] at h
    obtain ⟨_, h⟩ := h
    cases h0 : DataW.trod enc P w base spare held n e [c0] with
    | none => simp [h0] at h
    | some y0 =>
      cases h1 : DataW.trod enc P w base spare held n e [c1] with
      | none => simp [h0, h1] at h
      | some y1 =>
        simp [h0, h1] at h
        exact ⟨y0, y1, n, h.symm, h0, h1⟩

theorem okWide_array {P : Program} {w : World} {r : Reach} {base : Nat} {t e : TypeId} {v : Value} {n : Nat} (ht : P.underlying t = some (.array n e)) (h : Value.okWide P w r base t v) : ∃ cs, v = .agg cs ∧ cs.size = P.cellsOf t := by
  simp only [Value.okWide, ht] at h
  obtain ⟨cs, h1, h2, _⟩ := h
  exact ⟨cs, h1, h2⟩

theorem open_pair {H : Type} {enc : TypeId × Value → H} {P : Program} {W : World} {r : Reach} {b0 : Nat} {t e : TypeId} {k : IntKind} {v : Value} {d : DataW H} {p : List MemPlace} (ht : P.underlying t = some (.array 2 e)) (he : P.underlying e = some (.int k)) (hc : P.cellsOf e = 1) (hc2 : P.cellsOf t = 2)
    (hv : Value.okWide P W r b0 t v) (h : DataW.Trod enc P W 0 (fun _ => true) true t v d p) : ∃ a b, v = .agg #[.int k a, .int k b] ∧ (Lit.int k a).wf = true ∧ (Lit.int k b).wf = true := by
  obtain ⟨cs, rfl, hs⟩ := okWide_array ht hv
  rw [hc2] at hs
  obtain ⟨fuel, hf⟩ := h
  obtain ⟨l⟩ := cs
  match l, hs with
  | [c0, c1], _ =>
    obtain ⟨y0, y1, n, -, h0, h1⟩ := trod_array2 ht hc hf
    obtain ⟨z0, e0, _, w0⟩ := DataW.trod_int he h0
    obtain ⟨z1, e1, _, w1⟩ := DataW.trod_int he h1
    simp at e0 e1
    subst e0 e1
    exact ⟨z0, z1, rfl, w0, w1⟩

theorem open_three {H : Type} {enc : TypeId × Value → H} {P : Program} {W : World} {r : Reach} {b0 : Nat} {t e : TypeId} {v : Value} {d : DataW H} {p : List MemPlace} (ht : P.underlying t = some (.array 3 e)) (he : P.underlying e = some .string) (hc : P.cellsOf e = 1) (hc2 : P.cellsOf t = 3)
    (hv : Value.okWide P W r b0 t v) (h : DataW.Trod enc P W 0 (fun _ => true) true t v d p) : ∃ a b c : ByteArray, v = .agg #[.string a, .string b, .string c] ∧ a.size + b.size + c.size ≤ Rows.uptoBulk d := by
  obtain ⟨cs, rfl, hs⟩ := okWide_array ht hv
  rw [hc2] at hs
  obtain ⟨fuel, hf⟩ := h
  obtain ⟨l⟩ := cs
  match l, hs with
  | [c0, c1, c2], _ =>
    obtain ⟨y0, y1, y2, n, e, h0, h1, h2⟩ := trod_array3 ht hc hf
    obtain ⟨z0, e0, r0, _⟩ := DataW.trod_string he h0
    obtain ⟨z1, e1, r1, _⟩ := DataW.trod_string he h1
    obtain ⟨z2, e2, r2, _⟩ := DataW.trod_string he h2
    simp at e0 e1 e2
    subst e0 e1 e2 r0 r1 r2
    refine ⟨z0, z1, z2, rfl, ?_⟩
    simp only [Prod.mk.injEq] at e
    rw [e.1]
    simp only [Rows.uptoBulk, Rows.uptoBulkAll, Array.length_toList]
    have q0 : z0.data.size = z0.size := rfl
    have q1 : z1.data.size = z1.size := rfl
    have q2 : z2.data.size = z2.size := rfl
    omega

end Go.Proofs.Ytcdoamaljgjojaa
