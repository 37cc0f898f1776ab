/- A slice of choices that came in, read. Walk over package ferretlaw04: choices. Walk over the law SqueezePacks. -/
import Derived.Test.YtcdoamaljgjojaaLaw
import Derived.Test.YtcdoamaljgjojaaGPlain
import Derived.Deep.Slices
import Derived.OpenShut
import Derived.Test.YtcdoamaljgjojaaSqzF6
import Derived.Deep.DeepCutAuto
import Derived.Test.YtcdoamaljgjojaaSqzL1
import Derived.Test.YtcdoamaljgjojaaSqzW8
import Derived.Test.YtcdoamaljgjojaaGEnd
import Derived.BigQuiet

namespace Go.Proofs.Ytcdoamaljgjojaa
open Go Go.ChangeShapes Go.WideShapes Go.ChangeAt Go.RowKit Go.Deep

/-- a slice of choices that came in -/
def ChsL (w : World) (v : Value) (C : List Ch) : Prop :=
  ∃ ao cap, v = .slice ao C.length cap ∧ C.length ≤ cap ∧ cap ≤ maxLen ∧ (0 < C.length → ∃ b off, ao = some ⟨b, off, none⟩ ∧ b < w.heap.size ∧ ∀ i (h : i < C.length), w.cell? ⟨b, off + i * 3, none⟩ = some (.int .i64 (C[i]'h).1) ∧ w.cell? ⟨b, off + i * 3 + 1, none⟩ = some (.int .i64 (C[i]'h).2.1) ∧ w.cell? ⟨b, off + i * 3 + 2, none⟩ = some (.int .i64 (C[i]'h).2.2)) ∧
    ∀ c ∈ C, -9223372036854775808 ≤ c.1 ∧ c.1 ≤ 9223372036854775807

set_option maxRecDepth 100000 in
theorem cells_chL : Try.prog.cellsOf 57 = 3 := by kernel_rfl
set_option maxRecDepth 100000 in
theorem cells_chiL : Try.prog.cellsOf 3 = 1 := by kernel_rfl

set_option maxRecDepth 100000 in
theorem open_ChsL {H : Type} {enc : TypeId × Value → H} {W : World} {r : Reach} {b0 : Nat} {v : Value} {d : DataW H} {p : List MemPlace}
    (hv : Value.okWide Try.prog W r b0 49 v) (h : DataW.Trod enc Try.prog W 0 (fun _ => true) true 49 v d p) : ∃ C, ChsL W v C ∧ C.length = dataLen d := by
  obtain ⟨a0, len0, cap0, rfl⟩ := okWide_slice Try.underlying49 hv
  obtain ⟨fuel, hf⟩ := h
  rcases open_slice Try.underlying49 hf with ⟨hcs, hx⟩ | ⟨a, len, cap, m, n, D, Pl, hcs, _, hl, hm, hmm, hx, hel⟩
  · simp [Value.cells] at hcs
    obtain ⟨rfl, rfl, rfl⟩ := hcs
    simp only [Prod.mk.injEq] at hx
    obtain ⟨rfl, _⟩ := hx
    exact ⟨[], ⟨none, 0, rfl, Nat.le_refl _, Nat.zero_le _, fun h => absurd h (by simp), by simp⟩, rfl⟩
  · simp [Value.cells] at hcs
    obtain ⟨rfl, rfl, rfl⟩ := hcs
    simp only [Prod.mk.injEq] at hx
    obtain ⟨rfl, _⟩ := hx
    simp only [if_true] at hmm
    subst hmm
    obtain ⟨f, hfi⟩ := choose_lt (α := Ch) (p := fun i x => (Lit.int .i64 x.1).wf = true ∧ W.cell? (a.add (i * 3)) = some (.int .i64 x.1) ∧ W.cell? (a.add (i * 3 + 1)) = some (.int .i64 x.2.1) ∧
        W.cell? (a.add (i * 3 + 2)) = some (.int .i64 x.2.2)) (n := m) (fun i hi => by
      obtain ⟨cs', hc, ht⟩ := hel i hi
      rw [cells_chL] at hc
      obtain ⟨_, hlen, hat⟩ := World.cells?_some hc
      obtain ⟨ys, n', _, hy, _, hyl, hf⟩ := DataW.trod_struct Try.underlying57 ht
      simp only [Prod.mk.injEq] at hy
      match cs', hlen with
      | [c0, c1, c2], _ =>
        match ys, hyl with
        | [y0, y1, y2], _ =>
          have g0 : DataW.trod enc Try.prog W 0 (fun _ => true) true n' 3 (([c0, c1, c2].drop 0).take (Try.prog.cellsOf 3)) = some y0 := hf 0 _ rfl
          have g1 : DataW.trod enc Try.prog W 0 (fun _ => true) true n' 3 (([c0, c1, c2].drop 1).take (Try.prog.cellsOf 3)) = some y1 := hf 1 _ rfl
          have g2 : DataW.trod enc Try.prog W 0 (fun _ => true) true n' 3 (([c0, c1, c2].drop 2).take (Try.prog.cellsOf 3)) = some y2 := hf 2 _ rfl
          rw [cells_chiL] at g0 g1 g2
          obtain ⟨z0, e0, r0, w0⟩ := DataW.trod_int Try.underlying3 g0
          obtain ⟨z1, e1, r1, w1⟩ := DataW.trod_int Try.underlying3 g1
          obtain ⟨z2, e2, r2, w2⟩ := DataW.trod_int Try.underlying3 g2
          simp at e0 e1 e2
          subst e0 e1 e2 r0 r1 r2
          refine ⟨(z0, z1, z2), w0, ?_, ?_, ?_⟩
          · have := hat 0 (by decide); rw [add_add] at this; simpa using this
          · have := hat 1 (by decide); rw [add_add] at this; simpa using this
          · have := hat 2 (by decide); rw [add_add] at this; simpa using this)
    have hlC : ((List.range len0).map f).length = len0 := by simp
    refine ⟨(List.range len0).map f, ⟨some a, m, by rw [hlC], by rw [hlC]; exact hl, hm, fun hp => ?_, fun c hc => ?_⟩, by rw [hlC]; simp [dataLen]⟩
    · rw [hlC] at hp
      obtain ⟨b, off, spot⟩ := a
      have hspot : spot = none := by simpa [Addr.add] using World.cell?_spot (hfi 0 (by omega)).2.1
      subst hspot
      have pl : ∀ j, (⟨b, off, none⟩ : Addr).add j = ⟨b, off + j, none⟩ := fun j => add_plain b off j
      refine ⟨b, off, rfl, World.block_lt_of_cell? W ⟨b, off + 0 * 3, none⟩ (by have := (hfi 0 (by omega)).2.1; rwa [pl] at this), fun i hi => ?_⟩
      rw [hlC] at hi
      obtain ⟨_, h0, h1, h2⟩ := hfi i (by omega)
      rw [pl] at h0 h1 h2
      simp only [List.getElem_map, List.getElem_range]
      exact ⟨h0, by rw [← h1, Nat.add_assoc], by rw [← h2, Nat.add_assoc]⟩
    · obtain ⟨i, hi, rfl⟩ := List.mem_map.1 hc
      exact bounds_i64 (hfi i (by have := List.mem_range.1 hi; omega)).1

end Go.Proofs.Ytcdoamaljgjojaa

namespace Go.Proofs.Ytcdoamaljgjojaa
open Go.RowKit
set_option linter.unusedVariables false

set_option maxRecDepth 100000 in
theorem info_chS : (Try.prog.info? 56).map (fun i => (i.zero, i.size, i.bytes)) = some (some (.agg #[.int .i64 0, .int .i64 0, .int .i64 0]), 3, 24) := by kernel_rfl
set_option maxRecDepth 100000 in
theorem info_chR : (Try.prog.info? 84).map (fun i => (i.zero, i.size, i.bytes)) = some (some (.agg #[.int .i64 0, .int .i64 0, .int .i64 0]), 3, 24) := by kernel_rfl

/-- two rows of choices that grow -/
structure CcS (w0 wx : World) (va vb : Value) (A B : List Ch) : Prop where
  a : CRow 56 wx va A
  b : CRow 84 wx vb B
  fa : ∀ g, va.ownBlock = some g → w0.heap.size ≤ g
  fb : ∀ g, vb.ownBlock = some g → w0.heap.size ≤ g
  mu : Mut [] w0 wx

theorem CcS.appA {w0 wx w1 : World} {va vb v' : Value} {A B : List Ch} {x : Ch} {o : Obj} (h : CcS w0 wx va vb A B)
    (hr1 : w1.ownsRow 0 56 3 v' (A.length + 1) (chCells A ++ chCell x)) (hg1 : (wx.alloc o).grownBy w1 va.ownBlock) (hf1 : ∀ g, v'.ownBlock = some g → va.ownBlock = some g ∨ wx.heap.size + 1 ≤ g) : CcS w0 w1 v' vb (A ++ [x]) B := by
  have hm : Mut va.ownBlock.toList wx w1 := ((Mut.refl _ wx).alloc o).grown hg1 (fun k hk => .inl (by simp [hk]))
  refine ⟨?_, h.b.mut hm (fun g hg hm' => own_ne h.a h.b (by decide) g hg (by simpa using hm')), fun g hg => (hf1 g hg).elim (fun h' => h.fa g h') (fun h' => by have := h.mu.size; omega), h.fb, h.mu.trans hm (fun y hy => .inr (h.fa y (by simpa using hy)))⟩
  unfold CRow
  rw [List.length_append, chCells_snoc]
  exact hr1
theorem CcS.appB {w0 wx w1 : World} {va vb v' : Value} {A B : List Ch} {x : Ch} {o : Obj} (h : CcS w0 wx va vb A B)
    (hr1 : w1.ownsRow 0 84 3 v' (B.length + 1) (chCells B ++ chCell x)) (hg1 : (wx.alloc o).grownBy w1 vb.ownBlock) (hf1 : ∀ g, v'.ownBlock = some g → vb.ownBlock = some g ∨ wx.heap.size + 1 ≤ g) : CcS w0 w1 va v' A (B ++ [x]) := by
  have hm : Mut vb.ownBlock.toList wx w1 := ((Mut.refl _ wx).alloc o).grown hg1 (fun k hk => .inl (by simp [hk]))
  refine ⟨h.a.mut hm (fun g hg hm' => own_ne h.b h.a (by decide) g hg (by simpa using hm')), ?_, h.fa, fun g hg => (hf1 g hg).elim (fun h' => h.fb g h') (fun h' => by have := h.mu.size; omega), h.mu.trans hm (fun y hy => .inr (h.fb y (by simpa using hy)))⟩
  unfold CRow
  rw [List.length_append, chCells_snoc]
  exact hr1

set_option maxHeartbeats 3200000 in
set_option maxRecDepth 100000 in
theorem choices_any {w : World} (v : Value) (C : List Ch) (hCl : C.length ≤ 1048576) (hC : ChsL w v C) :
    Calls Try.prog 22 #[v] w fun e w' => ∃ x y, e = .returned (.tuple #[x, y]) ∧ CcS w w' x y C C := by
  obtain ⟨ao, cap, rfl, hcap, hmax, hcell, hCk⟩ := hC
  have HCELL := Lib.hid hcell
  have hmax' : cap ≤ 9223372036854775807 := by unfold maxLen at hmax; omega
  have HS0 : Hid (CcS w w (.slice none 0 0) (.slice none 0 0) (C.take 0) (C.take 0)) := Lib.hid ⟨CRow.nil _ _, CRow.nil _ _, by simp [Value.ownBlock], by simp [Value.ownBlock], Mut.refl _ _⟩
  clear hcell hCk hmax
  go_enter Try.func22, Try.ntmps22
  go_wp2_with fail
  go_loopw [6, 4, 5] (fun c a b wx => ∃ (i : Nat) (p : Option Addr) (q : Nat) (p' : Option Addr) (q' : Nat), c = .int .i64 (i : Int) ∧ a = .slice p i q ∧ b = .slice p' i q' ∧ i ≤ C.length ∧ Hid (CcS w wx (.slice p i q) (.slice p' i q') (C.take i) (C.take i))) (fun c _ _ _ => C.length - (intOf c).toNat)
  case atStart => exact ⟨0, none, 0, none, 0, rfl, rfl, rfl, Nat.zero_le _, HS0⟩
  case round =>
    obtain ⟨i, p, q, p', q', rfl, rfl, rfl, hi, HR⟩ := hrel
    clear HS0
    by_cases h1 : i < C.length
    case pos =>
      have h1I : (i : Int) < (C.length : Int) := by omega
      obtain ⟨b, off, rfl, hb, hcc⟩ := HCELL.out (by omega)
      obtain ⟨d0, d1, d2⟩ := hcc i h1
      have HD := Lib.hid (And.intro d0 (And.intro d1 d2))
      have d0 := HR.out.mu.cell d0 (by simp)
      have d1 := HR.out.mu.cell d1 (by simp)
      have d2 := HR.out.mu.cell d2 (by simp)
      obtain ⟨⟨X1, X2, X3⟩, hX⟩ : ∃ x, C[i] = x := ⟨_, rfl⟩
      rw [hX] at d0 d1 d2 HD
      dsimp only at d0 d1 d2 HD
      have htk : C.take (i + 1) = C.take i ++ [(X1, X2, X3)] := by rw [List.take_succ_eq_append_getElem h1, hX]
      have hlen : (C.take i).length = i := by rw [List.length_take]; omega
      have hl5 : (C.take (i + 1)).length = i + 1 := by rw [List.length_take]; omega
      have HTK := Lib.hid (And.intro htk (And.intro hlen hl5))
      obtain ⟨i0, hi0, hz0, hz1, hz2⟩ := info_parts info_chS
      have hrow := HR.out.a.mut ((Mut.refl [] wr).alloc (.cells #[.int .i64 X1, .int .i64 X2, .int .i64 X3] 56)) (by simp)
      unfold CRow at hrow
      rw [hlen] at hrow
      clear hcc hX htk hlen hl5
      go_upto_region 6 with fail
      go_wp2_with (at_builtin; refine wp_app rfl (.tmp 13) (.tmp 18) 50 50 rfl 56 i0 (.agg #[.int .i64 0, .int .i64 0, .int .i64 0]) 3 24 Try.underlying50 hi0 hz0 hz1 hz2 rfl hrow rfl (src1 Try.underlying50 (heap_alloc_new wr _) rfl (ch_one _ _ _)) rfl ?b1 ?b2 ?_)
      case b1 => unfold maxLen; omega
      case b2 => omega
      intro v' w5 hr5 hg5 hf5
      have hS5 : CcS w w5 v' (.slice p' i q') (C.take i ++ [(X1, X2, X3)]) (C.take i) := HR.out.appA (by rw [HTK.out.2.1]; exact hr5) hg5 hf5
      rw [← HTK.out.1] at hS5
      obtain ⟨p5, c5, e5⟩ := hS5.a.form
      rw [HTK.out.2.2] at e5
      subst e5
      have HS5 := Lib.hid hS5
      clear hS5 hr5 hg5 hf5 hrow hi0 hz0 hz1 hz2 d0 d1 d2 HR
      obtain ⟨d0, d1, d2⟩ := HD.out
      have d0 := HS5.out.mu.cell d0 (by simp)
      have d1 := HS5.out.mu.cell d1 (by simp)
      have d2 := HS5.out.mu.cell d2 (by simp)
      obtain ⟨i0, hi0, hz0, hz1, hz2⟩ := info_parts info_chR
      have hrow := HS5.out.b.mut ((Mut.refl [] w5).alloc (.cells #[.int .i64 X1, .int .i64 X2, .int .i64 X3] 84)) (by simp)
      unfold CRow at hrow
      rw [HTK.out.2.1] at hrow
      go_upto_region 7 with fail
      go_wp2_with (at_builtin; refine wp_app rfl (.tmp 20) (.tmp 25) 51 51 rfl 84 i0 (.agg #[.int .i64 0, .int .i64 0, .int .i64 0]) 3 24 Try.underlying51 hi0 hz0 hz1 hz2 rfl hrow rfl (src1 Try.underlying51 (heap_alloc_new w5 _) rfl (ch_one _ _ _)) rfl ?b1 ?b2 ?_)
      case b1 => unfold maxLen; omega
      case b2 => omega
      intro v' w6 hr5 hg5 hf5
      have hS6 : CcS w w6 (.slice p5 (i + 1) c5) v' (C.take (i + 1)) (C.take i ++ [(X1, X2, X3)]) := HS5.out.appB (by rw [HTK.out.2.1]; exact hr5) hg5 hf5
      rw [← HTK.out.1] at hS6
      obtain ⟨p6, c6, e5⟩ := hS6.b.form
      rw [HTK.out.2.2] at e5
      subst e5
      have HS6 := Lib.hid hS6
      clear hS6 hr5 hg5 hf5 hrow hi0 hz0 hz1 hz2 d0 d1 d2 HS5
      go_wp2_with fail
      exact ⟨⟨i + 1, p5, c5, p6, c6, by rw [Int.natCast_add]; rfl, rfl, rfl, h1, HS6⟩, by simp only [intOf]; omega⟩
    case neg =>
      obtain rfl : i = C.length := by omega
      have hnI : ¬ (C.length : Int) < (C.length : Int) := by omega
      have hS := HR.out
      rw [List.take_length] at hS
      have HS := Lib.hid hS
      clear hS HR
      go_wp2_with fail
      exact bodyPost_ret (results_tmp2 rfl _ _ _) rfl ⟨.slice p C.length q, .slice p' C.length q', rfl, HS.out⟩

end Go.Proofs.Ytcdoamaljgjojaa

namespace Go.Proofs.Ytcdoamaljgjojaa
open Go.RowKit
set_option linter.unusedVariables false

set_option maxHeartbeats 3200000 in
set_option maxRecDepth 100000 in
theorem lawSqueezePacks {w : World} (data : ByteArray) (wd : data.size ≤ maxLen) (zd : data.size ≤ 1048576) (v : Value) (C : List Ch) (hC : ChsL w v C) (zc : C.length ≤ 1048576) :
    Calls Try.prog 10 #[.string data, v] w fun e w' => e = .returned (.bool true) ∧ Below w.heap.size w w' := by
  have HSP := Lib.hid (speaks4_any w)
  have HCC : Hid (∀ w1, Mut [] w w1 → Calls Try.prog 22 #[v] w1 fun e w' => ∃ x y, e = .returned (.tuple #[x, y]) ∧ CcS w1 w' x y C C) := Lib.hid fun w1 m => choices_any v C zc (by
    obtain ⟨ao, cap, h1, h2, h3, h4, h5⟩ := hC
    exact ⟨ao, cap, h1, h2, h3, fun h => by
      obtain ⟨b, off, k1, k2, k3⟩ := h4 h
      exact ⟨b, off, k1, Nat.lt_of_lt_of_le k2 m.size, fun i hi => ⟨m.cell (k3 i hi).1 (by simp), m.cell (k3 i hi).2.1 (by simp), m.cell (k3 i hi).2.2 (by simp)⟩⟩, h5⟩)
  obtain ⟨ao, cap, rfl, hcap, hmax, hcell, hCk⟩ := hC
  have HCELL := Lib.hid hcell
  have hmax' : cap ≤ 9223372036854775807 := by unfold maxLen at hmax; omega
  obtain ⟨D, hD⟩ : ∃ D, bytesOf data = D := ⟨_, rfl⟩
  have hDl : D.length = data.size := by rw [← hD, bytesOf_length]
  have hDlt : ∀ x ∈ D, x < 256 := by rw [← hD]; exact bytesOf_lt data
  have HPK := Lib.hid (fun w x hx => spack_any data D hD zd C zc hCk x w hx)
  have HRK := Lib.hid (fun w x hx => rpack_any data D hD zd C zc hCk x w hx)
  have hlen := packAll_len D hDlt C
  have hpos := packAll_pos D C
  have hps := packed_size D C
  obtain ⟨P, hP⟩ : ∃ P, strOf (pack (packAll D C)) = P := ⟨_, rfl⟩
  obtain ⟨F, hF⟩ : ∃ F, 8 * P.size + D.length + C.length + 10 = F := ⟨_, rfl⟩
  have hrun := pack_run D hDlt C ByteArray.empty data.size (by omega) F (by omega)
  rw [ByteArray.append_empty] at hrun
  rw [hP] at HPK HRK hps hrun
  obtain ⟨FL, hFL⟩ : ∃ n, (packAll D C).length = n := ⟨_, rfl⟩
  rw [hFL] at hlen hpos hps hrun
  have hDs : strOf D = data := by rw [← hD, strOf_bytesOf]
  have hPb : P.size ≤ 1000000000 := by omega
  have HU1 : Hid (∀ w, Calls Try.prog 17 #[.string P, .int .i64 0, .int .i64 (data.size : Int)] w fun e w' => e = .returned (.tuple #[.string data, .int .i64 (P.size : Int), .agg #[.int .i64 0, .int .i64 0]]) ∧ Mut [] w w') := Lib.hid fun w => by
    have h := unpack_0 P data.size F w (by omega) (by omega) (by omega) (data.size : Int) rfl
    rw [hrun, unpRes_ok rfl ((P.size : Nat) : Int) (by rw [hps, Nat.zero_add])] at h
    simp only [hDs] at h
    exact h
  clear hrun hDs hDlt hD hlen hpos hps hFL hP hF hDl hcell hmax hCk
  go_enter Try.func10, Try.ntmps10
  go_wp2_with fail
  refine HSP.out.mono ?_
  rintro e w1 ⟨rfl, hm⟩
  have HM1 := Lib.hid hm
  clear hm HSP
  by_cases hbig : 20000 < data.size
  case pos =>
    have hbI : (20000 : Int) < (data.size : Int) := by omega
    go_wp2_with fail
    go_ret
    exact ⟨rfl, HM1.out.nil (by simp)⟩
  case neg =>
    have hbI : ¬ (20000 : Int) < (data.size : Int) := by omega
    go_wp2_with fail
    refine (HCC.out _ HM1.out).mono ?_
    rintro e w2 ⟨x, y, rfl, hcc⟩
    obtain ⟨px, qx, rfl⟩ := hcc.a.form
    obtain ⟨py, qy, rfl⟩ := hcc.b.form
    have HA := Lib.hid hcc.a
    have HB := Lib.hid hcc.b
    have HM2 := Lib.hid (HM1.out.trans' hcc.mu)
    have HP2 := Lib.hid (HPK.out w2 _ hcc.a)
    clear hcc HCC HM1 HPK
    go_wp2_with fail
    refine HP2.out.mono ?_
    rintro e w3 ⟨rfl, hm⟩
    have HR3 := Lib.hid (HRK.out w3 _ (HB.out.mut hm (by simp)))
    have HA3 := Lib.hid (HA.out.mut hm (by simp))
    have HM3 := Lib.hid (HM2.out.trans' hm)
    clear hm HP2 HRK HA HB HM2
    go_wp2_with fail
    refine HR3.out.mono ?_
    rintro e w4 ⟨rfl, hm⟩
    have HA4 := Lib.hid (HA3.out.mut hm (by simp))
    have HM4 := Lib.hid (HM3.out.trans' hm)
    have hss := str_eq P P
    rw [decide_eq_true rfl] at hss
    have HST : Hid (CRow 56 w4 (.slice px C.length qx) C ∧ Mut [] w w4) := Lib.hid ⟨HA4.out, HM4.out⟩
    clear hm HR3 HA3 HM3 HA4 HM4
    go_wp2_with fail
    clear hss
    go_loopw [8] (fun c wx => ∃ i : Nat, c = .int .i64 (i : Int) ∧ i ≤ C.length ∧ Hid (CRow 56 wx (.slice px C.length qx) C ∧ Mut [] w wx)) (fun c _ => C.length - (intOf c).toNat)
    case atStart => exact ⟨0, rfl, Nat.zero_le _, HST⟩
    case round =>
      obtain ⟨i, rfl, hi, HR⟩ := hrel
      clear HST
      by_cases h1 : i < C.length
      case pos =>
        have h1I : (i : Int) < (C.length : Int) := by omega
        obtain ⟨b, off, rfl, hb, hcc⟩ := HCELL.out (by omega)
        obtain ⟨d0, d1, d2⟩ := hcc i h1
        have d0 := HR.out.2.cell d0 (by simp)
        have d1 := HR.out.2.cell d1 (by simp)
        have d2 := HR.out.2.cell d2 (by simp)
        obtain ⟨gx, cx, e1, -, -⟩ := row_some HR.out.1 (by omega)
        simp only [Value.slice.injEq] at e1
        obtain ⟨rfl, -, rfl⟩ := e1
        obtain ⟨x0, x1, x2⟩ := HR.out.1.cells i h1
        obtain ⟨⟨X1, X2, X3⟩, hX⟩ : ∃ x, C[i] = x := ⟨_, rfl⟩
        rw [hX] at d0 d1 d2 x0 x1 x2
        rw [Nat.mul_comm] at x0 x1 x2
        dsimp only at d0 d1 d2 x0 x1 x2
        have HR2 : Hid (∀ n, CRow 56 (wr.drewN n) (.slice (some ⟨gx, 0, none⟩) C.length qx) C ∧ Mut [] w (wr.drewN n)) := Lib.hid fun n => ⟨HR.out.1.mut ((Mut.refl [] wr).drewN n) (by simp), HR.out.2.drewN n⟩
        clear hcc hX HR
        go_upto_region 12 with fail
        go_quiet (fail)
        have HR3 := Lib.hid (HR2.out nq)
        clear HR2 d0 d1 d2 x0 x1 x2
        generalize wr.drewN nq = w2 at *
        go_wp2_with fail
        exact ⟨⟨i + 1, by rw [Int.natCast_add]; rfl, h1, HR3⟩, by simp only [intOf]; omega⟩
      case neg =>
        obtain rfl : i = C.length := by omega
        have hnI : ¬ (C.length : Int) < (C.length : Int) := by omega
        have HM := Lib.hid HR.out.2
        clear HR
        go_wp2_with fail
        refine (HU1.out _).mono ?_
        rintro e w5 ⟨rfl, hm⟩
        have HM5 := Lib.hid ((HM.out.trans' hm).alloc (.cells #[.int .i64 0, .int .i64 0] 28))
        obtain ⟨e0, e1, -, -⟩ := cells2 (heap_alloc_new w5 (.cells #[.int .i64 0, .int .i64 0] 28))
        clear hm HM HU1
        go_upto_region 15 with fail
        generalize w5.alloc (.cells #[.int .i64 0, .int .i64 0] 28) = w6 at *
        generalize w5.heap.size = g11 at *
        have hss := str_eq data data
        rw [decide_eq_true rfl] at hss
        go_wp2_with fail
        go_ret
        exact ⟨rfl, HM5.out.nil (by simp)⟩

end Go.Proofs.Ytcdoamaljgjojaa
