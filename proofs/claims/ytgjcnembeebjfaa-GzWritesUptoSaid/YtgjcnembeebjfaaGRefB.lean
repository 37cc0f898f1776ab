/- Walk over package ferretref04: tokens. Walk over package ferretref04: dynamic. -/
import Derived.Test.YtgjcnembeebjfaaGRefA
import Derived.Test.YtgjcnembeebjfaaGHuf
import Derived.Test.YtgjcnembeebjfaaReg
import Derived.Test.YtgjcnembeebjfaaGSzb
import Derived.Test.YtgjcnembeebjfaaSqzW5
import Derived.Test.YtgjcnembeebjfaaSqzW6
import Derived.Deep.DeepCutAuto

namespace Go.Proofs.Ytgjcnembeebjfaa
open Go.RowKit
set_option linter.unusedVariables false

theorem code_small (l : List Nat) (h : newErr (toI l) = 0) (h15 : ∀ n ∈ l, n ≤ 15) (k : Nat) (hk : k < l.length) : codeOf l k ≤ 32768 ∧ lenAt l k ≤ 15 := by
  have hr := (newErr_len' _ h).2.2.1
  rw [lens_toI] at hr
  have h1 : lenAt l k ≤ 15 := by
    unfold lenAt
    rw [show l.getD k 0 = l[k] by simp [List.getD, hk]]
    exact h15 _ (List.getElem_mem hk)
  refine ⟨?_, h1⟩
  by_cases h0 : 1 ≤ lenAt l k
  · have h2 := code_lt l h15 hr k hk h0
    have h3 : 2 ^ lenAt l k ≤ 2 ^ 15 := Nat.pow_le_pow_right (by decide) h1
    omega
  · unfold codeOf
    rw [if_pos (by omega)]
    omega

/-- what else tokens leans on; apart from the row of bits -/
structure RtK (w : World) (r : Option Nat) (l d : List Nat) (vl vd vlc vdc vT : Value) (T : List Tok) : Prop where
  rl : IRow w vl (toI l)
  rd : IRow w vd (toI d)
  rlc : IRow w vlc (codesI l)
  rdc : IRow w vdc (codesI d)
  rT : TRow 128 w vT T
  nl : ∀ g, vl.ownBlock = some g → r ≠ some g
  nd : ∀ g, vd.ownBlock = some g → r ≠ some g
  nlc : ∀ g, vlc.ownBlock = some g → r ≠ some g
  ndc : ∀ g, vdc.ownBlock = some g → r ≠ some g
  nT : ∀ g, vT.ownBlock = some g → r ≠ some g

theorem RtK.step {w w' : World} {r : Option Nat} {l d : List Nat} {vl vd vlc vdc vT : Value} {T : List Tok} (h : RtK w r l d vl vd vlc vdc vT T) (m : Mut r.toList w w') : RtK w' r l d vl vd vlc vdc vT T := by
  have ne : ∀ g, r ≠ some g → g ∉ r.toList := fun g hg hm => hg (by simpa using hm)
  exact ⟨h.rl.mut m (fun g hg => ne g (h.nl g hg)), h.rd.mut m (fun g hg => ne g (h.nd g hg)), h.rlc.mut m (fun g hg => ne g (h.nlc g hg)), h.rdc.mut m (fun g hg => ne g (h.ndc g hg)), h.rT.mut m (fun g hg => ne g (h.nT g hg)), h.nl, h.nd, h.nlc, h.ndc, h.nT⟩

theorem IRow.cellAtI {w : World} {g n c : Nat} {M : List Int} (h : IRow w (.slice (some ⟨g, 0, none⟩) n c) M) (k : Nat) (hk : k < M.length) : w.cell? ⟨g, k, none⟩ = some (.int .i64 (M.getD k 0)) := by
  obtain ⟨g', cap, e, hc⟩ := h.at (by omega)
  simp only [Value.slice.injEq, Option.some.injEq, Addr.mk.injEq] at e
  obtain ⟨⟨rfl, -⟩, -, -⟩ := e
  exact hc w (Mut.refl _ _) k hk
theorem IRow.cellN {w : World} {g n c : Nat} {l : List Nat} (h : IRow w (.slice (some ⟨g, 0, none⟩) n c) (toI l)) (k : Nat) (hk : k < l.length) : w.cell? ⟨g, k, none⟩ = some (.int .i64 (lenAt l k : Nat)) := by
  rw [h.cellAtI k (by simpa [toI] using hk)]
  simp [toI, lenAt, List.getD, hk]
theorem IRow.cellC {w : World} {g n c : Nat} {l : List Nat} (h : IRow w (.slice (some ⟨g, 0, none⟩) n c) (codesI l)) (k : Nat) (hk : k < l.length) : w.cell? ⟨g, k, none⟩ = some (.int .i64 (codeOf l k : Nat)) := by
  have hl : (codesI l).length = l.length := by simp [codesI, codesOf]
  rw [h.cellAtI k (by omega)]
  simp [codesI, codesOf, hk]

/-- what a row of bits came from -/
theorem RbS.comp {w0 w1 w2 w3 : World} {r0 : Option Nat} {v v' : Value} {L L' : List Bool} (h : RbS w0 r0 w1 v L) (m : Mut [] w1 w2) (k : RbS w2 v.ownBlock w3 v' L') : RbS w0 r0 w3 v' L' := by
  refine ⟨k.row, (h.mu.then0 m).trans k.mu (fun x hx => ?_), fun g hg => ?_⟩
  · rcases h.fr x (by simpa using hx) with h1 | h1
    · exact .inl (by simp [h1])
    · exact .inr h1
  · rcases k.fr g hg with h1 | h1
    · exact h.fr g h1
    · have h2 := h.mu.size
      have h3 := m.size
      exact .inr (by omega)

theorem RbS.mut {w0 w w' : World} {r0 : Option Nat} {v : Value} {L : List Bool} (h : RbS w0 r0 w v L) (m : Mut [] w w') : RbS w0 r0 w' v L := ⟨h.row.mut m (by simp), h.mu.then0 m, h.fr⟩

set_option maxHeartbeats 6400000 in
set_option maxRecDepth 100000 in
/-- over tables that stand -/
theorem rtokens_any' (l d : List Nat) (hl15 : ∀ n ∈ l, n ≤ 15) (hd15 : ∀ n ∈ d, n ≤ 15) (nl : newErr (toI l) = 0) (nd : newErr (toI d) = 0) (hll : 286 ≤ l.length) (hdl : 30 ≤ d.length) (T : List Tok) {R : Nat} (hR : R ≤ 32768) (hT : ∀ x ∈ T, ∃ o, tokOk R o x) (hTl : T.length ≤ 1048576)
    {w : World} {v vT vl vd : Value} {L : List Bool} (hL : L.length ≤ 274877906944) (hv : IRow w v (bI L)) (hvT : TRow 128 w vT T) (hvl : IRow w vl (toI l)) (hvd : IRow w vd (toI d)) (n1 : ∀ g, vl.ownBlock = some g → v.ownBlock ≠ some g) (n2 : ∀ g, vd.ownBlock = some g → v.ownBlock ≠ some g) (n3 : ∀ g, vT.ownBlock = some g → v.ownBlock ≠ some g) :
    Calls Try.prog 42 #[v, vT, vl, vd] w fun e w' => ∃ v', e = .returned v' ∧ RbS w v.ownBlock w' v' (L ++ toks l d T) := by
  have hlen1 := (newErr_len' _ nl).1
  have hlen2 := (newErr_len' _ nd).1
  have hNL : Hid (∀ w', Mut [] w w' → Calls Try.prog 64 #[vl] w' fun e w'' => ∃ x, e = .returned (.tuple #[x, .int .i64 0]) ∧ IRow w'' x (codesI l) ∧ (∀ g, x.ownBlock = some g → w'.heap.size ≤ g) ∧ Mut [] w' w'') := Lib.hid fun w' m => by
    obtain ⟨p, c, rfl, hc⟩ := (hvl.mut m (by simp)).read
    refine (refnew_any (toI l) (by omega) p c w' hc).mono ?_
    rintro e w'' ⟨(⟨h, -⟩ | ⟨-, x, rfl, hx, hf⟩), hm⟩
    · exact absurd nl h
    · rw [lens_toI] at hx
      exact ⟨x, rfl, hx, hf, hm⟩
  have hND : Hid (∀ w', Mut [] w w' → Calls Try.prog 64 #[vd] w' fun e w'' => ∃ x, e = .returned (.tuple #[x, .int .i64 0]) ∧ IRow w'' x (codesI d) ∧ (∀ g, x.ownBlock = some g → w'.heap.size ≤ g) ∧ Mut [] w' w'') := Lib.hid fun w' m => by
    obtain ⟨p, c, rfl, hc⟩ := (hvd.mut m (by simp)).read
    refine (refnew_any (toI d) (by omega) p c w' hc).mono ?_
    rintro e w'' ⟨(⟨h, -⟩ | ⟨-, x, rfl, hx, hf⟩), hm⟩
    · exact absurd nd h
    · rw [lens_toI] at hx
      exact ⟨x, rfl, hx, hf, hm⟩
  obtain ⟨pb, cb, rfl⟩ := (RbS.start hv).form
  obtain ⟨gl, cl, rfl, -, -⟩ := row_some hvl (by simp [toI]; omega)
  obtain ⟨gd, cd, rfl, -, -⟩ := row_some hvd (by simp [toI]; omega)
  obtain ⟨pT, cT, rfl⟩ := hvT.form
  obtain ⟨r2, hr2⟩ : ∃ r, (Value.slice pb L.length cb).ownBlock = r := ⟨_, rfl⟩
  rw [hr2]
  have HR2 := Lib.hid hr2
  clear hr2
  have hll' : (toI l).length = l.length := by simp [toI]
  have hdl' : (toI d).length = d.length := by simp [toI]
  rw [hll'] at hNL hvl n1 ⊢
  rw [hdl'] at hND hvd n2 ⊢
  have HV := Lib.hid (And.intro hv (And.intro hvT (And.intro hvl hvd)))
  have HN := Lib.hid (And.intro n1 (And.intro n2 n3))
  have HCL : Hid (∀ k, k < l.length → codeOf l k ≤ 32768 ∧ lenAt l k ≤ 15) := Lib.hid fun k hk => code_small l nl hl15 k hk
  have HCD : Hid (∀ k, k < d.length → codeOf d k ≤ 32768 ∧ lenAt d k ≤ 15) := Lib.hid fun k hk => code_small d nd hd15 k hk
  have HT := Lib.hid hT
  have HT1 := Lib.hid (toks1_len l d hl15 hd15 hR)
  clear hv hvT hvl hvd n1 n2 n3 nl nd hlen1 hlen2 hll' hdl' hT hl15 hd15
  go_enter Try.func42, Try.ntmps42
  go_wp2_with fail
  refine (hNL.out _ (Mut.refl _ _)).mono ?_
  rintro e w1 ⟨xl, rfl, hx1, hx2, hm1⟩
  obtain ⟨glc, clc, rfl, hglc, -⟩ := row_some hx1 (by simp [codesI, codesOf]; omega)
  have HX1 := Lib.hid (And.intro hx1 (And.intro hx2 hm1))
  clear hx1 hx2 hNL
  go_wp2_with fail
  refine (hND.out _ hm1).mono ?_
  rintro e w2 ⟨xd, rfl, hy1, hy2, hm2⟩
  obtain ⟨gdc, cdc, rfl, hgdc, -⟩ := row_some hy1 (by simp [codesI, codesOf]; omega)
  have hm := hm1.trans' hm2
  obtain ⟨hv, hvT, hvl, hvd⟩ := HV.out
  obtain ⟨n1, n2, n3⟩ := HN.out
  have hvlt : ∀ g, (Value.slice pb L.length cb).ownBlock = some g → g < w.heap.size := fun g hg => hv.lt hg
  have hk2 : RtK w2 (Value.slice pb L.length cb).ownBlock l d (.slice (some ⟨gl, 0, none⟩) l.length cl) (.slice (some ⟨gd, 0, none⟩) d.length cd) (.slice (some ⟨glc, 0, none⟩) (codesI l).length clc) (.slice (some ⟨gdc, 0, none⟩) (codesI d).length cdc) (.slice pT T.length cT) T := by
    refine ⟨hvl.mut hm (by simp), hvd.mut hm (by simp), HX1.out.1.mut hm2 (by simp), hy1, hvT.mut hm (by simp), n1, n2, fun g hg hv' => ?_, fun g hg hv' => ?_, n3⟩
    · have h1 := HX1.out.2.1 g hg
      have h2 := hvlt g hv'
      omega
    · have h1 := hy2 g hg
      have h2 := hvlt g hv'
      have h3 := hm1.size
      omega
  have hr2 : IRow w2 (.slice pb L.length cb) (bI L) := hv.mut hm (by simp)
  have HK2 := Lib.hid hk2
  have HS0 : Hid (RbS w2 (Value.slice pb L.length cb).ownBlock w2 (.slice pb L.length cb) (L ++ (T.take 0).flatMap (tok1 l d))) := Lib.hid (by simpa using RbS.start hr2)
  have HFIN : Hid (∀ w3 v3 L3, RbS w2 (Value.slice pb L.length cb).ownBlock w3 v3 L3 → RbS w (Value.slice pb L.length cb).ownBlock w3 v3 L3) := Lib.hid fun w3 v3 L3 h => (RbS.start hv).comp hm h
  rw [HR2.out] at HK2 HS0 HFIN
  clear hy1 hy2 hm2 hm hv hvT hvl hvd n1 n2 n3 hvlt hk2 hr2 HR2 HV HN HX1 hm1 hND hglc hgdc
  go_wp2_with fail
  go_loopw [13, 0] (fun a b wx => ∃ (i n : Nat) (p : Option Addr) (c : Nat), a = .int .i64 (i : Int) ∧ b = .slice p n c ∧ i ≤ T.length ∧ n ≤ L.length + 60 * i ∧ Hid (RbS w2 r2 wx (.slice p n c) (L ++ (T.take i).flatMap (tok1 l d)))) (fun a _ _ => T.length - (intOf a).toNat)
  case atStart => exact ⟨0, L.length, pb, cb, rfl, rfl, Nat.zero_le _, by omega, HS0⟩
  case round =>
    obtain ⟨i, n, p, c, rfl, rfl, hi, hn, HS⟩ := hrel
    clear HS0
    have hk := HK2.out.step HS.out.mu
    have HK := Lib.hid hk
    have hlc : (codesI l).length = l.length := by simp [codesI, codesOf]
    have hdc : (codesI d).length = d.length := by simp [codesI, codesOf]
    rw [hlc]
    rw [hdc]
    have hnL : (L ++ (T.take i).flatMap (tok1 l d)).length = n := by
      obtain ⟨p', c', e⟩ := HS.out.form
      simp only [Value.slice.injEq] at e
      exact e.2.1.symm
    have HNL := Lib.hid hnL
    clear hk hlc hdc hnL
    by_cases hlt : i < T.length
    case pos =>
      have hiI : (i : Int) < (T.length : Int) := by omega
      obtain ⟨gT, cT', hvT, -, -⟩ := row_some HK.out.rT (by omega)
      simp only [Value.slice.injEq] at hvT
      obtain ⟨rfl, -, rfl⟩ := hvT
      obtain ⟨d0, d1, d2⟩ := HK.out.rT.cells i hlt
      rw [Nat.mul_comm] at d0 d1 d2
      obtain ⟨o, hok⟩ := HT.out _ (List.getElem_mem hlt)
      have hstep : L ++ (T.take (i + 1)).flatMap (tok1 l d) = (L ++ (T.take i).flatMap (tok1 l d)) ++ tok1 l d (T[i]'hlt) := by
        rw [List.take_succ_eq_append_getElem hlt, toks_snoc, List.append_assoc]
      have h60 : (tok1 l d (T[i]'hlt)).length ≤ 60 := by
        have := HT1.out [T[i]'hlt] (by simp; exact ⟨o, hok⟩)
        simpa using this
      obtain ⟨⟨x1, x2, x3⟩, hx⟩ : ∃ x, T[i]'hlt = x := ⟨_, rfl⟩
      rw [hx] at hstep h60 hok d0 d1 d2
      simp only at d0 d1 d2
      obtain ⟨M, hM⟩ : ∃ M, L ++ (T.take i).flatMap (tok1 l d) = M := ⟨_, rfl⟩
      rw [hM] at HS hstep HNL
      have HSTEP := Lib.hid hstep
      have hnb : n ≤ 274941000000 := by omega
      have hxx := hx
      clear hx hstep hM
      by_cases hx2 : x2 = 0
      case pos =>
        have hx2I : ((x2 : Int) == 0) = true := by rw [beq_iff_eq]; omega
        have hx1 : x1 < 256 := by
          rcases hok with h | h
          · exact h.2.2
          · exact absurd h.1 (by show ¬ 3 ≤ x2; omega)
        have ht1 : tok1 l d (x1, x2, x3) = hb l x1 := by unfold tok1; rw [if_pos hx2]
        rw [ht1] at HSTEP h60
        obtain ⟨q1, q2⟩ := HCL.out x1 (by omega)
        have e1 := HK.out.rlc.cellC x1 (by omega)
        have e2 := HK.out.rl.cellN x1 (by omega)
        have hS1 := rcode_any (codeOf l x1) (lenAt l x1) (by omega) (by omega) (HS.out.mut ((Mut.refl [] wr).drew)) (by rw [HNL.out]; omega)
        have HC1 := Lib.hid hS1
        have HHB : Hid (hb l x1 = highBits ((codeOf l x1 : Nat) : Int) (lenAt l x1)) := Lib.hid rfl
        have hx1I : (x1 : Int) < (l.length : Int) := by omega
        have hx1N : x1 < l.length := by omega
        haveI : Nonempty (WIn (Mut [] wr)) := ⟨⟨wr, Mut.refl _ _⟩⟩
        generalize codeOf l x1 = C1 at *
        generalize lenAt l x1 = N1 at *
        have f1 : ∀ v : WIn (Mut [] wr), v.w.cell? ⟨glc, x1, none⟩ = some (.int .i64 (C1 : Int)) := fun v => v.ok.cell e1 (by simp)
        have f2 : ∀ v : WIn (Mut [] wr), v.w.cell? ⟨gl, x1, none⟩ = some (.int .i64 (N1 : Int)) := fun v => v.ok.cell e2 (by simp)
        clear hS1 ht1 e1 e2 hok
        go_upto_region 8 with fail
        refine wp_region_mix (fun w' => ∃ v : WIn (Mut [] wr), w' = v.w) 9 0 [] [0, 1, 2, 3, 4, 5, 6, 7, 8] [9, 10]
          (fun l => []) (fun l => l.take 9) (fun l => l.drop 9) rfl rfl rfl (by kernel_rfl) (by kernel_rfl) (by kernel_rfl) (by kernel_rfl) (fun _ _ _ _ _ h => h) ⟨⟨wr.drew, (Mut.refl _ _).drew⟩, rfl⟩ ?_
        simp only [List.take_succ_cons, List.take_zero, List.drop_succ_cons, List.drop_zero]
        refine wpQuiet_nil ?_
        repeat (go_big_quiet_step (fail))
        refine wpQuiet_nil ?_
        intro K hK
        go_simp
        go_at_call 65
        refine (HC1.out).mono ?_
        rintro e w3 ⟨v', rfl, hS⟩
        obtain ⟨p', c', e⟩ := hS.form
        subst e
        have HS_w3 := Lib.hid hS
        clear hS
        go_simp
        refine hK _ _ (fun h => absurd h (by decide)) ?_
        clear hK K
        intro K hK
        go_simp
        refine hK _ _ (fun h => absurd h (by decide)) ?_
        clear hK K
        unfold wpMov
        rw [List.length_append] at HS_w3
        have hw1 : wrap64 ((i : Int) + 1) = ((i + 1 : Nat) : Int) := by rw [IntWalk.wrap64_in _ (by omega)]; omega
        clear hw1
        go_wp2_with fail
        have hnl := HNL.out
        have hhl : (highBits (C1 : Int) N1).length = N1 := highBits_length _ _
        exact ⟨⟨i + 1, M.length + (highBits (C1 : Int) N1).length, p', c', by rw [Int.natCast_add]; rfl, rfl, by omega, by omega, by rw [HSTEP.out, HHB.out]; exact HS_w3⟩, by simp only [intOf]; omega⟩
      case neg =>
        have hx2I : ((x2 : Int) == 0) = false := by rw [beq_eq_false_iff_ne]; omega
        obtain ⟨k1, k2, k3, k4, k5, k6⟩ : 3 ≤ x2 ∧ x2 ≤ 258 ∧ 1 ≤ x3 ∧ x3 ≤ R ∧ x3 ≤ o ∧ x1 = 0 := by
          rcases hok with h | h
          · exact absurd h.1 hx2
          · exact h
        obtain ⟨a1, a2, a3, a4⟩ := lenSym_spec x2 k1 k2
        obtain ⟨b1, b2, b3⟩ := distSym_spec x3 k3 (by omega)
        have a5 := (lenR_small (lenSym x2) (by omega) a1).2
        have b5 := (distR_small (distSym x3) (by omega)).2
        have ht1 : tok1 l d (x1, x2, x3) = hb l (lenSym x2) ++ lowBits ((x2 - (lenR (lenSym x2)).1 : Nat) : Int) (lenR (lenSym x2)).2 ++ hb d (distSym x3) ++ lowBits ((x3 - (distR (distSym x3)).1 : Nat) : Int) (distR (distSym x3)).2 := by unfold tok1; rw [if_neg hx2]
        rw [ht1] at HSTEP h60
        have HLE := Lib.hid (rlength_any x2 k1 k2 wr)
        have HDI := Lib.hid fun w => rdistance_any x3 k3 (by omega) w
        obtain ⟨s1, hs1⟩ : ∃ s, lenSym x2 = s := ⟨_, rfl⟩
        obtain ⟨s2, hs2⟩ : ∃ s, distSym x3 = s := ⟨_, rfl⟩
        rw [hs1] at a1 a2 a3 a4 a5 HLE HSTEP h60
        rw [hs2] at b1 b2 b3 b5 HDI HSTEP h60
        obtain ⟨A, hA⟩ : ∃ A, (lenR s1).1 = A := ⟨_, rfl⟩
        obtain ⟨B, hB⟩ : ∃ B, (lenR s1).2 = B := ⟨_, rfl⟩
        obtain ⟨E, hE⟩ : ∃ E, (distR s2).1 = E := ⟨_, rfl⟩
        obtain ⟨F, hF⟩ : ∃ F, (distR s2).2 = F := ⟨_, rfl⟩
        rw [hA, hB] at HLE HSTEP h60
        rw [hE, hF] at HDI HSTEP h60
        rw [hA] at a3 a4
        rw [hB] at a5
        rw [hE] at b2 b3
        rw [hF] at b5
        have hsA : s1 < l.length := by omega
        have hsD : s2 < d.length := by omega
        have hsAI : (s1 : Int) < (l.length : Int) := by omega
        have hsDI : (s2 : Int) < (d.length : Int) := by omega
        obtain ⟨q1, q2⟩ := HCL.out s1 hsA
        obtain ⟨q3, q4⟩ := HCD.out s2 hsD
        obtain ⟨y2, hy2⟩ : ∃ y, x2 - A = y := ⟨_, rfl⟩
        obtain ⟨y3, hy3⟩ : ∃ y, x3 - E = y := ⟨_, rfl⟩
        rw [hy2, hy3] at HSTEP h60
        have hy2I : (x2 : Int) - (A : Int) = (y2 : Int) := by omega
        have hy3I : (x3 : Int) - (E : Int) = (y3 : Int) := by omega
        have hyb : y2 ≤ 258 ∧ y3 ≤ 32768 := by omega
        have e1 := HK.out.rlc.cellC s1 hsA
        have e2 := HK.out.rl.cellN s1 hsA
        have HHA : Hid (hb l s1 = highBits ((codeOf l s1 : Nat) : Int) (lenAt l s1)) := Lib.hid rfl
        have HHD : Hid (hb d s2 = highBits ((codeOf d s2 : Nat) : Int) (lenAt d s2)) := Lib.hid rfl
        have HC1 := Lib.hid (rcode_any (codeOf l s1) (lenAt l s1) (by omega) (by omega) (HS.out.mut ((Mut.refl [] wr).drew)) (by rw [HNL.out]; omega))
        haveI : Nonempty (WIn (Mut [] wr)) := ⟨⟨wr, Mut.refl _ _⟩⟩
        have HCN2 : Hid (∀ k, k < d.length → RtK wr r2 l d (.slice (some ⟨gl, 0, none⟩) l.length cl) (.slice (some ⟨gd, 0, none⟩) d.length cd) (.slice (some ⟨glc, 0, none⟩) (codesI l).length clc) (.slice (some ⟨gdc, 0, none⟩) (codesI d).length cdc) (.slice (some ⟨gT, 0, none⟩) T.length cT) T) := Lib.hid fun _ _ => HK.out
        have HTOK : Hid (T[i]'hlt = (x1, x2, x3)) := Lib.hid hxx
        generalize hC1 : codeOf l s1 = C1 at *
        generalize hN1 : lenAt l s1 = N1 at *
        generalize hC2 : codeOf d s2 = C2 at *
        generalize hN2 : lenAt d s2 = N2 at *
        have HCD2 := Lib.hid (And.intro hC2 hN2)
        have f1 : ∀ v : WIn (Mut [] wr), v.w.cell? ⟨glc, s1, none⟩ = some (.int .i64 (C1 : Int)) := fun v => v.ok.cell e1 (by simp)
        have f2 : ∀ v : WIn (Mut [] wr), v.w.cell? ⟨gl, s1, none⟩ = some (.int .i64 (N1 : Int)) := fun v => v.ok.cell e2 (by simp)
        have HHL := Lib.hid (And.intro hn (And.intro hnb HNL.out))
        clear ht1 e1 e2 hok hs1 hs2 hA hB hE hF hy2 hy3 hC1 hN1 hC2 hN2 k6 k5
        go_upto_region 9 with fail
        go_wp2_with fail
        refine HLE.out.mono ?_
        rintro e w2' ⟨rfl, rfl⟩
        go_upto_region 10 with fail
        refine wp_region_mix (fun w' => ∃ v : WIn (Mut [] wr), w' = v.w) 9 0 [] [0, 1, 2, 3, 4, 5, 6, 7, 8] [9, 10]
          (fun l => []) (fun l => l.take 9) (fun l => l.drop 9) rfl rfl rfl (by kernel_rfl) (by kernel_rfl) (by kernel_rfl) (by kernel_rfl) (fun _ _ _ _ _ h => h) ⟨⟨wr.drew, (Mut.refl _ _).drew⟩, rfl⟩ ?_
        simp only [List.take_succ_cons, List.take_zero, List.drop_succ_cons, List.drop_zero]
        refine wpQuiet_nil ?_
        repeat (go_big_quiet_step (fail))
        refine wpQuiet_nil ?_
        intro K hK
        go_simp
        go_at_call 65
        refine (HC1.out).mono ?_
        rintro e w3 ⟨v', rfl, hS⟩
        obtain ⟨p', c', e⟩ := hS.form
        subst e
        have HS_w3 := Lib.hid hS
        clear hS
        go_simp
        refine hK _ _ (fun h => absurd h (by decide)) ?_
        clear hK K
        intro K hK
        go_simp
        refine hK _ _ (fun h => absurd h (by decide)) ?_
        clear hK K
        unfold wpMov
        have HS3 := HS_w3
        clear f1 f2 this HLE HC1 HS_w3
        rw [List.length_append] at HS3
        obtain ⟨M1, hM1⟩ : ∃ M1, M ++ highBits (C1 : Int) N1 = M1 := ⟨_, rfl⟩
        obtain ⟨n1, hn1⟩ : ∃ n1, M.length + (highBits (C1 : Int) N1).length = n1 := ⟨_, rfl⟩
        have hM1l : M1.length = n1 := by rw [← hM1, ← hn1, List.length_append]
        have hn1b : n1 ≤ n + 15 := by rw [← hn1, highBits_length, HNL.out]; omega
        rw [hM1, hn1] at HS3
        rw [hn1]
        have HM1 := Lib.hid hM1
        have hk3 := HK2.out.step HS3.out.mu
        obtain ⟨d0, d1, d2⟩ := hk3.rT.cells i hlt
        rw [Nat.mul_comm, hxx] at d0 d1 d2
        simp only at d0 d1 d2
        have HB3 := Lib.hid (rbits_any y2 B (by omega) (by omega) HS3.out (by rw [hM1l]; omega))
        have HM1L := Lib.hid hM1l
        clear hM1 hn1 hk3 hM1l
        go_wp2_with fail
        refine HB3.out.mono ?_
        rintro e w4 ⟨v4, rfl, hS4⟩
        obtain ⟨p4, c4, e⟩ := hS4.form
        subst e
        obtain ⟨n2, hn2⟩ : ∃ n2, (M1 ++ lowBits (y2 : Int) B).length = n2 := ⟨_, rfl⟩
        have hn2b : n2 ≤ n + 20 := by rw [← hn2, List.length_append, lowBits_length, HM1L.out]; omega
        obtain ⟨M2, hM2⟩ : ∃ M2, M1 ++ lowBits (y2 : Int) B = M2 := ⟨_, rfl⟩
        rw [hn2] at hS4 ⊢
        rw [hM2] at hS4 hn2
        have HS4 := Lib.hid hS4
        have HM2 := Lib.hid (And.intro hM2 hn2)
        have hk4 := HK2.out.step hS4.mu
        obtain ⟨d0, d1, d2⟩ := hk4.rT.cells i hlt
        rw [Nat.mul_comm, hxx] at d0 d1 d2
        simp only at d0 d1 d2
        have e3 := hk4.rdc.cellC s2 hsD
        have e4 := hk4.rd.cellN s2 hsD
        rw [HCD2.out.1] at e3
        rw [HCD2.out.2] at e4
        have HC2 := Lib.hid (rcode_any C2 N2 (by omega) (by omega) (hS4.mut ((Mut.refl [] w4).drew)) (by rw [hn2]; omega))
        clear hn2 hM2 hS4 hk4 HB3 HS3 HCD2
        have f3 : ∀ v : WIn (Mut [] w4), v.w.cell? ⟨gdc, s2, none⟩ = some (.int .i64 (C2 : Int)) := fun v => v.ok.cell e3 (by simp)
        have f4 : ∀ v : WIn (Mut [] w4), v.w.cell? ⟨gd, s2, none⟩ = some (.int .i64 (N2 : Int)) := fun v => v.ok.cell e4 (by simp)
        haveI : Nonempty (WIn (Mut [] w4)) := ⟨⟨w4, Mut.refl _ _⟩⟩
        clear e3 e4
        go_upto_region 12 with fail
        go_wp2_with fail
        refine (HDI.out _).mono ?_
        rintro e w4' ⟨rfl, rfl⟩
        go_upto_region 13 with fail
        refine wp_region_mix (fun w' => ∃ v : WIn (Mut [] w4), w' = v.w) 9 0 [] [0, 1, 2, 3, 4, 5, 6, 7, 8] [9, 10]
          (fun l => []) (fun l => l.take 9) (fun l => l.drop 9) rfl rfl rfl (by kernel_rfl) (by kernel_rfl) (by kernel_rfl) (by kernel_rfl) (fun _ _ _ _ _ h => h) ⟨⟨w4.drew, (Mut.refl _ _).drew⟩, rfl⟩ ?_
        simp only [List.take_succ_cons, List.take_zero, List.drop_succ_cons, List.drop_zero]
        refine wpQuiet_nil ?_
        repeat (go_big_quiet_step (fail))
        refine wpQuiet_nil ?_
        intro K hK
        go_simp
        go_at_call 65
        refine (HC2.out).mono ?_
        rintro e w5 ⟨v', rfl, hS⟩
        obtain ⟨p', c', e⟩ := hS.form
        subst e
        have HS_w5 := Lib.hid hS
        clear hS
        go_simp
        refine hK _ _ (fun h => absurd h (by decide)) ?_
        clear hK K
        intro K hK
        go_simp
        refine hK _ _ (fun h => absurd h (by decide)) ?_
        clear hK K
        unfold wpMov
        have HS5 := HS_w5
        clear f3 f4 this HDI HC2 HS_w5
        rw [List.length_append] at HS5
        obtain ⟨M3, hM3⟩ : ∃ M3, M2 ++ highBits (C2 : Int) N2 = M3 := ⟨_, rfl⟩
        obtain ⟨n3, hn3⟩ : ∃ n3, M2.length + (highBits (C2 : Int) N2).length = n3 := ⟨_, rfl⟩
        have hM3l : M3.length = n3 := by rw [← hM3, ← hn3, List.length_append]
        have hn3b : n3 ≤ n + 35 := by rw [← hn3, highBits_length, HM2.out.2]; omega
        rw [hM3, hn3] at HS5
        rw [hn3]
        have HM3 := Lib.hid (And.intro hM3 hM3l)
        have HB5 := Lib.hid (rbits_any y3 F (by omega) (by omega) HS5.out (by rw [hM3l]; omega))
        have hk5 := HK2.out.step HS5.out.mu
        obtain ⟨d0, d1, d2⟩ := hk5.rT.cells i hlt
        rw [Nat.mul_comm, hxx] at d0 d1 d2
        simp only at d0 d1 d2
        clear hM3 hn3 hM3l hk5
        go_wp2_with fail
        refine HB5.out.mono ?_
        rintro e w6 ⟨v6, rfl, hS6⟩
        obtain ⟨p6, c6, e⟩ := hS6.form
        subst e
        obtain ⟨n4, hn4⟩ : ∃ n4, (M3 ++ lowBits (y3 : Int) F).length = n4 := ⟨_, rfl⟩
        have hn4b : n4 ≤ n + 60 := by rw [← hn4, List.length_append, lowBits_length, HM3.out.2]; omega
        rw [hn4] at hS6 ⊢
        have hS7 : RbS w2 r2 w6 (.slice p6 n4 c6) (L ++ (T.take (i + 1)).flatMap (tok1 l d)) := by
          rw [HSTEP.out, HHA.out, HHD.out, ← List.append_assoc, ← List.append_assoc, ← List.append_assoc, HM1.out, HM2.out.1, HM3.out.1]
          exact hS6
        have HS7 := Lib.hid hS7
        clear hS6 hS7 hn4 HB5 HS5
        have hw1 : wrap64 ((i : Int) + 1) = ((i + 1 : Nat) : Int) := by rw [IntWalk.wrap64_in _ (by omega)]; omega
        clear hw1
        go_wp2_with fail
        exact ⟨⟨i + 1, n4, p6, c6, by rw [Int.natCast_add]; rfl, rfl, by omega, by omega, HS7⟩, by simp only [intOf]; omega⟩
    case neg =>
      have hiI : ¬ (i : Int) < (T.length : Int) := by omega
      obtain rfl : i = T.length := by omega
      rw [List.take_length] at HS HNL
      obtain ⟨M, hM⟩ : ∃ M, L ++ T.flatMap (tok1 l d) = M := ⟨_, rfl⟩
      rw [hM] at HS HNL
      have HM := Lib.hid hM
      obtain ⟨q1, q2⟩ := HCL.out 256 (by omega)
      have e1 := HK.out.rlc.cellC 256 (by omega)
      have e2 := HK.out.rl.cellN 256 (by omega)
      have HHB : Hid (hb l 256 = highBits ((codeOf l 256 : Nat) : Int) (lenAt l 256)) := Lib.hid rfl
      have HC1 := Lib.hid (rcode_any (codeOf l 256) (lenAt l 256) (by omega) (by omega) (HS.out.mut ((Mut.refl [] wr).drew)) (by rw [HNL.out]; omega))
      have h256 : (256 : Int) < (l.length : Int) := by omega
      have h256N : 256 < l.length := by omega
      haveI : Nonempty (WIn (Mut [] wr)) := ⟨⟨wr, Mut.refl _ _⟩⟩
      generalize codeOf l 256 = C1 at *
      generalize lenAt l 256 = N1 at *
      have f1 : ∀ v : WIn (Mut [] wr), v.w.cell? ⟨glc, 256, none⟩ = some (.int .i64 (C1 : Int)) := fun v => v.ok.cell e1 (by simp)
      have f2 : ∀ v : WIn (Mut [] wr), v.w.cell? ⟨gl, 256, none⟩ = some (.int .i64 (N1 : Int)) := fun v => v.ok.cell e2 (by simp)
      clear e1 e2 hM
      go_upto_region 15 with fail
      refine wp_region_mix (fun w' => ∃ v : WIn (Mut [] wr), w' = v.w) 7 0 [] [0, 1, 2, 3, 4, 5, 6] [7, 8]
        (fun l => []) (fun l => l.take 7) (fun l => l.drop 7) rfl rfl rfl (by kernel_rfl) (by kernel_rfl) (by kernel_rfl) (by kernel_rfl) (fun _ _ _ _ _ h => h) ⟨⟨wr.drew, (Mut.refl _ _).drew⟩, rfl⟩ ?_
      simp only [List.take_succ_cons, List.take_zero, List.drop_succ_cons, List.drop_zero]
      refine wpQuiet_nil ?_
      repeat (go_big_quiet_step (fail))
      refine wpQuiet_nil ?_
      intro K hK
      go_simp
      go_at_call 65
      refine (HC1.out).mono ?_
      rintro e w3 ⟨v', rfl, hS⟩
      obtain ⟨p', c', e⟩ := hS.form
      subst e
      have HS_w3 := Lib.hid hS
      clear hS
      go_simp
      refine hK _ _ (fun h => absurd h (by decide)) ?_
      clear hK K
      intro K hK
      go_simp
      refine hK _ _ (fun h => absurd h (by decide)) ?_
      clear hK K
      unfold wpMov
      go_wp2_with fail
      refine bodyPost_ret (results_tmp rfl _ _ _) rfl ⟨.slice p' (M.length + (highBits (C1 : Int) N1).length) c', rfl, HFIN.out _ _ _ ?_⟩
      have h := HS_w3.out
      rw [List.length_append] at h
      unfold toks
      rw [← List.append_assoc, HM.out, HHB.out]
      exact h

end Go.Proofs.Ytgjcnembeebjfaa

namespace Go.Proofs.Ytgjcnembeebjfaa
open Go.RowKit
set_option linter.unusedVariables false

/-- where the loop over the tokens is -/
structure UrS (w0 wx : World) (ga gb : Nat) (A B : List Bool) (v : Value) (T : List Tok) (vb : Value) (L : List Bool) : Prop where
  a : BoAt w0 wx ga 286 A
  b : BoAt w0 wx gb 30 B
  ne : ga ≠ gb
  row : TRow 128 wx v T
  bits : IRow wx vb (bI L)

theorem UrS.mut {w0 wx wy : World} {ga gb : Nat} {A B : List Bool} {v : Value} {T : List Tok} {vb : Value} {L : List Bool} (h : UrS w0 wx ga gb A B v T vb L) (m : Mut [] wx wy) : UrS w0 wy ga gb A B v T vb L :=
  ⟨h.a.mut m, h.b.mut m, h.ne, h.row.mut m (by simp), h.bits.mut m (by simp)⟩

theorem IRow.setO {w : World} {v : Value} {M : List Int} (h : IRow w v M) {g : Nat} {c : Array Value} {t : TypeId} {fr : Nat × Nat} (hg : w.heap[g]? = some (.cells c t fr)) (hne : 3 ≠ t) (i : Nat) (u : Value) : IRow (w.setCell ⟨g, i, none⟩ u) v M :=
  row_set_ne h (fun g' hg' e' => row_ne h hg hne (by rw [← e']; exact hg')) u

theorem UrS.setA {w0 wx : World} {ga gb : Nat} {A B : List Bool} {v : Value} {T : List Tok} {vb : Value} {L : List Bool} (h : UrS w0 wx ga gb A B v T vb L) (i : Nat) : UrS w0 (wx.setCell ⟨ga, i, none⟩ (.bool true)) ga gb (A.set i true) B v T vb L := by
  obtain ⟨c, hc⟩ := h.a.blk
  refine ⟨h.a.set i true, ⟨row_set_ne h.b.row (fun g hg e => ?_) _, (h.b.kept).setCell (.inr h.a.fresh) _, h.b.fresh⟩, h.ne, h.row.set hc (by decide) i _, h.bits.setO hc (by decide) i _⟩
  simp [Value.ownBlock] at hg
  exact h.ne (by omega)
theorem UrS.setB {w0 wx : World} {ga gb : Nat} {A B : List Bool} {v : Value} {T : List Tok} {vb : Value} {L : List Bool} (h : UrS w0 wx ga gb A B v T vb L) (i : Nat) : UrS w0 (wx.setCell ⟨gb, i, none⟩ (.bool true)) ga gb A (B.set i true) v T vb L := by
  obtain ⟨c, hc⟩ := h.b.blk
  refine ⟨⟨row_set_ne h.a.row (fun g hg e => ?_) _, (h.a.kept).setCell (.inr h.b.fresh) _, h.a.fresh⟩, h.b.set i true, h.ne, h.row.set hc (by decide) i _, h.bits.setO hc (by decide) i _⟩
  simp [Value.ownBlock] at hg
  exact h.ne (by omega)

theorem ur_start1 {w : World} {v : Value} {T : List Tok} {vb : Value} {L : List Bool} {Z1 Z2 : Array Value} (h1 : madeCells (Value.bool false).cells 286 = Z1) (h2 : madeCells (Value.bool false).cells 30 = Z2) (hv : TRow 128 w v T) (hb : IRow w vb (bI L)) :
    UrS w ((w.alloc (.cells Z1 4)).alloc (.cells Z2 4)).drew w.heap.size (w.heap.size + 1) (List.replicate 286 false) (List.replicate 30 false) v T vb L := by
  have m1 : Mut [] w (w.alloc (.cells Z1 4)) := (Mut.refl [] w).alloc _
  have m2 : Mut [] (w.alloc (.cells Z1 4)) ((w.alloc (.cells Z1 4)).alloc (.cells Z2 4)).drew := ((Mut.refl [] _).alloc _).drew
  have a := (BoAt.start w w 286 (by decide) (Mut.refl _ _) Z1 h1).mut m2
  have b := (BoAt.start w (w.alloc (.cells Z1 4)) 30 (by decide) m1 Z2 h2).mut (Mut.refl [] ((w.alloc (.cells Z1 4)).alloc (.cells Z2 4))).drew
  rw [show (w.alloc (.cells Z1 4)).heap.size = w.heap.size + 1 by simp] at b
  exact ⟨a, b, by omega, hv.mut (m1.trans' m2) (by simp), hb.mut (m1.trans' m2) (by simp)⟩
theorem ur_start2 {w : World} {v : Value} {T : List Tok} {vb : Value} {L : List Bool} {Z1 Z2 : Array Value} (h1 : madeCells (Value.bool false).cells 286 = Z1) (h2 : madeCells (Value.bool false).cells 30 = Z2) (hv : TRow 128 w v T) (hb : IRow w vb (bI L)) :
    UrS w ((w.alloc (.cells Z2 4)).alloc (.cells Z1 4)).drew (w.heap.size + 1) w.heap.size (List.replicate 286 false) (List.replicate 30 false) v T vb L := by
  have m1 : Mut [] w (w.alloc (.cells Z2 4)) := (Mut.refl [] w).alloc _
  have m2 : Mut [] (w.alloc (.cells Z2 4)) ((w.alloc (.cells Z2 4)).alloc (.cells Z1 4)).drew := ((Mut.refl [] _).alloc _).drew
  have b := (BoAt.start w w 30 (by decide) (Mut.refl _ _) Z2 h2).mut m2
  have a := (BoAt.start w (w.alloc (.cells Z2 4)) 286 (by decide) m1 Z1 h1).mut (Mut.refl [] ((w.alloc (.cells Z2 4)).alloc (.cells Z1 4))).drew
  rw [show (w.alloc (.cells Z2 4)).heap.size = w.heap.size + 1 by simp] at a
  exact ⟨a, b, by omega, hv.mut (m1.trans' m2) (by simp), hb.mut (m1.trans' m2) (by simp)⟩

theorem bset_same (B : List Bool) (i : Nat) (h : B.getD i false = true) : B.set i true = B := by
  apply List.ext_getElem (by simp)
  intro k h1 h2
  rw [List.getElem_set]
  by_cases e : i = k
  · subst e
    rw [if_pos rfl]
    simpa [List.getD, h2] using h.symm
  · rw [if_neg e]

theorem refeven_row (U : List Bool) (hl : U.length ≤ 1048576) (v : Value) (w : World) (hv : BoRow w v U) :
    Calls Try.prog 68 #[v] w fun e w' => ∃ v, e = .returned v ∧ IRow w' v (toI (evenOf U)) ∧ Mut [] w w' ∧ ∀ g, v.ownBlock = some g → w.heap.size ≤ g := by
  obtain ⟨p, cap, rfl, hr⟩ := hv.read
  exact (refeven_any U hl p cap w hr).mono fun e w' ⟨v, h1, h2, h3, h4⟩ => ⟨v, h1, h2, h3, h4⟩

theorem own_ne {w : World} {b1 b2 s1 s2 n1 n2 : Nat} {t1 t2 : TypeId} {v1 v2 : Value} {x1 x2 : List Value} (h1 : w.ownsRow b1 t1 s1 v1 n1 x1) (h2 : w.ownsRow b2 t2 s2 v2 n2 x2) (hne : t1 ≠ t2) : ∀ g, v2.ownBlock = some g → v1.ownBlock ≠ some g := by
  intro g hg
  rcases h2.2 with ⟨rfl, _⟩ | ⟨g', cap, cur, rfl, _, hh, _⟩
  · simp [Value.ownBlock] at hg
  · have e : g' = g := by simpa [Value.ownBlock] using hg
    subst e
    exact row_ne h1 hh hne

theorem v19_ref : ∀ i, i < 19 → v19.getD i 0 = if i < 3 then 0 else 4 := by decide +kernel

/-- a row of bits that grows beside the rows of what is used -/
theorem RbS.keepB {w0 wx : World} {v v' : Value} {L L' : List Bool} {A : List Bool} {va : Value} (h0 : IRow w0 v (bI L)) (h : RbS w0 v.ownBlock wx v' L') (hA : BoRow w0 va A) : BoRow wx va A :=
  h.mu.row hA (fun g hg hm => own_ne h0 hA (by decide) g hg (by simpa using hm))
theorem RbS.keepT {w0 wx : World} {v v' : Value} {L L' : List Bool} {T : List Tok} {va : Value} (h0 : IRow w0 v (bI L)) (h : RbS w0 v.ownBlock wx v' L') (hA : TRow 128 w0 va T) : TRow 128 wx va T :=
  h.mu.row hA (fun g hg hm => own_ne h0 hA (by decide) g hg (by simpa using hm))

/-- what the loops over lengths lean on: two rows of numbers apart from the row that grows -/
structure DyK (w : World) (r : Option Nat) (vx vy : Value) (X Y : List Nat) (vT : Value) (T : List Tok) : Prop where
  x : IRow w vx (toI X)
  y : IRow w vy (toI Y)
  t : TRow 128 w vT T
  nx : ∀ g, vx.ownBlock = some g → r ≠ some g
  ny : ∀ g, vy.ownBlock = some g → r ≠ some g
  nt : ∀ g, vT.ownBlock = some g → r ≠ some g
theorem DyK.step {w w' : World} {r : Option Nat} {vx vy : Value} {X Y : List Nat} {vT : Value} {T : List Tok} (h : DyK w r vx vy X Y vT T) (m : Mut r.toList w w') : DyK w' r vx vy X Y vT T := by
  have ne : ∀ g, r ≠ some g → g ∉ r.toList := fun g hg hm => hg (by simpa using hm)
  exact ⟨h.x.mut m (fun g hg => ne g (h.nx g hg)), h.y.mut m (fun g hg => ne g (h.ny g hg)), h.t.mut m (fun g hg => ne g (h.nt g hg)), h.nx, h.ny, h.nt⟩

set_option maxHeartbeats 6400000 in
set_option maxRecDepth 100000 in
theorem rdyn_any (T : List Tok) {R : Nat} (hR : R ≤ 32768) (hT : ∀ x ∈ T, ∃ o, tokOk R o x) (hTl : T.length ≤ 1048576) {w : World} {v vT : Value} {L : List Bool} (hL : L.length ≤ 137438953472) (hv : IRow w v (bI L)) (hvT : TRow 128 w vT T) :
    Calls Try.prog 44 #[v, vT] w fun e w' => ∃ v', e = .returned v' ∧ RbS w v.ownBlock w' v' (L ++ told4 (xOf T) (yOf T) ++ toks (xOf T) (yOf T) T) := by
  obtain ⟨pb, cb, rfl⟩ := (RbS.start hv).form
  obtain ⟨pv, cv, rfl⟩ := hvT.form
  obtain ⟨Z1, hZ1⟩ : ∃ Z, madeCells (Value.bool false).cells 286 = Z := ⟨_, rfl⟩
  obtain ⟨Z2, hZ2⟩ : ∃ Z, madeCells (Value.bool false).cells 30 = Z := ⟨_, rfl⟩
  have HT := Lib.hid hT
  have HV := Lib.hid hvT
  have HBV := Lib.hid hv
  clear hT hv hvT
  go_enter Try.func44, Try.ntmps44
  go_upto_region 1 with fail
  go_cut [5, 6] (fun x y wx => ∃ ga gb, x = .slice (some ⟨ga, 0, none⟩) 286 286 ∧ y = .slice (some ⟨gb, 0, none⟩) 30 30 ∧ Hid (UrS w wx ga gb (List.replicate 286 false) (List.replicate 30 false) (.slice pv T.length cv) T (.slice pb L.length cb) L))
  case first =>
    have hmk1 := run_make_bool 286 (by decide) Z1 hZ1 286 rfl
    have hmk2 := run_make_bool 30 (by decide) Z2 hZ2 30 rfl
    go_region
    · go_wp2_with fail
      go_meet
      exact ⟨_, _, rfl, rfl, Lib.hid (ur_start1 hZ1 hZ2 HV.out HBV.out)⟩
    · go_wp2_with fail
      go_meet
      exact ⟨_, _, rfl, rfl, Lib.hid (ur_start2 hZ1 hZ2 HV.out HBV.out)⟩
  case rest =>
    obtain ⟨ga, gb, rfl, rfl, HS⟩ := hcut
    have HS1 : Hid (UrS w (wc.setCell ⟨ga, 256, none⟩ (.bool true)) ga gb (useL (T.take 0)) (useD (T.take 0)) (.slice pv T.length cv) T (.slice pb L.length cb) L) := Lib.hid (HS.out.setA 256)
    obtain ⟨c1, f1⟩ := HS.out.a.cell 256 (by decide)
    clear HS HV hZ1 hZ2
    go_wp2_with fail
    go_loopw [8, 7] (fun c n wx => ∃ i : Nat, c = .int .i64 (i : Int) ∧ i ≤ T.length ∧ n = .int .i64 (numOf (useD (T.take i)) : Nat) ∧ Hid (UrS w wx ga gb (useL (T.take i)) (useD (T.take i)) (.slice pv T.length cv) T (.slice pb L.length cb) L)) (fun c _ _ => T.length - (intOf c).toNat)
    case atStart => exact ⟨0, rfl, Nat.zero_le _, rfl, HS1⟩
    case round =>
      obtain ⟨i, rfl, hi, rfl, HR⟩ := hrel
      clear HS1 c1 f1
      have hnb : numOf (useD (T.take i)) ≤ 30 := by
        have := List.count_le_length (a := true) (l := useD (T.take i))
        rw [useD_len] at this
        exact this
      by_cases hlt : i < T.length
      case pos =>
        have hltI : (i : Int) < (T.length : Int) := by omega
        obtain ⟨o, ho⟩ := HT.out T[i] (List.getElem_mem hlt)
        have hL' : useL (T.take (i + 1)) = useL1 (useL (T.take i)) T[i] := by
          unfold useL
          rw [List.take_succ_eq_append_getElem hlt, List.foldl_append]
          rfl
        have hD : useD (T.take (i + 1)) = useD1 (useD (T.take i)) T[i] := by
          unfold useD
          rw [List.take_succ_eq_append_getElem hlt, List.foldl_append]
          rfl
        have la := useL_len (T.take i)
        have lb := useD_len (T.take i)
        obtain ⟨g1, c1', e1, -, -⟩ := row_some HR.out.row (by omega)
        simp only [Value.slice.injEq] at e1
        obtain ⟨rfl, -, rfl⟩ := e1
        obtain ⟨d0, d1, d2⟩ := HR.out.row.cells i hlt
        obtain ⟨⟨X1, X2, X3⟩, hX⟩ : ∃ x, T[i] = x := ⟨_, rfl⟩
        rw [hX, Nat.mul_comm] at d0 d1 d2
        rw [hX] at ho hL' hD
        dsimp only at d0 d1 d2
        generalize useL (T.take i) = A at *
        generalize useD (T.take i) = B at *
        have hXX := Lib.hid hX
        clear hX
        rcases ho with ⟨k1, k2, k3⟩ | ⟨k1, k2, k3, k4, k5, k6⟩
        · simp only at k1 k2 k3
          have hxI : ((X2 : Int) == 0) = true := by rw [k1]; rfl
          have hL2 : useL1 A (X1, X2, X3) = A.set X1 true := by unfold useL1; rw [if_pos k1]
          have hD2 : useD1 B (X1, X2, X3) = B := by unfold useD1; rw [if_pos k1]
          have HE := Lib.hid (And.intro (hL'.trans hL2) (hD.trans hD2))
          have HS := Lib.hid (HR.out.setA X1)
          obtain ⟨e1, f1⟩ := HR.out.a.cell X1 (by omega)
          have hX286 : (X1 : Int) < 286 := by omega
          clear hL' hD hL2 hD2 k1 k2 k3 HR
          go_wp2_with fail
          refine ⟨⟨i + 1, by rw [Int.natCast_add]; rfl, hlt, by rw [HE.out.2], Lib.hid (by rw [HE.out.1, HE.out.2]; exact HS.out)⟩, by simp only [intOf]; omega⟩
        · simp only at k1 k2 k3 k4
          have hxI : ((X2 : Int) == 0) = false := by rw [beq_eq_false_iff_ne]; omega
          have hne : ¬ X2 = 0 := by omega
          have hL2 : useL1 A (X1, X2, X3) = A.set (lenSym X2) true := by unfold useL1; rw [if_neg hne]
          have hD2 : useD1 B (X1, X2, X3) = B.set (distSym X3) true := by unfold useD1; rw [if_neg hne]
          obtain ⟨s1, s2, -, -⟩ := lenSym_spec X2 k1 k2
          obtain ⟨q1, -, -⟩ := distSym_spec X3 k3 (by omega)
          have HL1 := Lib.hid (fun w => rlength_any X2 k1 k2 w)
          have HD1 := Lib.hid (fun w => rdistance_any X3 k3 (by omega) w)
          have HE := Lib.hid (And.intro (hL'.trans hL2) (hD.trans hD2))
          clear hL' hD hL2 hD2 k1 k2 k3 k4 k5 k6 hne
          generalize (lenR (lenSym X2)).1 = mL at *
          generalize (distR (distSym X3)).1 = mK at *
          generalize (lenR (lenSym X2)).2 = nL at *
          generalize (distR (distSym X3)).2 = nK at *
          generalize lenSym X2 = sL at *
          generalize distSym X3 = sK at *
          have hns := numOf_set B sK (by omega)
          have HNS := Lib.hid hns
          have HS := Lib.hid (HR.out.setA sL)
          obtain ⟨e1, f1⟩ := HR.out.a.cell sL (by omega)
          have hsL : (sL : Int) < 286 := by omega
          have hsK : (sK : Int) < 30 := by omega
          have HQ := Lib.hid (And.intro s2 q1)
          clear hns HR
          go_wp2_with fail
          refine (HL1.out _).mono ?_
          rintro e w3 ⟨rfl, rfl⟩
          go_upto_region 11 with fail
          generalize wr.setCell ⟨ga, sL, none⟩ (.bool true) = w4 at *
          clear d0 d1 d2 e1 f1
          obtain ⟨d0, d1, d2⟩ := HS.out.row.cells i hlt
          rw [hXX.out, Nat.mul_comm] at d0 d1 d2
          dsimp only at d0 d1 d2
          obtain ⟨e1, f1⟩ := HS.out.b.cell sK (by omega)
          have HS2 := Lib.hid (HS.out.setB sK)
          have HSM : Hid (B.getD sK false = true → B.set sK true = B) := Lib.hid (fun h => bset_same B sK h)
          go_wp2_with fail
          refine (HD1.out _).mono ?_
          rintro e w3 ⟨rfl, rfl⟩
          clear HL1 HD1
          obtain ⟨N, hN⟩ : ∃ N, numOf B = N := ⟨_, rfl⟩
          rw [hN] at HNS hnb
          rw [hN]
          clear hN
          generalize B.getD sK false = bd at *
          cases bd with
          | true =>
            clear HS2
            go_wp2_with fail
            refine ⟨⟨i + 1, by rw [Int.natCast_add]; rfl, hlt, by rw [HE.out.2, HNS.out]; rfl, Lib.hid (by rw [HE.out.1, HE.out.2, HSM.out trivial]; exact HS.out)⟩, by simp only [intOf]; omega⟩
          | false =>
            clear HS
            go_wp2_with fail
            refine ⟨⟨i + 1, by rw [Int.natCast_add]; rfl, hlt, by rw [HE.out.2, HNS.out]; rfl, Lib.hid (by rw [HE.out.1, HE.out.2]; exact HS2.out)⟩, by simp only [intOf]; omega⟩
      case neg =>
        have hiT : i = T.length := by omega
        subst hiT
        rw [List.take_length] at HR hnb ⊢
        have hnI : ¬ (T.length : Int) < (T.length : Int) := by omega
        have lb := useD_len T
        obtain ⟨N, hN⟩ : ∃ N, numOf (useD T) = N := ⟨_, rfl⟩
        rw [hN] at hnb ⊢
        have hE : useE (useD T) = if N < 2 then ((useD T).set 0 true).set 1 true else useD T := by unfold useE; rw [hN]
        have HEE := Lib.hid hE
        clear hN hE hlt hi
        go_upto_if 75 with fail
        go_cut [] (fun wx => Hid (UrS w wx ga gb (useL T) (useE (useD T)) (.slice pv T.length cv) T (.slice pb L.length cb) L))
        case first =>
          by_cases h2 : N < 2
          · have h2I : (N : Int) < 2 := by omega
            have hS1 := HR.out.setB 0
            have hS2 := hS1.setB 1
            obtain ⟨e0, f0⟩ := HR.out.b.cell 0 (by decide)
            obtain ⟨e1, f1⟩ := HR.out.b.cell 1 (by decide)
            have HS2 := Lib.hid hS2
            have HE2 : Hid (useE (useD T) = ((useD T).set 0 true).set 1 true) := Lib.hid (by rw [HEE.out, if_pos h2])
            clear hS1 hS2 HR h2 HEE
            go_wp2_with fail
            go_meet
            exact Lib.hid (by rw [HE2.out]; exact HS2.out)
          · have h2I : ¬ (N : Int) < 2 := by omega
            have HE2 : Hid (useE (useD T) = useD T) := Lib.hid (by rw [HEE.out, if_neg h2])
            clear h2 HEE
            go_wp2_with fail
            go_meet
            exact Lib.hid (by rw [HE2.out]; exact HR.out)
        case rest =>
          have HS := hcut
          clear hcut HR HEE hnb lb
          have HM := Lib.hid (HS.out.a.kept)
          have hI := HS.out.bits
          have H0 := Lib.hid (RbS.start hI)
          obtain ⟨A, hA⟩ : ∃ A, useL T = A := ⟨_, rfl⟩
          obtain ⟨B, hB⟩ : ∃ B, useE (useD T) = B := ⟨_, rfl⟩
          have hAl : A.length = 286 := by rw [← hA, useL_len]
          have hBl : B.length = 30 := by rw [← hB, useE_len, useD_len]
          rw [hA, hB] at HS
          have HABT := Lib.hid (And.intro HS.out.a.row' (And.intro HS.out.b.row' HS.out.row))
          have HIR := Lib.hid hI
          obtain ⟨r, hr⟩ : ∃ r, (Value.slice pb L.length cb).ownBlock = r := ⟨_, rfl⟩
          have HFIN : Hid (∀ w3 v3 L3, RbS wc r w3 v3 L3 → RbS w (Value.slice pb L.length cb).ownBlock w3 v3 L3) := Lib.hid fun w3 v3 L3 h => by
            rw [← hr] at h
            exact (RbS.start HBV.out).comp HM.out h
          have HBK : Hid (∀ wx v' L', RbS wc r wx v' L' → BoRow wx (.slice (some ⟨ga, 0, none⟩) 286 286) A ∧ BoRow wx (.slice (some ⟨gb, 0, none⟩) 30 30) B ∧ TRow 128 wx (.slice pv T.length cv) T) := Lib.hid fun wx v' L' h => by
            rw [← hr] at h
            exact ⟨RbS.keepB HIR.out h HABT.out.1, RbS.keepB HIR.out h HABT.out.2.1, RbS.keepT HIR.out h HABT.out.2.2⟩
          rw [hr] at H0
          have HAB := Lib.hid (And.intro hA hB)
          clear hA hB hr hI HIR HABT HM HS hAl hBl HBV
          have HB1 := Lib.hid (rbits_any 29 5 (by decide) (by decide) H0.out (by omega))
          clear H0
          go_wp2_with fail
          refine HB1.out.mono ?_
          rintro e w1 ⟨v1, rfl, hS1⟩
          obtain ⟨L1, hL1⟩ : ∃ L', L ++ lowBits ((29 : Nat) : Int) 5 = L' := ⟨_, rfl⟩
          have hl1 : L1.length ≤ 137438953480 := by rw [← hL1, List.length_append, lowBits_length]; omega
          rw [hL1] at hS1
          obtain ⟨p1, c1, e⟩ := hS1.form
          subst e
          have H1 := Lib.hid hS1
          have HL1 := Lib.hid hL1
          have HB2 := Lib.hid (rbits_any 29 5 (by decide) (by decide) hS1 (by omega))
          clear hS1 hL1 HB1
          go_wp2_with fail
          refine HB2.out.mono ?_
          rintro e w2 ⟨v1, rfl, hS1⟩
          obtain ⟨L2, hL2⟩ : ∃ L', L1 ++ lowBits ((29 : Nat) : Int) 5 = L' := ⟨_, rfl⟩
          have hl2 : L2.length ≤ 137438953490 := by rw [← hL2, List.length_append, lowBits_length]; omega
          rw [hL2] at hS1
          obtain ⟨p2, c2, e⟩ := hS1.form
          subst e
          have HL2 := Lib.hid hL2
          have HB3 := Lib.hid (rbits_any 15 4 (by decide) (by decide) hS1 (by omega))
          clear hS1 hL2 HB2 H1
          go_wp2_with fail
          refine HB3.out.mono ?_
          rintro e w3 ⟨v1, rfl, hS1⟩
          obtain ⟨L3, hL3⟩ : ∃ L', L2 ++ lowBits ((15 : Nat) : Int) 4 = L' := ⟨_, rfl⟩
          have hl3 : L3.length ≤ 137438953500 := by rw [← hL3, List.length_append, lowBits_length]; omega
          rw [hL3] at hS1
          obtain ⟨p3, c3, e⟩ := hS1.form
          subst e
          have HL3 := Lib.hid hL3
          have H3 : Hid (RbS wc r w3 (.slice p3 L3.length c3) (L3 ++ (v19.take 0).flatMap (fun n : Nat => lowBits (n : Int) 3))) := Lib.hid (by simpa using hS1)
          clear hS1 hL3 HB3 hl1 hl2
          go_wp2_with fail
          go_loopw [12, 0] (fun c v wx => ∃ (i : Nat) (p : Option Addr) (n c' : Nat), c = .int .i64 (i : Int) ∧ v = .slice p n c' ∧ i ≤ 19 ∧ Hid (RbS wc r wx (.slice p n c') (L3 ++ (v19.take i).flatMap (fun n : Nat => lowBits (n : Int) 3)))) (fun c _ _ => 19 - (intOf c).toNat)
          case atStart => exact ⟨0, _, _, _, rfl, rfl, by omega, H3⟩
          case round =>
            obtain ⟨i, p4, n4, c4, rfl, rfl, hi, HR⟩ := hrel
            clear H3
            have hfl := fm3_len i
            obtain ⟨L4, hL4⟩ : ∃ L', L3 ++ (v19.take i).flatMap (fun n : Nat => lowBits (n : Int) 3) = L' := ⟨_, rfl⟩
            have hl4 : L4.length ≤ 137438953999 := by rw [← hL4, List.length_append]; omega
            rw [hL4] at HR
            by_cases hlt : i < 19
            case pos =>
              have hltI : (i : Int) < 19 := by omega
              have hnx := fm3 i hlt L3
              rw [hL4, v19_ref i hlt] at hnx
              have HNX := Lib.hid hnx
              clear hnx hfl hL4
              by_cases ho : i < 3
              · have hoI : (i : Int) < 3 := by omega
                have HP := Lib.hid (rbits_any 0 3 (by decide) (by decide) HR.out (by omega))
                have HN2 : Hid (L4 ++ lowBits ((0 : Nat) : Int) 3 = L3 ++ (v19.take (i + 1)).flatMap (fun n : Nat => lowBits (n : Int) 3)) := Lib.hid (by rw [HNX.out, if_pos ho])
                clear HR HNX ho
                go_wp2_with fail
                refine HP.out.mono ?_
                rintro e wq ⟨v1, rfl, hS1⟩
                rw [HN2.out] at hS1
                obtain ⟨p5, c5, e⟩ := hS1.form
                obtain ⟨n5, hn5⟩ : ∃ n5, (L3 ++ (v19.take (i + 1)).flatMap (fun n : Nat => lowBits (n : Int) 3)).length = n5 := ⟨_, rfl⟩
                rw [hn5] at e
                subst e
                have HQ := Lib.hid hS1
                clear hS1 HP hn5
                go_wp2_with fail
                exact ⟨⟨i + 1, _, _, _, by rw [Int.natCast_add]; rfl, rfl, hlt, HQ⟩, by simp only [intOf]; omega⟩
              · have hoI : ¬ (i : Int) < 3 := by omega
                have HP := Lib.hid (rbits_any 4 3 (by decide) (by decide) HR.out (by omega))
                have HN2 : Hid (L4 ++ lowBits ((4 : Nat) : Int) 3 = L3 ++ (v19.take (i + 1)).flatMap (fun n : Nat => lowBits (n : Int) 3)) := Lib.hid (by rw [HNX.out, if_neg ho])
                clear HR HNX ho
                go_wp2_with fail
                refine HP.out.mono ?_
                rintro e wq ⟨v1, rfl, hS1⟩
                rw [HN2.out] at hS1
                obtain ⟨p5, c5, e⟩ := hS1.form
                obtain ⟨n5, hn5⟩ : ∃ n5, (L3 ++ (v19.take (i + 1)).flatMap (fun n : Nat => lowBits (n : Int) 3)).length = n5 := ⟨_, rfl⟩
                rw [hn5] at e
                subst e
                have HQ := Lib.hid hS1
                clear hS1 HP hn5
                go_wp2_with fail
                exact ⟨⟨i + 1, _, _, _, by rw [Int.natCast_add]; rfl, rfl, hlt, HQ⟩, by simp only [intOf]; omega⟩
            case neg =>
              obtain rfl : i = 19 := by omega
              rw [show ((19 : Nat) : Int) = 19 from rfl]
              have HL4 : Hid (L ++ lowBits 29 5 ++ lowBits 29 5 ++ lowBits 15 4 ++ (lowBits 0 3 ++ lowBits 0 3 ++ lowBits 0 3 ++ (List.replicate 16 (lowBits 4 3)).flatten) = L4) := Lib.hid (by
                rw [← hL4, ← HL3.out, ← HL2.out, ← HL1.out]
                congr 1)
              have hAl : A.length = 286 := by rw [← HAB.out.1, useL_len]
              have hBl : B.length = 30 := by rw [← HAB.out.2, useE_len, useD_len]
              have HE1 := Lib.hid (refeven_row A (by omega) _ wr (HBK.out _ _ _ HR.out).1)
              clear hfl hL4 hlt hi HL3 HL2 HL1
              go_wp2_with fail
              refine HE1.out.mono ?_
              rintro e w5 ⟨vx, rfl, hx, m5, fx⟩
              have HR5 := Lib.hid (HR.out.mut m5)
              have HE2 := Lib.hid (refeven_row B (by omega) _ w5 (HBK.out _ _ _ HR5.out).2.1)
              have HX5 := Lib.hid (And.intro hx (And.intro m5 fx))
              clear hx m5 fx HE1
              obtain ⟨px, cx, rfl⟩ : ∃ p c, vx = .slice (some ⟨p, 0, none⟩) 286 c := by
                obtain ⟨g, c, e, -⟩ := row_some HX5.out.1 (by rw [toI_len, evenOf_length]; omega)
                rw [toI_len, evenOf_length, hAl] at e
                exact ⟨g, c, e⟩
              go_wp2_with fail
              refine HE2.out.mono ?_
              rintro e w6 ⟨vy, rfl, hy, m6, fy⟩
              obtain ⟨py, cy, rfl⟩ : ∃ p c, vy = .slice (some ⟨p, 0, none⟩) 30 c := by
                obtain ⟨g, c, e, -⟩ := row_some hy (by rw [toI_len, evenOf_length]; omega)
                rw [toI_len, evenOf_length, hBl] at e
                exact ⟨g, c, e⟩
              have hR6 := HR5.out.mut m6
              obtain ⟨X, hX⟩ : ∃ X, evenOf A = X := ⟨_, rfl⟩
              obtain ⟨Y, hY⟩ : ∃ Y, evenOf B = Y := ⟨_, rfl⟩
              have hXT : X = xOf T := by rw [← hX, ← HAB.out.1]; rfl
              have hYT : Y = yOf T := by rw [← hY, ← HAB.out.2]; rfl
              have hx6 := HX5.out.1.mut m6 (by simp)
              rw [hX] at hx6
              rw [hY] at hy
              obtain ⟨r6, hr6⟩ : ∃ r, (Value.slice p4 n4 c4).ownBlock = r := ⟨_, rfl⟩
              have hlt6 : ∀ g, r6 = some g → g < wr.heap.size := fun g hg => HR.out.row.lt (by rw [hr6, hg])
              have HK6 : Hid (DyK w6 r6 (.slice (some ⟨px, 0, none⟩) 286 cx) (.slice (some ⟨py, 0, none⟩) 30 cy) X Y (.slice pv T.length cv) T) := Lib.hid (by
                refine ⟨hx6, hy, (HBK.out _ _ _ hR6).2.2, fun g hg e => ?_, fun g hg e => ?_, fun g hg e => ?_⟩
                · have := hlt6 g e
                  have := HX5.out.2.2 g hg
                  omega
                · have := hlt6 g e
                  have := fy g hg
                  have := HX5.out.2.1.size
                  omega
                · exact own_ne hR6.row (HBK.out _ _ _ hR6).2.2 (by decide) g hg (by rw [hr6, e]))
              have HC6 : Hid (∀ w3 v3 L', RbS w6 r6 w3 v3 L' → RbS wc r w3 v3 L') := Lib.hid fun w3 v3 L' h => by
                rw [← hr6] at h
                exact (HR5.out.comp m6 h)
              have HS6 : Hid (RbS w6 r6 w6 (.slice p4 n4 c4) (L4 ++ (X.take 0).flatMap (fun n : Nat => highBits (n : Int) 4))) := Lib.hid (by
                rw [← hr6]
                simpa using RbS.start hR6.row)
              have HXY := Lib.hid (And.intro hXT hYT)
              have hXl : X.length = 286 := by rw [hXT]; exact (xy_len T).1
              have hYl : Y.length = 30 := by rw [hYT]; exact (xy_len T).2
              have H15 : Hid ((∀ n ∈ X, n ≤ 15) ∧ ∀ n ∈ Y, n ≤ 15) := Lib.hid (by rw [hXT, hYT]; exact xy_15 T)
              clear hXT hYT hX hY hx6 hy hR6 hr6 hlt6 m6 fy HX5 HR5 HE2 HR HBK HAB hAl hBl
              go_wp2_with fail
              have HXl := Lib.hid hXl
              have HYl := Lib.hid hYl
              clear hXl hYl
              go_loopw [16, 0] (fun c v wx => ∃ (i : Nat) (p : Option Addr) (n c' : Nat), c = .int .i64 (i : Int) ∧ v = .slice p n c' ∧ i ≤ 286 ∧ Hid (RbS w6 r6 wx (.slice p n c') (L4 ++ (X.take i).flatMap (fun n : Nat => highBits (n : Int) 4)))) (fun c _ _ => 286 - (intOf c).toNat)
              case atStart => exact ⟨0, _, _, _, rfl, rfl, by omega, HS6⟩
              case round =>
                obtain ⟨i, p7, n7, c7, rfl, rfl, hi, HR⟩ := hrel
                clear HS6
                have hfl := fm4_len X i
                rw [HXl.out] at hfl
                obtain ⟨L5, hL5⟩ : ∃ L', L4 ++ (X.take i).flatMap (fun n : Nat => highBits (n : Int) 4) = L' := ⟨_, rfl⟩
                have hlL5 : L5.length ≤ 137438956000 := by rw [← hL5, List.length_append]; omega
                rw [hL5] at HR
                by_cases hlt : i < 286
                case pos =>
                  have hltI : (i : Int) < 286 := by omega
                  have hnx := fm4 X i (by rw [HXl.out]; exact hlt) L4
                  rw [hL5] at hnx
                  have ci := (HK6.out.step HR.out.mu).x.cellN i (by rw [HXl.out]; exact hlt)
                  have hk15 : lenAt X i ≤ 15 := lenAt_15 _ H15.out.1 i
                  change L4 ++ (X.take (i + 1)).flatMap (fun n : Nat => highBits (n : Int) 4) = L5 ++ highBits ((lenAt X i : Nat) : Int) 4 at hnx
                  generalize lenAt X i = k at *
                  have HN2 := Lib.hid hnx.symm
                  have HP := Lib.hid (rcode_any k 4 (by omega) (by decide) HR.out (by omega))
                  clear hnx hfl hL5 HR
                  go_wp2_with fail
                  refine HP.out.mono ?_
                  rintro e wq ⟨v1, rfl, hS1⟩
                  rw [HN2.out] at hS1
                  obtain ⟨p5, c5, e⟩ := hS1.form
                  obtain ⟨n5, hn5⟩ : ∃ n5, (L4 ++ (X.take (i + 1)).flatMap (fun n : Nat => highBits (n : Int) 4)).length = n5 := ⟨_, rfl⟩
                  rw [hn5] at e
                  subst e
                  have HQ := Lib.hid hS1
                  clear hS1 HP hn5
                  go_wp2_with fail
                  exact ⟨⟨i + 1, _, _, _, by rw [Int.natCast_add]; rfl, rfl, hlt, HQ⟩, by simp only [intOf]; omega⟩
                case neg =>
                  obtain rfl : i = 286 := by omega
                  rw [show ((286 : Nat) : Int) = 286 from rfl]
                  rw [List.take_of_length_le (by rw [HXl.out]; exact Nat.le_refl _)] at hL5
                  have HL5 := Lib.hid hL5
                  have HS7 : Hid (RbS w6 r6 wr (.slice p7 n7 c7) (L5 ++ (Y.take 0).flatMap (fun n : Nat => highBits (n : Int) 4))) := Lib.hid (by simpa using HR.out)
                  clear hfl hL5 hlt hi HR
                  go_wp2_with fail
                  go_loopw [17, 0] (fun c v wx => ∃ (i : Nat) (p : Option Addr) (n c' : Nat), c = .int .i64 (i : Int) ∧ v = .slice p n c' ∧ i ≤ 30 ∧ Hid (RbS w6 r6 wx (.slice p n c') (L5 ++ (Y.take i).flatMap (fun n : Nat => highBits (n : Int) 4)))) (fun c _ _ => 30 - (intOf c).toNat)
                  case atStart => exact ⟨0, _, _, _, rfl, rfl, by omega, HS7⟩
                  case round =>
                    obtain ⟨i, p7, n7, c7, rfl, rfl, hi, HR⟩ := hrel
                    clear HS7
                    have hfl := fm4_len Y i
                    rw [HYl.out] at hfl
                    obtain ⟨L6, hL6⟩ : ∃ L', L5 ++ (Y.take i).flatMap (fun n : Nat => highBits (n : Int) 4) = L' := ⟨_, rfl⟩
                    have hlL6 : L6.length ≤ 137438958000 := by rw [← hL6, List.length_append]; omega
                    rw [hL6] at HR
                    by_cases hlt : i < 30
                    case pos =>
                      have hltI : (i : Int) < 30 := by omega
                      have hnx := fm4 Y i (by rw [HYl.out]; exact hlt) L5
                      rw [hL6] at hnx
                      have ci := (HK6.out.step HR.out.mu).y.cellN i (by rw [HYl.out]; exact hlt)
                      have hk15 : lenAt Y i ≤ 15 := lenAt_15 _ H15.out.2 i
                      change L5 ++ (Y.take (i + 1)).flatMap (fun n : Nat => highBits (n : Int) 4) = L6 ++ highBits ((lenAt Y i : Nat) : Int) 4 at hnx
                      generalize lenAt Y i = k at *
                      have HN2 := Lib.hid hnx.symm
                      have HP := Lib.hid (rcode_any k 4 (by omega) (by decide) HR.out (by omega))
                      clear hnx hfl hL6 HR
                      go_wp2_with fail
                      refine HP.out.mono ?_
                      rintro e wq ⟨v1, rfl, hS1⟩
                      rw [HN2.out] at hS1
                      obtain ⟨p5, c5, e⟩ := hS1.form
                      obtain ⟨n5, hn5⟩ : ∃ n5, (L5 ++ (Y.take (i + 1)).flatMap (fun n : Nat => highBits (n : Int) 4)).length = n5 := ⟨_, rfl⟩
                      rw [hn5] at e
                      subst e
                      have HQ := Lib.hid hS1
                      clear hS1 HP hn5
                      go_wp2_with fail
                      exact ⟨⟨i + 1, _, _, _, by rw [Int.natCast_add]; rfl, rfl, hlt, HQ⟩, by simp only [intOf]; omega⟩
                    case neg =>
                      obtain rfl : i = 30 := by omega
                      rw [show ((30 : Nat) : Int) = 30 from rfl]
                      rw [List.take_of_length_le (by rw [HYl.out]; exact Nat.le_refl _)] at hL6
                      have HL6 := Lib.hid hL6
                      have HK7 := Lib.hid (HK6.out.step HR.out.mu)
                      have nn1 := (good_even (useL T) (by rw [useL_len]; decide)).2
                      have nn2 := (good_even (useE (useD T)) (by rw [useE_len, useD_len]; decide)).2
                      change newErr (toI (xOf T)) = 0 at nn1
                      change newErr (toI (yOf T)) = 0 at nn2
                      rw [← HXY.out.1] at nn1
                      rw [← HXY.out.2] at nn2
                      have hlt6 : ∀ g, g < w6.heap.size → ∀ g', (Value.slice p7 n7 c7).ownBlock = some g' → r6 ≠ some g → g ≠ g' := fun g h1 g' h2 h3 e => by
                        rcases HR.out.fr g' h2 with h | h
                        · exact h3 (e ▸ h)
                        · omega
                      have HT7 : Hid (Calls Try.prog 42 #[.slice p7 n7 c7, .slice pv T.length cv, .slice (some ⟨px, 0, none⟩) 286 cx, .slice (some ⟨py, 0, none⟩) 30 cy] wr fun e w' => ∃ v', e = .returned v' ∧ RbS wr (Value.slice p7 n7 c7).ownBlock w' v' (L6 ++ toks X Y T)) := Lib.hid (
                        rtokens_any' X Y H15.out.1 H15.out.2 nn1 nn2 (by rw [HXl.out]; decide) (by rw [HYl.out]; decide) T hR HT.out hTl (by omega) HR.out.row HK7.out.t HK7.out.x HK7.out.y
                          (fun g hg e => hlt6 g (HK6.out.x.lt hg) g e (HK6.out.nx g hg) rfl) (fun g hg e => hlt6 g (HK6.out.y.lt hg) g e (HK6.out.ny g hg) rfl) (fun g hg e => hlt6 g (TRow.lt HK6.out.t hg) g e (HK6.out.nt g hg) rfl))
                      have HEND : Hid (∀ w3 v3 L', RbS wr (Value.slice p7 n7 c7).ownBlock w3 v3 L' → RbS w (Value.slice pb L.length cb).ownBlock w3 v3 L') := Lib.hid fun w3 v3 L' h => HFIN.out _ _ _ (HC6.out _ _ _ (HR.out.comp (Mut.refl _ _) h))
                      have HE6 : Hid (L6 = L ++ told4 (xOf T) (yOf T)) := Lib.hid (by
                        rw [← HL6.out, ← HL5.out, ← HL4.out, ← HXY.out.1, ← HXY.out.2]
                        unfold told4
                        simp only [List.append_assoc, List.flatMap_append])
                      clear nn1 nn2 hlt6 hfl hL6 hlt hi HR HK6 HK7
                      go_wp2_with fail
                      refine HT7.out.mono ?_
                      rintro e w8 ⟨v8, rfl, hS⟩
                      have HS8 := Lib.hid (HEND.out _ _ _ hS)
                      rw [HE6.out, HXY.out.1, HXY.out.2] at HS8
                      clear hS HT7 HEND
                      go_wp2_with fail
                      exact bodyPost_ret (results_tmp rfl _ _ _) rfl ⟨v8, rfl, HS8.out⟩

end Go.Proofs.Ytgjcnembeebjfaa
