/- Walk over package ferretref03: symbols. -/
import Derived.Test.YtgjcnembeebjfaaGzR2
import Derived.Test.YtgjcnembeebjfaaGHuf
import Derived.Test.YtgjcnembeebjfaaGIn1
import Derived.Test.YtgjcnembeebjfaaInfW6
import Derived.Deep.RegionWith
import Derived.BigQuiet
import Derived.Deep.DeepCutAuto
namespace Go.Proofs.Ytgjcnembeebjfaa
open Go.RowKit
set_option linter.unusedVariables false

/-- a row of numbers that stays, whatever is written into the blocks of S -/
def KRow (S : List Nat) (w : World) (p : Option Addr) (l : List Nat) : Prop :=
  ∀ w', Mut S w w' → ∀ i, i < l.length → ∃ a, p = some a ∧ w'.cell? (a.add i) = some (.int .i64 ((lenAt l i : Nat) : Int))

theorem KRow.mut {S : List Nat} {w w' : World} {p : Option Addr} {l : List Nat} (h : KRow S w p l) (m : Mut S w w') : KRow S w' p l := fun w2 m2 => h w2 (m.trans' m2)

theorem toI_len (l : List Nat) : (toI l).length = l.length := by simp [toI]
theorem toI_at (l : List Nat) (i : Nat) : (toI l).getD i 0 = ((lenAt l i : Nat) : Int) := by
  unfold toI lenAt
  by_cases h : i < l.length
  · simp [List.getD, h]
  · simp [List.getD, h]
theorem lens_toI (l : List Nat) : lensOf (toI l) = l := by
  unfold lensOf toI
  rw [List.map_map]
  conv => rhs; rw [← List.map_id l]
  exact List.map_congr_left fun x _ => by simp

/-- what comes of the symbols by the lengths l and d -/
def symR (l d : List Nat) (F : Nat) (s : ByteArray) (m : Nat) (st : US) : US :=
  if newErr (toI l) ≠ 0 then ⟨st.t, st.out, newErr (toI l)⟩ else if newErr (toI d) ≠ 0 then ⟨st.t, st.out, newErr (toI d)⟩ else (symbolsU l d F s m st).2

/-- the codes that New made: they stay too -/
theorem codes_stay {S : List Nat} {w : World} {l : List Nat} {v : Value} (h : IRow w v (codesI l)) (hn : ∀ g, v.ownBlock = some g → g ∉ S) :
    ∃ p c, v = .slice p l.length c ∧ ∀ w', Mut S w w' → ∀ i, i < l.length → ∃ a, p = some a ∧ w'.cell? (a.add i) = some (.int .i64 ((codeOf l i : Nat) : Int)) := by
  obtain ⟨p, c, e, -⟩ := h.read
  rw [codesI_length] at e
  refine ⟨p, c, e, fun w' m i hi => ?_⟩
  obtain ⟨p', c', e', h2⟩ := (h.mut m hn).read
  rw [e, codesI_length] at e'
  injection e' with e1 e2 e3
  subst e1
  obtain ⟨a, ha, hc⟩ := h2 w' (Mut.refl _ _) i (by rw [codesI_length]; exact hi)
  exact ⟨a, ha, by rw [hc, codesI_get l i hi]⟩

theorem row_own {w : World} {base : Nat} {e : TypeId} {k n : Nat} {v : Value} {xs : List Value} (h : w.ownsRow base e k v n xs) : ∀ g, v.ownBlock = some g → g < w.heap.size := by
  intro g hg
  rcases h.2 with ⟨rfl, _⟩ | ⟨b, cap, cur, rfl, _, hh, _⟩
  · simp [Value.ownBlock] at hg
  · simp only [Value.ownBlock, Option.some.injEq] at hg
    subst hg
    exact lt_of_heap hh

/-- what holds at the loop's head -/
def RSym (wl w0 : World) (b : Nat) (v : Value) (s : ByteArray) (m : Nat) (l d : List Nat) (st' : US) (w : World) : Prop :=
  ∃ (v1 : Value) (st : US) (k : Nat), SB w0 b s m v1 st w ∧ Mut (b :: v.ownBlock.toList) wl w ∧ (∀ g, v1.ownBlock = some g → v.ownBlock = some g ∨ wl.heap.size ≤ g) ∧ (symbolsU l d k s m st).2 = st' ∧ 8 * s.size - st.t < k ∧ st.er = 0 ∧ st.t ≤ 8 * s.size ∧ st.out.length ≤ m

set_option maxHeartbeats 3200000 in
set_option maxRecDepth 100000 in
theorem rsymbols_any (w0 : World) (b : Nat) (s : ByteArray) (m : Nat) (v : Value) (t : Nat) (out : List Nat) (l d : List Nat) (F : Nat) (p1 p2 : Option Addr) (k1 k2 : Nat) (hs : s.size ≤ 1099511627776) (ht : t ≤ 8 * s.size) (hm : m ≤ 9223372036854775807) (hout : out.length ≤ m) (hB : (symR l d F s m ⟨t, out, 0⟩).out.length ≤ 1099511627776)
    (hl : l.length ≤ 1024) (hd : d.length ≤ 1024) (hF : 8 * s.size < F) (w : World) (h : SB w0 b s m v ⟨t, out, 0⟩ w) (hr1 : KRow (b :: v.ownBlock.toList) w p1 l) (hr2 : KRow (b :: v.ownBlock.toList) w p2 d) :
    Calls Try.prog 53 #[.pointer (some ⟨b, 0, none⟩), .slice p1 l.length k1, .slice p2 d.length k2] w fun e w' => e = .returned (.tuple #[]) ∧ ∃ v', SB w0 b s m v' (symR l d F s m ⟨t, out, 0⟩) w' := by
  have HN1 : Hid (∀ W, Mut [] w W → Calls Try.prog 64 #[.slice p1 l.length k1] W fun e w' => ((newErr (toI l) ≠ 0 ∧ e = .returned (.tuple #[.slice none 0 0, .int .i64 (newErr (toI l) : Nat)])) ∨
      (newErr (toI l) = 0 ∧ ∃ v, e = .returned (.tuple #[v, .int .i64 0]) ∧ IRow w' v (codesI l) ∧ ∀ g, v.ownBlock = some g → W.heap.size ≤ g)) ∧ Mut [] W w') := Lib.hid fun W hW => by
    have q := refnew_any (toI l) (by rw [toI_len]; omega) p1 k1 W (fun w' hm i hi => by
      rw [toI_len] at hi
      obtain ⟨a, e1, e2⟩ := hr1 w' ((hW.trans' hm).mono (by simp)) i hi
      exact ⟨a, e1, by rw [e2, toI_at]⟩)
    rw [toI_len, lens_toI] at q
    exact q
  have HN2 : Hid (∀ W, Mut [] w W → Calls Try.prog 64 #[.slice p2 d.length k2] W fun e w' => ((newErr (toI d) ≠ 0 ∧ e = .returned (.tuple #[.slice none 0 0, .int .i64 (newErr (toI d) : Nat)])) ∨
      (newErr (toI d) = 0 ∧ ∃ v, e = .returned (.tuple #[v, .int .i64 0]) ∧ IRow w' v (codesI d) ∧ ∀ g, v.ownBlock = some g → W.heap.size ≤ g)) ∧ Mut [] W w') := Lib.hid fun W hW => by
    have q := refnew_any (toI d) (by rw [toI_len]; omega) p2 k2 W (fun w' hm i hi => by
      rw [toI_len] at hi
      obtain ⟨a, e1, e2⟩ := hr2 w' ((hW.trans' hm).mono (by simp)) i hi
      exact ⟨a, e1, by rw [e2, toI_at]⟩)
    rw [toI_len, lens_toI] at q
    exact q
  have HR1 := Lib.hid hr1
  have HR2 := Lib.hid hr2
  have HSB := Lib.hid h
  have HG1 : Hid (newErr (toI l) = 0 → Good l) := Lib.hid fun h => by have := good_new _ h; rwa [lens_toI] at this
  have HG2 : Hid (newErr (toI d) = 0 → Good d) := Lib.hid fun h => by have := good_new _ h; rwa [lens_toI] at this
  have HSR : Hid (symR l d F s m ⟨t, out, 0⟩ = if newErr (toI l) ≠ 0 then ⟨t, out, newErr (toI l)⟩ else if newErr (toI d) ≠ 0 then ⟨t, out, newErr (toI d)⟩ else (symbolsU l d F s m ⟨t, out, 0⟩).2) := Lib.hid rfl
  clear hr1 hr2 h
  generalize symR l d F s m ⟨t, out, 0⟩ = SR at *
  generalize newErr (toI l) = E1 at *
  generalize newErr (toI d) = E2 at *
  have HQ : Hid (∀ W, Mut [] w W → SB w0 b s m v ⟨t, out, 0⟩ W) := Lib.hid fun W hW => HSB.out.mut hW
  go_enter Try.func53, Try.ntmps53
  go_wp2_with fail
  refine (HN1.out w (Mut.refl _ _)).mono ?_
  rintro e w1 ⟨hc, hm1⟩
  have HM1 := Lib.hid hm1
  clear hm1
  rcases hc with ⟨hE, rfl⟩ | ⟨hE, vl, rfl, hvl, hfl⟩
  · have hI : ((E1 : Int) == 0) = false := by rw [beq_eq_false_iff_ne]; omega
    have hI' : ((E1 : Int) != 0) = true := by simp [bne, hI]
    obtain ⟨c0, c1, c2, c3, c4, f1, f2, f4⟩ := (HQ.out w1 HM1.out).cells
    have HE := Lib.hid ((HQ.out w1 HM1.out).setEr (E1 : Int) (er' := E1) rfl)
    have hr := HSR.out
    rw [if_pos hE] at hr
    have HR := Lib.hid hr
    clear hr HSR
    go_wp2_with fail
    refine bodyPost_ret (results_none rfl _ _ _) rfl ⟨rfl, v, ?_⟩
    rw [HR.out]
    exact HE.out
  · subst hE
    have HVL := Lib.hid hvl
    have HFL := Lib.hid hfl
    have HG := Lib.hid (HG1.out rfl)
    have hr := HSR.out
    rw [if_neg (by simp)] at hr
    have HSR := Lib.hid hr
    clear hr hvl hfl HG1 HN1
    go_wp2_with fail
    refine (HN2.out w1 HM1.out).mono ?_
    rintro e w2 ⟨hc, hm2⟩
    have HM2 := Lib.hid (HM1.out.trans' hm2)
    have HM12 := Lib.hid hm2
    clear hm2
    rcases hc with ⟨hE, rfl⟩ | ⟨hE, vd0, rfl, hvd, hfd⟩
    · have hI : ((E2 : Int) == 0) = false := by rw [beq_eq_false_iff_ne]; omega
      have hI' : ((E2 : Int) != 0) = true := by simp [bne, hI]
      obtain ⟨c0, c1, c2, c3, c4, f1, f2, f4⟩ := (HQ.out w2 HM2.out).cells
      have HE := Lib.hid ((HQ.out w2 HM2.out).setEr (E2 : Int) (er' := E2) rfl)
      have hr := HSR.out
      rw [if_pos hE] at hr
      have HR := Lib.hid hr
      clear hr HSR
      go_wp2_with fail
      refine bodyPost_ret (results_none rfl _ _ _) rfl ⟨rfl, v, ?_⟩
      rw [HR.out]
      exact HE.out
    · subst hE
      have HGD := Lib.hid (HG2.out rfl)
      have hr := HSR.out
      rw [if_neg (by simp)] at hr
      have HSR := Lib.hid hr
      clear hr hvd hfd HG2
      go_wp2_with fail
      refine (HN2.out w2 HM2.out).mono ?_
      rintro e w3 ⟨hc, hm3⟩
      rcases hc with ⟨hE, rfl⟩ | ⟨-, vd, rfl, hvd, hfd⟩
      · exact absurd rfl hE
      have HM3 := Lib.hid (HM2.out.trans' hm3)
      have hbw : b < w.heap.size := lt_of_heap HSB.out.bx
      have hvw := row_own HSB.out.ob.row
      have hnb : ∀ (g : Nat), w.heap.size ≤ g → g ∉ b :: v.ownBlock.toList := by
        intro g hg hx
        simp only [List.mem_cons, Option.mem_toList] at hx
        rcases hx with rfl | hx
        · omega
        · have := hvw g hx; omega
      obtain ⟨q1, j1, rfl, hk1⟩ := codes_stay (S := b :: v.ownBlock.toList) (HVL.out.mut (HM12.out.trans' hm3) (by simp)) (fun g hg => hnb g (HFL.out g hg))
      obtain ⟨q2, j2, rfl, hk2⟩ := codes_stay (S := b :: v.ownBlock.toList) hvd (fun g hg => hnb g (by have := hfd g hg; have := HM2.out.size; omega))
      have HK1 := Lib.hid hk1
      have HK2 := Lib.hid hk2
      have HS3 := Lib.hid (HSB.out.mut HM3.out)
      have HRL : Hid (KRow (b :: v.ownBlock.toList) w3 p1 l) := Lib.hid (HR1.out.mut (HM3.out.mono (by simp)))
      have HRD : Hid (KRow (b :: v.ownBlock.toList) w3 p2 d) := Lib.hid (HR2.out.mut (HM3.out.mono (by simp)))
      have HC : Hid (RSym w3 w0 b v s m l d SR w3) := Lib.hid ⟨v, ⟨t, out, 0⟩, F, HS3.out, Mut.refl _ _, fun g hg => .inl hg, HSR.out.symm, by simp only; omega, rfl, ht, hout⟩
      clear hm3 hbw hvw hnb hk1 hk2 hvd hfd HVL HFL HM12 HM1 HM2 HM3 HR1 HR2 HSB HS3 HQ HN2 HSR ht hout hF
      clear HSR
      go_wp2_with fail
      go_loopw [] (fun wx => Hid (RSym w3 w0 b v s m l d SR wx)) (fun wx => 8 * s.size - (intOf ((wx.cell? ⟨b, 1, none⟩).getD undef)).toNat)
      case atStart => exact HC
      case round =>
        clear HC HSR
        obtain ⟨v1, st1, k, hS, hM, hV, hf, hk, he, ht, hout⟩ := hrel.out
        clear hrel
        obtain ⟨⟨sym, st2⟩, hn⟩ : ∃ p, nextU l s m st1 = p := ⟨_, rfl⟩
        obtain ⟨k', rfl⟩ : ∃ k', k = k' + 1 := ⟨k - 1, by omega⟩
        obtain ⟨x1, x2, x3⟩ := symbols_step l d k' s m st1 st2 sym hn
        rw [hf] at x1 x2 x3
        have HN := Lib.hid (rnext3_any w0 b s m v1 st1 l HG.out hl p1 q1 k1 j1 hs ht wr hS (fun w' hm => HRL.out w' (hM.trans' (hm.mono (by simp)))) (fun w' hm => HK1.out w' (hM.trans' (hm.mono (by simp)))))
        rw [hn] at HN
        have HMO : Hid (st2.er = 0 → st1.t < st2.t) := Lib.hid (next_more hn)
        have hno := next_out hn
        have hin := nx_inside HG.out hn ht
        have ho2 : st2.out.length ≤ m := by rw [hno]; exact hout
        have hB2 : st2.out.length ≤ 1099511627776 := by
          obtain ⟨lg, hlg⟩ := (symbols_nice l d HG.out HGD.out (k' + 1)).grow s m st1
          rw [hf] at hlg
          have hx1 := congrArg List.length hlg
          rw [List.length_append] at hx1
          rw [hno]
          omega
        have HWT : Hid (intOf ((wr.cell? ⟨b, 1, none⟩).getD undef) = (st1.t : Int)) := Lib.hid (by
          have h1 : wr.cell? ⟨b, 1, none⟩ = some (.int .i64 (st1.t : Int)) := hS.cells.2.1
          rw [h1]; rfl)
        have Q1 := Lib.hid x1
        have Q2 := Lib.hid x2
        have Q3 := Lib.hid x3
        have HK := Lib.hid hk
        have HM := Lib.hid hM
        have HV := Lib.hid hV
        clear hS hM hV hf hk he ht hout hn x1 x2 x3 hno
        go_wp2_with fail
        refine HN.out.mono ?_
        rintro e w4 ⟨rfl, hu, hm2⟩
        have HU2 := Lib.hid hu
        have HM2 := Lib.hid (HM.out.trans' (hm2.mono (by simp)))
        clear hu hm2 HN HM
        by_cases he2 : st2.er = 0
        case neg =>
          obtain ⟨c0, c1, c2, c3, c4, f1, f2, f4⟩ := HU2.out.cells
          have hI : ((st2.er : Int) == 0) = false := by rw [beq_eq_false_iff_ne]; omega
          have hI' : ((st2.er : Int) != 0) = true := by simp [bne, hI]
          have HE := Lib.hid (Q1.out he2)
          clear Q1 Q2 Q3
          go_wp2_with fail
          refine bodyPost_ret (results_none rfl _ _ _) rfl ⟨rfl, v1, ?_⟩
          rw [HE.out]
          exact HU2.out
        case pos =>
          obtain ⟨t2, o2, er2⟩ := st2
          simp only at he2 hin ho2 hB2
          subst he2
          obtain ⟨c0, c1, c2, c3, c4, f1, f2, f4⟩ := HU2.out.cells
          simp only at c1 c4
          by_cases h256 : sym = 256
          case pos =>
            have hI : ((sym : Int) == 256) = true := by rw [beq_iff_eq]; omega
            have HE := Lib.hid (Q2.out h256)
            clear Q1 Q2 Q3 h256
            go_wp2_with fail
            refine bodyPost_ret (results_none rfl _ _ _) rfl ⟨rfl, v1, ?_⟩
            rw [HE.out]
            exact HU2.out
          case neg =>
            have hI : ((sym : Int) == 256) = false := by rw [beq_eq_false_iff_ne]; omega
            have HLT := Lib.hid (HMO.out rfl)
            obtain ⟨x1, x2⟩ := Q3.out rfl h256
            have R1 := Lib.hid x1
            have R2 := Lib.hid x2
            clear x1 x2 Q1 Q2 Q3 HMO
            by_cases hlit : sym < 256
            case pos =>
              have hlI : (sym : Int) < 256 := by omega
              obtain ⟨pv, qv, hvv⟩ := HU2.out.ob.form
              rw [hvv] at c2
              have HVV := Lib.hid hvv
              clear hvv
              by_cases hfull : m ≤ o2.length
              case pos =>
                have hfI : (m : Int) ≤ (o2.length : Int) := by omega
                have e1 : (symbolU sym d s m ⟨t2, o2, 0⟩).2 = ⟨t2, o2, 2⟩ := by
                  unfold symbolU
                  rw [if_neg (by omega)]
                  simp only [UM.bind, longU, failU, decide_eq_true (show m < o2.length + 1 by omega)]
                  rfl
                have hE := R1.out
                rw [e1] at hE
                have HE := Lib.hid (hE (by simp))
                clear hE e1 R1 R2
                go_wp2_with fail
                go_quiet (fail)
                have HQ := Lib.hid ((HU2.out.mut ((Mut.refl [] w4).drewN nq)).setEr 2 (er' := 2) rfl)
                go_wp2_with fail
                refine bodyPost_ret (results_none rfl _ _ _) rfl ⟨rfl, v1, ?_⟩
                rw [HE.out]
                exact HQ.out
              case neg =>
                have hfI : ¬ (m : Int) ≤ (o2.length : Int) := by omega
                go_wp2_with fail
                go_quiet (fail)
                have HU3 := Lib.hid (HU2.out.mut ((Mut.refl [] w4).drewN nq))
                have HM3 := Lib.hid (HM2.out.drewN nq)
                clear c0 c1 c2 c3 c4 f1 f2 f4 HU2 HM2
                generalize w4.drewN nq = w4 at *
                obtain ⟨c0, c1, c2, c3, c4, f1, f2, f4⟩ := HU3.out.cells
                simp only at c1 c4
                rw [HVV.out] at c2
                have hwS : IntKind.u8.wrap (sym : Int) = (sym : Int) := IntWalk.u8_in _ (by omega)
                have hrow : w4.ownsRow 0 5 1 v1 o2.length (uC o2) := HU3.out.ob.row
                rw [HVV.out] at hrow
                obtain ⟨i0, hi0, hz0, hz1, hz2⟩ := info_parts info_u8f
                go_wp2_with (at_builtin; refine wp_app rfl (.tmp 74) (.tmp 77) 54 54 rfl 5 i0 (.int .u8 0) 1 1 Try.underlying54 hi0 hz0 hz1 hz2 rfl (hrow.alloc _) rfl (src1 Try.underlying54 (heap_alloc_new _ _) rfl (one1 rfl)) rfl ?b1 ?b2 ?_)
                case b1 => unfold maxLen; omega
                case b2 => omega
                intro v2 w5 hr5 hg5 hf5
                obtain ⟨ap, ac, rfl⟩ := row_form hr5
                rw [← HVV.out] at hg5 hf5
                have hsz : (w4.alloc (.cells #[.int .u8 (sym : Int)] 5 (0, 0))).heap.size = w4.heap.size + 1 := by simp
                have hf5 : ∀ (g : Nat), (Value.slice ap (o2.length + 1) ac).ownBlock = some g → v1.ownBlock = some g ∨ (w4.alloc (.cells #[.int .u8 (sym : Int)] 5 (0, 0))).heap.size ≤ g := by rw [hsz]; exact hf5
                have HSa := Lib.hid (HU3.out.mut ((Mut.refl [] w4).alloc (.cells #[.int .u8 (sym : Int)] 5 (0, 0))))
                have hmg := (Mut.refl v1.ownBlock.toList (w4.alloc (.cells #[.int .u8 (sym : Int)] 5 (0, 0)))).grown hg5 (fun k hk => .inl (by simp [hk]))
                have hbx5 := hmg.get HSa.out.bx (fun hx => HSa.out.ne (by simpa using hx))
                have k2 := cellOf hbx5 2 (x := v1) rfl
                have kf := frozenOf hbx5 2
                have HQ := Lib.hid (HSa.out.setOut (M := [sym]) hr5 hg5 hf5)
                have HM5 : Hid (Mut (b :: v.ownBlock.toList) w3 (w5.setCell ⟨b, 2, none⟩ (.slice ap (o2.length + 1) ac))) := Lib.hid (((HM3.out.alloc (.cells #[.int .u8 (sym : Int)] 5 (0, 0))).grown hg5 (fun k hk => (HV.out k hk).imp (fun h => by simp [h]) id)).setCell (.inl (by simp)) _)
                have HV5 : Hid (∀ g, (Value.slice ap (o2.length + 1) ac).ownBlock = some g → v.ownBlock = some g ∨ w3.heap.size ≤ g) := Lib.hid fun g hg => by
                  rcases hf5 g hg with h | h
                  · exact HV.out g h
                  · have h1 := (HM3.out.alloc (.cells #[.int .u8 (sym : Int)] 5 (0, 0))).size
                    exact .inr (by omega)
                have e1 : (symbolU sym d s m ⟨t2, o2, 0⟩).2 = ⟨t2, o2 ++ [sym], 0⟩ := by
                  unfold symbolU
                  rw [if_neg (by omega)]
                  simp only [UM.bind, longU, failU, decide_eq_false (show ¬ m < o2.length + 1 by omega)]
                  rfl
                have hE := R2.out
                rw [e1] at hE
                have HE := Lib.hid (hE rfl).symm
                have hlen6 : (o2 ++ [sym]).length ≤ m := by rw [List.length_append]; simp only [List.length_singleton]; omega
                clear hE e1 R1 R2 hrow hsz hi0 hz0 hz1 hz2 hr5 hg5 hf5 hmg hbx5 HSa HU3 HM3 c0 c1 c2 c3 c4 f1 f2 f4
                go_wp2_with fail
                refine ⟨Lib.hid ⟨_, ⟨t2, o2 ++ [sym], 0⟩, k', HQ.out, HM5.out, HV5.out, HE.out, ?_, rfl, hin, hlen6⟩, ?_⟩
                · have := HK.out; have := HLT.out; simp only; omega
                · have h1 := HQ.out.cells.2.1
                  simp only at h1
                  rw [h1, HWT.out]
                  have := HLT.out
                  simp only [Option.getD_some, intOf]
                  omega
            case neg =>
              have hlI : ¬ (sym : Int) < 256 := by omega
              by_cases hbad : 285 < sym
              case pos =>
                have e1 : (symbolU sym d s m ⟨t2, o2, 0⟩).2 = ⟨t2, o2, 5⟩ := by
                  unfold symbolU copiedU
                  rw [if_pos (by omega), if_neg (by omega)]
                  simp [UM.bind, failU, UM.ret]
                have hE := R1.out
                rw [e1] at hE
                have HE := Lib.hid (hE (by simp))
                have HL := Lib.hid (rlength_bad (sym : Int) w4 (.inr (by omega)))
                clear hE e1 R1 R2
                have HQ := Lib.hid (HU2.out.setEr 5 (er' := 5) rfl)
                go_wp2_with fail
                refine HL.out.mono ?_
                rintro e w5 ⟨rfl, rfl⟩
                go_wp2_with fail
                refine bodyPost_ret (results_none rfl _ _ _) rfl ⟨rfl, v1, ?_⟩
                rw [HE.out]
                exact HQ.out
              case neg =>
                have h257 : 257 ≤ sym := by omega
                have h285 : sym ≤ 285 := by omega
                have hsy : symbolU sym d s m ⟨t2, o2, 0⟩ = copiedU sym d s m ⟨t2, o2, 0⟩ := by unfold symbolU; rw [if_pos (by omega)]
                rw [hsy] at R1 R2
                obtain ⟨⟨x, st3⟩, hx⟩ : ∃ p, takeU (lenR sym).2 s m ⟨t2, o2, 0⟩ = p := ⟨_, rfl⟩
                obtain ⟨⟨y, st4⟩, hy⟩ : ∃ p, nextU d s m st3 = p := ⟨_, rfl⟩
                obtain ⟨x1, x2, x3⟩ := copied_cases sym d s m ⟨t2, o2, 0⟩ st3 st4 x y h257 h285 hx hy
                have hI3 := (copied_nice sym d HGD.out).inside s m ⟨t2, o2, 0⟩ hin
                have hM3 := (copied_nice sym d HGD.out).most s m ⟨t2, o2, 0⟩ ho2
                have hF3 := (copied_nice sym d HGD.out).fwd s m ⟨t2, o2, 0⟩
                obtain ⟨stc, hstc⟩ : ∃ q, (copiedU sym d s m ⟨t2, o2, 0⟩).2 = q := ⟨_, rfl⟩
                rw [hstc] at R1 R2 x1 x2 x3 hI3 hM3 hF3
                have hls := lenR_small sym (by omega) h257
                have hxl := take_lt hx
                have hp5 : (2 : Nat) ^ (lenR sym).2 ≤ 2 ^ 5 := Nat.pow_le_pow_right (by decide) hls.2
                have ht3 := tk_inside hx hin
                have ht4 := nx_inside HGD.out hy ht3
                have hyo := next_out hy
                have HL := Lib.hid (rlength_good sym w4 h257 h285)
                have HX := Lib.hid (rtake_any w0 b s m v1 ⟨t2, o2, 0⟩ (lenR sym).2 (by omega) hs hin w4 HU2.out)
                rw [hx] at HX
                have HNY : Hid (∀ W, SB w0 b s m v1 st3 W → Mut [b] w4 W → Calls Try.prog 76 #[.pointer (some ⟨b, 0, none⟩), .slice p2 d.length k2, .slice q2 d.length j2] W fun e w' => e = .returned (.int .i64 ((y : Nat) : Int)) ∧ SB w0 b s m v1 st4 w' ∧ Mut [b] W w') := Lib.hid fun W hW hm => by
                  have q := rnext3_any w0 b s m v1 st3 d HGD.out hd p2 q2 k2 j2 hs ht3 W hW (fun w' hm' => HRD.out w' (HM2.out.trans' ((hm.trans' (hm'.mono (by simp))).mono (by simp)))) (fun w' hm' => HK2.out w' (HM2.out.trans' ((hm.trans' (hm'.mono (by simp))).mono (by simp))))
                  rw [hy] at q
                  exact q
                obtain ⟨L, hL⟩ : ∃ L, (lenR sym).1 = L := ⟨_, rfl⟩
                obtain ⟨B, hB⟩ : ∃ B, (lenR sym).2 = B := ⟨_, rfl⟩
                rw [hL, hB] at HL
                rw [hB] at HX
                rw [hL] at x3 hls
                have hx5 : x < 32 := by omega
                have hout4 : st4.out.length ≤ m := by rw [hyo, hxl.2.1]; exact ho2
                have hB4 : st4.out.length ≤ 1099511627776 := by rw [hyo, hxl.2.1]; exact hB2
                have X1 := Lib.hid x1
                have X2 := Lib.hid x2
                have X3 := Lib.hid x3
                have HI3 := Lib.hid hI3
                have HMO3 := Lib.hid hM3
                have HF3 := Lib.hid hF3
                clear x1 x2 x3 hI3 hM3 hF3 hx hy hstc hsy hyo hp5 hxl hL hB ht3
                go_wp2_with fail
                refine HL.out.mono ?_
                rintro e w5 ⟨rfl, rfl⟩
                go_wp2_with fail
                refine HX.out.mono ?_
                rintro e w5 ⟨rfl, hu, hm⟩
                have HU5 := Lib.hid hu
                have HM5 := Lib.hid hm
                clear hu hm HX HL
                go_wp2_with fail
                refine (HNY.out w5 HU5.out HM5.out).mono ?_
                rintro e w6 ⟨rfl, hu, hm⟩
                have HU6 := Lib.hid hu
                have HM6 := Lib.hid (HM2.out.trans' ((HM5.out.trans' hm).mono (by simp)))
                clear hu hm HNY HU5 HM5 HU2 HM2 c0 c1 c2 c3 c4 f1 f2 f4
                by_cases he4 : st4.er = 0
                case neg =>
                  obtain ⟨c0, c1, c2, c3, c4, f1, f2, f4⟩ := HU6.out.cells
                  have hI : ((st4.er : Int) == 0) = false := by rw [beq_eq_false_iff_ne]; omega
                  have hI' : ((st4.er : Int) != 0) = true := by simp [bne, hI]
                  have e2 := (X1.out he4).2
                  have HE := Lib.hid ((R1.out (by rw [e2]; exact he4)).trans e2)
                  clear R1 R2 X1 X2 X3 e2
                  go_wp2_with fail
                  refine bodyPost_ret (results_none rfl _ _ _) rfl ⟨rfl, v1, ?_⟩
                  rw [HE.out]
                  exact HU6.out
                case pos =>
                  obtain ⟨t4, o4, er4⟩ := st4
                  simp only at he4 hout4 hB4 ht4
                  subst he4
                  obtain ⟨c0, c1, c2, c3, c4, f1, f2, f4⟩ := HU6.out.cells
                  simp only at c1 c4
                  by_cases hy29 : 29 < y
                  case pos =>
                    have e2 := X2.out rfl hy29
                    have HD := Lib.hid (rdistance_bad (y : Int) w6 (.inr (by omega)))
                    have HQ := Lib.hid (HU6.out.setEr 5 (er' := 5) rfl)
                    have HE := Lib.hid ((R1.out (by rw [e2]; simp)).trans e2)
                    clear R1 R2 X1 X2 X3 e2
                    go_wp2_with fail
                    refine HD.out.mono ?_
                    rintro e w7 ⟨rfl, rfl⟩
                    go_wp2_with fail
                    refine bodyPost_ret (results_none rfl _ _ _) rfl ⟨rfl, v1, ?_⟩
                    rw [HE.out]
                    exact HQ.out
                  case neg =>
                    have hdr := distR_small y (by omega)
                    obtain ⟨⟨z, st5⟩, hz⟩ : ∃ p, takeU (distR y).2 s m ⟨t4, o4, 0⟩ = p := ⟨_, rfl⟩
                    have k3 := X3.out (by omega) z st5 hz
                    have hzl := take_lt hz
                    have hp14 : (2 : Nat) ^ (distR y).2 ≤ 2 ^ 14 := Nat.pow_le_pow_right (by decide) hdr.2
                    have HD := Lib.hid (rdistance_good y w6 (by omega))
                    have HZ := Lib.hid (rtake_any w0 b s m v1 ⟨t4, o4, 0⟩ (distR y).2 (by omega) hs ht4 w6 HU6.out)
                    rw [hz] at HZ
                    have hd1 : 1 ≤ (distR y).1 := by unfold distR; split <;> simp
                    have hout5 : st5.out.length ≤ m := by rw [hzl.2.1]; exact hout4
                    have hB5 : st5.out.length ≤ 1099511627776 := by rw [hzl.2.1]; exact hB4
                    obtain ⟨D, hD⟩ : ∃ D, (distR y).1 = D := ⟨_, rfl⟩
                    obtain ⟨C, hC⟩ : ∃ C, (distR y).2 = C := ⟨_, rfl⟩
                    rw [hD, hC] at HD
                    rw [hC] at HZ
                    rw [hD] at k3 hdr hd1
                    have hz14 : z < 16384 := by omega
                    have K3 := Lib.hid k3
                    clear k3 hz hzl hp14 hD hC X1 X2 X3 hout4 ht4 hy29
                    go_wp2_with fail
                    refine HD.out.mono ?_
                    rintro e w7 ⟨rfl, rfl⟩
                    go_wp2_with fail
                    refine HZ.out.mono ?_
                    rintro e w7 ⟨rfl, hu, hm⟩
                    have HU7 := Lib.hid hu
                    have HM7 := Lib.hid (HM6.out.trans' (hm.mono (by simp)))
                    clear hu hm HZ HD HU6 HM6 c0 c1 c2 c3 c4 f1 f2 f4
                    obtain ⟨F', hF'⟩ : ∃ F', D + z = F' := ⟨_, rfl⟩
                    obtain ⟨N, hN⟩ : ∃ N, L + x = N := ⟨_, rfl⟩
                    have hFI : (D : Int) + (z : Int) = (F' : Int) := by omega
                    have hNI : (L : Int) + (x : Int) = (N : Int) := by omega
                    have hF1 : 1 ≤ F' ∧ F' ≤ 65536 := by omega
                    have hN1 : N ≤ 65536 := by omega
                    rw [hF', hN] at K3
                    by_cases he5 : st5.er = 0
                    case neg =>
                      obtain ⟨c0, c1, c2, c3, c4, f1, f2, f4⟩ := HU7.out.cells
                      have hI : ((st5.er : Int) == 0) = false := by rw [beq_eq_false_iff_ne]; omega
                      have hI' : ((st5.er : Int) != 0) = true := by simp [bne, hI]
                      have e2 : stc = st5 := by
                        rw [K3.out]
                        unfold copyRest
                        simp only [UM.bind]
                        rw [show farU F' s m st5 = (true, st5) by unfold farU failU; rw [if_pos he5]]
                        rfl
                      have HE := Lib.hid ((R1.out (by rw [e2]; exact he5)).trans e2)
                      clear R1 R2 K3 e2
                      go_wp2_with fail
                      refine bodyPost_ret (results_none rfl _ _ _) rfl ⟨rfl, v1, ?_⟩
                      rw [HE.out]
                      exact HU7.out
                    case pos =>
                      obtain ⟨t5, o5, er5⟩ := st5
                      simp only at he5 hout5 hB5
                      subst he5
                      obtain ⟨c0, c1, c2, c3, c4, f1, f2, f4⟩ := HU7.out.cells
                      simp only at c1 c4
                      obtain ⟨pv, qv, hvv⟩ := HU7.out.ob.form
                      rw [hvv] at c2
                      have HVV := Lib.hid hvv
                      clear hvv
                      by_cases hfar : o5.length < F'
                      case pos =>
                        have hfI : (o5.length : Int) < (F' : Int) := by omega
                        have e2 : stc = ⟨t5, o5, 9⟩ := by
                          rw [K3.out]
                          unfold copyRest
                          simp only [UM.bind]
                          rw [show farU F' s m ⟨t5, o5, 0⟩ = (true, ⟨t5, o5, 9⟩) by unfold farU failU; rw [if_neg (by simp), decide_eq_true hfar]; rfl]
                          rfl
                        have HE := Lib.hid ((R1.out (by rw [e2]; simp)).trans e2)
                        clear R1 R2 K3 e2
                        have HQ := Lib.hid (HU7.out.setEr 9 (er' := 9) rfl)
                        go_wp2_with fail
                        refine bodyPost_ret (results_none rfl _ _ _) rfl ⟨rfl, v1, ?_⟩
                        rw [HE.out]
                        exact HQ.out
                      case neg =>
                        have hfI : ¬ (o5.length : Int) < (F' : Int) := by omega
                        have e1 : copyRest N F' s m ⟨t5, o5, 0⟩ = ((longU N).bind fun b => if b = true then UM.ret () else copyU F' N) s m ⟨t5, o5, 0⟩ := by
                          unfold copyRest
                          simp only [UM.bind]
                          rw [show farU F' s m ⟨t5, o5, 0⟩ = (false, ⟨t5, o5, 0⟩) by unfold farU failU; rw [if_neg (by simp), decide_eq_false hfar]; rfl]
                          rfl
                        rw [e1] at K3
                        clear e1
                        by_cases hlong : m < o5.length + N
                        case pos =>
                          have hlI : (m : Int) - (o5.length : Int) < (N : Int) := by omega
                          have e2 : stc = ⟨t5, o5, 2⟩ := by
                            rw [K3.out]
                            simp only [UM.bind]
                            rw [show longU N s m ⟨t5, o5, 0⟩ = (true, ⟨t5, o5, 2⟩) by unfold longU failU; rw [if_neg (by simp), decide_eq_true hlong]; rfl]
                            rfl
                          have HE := Lib.hid ((R1.out (by rw [e2]; simp)).trans e2)
                          clear R1 R2 K3 e2
                          go_wp2_with fail
                          go_quiet (fail)
                          have HU8 := Lib.hid (HU7.out.mut ((Mut.refl [] w7).drewN nq))
                          clear c0 c1 c2 c3 c4 f1 f2 f4 HU7
                          generalize w7.drewN nq = w8 at *
                          obtain ⟨c0, c1, c2, c3, c4, f1, f2, f4⟩ := HU8.out.cells
                          simp only at c1 c4
                          rw [HVV.out] at c2
                          have HQ := Lib.hid (HU8.out.setEr 2 (er' := 2) rfl)
                          go_wp2_with fail
                          refine bodyPost_ret (results_none rfl _ _ _) rfl ⟨rfl, v1, ?_⟩
                          rw [HE.out]
                          exact HQ.out
                        case neg =>
                          have hlI : ¬ (m : Int) - (o5.length : Int) < (N : Int) := by omega
                          have e2 : stc = ⟨t5, copyN o5 F' N, 0⟩ := by
                            rw [K3.out]
                            simp only [UM.bind]
                            rw [show longU N s m ⟨t5, o5, 0⟩ = (false, ⟨t5, o5, 0⟩) by unfold longU failU; rw [if_neg (by simp), decide_eq_false hlong]; rfl]
                            rfl
                          subst e2
                          have HE := Lib.hid (R2.out rfl).symm
                          clear R1 R2 K3
                          go_wp2_with fail
                          go_quiet (fail)
                          have HU8 := Lib.hid (HU7.out.mut ((Mut.refl [] w7).drewN nq))
                          have HM8 := Lib.hid (HM7.out.drewN nq)
                          clear c0 c1 c2 c3 c4 f1 f2 f4 HU7 HM7
                          generalize w7.drewN nq = w8 at *
                          obtain ⟨c0, c1, c2, c3, c4, f1, f2, f4⟩ := HU8.out.cells
                          simp only at c1 c4
                          rw [HVV.out] at c2
                          have HU0 : Hid (∃ v2, SB w0 b s m v2 ⟨t5, copyN o5 F' 0, 0⟩ w8 ∧ Mut (b :: v.ownBlock.toList) w3 w8 ∧ ∀ g, v2.ownBlock = some g → v.ownBlock = some g ∨ w3.heap.size ≤ g) := Lib.hid ⟨_, HU8.out, HM8.out, HV.out⟩
                          clear HU8 HM8 HV c0 c1 c2 c3 c4 f1 f2 f4
                          go_wp2_with fail
                          go_loopw [18] (fun c wx => ∃ k : Nat, c = .int .i64 (k : Int) ∧ k ≤ N ∧ Hid (∃ v2, SB w0 b s m v2 ⟨t5, copyN o5 F' k, 0⟩ wx ∧ Mut (b :: v.ownBlock.toList) w3 wx ∧ ∀ g, v2.ownBlock = some g → v.ownBlock = some g ∨ w3.heap.size ≤ g)) (fun c _ => N - (intOf c).toNat)
                          case atStart => exact ⟨0, rfl, by omega, HU0⟩
                          case round =>
                            clear HU0
                            obtain ⟨k, rfl, hk, HR⟩ := hrel
                            by_cases hlt : k < N
                            case pos =>
                              obtain ⟨v2, hU, hMx, hVx⟩ := HR.out
                              obtain ⟨lx, hcl, hcl2⟩ := copyN_len o5 F' k
                              have hclen : (copyN o5 F' k).length = o5.length + k := by rw [hcl, List.length_append, hcl2]
                              obtain ⟨X, hX⟩ : ∃ X, copyN o5 F' k = X := ⟨_, rfl⟩
                              have hNext : copyN o5 F' (k + 1) = X ++ [X.getD (X.length - F') 0] := by rw [copyN, hX]
                              rw [hX] at hU hclen
                              obtain ⟨z1, hzN⟩ : ∃ z1, X.getD (X.length - F') 0 = z1 := ⟨_, rfl⟩
                              obtain ⟨i, hi⟩ : ∃ i, X.length - F' = i := ⟨_, rfl⟩
                              have hiX : i < X.length := by omega
                              have hz : X.getD i 0 = z1 := by rw [← hi]; exact hzN
                              rw [hzN] at hNext
                              have HNX := Lib.hid hNext
                              have hrow0 : wr.ownsRow 0 5 1 v2 X.length (uC X) := hU.ob.row
                              obtain ⟨g, cap', rfl, hgs, hcap⟩ := row_some hrow0 (by omega)
                              have hcell : wr.cell? ⟨g, i, none⟩ = some (.int .u8 (z1 : Int)) := by
                                rw [hrow0.cellAt i (by omega), ← hz]
                                simp [uC, List.getD, hiX]
                              have hiI : (X.length : Int) - (F' : Int) = (i : Int) := by omega
                              have hl0 : 0 ≤ (X.length : Int) := by omega
                              have hcapI : (X.length : Int) ≤ (cap' : Int) := by omega
                              obtain ⟨c0, c1, c2, c3, c4, f1, f2, f4⟩ := hU.cells
                              simp only at c1 c4
                              have HSU := Lib.hid hU
                              have HMx := Lib.hid hMx
                              have HVx := Lib.hid hVx
                              have hlen : X.length < 1099511693313 := by omega
                              have HCL := Lib.hid hclen
                              have HI := Lib.hid hi
                              have hltI : (k : Int) < (N : Int) := by omega
                              have hd1 : ∀ x : WIn (Mut [] wr), x.w.cell? ⟨b, 2, none⟩ = some (.slice (some ⟨g, 0, none⟩) X.length cap') := fun x => x.ok.cell c2 (by simp)
                              have hd2 : ∀ x : WIn (Mut [] wr), x.w.cell? ⟨g, i, none⟩ = some (.int .u8 (z1 : Int)) := fun x => x.ok.cell hcell (by simp)
                              clear hU hMx hVx hcl hcl2 hX hzN hz hNext hclen hi hrow0 HR
                              haveI : Nonempty (WIn (Mut [] wr)) := ⟨⟨wr, Mut.refl _ _⟩⟩
                              go_wp2_with fail
                              refine wp_region_mix (fun w' => ∃ x : WIn (Mut [] wr), w' = x.w) 19 1 [0] [1, 2, 3, 4, 5, 6, 7, 8, 9, 10, 11, 12, 13, 14, 15, 16, 17] [18, 19, 20, 21, 22]
                                (fun l => l.take 1) (fun l => (l.drop 1).take 17) (fun l => l.drop 18) rfl rfl rfl (by kernel_rfl) (by kernel_rfl) (by kernel_rfl) (by kernel_rfl) (fun _ _ _ _ _ h => h) ⟨⟨wr.drew, (Mut.refl _ _).drew⟩, rfl⟩ ?_
                              simp only [List.take_succ_cons, List.take_zero, List.drop_succ_cons, List.drop_zero]
                              go_big_quiet_step (fail)
                              refine wpQuiet_nil ?_
                              repeat (go_big_quiet_step (fail))
                              refine wpQuiet_nil ?_
                              intro K hK
                              go_simp
                              have hm0 : Mut [] wr (wr.drew.alloc (.cells #[.int .u8 (z1 : Int)] 5 (0, 0))) := ((Mut.refl [] wr).drew).alloc _
                              have hnew : (wr.drew.alloc (.cells #[.int .u8 (z1 : Int)] 5 (0, 0))).heap[wr.heap.size]? = some (.cells #[.int .u8 (z1 : Int)] 5 (0, 0)) := heap_alloc_new wr.drew _
                              have hSa := HSU.out.mut hm0
                              have HMa := Lib.hid ((HMx.out.drew).alloc (.cells #[.int .u8 (z1 : Int)] 5 (0, 0)))
                              refine hK _ _ (fun _ => ⟨⟨_, hm0⟩, rfl⟩) ?_
                              clear hK K hcell hd1 hd2 this c0 c1 c2 c3 c4 f1 f2 f4
                              intro K hK
                              obtain ⟨i0, hi0, hz0, hz1, hz2⟩ := info_parts info_u8f
                              have hrow : (wr.drew.alloc (.cells #[.int .u8 (z1 : Int)] 5 (0, 0))).ownsRow 0 5 1 (.slice (some ⟨g, 0, none⟩) X.length cap') X.length (uC X) := hSa.ob.row
                              refine step_append rfl (.tmp 161) (.tmp 175) 54 54 rfl 5 i0 (.int .u8 0) 1 1 Try.underlying54 hi0 hz0 hz1 hz2 rfl hrow rfl (src1 Try.underlying54 hnew rfl (one1 rfl)) rfl (by unfold maxLen; omega) (by omega) ?_
                              intro v3 w5 hr5 hg5 hf5
                              obtain ⟨ap, ac, rfl⟩ := row_form hr5
                              have hmg := (Mut.refl (Value.slice (some ⟨g, 0, none⟩) X.length cap').ownBlock.toList (wr.drew.alloc (.cells #[.int .u8 (z1 : Int)] 5 (0, 0)))).grown hg5 (fun k hk => .inl (by simp [hk]))
                              have hbx5 := hmg.get hSa.bx (fun hx => hSa.ne (by simpa using hx))
                              have k2 := cellOf hbx5 2 (x := .slice (some ⟨g, 0, none⟩) X.length cap') rfl
                              have kf := frozenOf hbx5 2
                              have HQ := Lib.hid (hSa.setOut (M := [z1]) hr5 hg5 hf5)
                              have HM5 : Hid (Mut (b :: v.ownBlock.toList) w3 (w5.setCell ⟨b, 2, none⟩ (.slice ap (X.length + 1) ac))) := Lib.hid ((HMa.out.grown hg5 (fun k hk => (HVx.out k hk).imp (fun h => by simp [h]) id)).setCell (.inl (by simp)) _)
                              have HV5 : Hid (∀ g', (Value.slice ap (X.length + 1) ac).ownBlock = some g' → v.ownBlock = some g' ∨ w3.heap.size ≤ g') := Lib.hid fun g' hg' => by
                                rcases hf5 g' hg' with h | h
                                · exact HVx.out g' h
                                · exact .inr (Nat.le_trans HMa.out.size h)
                              clear hr5 hg5 hf5 hmg hbx5 hSa HMa HMx HVx hm0 hnew hi0 hz0 hz1 hz2 hrow HSU
                              refine hK _ _ (fun h => absurd h (by decide)) ?_
                              clear hK K
                              intro K hK
                              go_simp
                              refine hK _ _ (fun h => absurd h (by decide)) ?_
                              clear hK K
                              intro K hK
                              go_simp
                              refine hK _ _ (fun h => absurd h (by decide)) ?_
                              clear hK K
                              intro K hK
                              go_simp
                              refine hK _ _ (fun h => absurd h (by decide)) ?_
                              clear hK K
                              unfold wpMov
                              go_wp2_with fail
                              refine ⟨⟨k + 1, by rw [Int.natCast_add]; rfl, by omega, Lib.hid ⟨_, by rw [HNX.out]; exact HQ.out, HM5.out, HV5.out⟩⟩, by simp only [intOf]; omega⟩
                            case neg =>
                              obtain rfl : k = N := by omega
                              have hltI : ¬ (k : Int) < (k : Int) := by omega
                              obtain ⟨v2, hU, hMx, hVx⟩ := HR.out
                              have HQ := Lib.hid hU
                              have HMx := Lib.hid hMx
                              have HVx := Lib.hid hVx
                              clear hU hMx hVx HR
                              go_wp2_with fail
                              refine ⟨Lib.hid ⟨_, ⟨t5, copyN o5 F' k, 0⟩, k', HQ.out, HMx.out, HVx.out, HE.out, ?_, rfl, HI3.out, HMO3.out⟩, ?_⟩
                              · have := HK.out; have := HLT.out; have := HF3.out; simp only at *; omega
                              · have h1 := HQ.out.cells.2.1
                                simp only at h1
                                rw [h1, HWT.out]
                                have := HLT.out
                                have := HI3.out
                                have := HF3.out
                                simp only [Option.getD_some, intOf] at *
                                omega

end Go.Proofs.Ytgjcnembeebjfaa
