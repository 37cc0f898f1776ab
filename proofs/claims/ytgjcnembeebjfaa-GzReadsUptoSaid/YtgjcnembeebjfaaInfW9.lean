/- Walks over package inflate: lengths told by a table. -/
import Derived.Test.YtgjcnembeebjfaaInfW5
import Derived.Test.YtgjcnembeebjfaaGLaw
import Derived.Deep.DeepCutAuto
import Derived.Deep.CutBlock
namespace Go.Proofs.Ytgjcnembeebjfaa
open Go.RowKit
set_option linter.unusedVariables false

theorem lengths_end (t : List Nat) (n k : Nat) (L : List Nat) (s : ByteArray) (m : Nat) (st : US) (h : st.er ≠ 0 ∨ n ≤ L.length) : lengthsU t n k L s m st = (L, st) := by
  cases k with
  | zero => rfl
  | succ k =>
    rw [lengthsU]
    simp only [UM.bind, errU]
    rcases h with h | h
    · simp [h, UM.ret]
    · simp [h, UM.ret]

theorem lengths_step (t : List Nat) (n k : Nat) (L : List Nat) (s : ByteArray) (m : Nat) (st st1 st2 st3 : US) (sym A V : Nat) (bad : Bool) (h0 : st.er = 0) (hl : L.length < n) (hn : nextU t s m st = (sym, st1)) (ha : againU sym L s m st1 = ((A, V), st2)) (hf : failU (decide (n - L.length < A)) 5 s m st2 = (bad, st3)) :
    lengthsU t n (k + 1) L s m st = if bad = true then ([], st3) else lengthsU t n k (L ++ List.replicate A V) s m st3 := by
  rw [lengthsU]
  simp only [UM.bind, errU, h0]
  rw [if_neg (by simp; omega)]
  simp only [UM.bind, hn, ha, hf]
  cases bad <;> rfl

theorem toI_length (l : List Nat) : (toI l).length = l.length := by simp [toI]
theorem toI_append (a b : List Nat) : toI (a ++ b) = toI a ++ toI b := by simp [toI]
theorem toI_getD (l : List Nat) (i : Nat) : (toI l).getD i 0 = ((l.getD i 0 : Nat) : Int) := by
  simp only [toI, List.getD, List.getElem?_map]
  cases l[i]? <;> rfl

/-- what a loop over rows goes by -/
def lenOf : Value → Nat
  | .slice _ n _ => n
  | _ => 0

/-- where lengths is -/
def LenC (w0 : World) (b rb : Nat) (s : ByteArray) (ov : Value) (m n : Nat) (t : List Nat) (res : List Nat × US) (v : Value) (L : List Nat) (w : World) : Prop :=
  ∃ (st : US) (k : Nat), UAt w b rb s ov m st ∧ IRow w v (toI L) ∧ (∀ g, v.ownBlock = some g → w0.heap.size ≤ g) ∧ Mut [b, rb] w0 w ∧ lengthsU t n k L s m st = res ∧ n - L.length < k ∧ st.t ≤ 8 * s.size

/-- .. and in its inner loop -/
def InC (w0 : World) (b rb : Nat) (s : ByteArray) (ov : Value) (m : Nat) (st : US) (L : List Nat) (v : Value) (w : World) : Prop :=
  UAt w b rb s ov m st ∧ IRow w v (toI L) ∧ (∀ g, v.ownBlock = some g → w0.heap.size ≤ g) ∧ Mut [b, rb] w0 w

/-- .. and behind its switch -/
def AgC (w0 : World) (b rb : Nat) (s : ByteArray) (ov : Value) (m : Nat) (v : Value) (L : List Nat) (ag : (Nat × Nat) × US) (w : World) : Prop :=
  ∃ (st : US) , UAt w b rb s ov m st ∧ IRow w v (toI L) ∧ Mut [b, rb] w0 w ∧ ag.2 = st ∧ st.t ≤ 8 * s.size

theorem again_inside {sym : Nat} {L : List Nat} {s : ByteArray} {m : Nat} {st : US} {r : (Nat × Nat) × US} (h : againU sym L s m st = r) (ht : st.t ≤ 8 * s.size) : r.2.t ≤ 8 * s.size := by
  have := (again_nice sym L).inside s m st ht
  rwa [h] at this

theorem ulengths_err (b rb : Nat) (s : ByteArray) (st : US) (tv : Value) (nv : Int) (ov : Value) (m : Nat) (w : World) (h : UAt w b rb s ov m st) (he : st.er ≠ 0) :
    Calls Try.prog 96 #[.pointer (some ⟨b, 0, none⟩), tv, .int .i64 nv] w fun e w' => e = .returned (.slice none 0 0) ∧ w = w' := by
  obtain ⟨c0, c1, c2, c3, f1, f3⟩ := cells4 h.box
  have hI : ((st.er : Int) == 0) = false := by rw [beq_eq_false_iff_ne]; omega
  clear h
  go_enter Try.func96, Try.ntmps96
  go_wp2_with fail
  go_loopw [7] (fun c wx => c = .slice none 0 0 ∧ w = wx) (fun c _ => 0)
  case atStart => exact ⟨rfl, rfl⟩
  case round =>
    obtain ⟨rfl, rfl⟩ := hrel
    by_cases h0 : (0 : Int) < nv
    · go_wp2_with fail
      go_ret
      exact ⟨rfl, rfl⟩
    · go_wp2_with fail
      go_ret
      exact ⟨rfl, rfl⟩

theorem again16 (L : List Nat) (s : ByteArray) (m : Nat) (st st3 : US) (x : Nat) (h0 : st.er = 0) (hl : L.length ≠ 0) (hx : takeU 2 s m st = (x, st3)) : againU 16 L s m st = ((3 + x, L.getD (L.length - 1) 0), st3) := by
  unfold againU
  rw [if_pos rfl]
  simp only [UM.bind, failU, h0]
  simp only [hl]
  show ((takeU 2).bind fun x => UM.ret (3 + x, L.getD (L.length - 1) 0)) s m st = _
  simp only [UM.bind, hx]
  rfl
theorem again16e (L : List Nat) (s : ByteArray) (m : Nat) (st : US) (h0 : st.er = 0) (hl : L.length = 0) : againU 16 L s m st = ((0, 0), ⟨st.t, st.out, 5⟩) := by
  unfold againU
  rw [if_pos rfl]
  simp only [UM.bind, failU, h0, hl]
  rfl
theorem again17 (L : List Nat) (s : ByteArray) (m : Nat) (st st3 : US) (x : Nat) (hx : takeU 3 s m st = (x, st3)) : againU 17 L s m st = ((3 + x, 0), st3) := by
  unfold againU
  rw [if_neg (by decide), if_pos rfl]
  simp only [UM.bind, hx]
  rfl
theorem again18 (L : List Nat) (s : ByteArray) (m : Nat) (st st3 : US) (x : Nat) (hx : takeU 7 s m st = (x, st3)) : againU 18 L s m st = ((11 + x, 0), st3) := by
  unfold againU
  rw [if_neg (by decide), if_neg (by decide), if_pos rfl]
  simp only [UM.bind, hx]
  rfl
theorem again1 (L : List Nat) (s : ByteArray) (m : Nat) (st : US) (sym : Nat) (h1 : sym ≠ 16) (h2 : sym ≠ 17) (h3 : sym ≠ 18) : againU sym L s m st = ((1, sym), st) := by
  unfold againU
  rw [if_neg h1, if_neg h2, if_neg h3]
  rfl

theorem IRow.cellI {w : World} {g n cap : Nat} {L : List Int} (h : IRow w (.slice (some ⟨g, 0, none⟩) n cap) L) (i : Nat) (hi : i < L.length) : w.cell? ⟨g, i, none⟩ = some (.int .i64 (L.getD i 0)) := by
  obtain ⟨g', cap', e, k⟩ := h.at (by omega)
  have := k w (Mut.refl _ _) i hi
  simp only [Value.slice.injEq, Option.some.injEq, Addr.mk.injEq] at e
  rw [e.1.1]
  exact this

theorem again_pos {sym : Nat} {L : List Nat} {s : ByteArray} {m : Nat} {st st3 : US} {A V : Nat} (h : againU sym L s m st = ((A, V), st3)) (he : st3.er = 0) : 1 ≤ A := by
  unfold againU at h
  split at h
  · obtain ⟨⟨bd, st1⟩, hf⟩ : ∃ p, failU (decide (L.length = 0)) 5 s m st = p := ⟨_, rfl⟩
    simp only [UM.bind, hf] at h
    cases bd with
    | true =>
      rw [if_pos rfl] at h
      obtain ⟨h1, rfl⟩ := Prod.mk.inj h
      exfalso
      unfold failU at hf
      split at hf
      · rename_i h5
        obtain ⟨-, rfl⟩ := Prod.mk.inj hf
        exact h5 he
      · split at hf
        · obtain ⟨-, rfl⟩ := Prod.mk.inj hf
          simp at he
        · simp at hf
    | false =>
      have h' : UM.bind (takeU 2) (fun x => UM.ret (3 + x, L.getD (L.length - 1) 0)) s m st1 = ((A, V), st3) := h
      have := (Prod.mk.inj (Prod.mk.inj h').1).1
      omega
  · split at h
    · have := (Prod.mk.inj (Prod.mk.inj h).1).1
      omega
    · split at h
      · have := (Prod.mk.inj (Prod.mk.inj h).1).1
        omega
      · have := (Prod.mk.inj (Prod.mk.inj h).1).1
        omega

def CL (g i : Nat) (z : Int) (w' : World) : Prop := w'.cell? ⟨g, i, none⟩ = some (.int .i64 z)

set_option maxHeartbeats 3200000 in
set_option maxRecDepth 100000 in
theorem ulengths_ok (b rb lo hi tb : Nat) (t : List Nat) (n k : Nat) (s : ByteArray) (st st' : US) (R : List Nat) (ov : Value) (m : Nat) (w : World) (h : UAt w b rb s ov m st) (hT : TabOf w lo hi tb b rb t) (hs : s.size ≤ 140737488351232) (ht : st.t ≤ 8 * s.size)
    (hn : n ≤ 1000) (hk : n < k) (hu : lengthsU t n k [] s m st = (R, st')) :
    Calls Try.prog 96 #[.pointer (some ⟨b, 0, none⟩), .pointer (some ⟨tb, 0, none⟩), .int .i64 (n : Int)] w fun e w' => ∃ v, e = .returned v ∧ IRow w' v (toI R) ∧ (∀ g, v.ownBlock = some g → w.heap.size ≤ g) ∧ UAt w' b rb s ov m st' ∧ Mut [b, rb] w w' := by
  have HC : Hid (LenC w b rb s ov m n t (R, st') (.slice none 0 0) [] w) := Lib.hid ⟨st, k, h, IRow.nil w, by simp [Value.ownBlock], Mut.refl _ _, hu, by simpa using hk, ht⟩
  have HL : Hid (∀ w', Mut [b, rb] w w' → TabOf w' lo hi tb b rb t) := Lib.hid fun w' hM => hT.mut2 hM
  have hbr : b < w.heap.size ∧ rb < w.heap.size := ⟨lt_of_heap h.box, lt_of_heap (show w.heap[rb]? = _ from h.rd)⟩
  have HBR := Lib.hid hbr
  have HOV : Hid (∀ g, ov.ownBlock = some g → g < w.heap.size) := Lib.hid fun g hg => by
    rcases h.row.2 with ⟨h1, _⟩ | ⟨g', cap, cur, h1, _, hh, _⟩
    · rw [h1] at hg; simp [Value.ownBlock] at hg
    · rw [h1] at hg
      simp [Value.ownBlock] at hg
      subst hg
      exact lt_of_heap hh
  clear h hT ht hk hu hbr
  go_enter Try.func96, Try.ntmps96
  go_wp2_with fail
  go_loopw [7] (fun c wx => ∃ L : List Nat, lenOf c = L.length ∧ L.length ≤ n ∧ Hid (LenC w b rb s ov m n t (R, st') c L wx)) (fun c _ => n - lenOf c)
  case atStart => exact ⟨[], rfl, Nat.zero_le _, HC⟩
  case round =>
    obtain ⟨L, hlen, hle, HR⟩ := hrel
    obtain ⟨st1, k1, hU, hrow, hfr, hM, hf, hk1, ht1⟩ := HR.out
    obtain ⟨p, cap, rfl, -⟩ := hrow.read
    rw [toI_length] at hrow hfr HR ⊢
    clear hlen HR HC
    have HU := Lib.hid hU
    have HRW := Lib.hid hrow
    have HFR := Lib.hid hfr
    have HM := Lib.hid hM
    clear hU hrow hfr hM
    by_cases hlt : L.length < n
    case neg =>
      have e := lengths_end t n k1 L s m st1 (.inr (by omega))
      rw [hf] at e
      obtain ⟨rfl, rfl⟩ := Prod.mk.inj e
      have hltI : ¬ (R.length : Int) < (n : Int) := by omega
      clear hf e
      go_wp2_with fail
      go_ret
      exact ⟨_, rfl, HRW.out, HFR.out, HU.out, HM.out⟩
    case pos =>
      have hltI : (L.length : Int) < (n : Int) := by omega
      by_cases he : st1.er = 0
      case neg =>
        have e := lengths_end t n k1 L s m st1 (.inl he)
        rw [hf] at e
        obtain ⟨rfl, rfl⟩ := Prod.mk.inj e
        obtain ⟨c0, c1, c2, c3, f1, f3⟩ := cells4 HU.out.box
        have hI : ((st'.er : Int) == 0) = false := by rw [beq_eq_false_iff_ne]; omega
        clear hf e
        go_wp2_with fail
        go_ret
        exact ⟨_, rfl, HRW.out, HFR.out, HU.out, HM.out⟩
      case pos =>
        obtain ⟨k2, rfl⟩ : ∃ k', k1 = k' + 1 := ⟨k1 - 1, by omega⟩
        obtain ⟨⟨sym, st2⟩, hn2⟩ : ∃ p, nextU t s m st1 = p := ⟨_, rfl⟩
        have hT := HL.out wr HM.out
        have HN := Lib.hid (unext_any b rb lo hi tb t s st1 st2 sym ov m wr HU.out hT hs ht1 hn2)
        have hin := nx_inside hT.good hn2 ht1
        obtain ⟨⟨⟨A, V⟩, st3⟩, hag⟩ : ∃ p, againU sym L s m st2 = p := ⟨_, rfl⟩
        obtain ⟨⟨bad, st4⟩, hfl⟩ : ∃ p, failU (decide (n - L.length < A)) 5 s m st3 = p := ⟨_, rfl⟩
        have HST := lengths_step t n k2 L s m st1 st2 st3 st4 sym A V bad he hlt hn2 hag hfl
        rw [hf] at HST
        replace HST := Lib.hid HST
        have HAG := Lib.hid hag
        have HFL := Lib.hid hfl
        have HN2 := Lib.hid (next_err hn2)
        obtain ⟨c0, c1, c2, c3, f1, f3⟩ := cells4 HU.out.box
        have hI : ((st1.er : Int) == 0) = true := by rw [he]; rfl
        clear hf hn2 hag hfl hT
        go_wp2_with fail
        refine HN.out.mono ?_
        rintro e w2 ⟨rfl, hu, hm2⟩
        have HU2 := Lib.hid hu
        have HM2 := Lib.hid (HM.out.trans' hm2)
        have HRW2 : Hid (IRow w2 (.slice p L.length cap) (toI L)) := Lib.hid (HRW.out.mut hm2 (fun g hg => by
          have := HFR.out g hg
          have := HBR.out
          simp
          omega))
        clear hu hm2 HN HU HRW HM
        go_upto_block 2 with fail
        go_cut [9, 10] (fun a v wx => a = .int .i64 (A : Int) ∧ v = .int .i64 (V : Int) ∧ Hid (UAt wx b rb s ov m st3 ∧ IRow wx (.slice p L.length cap) (toI L) ∧ Mut [b, rb] w wx))
        case first =>
          clear c0 c1 c2 c3 f1 f3 hI hk1 he ht1
          by_cases h16 : sym = 16
          case pos =>
            have h16I : ((sym : Int) == 16) = true := by subst h16; rfl
            have he2 : st2.er = 0 := by
              by_cases h : st2.er = 0
              · exact h
              · have := HN2.out h
                omega
            by_cases hl0 : L.length = 0
            case pos =>
              have hlD : ((L.length : Int) == 0) = true := by rw [hl0]; rfl
              have HF := Lib.hid (ufail_any b rb s st2 ⟨st2.t, st2.out, 5⟩ true true 5 5 ov m w2 HU2.out rfl (by decide) (by unfold failU; rw [if_neg (by simpa using he2)]; rfl))
              have HE : Hid (R = [] ∧ st' = ⟨st2.t, st2.out, 5⟩) := Lib.hid (by
                have h1 := HAG.out
                rw [h16, again16e L s m st2 he2 hl0] at h1
                obtain ⟨_, h2⟩ := Prod.mk.inj h1
                have h3 := HFL.out
                rw [← h2] at h3
                have h4 := HST.out
                unfold failU at h3
                rw [if_pos (by simp)] at h3
                obtain ⟨h5, h6⟩ := Prod.mk.inj h3
                rw [← h5, if_pos rfl] at h4
                obtain ⟨h7, h8⟩ := Prod.mk.inj h4
                exact ⟨h7, by rw [h8, ← h6]⟩)
              have H16 := Lib.hid h16
              have HL0 := Lib.hid hl0
              clear h16 hl0 he2
              go_wp2_with fail
              refine HF.out.mono ?_
              rintro e w3 ⟨rfl, hu, hm3⟩
              have HU3 := Lib.hid hu
              have HM3 := Lib.hid (HM2.out.trans' (hm3.mono (by simp)))
              clear hu hm3
              go_wp2_with fail
              obtain ⟨e1, e2⟩ := HE.out
              exact bodyPost_ret (results_tmp rfl _ _ _) rfl ⟨_, rfl, by rw [e1]; exact IRow.nil _, by simp [Value.ownBlock], by rw [e2]; exact HU3.out, HM3.out⟩
            case neg =>
              have hlD : ((L.length : Int) == 0) = false := by rw [beq_eq_false_iff_ne]; omega
              obtain ⟨⟨x, st5⟩, hx⟩ : ∃ p, takeU 2 s m st2 = p := ⟨_, rfl⟩
              have h1 := HAG.out
              rw [h16, again16 L s m st2 st5 x he2 hl0 hx] at h1
              obtain ⟨h2, rfl⟩ := Prod.mk.inj h1
              obtain ⟨hA, hV⟩ := Prod.mk.inj h2
              have hx4 : x < 4 := (take_lt hx).1
              have HF := Lib.hid (ufail_any b rb s st2 st2 false false 5 5 ov m w2 HU2.out rfl (by decide) (by unfold failU; rw [if_neg (by simpa using he2)]; rfl))
              have HT : Hid (∀ w3, UAt w3 b rb s ov m st2 → Calls Try.prog 69 #[.pointer (some ⟨b, 0, none⟩), .int .i64 2] w3 fun e w' => e = .returned (.int .i64 (x : Int)) ∧ UAt w' b rb s ov m st5 ∧ Mut [b, rb] w3 w') :=
                Lib.hid fun w3 h => utake_any b rb s st2 st5 x 2 2 ov m w3 h hs hin rfl (by omega) hx
              obtain ⟨i, hi⟩ : ∃ i, L.length - 1 = i := ⟨_, rfl⟩
              have hiI : (L.length : Int) - 1 = (i : Int) := by omega
              have hiL : i < L.length := by omega
              obtain ⟨g, cap', hsl, -, -⟩ := row_some HRW2.out (by rw [toI_length]; omega)
              rw [toI_length] at hsl
              obtain ⟨rfl, -, rfl⟩ : p = some ⟨g, 0, none⟩ ∧ L.length = L.length ∧ cap = cap' := by simpa using hsl
              have hcell : w2.cell? ⟨g, i, none⟩ = some (.int .i64 (V : Int)) := by
                rw [HRW2.out.cellI i (by rw [toI_length]; exact hiL), ← hV, hi, toI_getD]
              have hAI : (3 : Int) + (x : Int) = (A : Int) := by omega
              have hgn : g ≠ b ∧ g ≠ rb := by
                have h1 := HFR.out g rfl
                have h2 := HBR.out
                omega
              have HH := Lib.hid (And.intro h16 hl0)
              have HG := Lib.hid hgn
              clear h1 h2 hA hV hx h16 hl0 he2 hi hsl hgn
              go_wp2_with fail
              refine HF.out.mono ?_
              rintro e w3 ⟨rfl, hu, hm3⟩
              have HU3 := Lib.hid hu
              have HM3 := Lib.hid (HM2.out.trans' (hm3.mono (by simp)))
              have hcell3 := hm3.cell hcell (by simpa using HG.out.1)
              have HRW3 := Lib.hid (HRW2.out.mut hm3 (fun g' hg => by obtain rfl : g = g' := by simpa [Value.ownBlock] using hg
                                                                      simpa using HG.out.1))
              clear hu hm3 hcell HRW2 HU2 HM2
              go_wp2_with fail
              have hd1 : ∀ v : WIn (CL g i (V : Int)), v.w.cell? ⟨g, i, none⟩ = some (.int .i64 (V : Int)) := fun v => v.ok
              have hl0I : (0 : Int) ≤ (L.length : Int) := by omega
              haveI : Nonempty (WIn (CL g i (V : Int))) := ⟨⟨w3, hcell3⟩⟩
              refine wp_region_mix (fun w' => ∃ v : WIn (CL g i (V : Int)), w' = v.w) 10 3 [0] [3, 4, 5, 6, 7, 8] [1, 2, 9, 10]
                (fun l => l.take 1) (fun l => (l.drop 3).take 6) (fun l => (l.drop 1).take 2 ++ l.drop 9) rfl rfl rfl (by kernel_rfl) (by kernel_rfl) (by kernel_rfl) (by kernel_rfl) (fun _ _ _ _ _ h => h) ⟨⟨w3.drew, hcell3⟩, rfl⟩ ?_
              simp only [List.take_succ_cons, List.take_zero, List.drop_succ_cons, List.drop_zero, List.cons_append, List.nil_append]
              go_big_quiet_step (fail)
              refine wpQuiet_nil ?_
              repeat (go_big_quiet_step (fail))
              refine wpQuiet_nil ?_
              intro K hK
              go_simp
              go_at_call 69
              refine (HT.out w3.drew (HU3.out.mut ((Mut.refl [] w3).drew) (by simp) (by simp) (by simp))).mono ?_
              rintro e w4 ⟨rfl, hu, hm4⟩
              have HU4 := Lib.hid hu
              have HM4 := Lib.hid ((HM3.out.drew).trans' hm4)
              have hcell4 := hm4.cell (show w3.drew.cell? ⟨g, i, none⟩ = _ from hcell3) (by simpa using HG.out)
              have HRW4 : Hid (IRow w4 (.slice (some ⟨g, 0, none⟩) L.length cap) (toI L)) := Lib.hid ((HRW3.out.mut ((Mut.refl [] w3).drew) (by simp)).mut hm4 (fun g' hg => by
                obtain rfl : g = g' := by simpa [Value.ownBlock] using hg
                simpa using HG.out))
              clear hu hm4
              go_simp
              refine hK _ _ (fun _ => ⟨⟨w4, hcell4⟩, rfl⟩) ?_
              clear hK K
              intro K hK
              go_simp
              refine hK _ _ (fun _ => ⟨⟨w4, hcell4⟩, rfl⟩) ?_
              clear hK K
              intro K hK
              go_simp
              refine hK _ _ (fun _ => ⟨⟨w4, hcell4⟩, rfl⟩) ?_
              clear hK K
              intro K hK
              go_simp
              refine hK _ _ (fun h => absurd h (by decide)) ?_
              clear hK K
              unfold wpMov
              go_wp2_with fail
              go_meet
              exact ⟨by rw [IntWalk.i64_in _ (by omega)], rfl, Lib.hid ⟨HU4.out, HRW4.out, HM4.out⟩⟩
          case neg =>
            have h16I : ((sym : Int) == 16) = false := by rw [beq_eq_false_iff_ne]; omega
            by_cases h17 : sym = 17
            case pos =>
              have h1 := HAG.out
              obtain ⟨⟨x, st5⟩, hx⟩ : ∃ p, takeU 3 s m st2 = p := ⟨_, rfl⟩
              rw [h17, again17 L s m st2 st5 x hx] at h1
              obtain ⟨h2, rfl⟩ := Prod.mk.inj h1
              obtain ⟨hA, rfl⟩ := Prod.mk.inj h2
              have hx4 : x < 8 := (take_lt hx).1
              have HT := Lib.hid (utake_any b rb s st2 st5 x 3 3 ov m w2 HU2.out hs hin rfl (by omega) hx)
              have hAI : (3 : Int) + (x : Int) = (A : Int) := by omega
              have h17I : ((sym : Int) == 17) = true := by rw [h17]; rfl
              have HH := Lib.hid (And.intro h16 h17)
              clear h1 h2 hA hx h16 h17
              go_wp2_with fail
              refine HT.out.mono ?_
              rintro e w3 ⟨rfl, hu, hm3⟩
              have HU3 := Lib.hid hu
              have HM3 := Lib.hid (HM2.out.trans' hm3)
              have HRW3 : Hid (IRow w3 (.slice p L.length cap) (toI L)) := Lib.hid (HRW2.out.mut hm3 (fun g hg => by
                have := HFR.out g hg
                have := HBR.out
                simp
                omega))
              clear hu hm3
              go_wp2_with fail
              go_meet
              exact ⟨rfl, rfl, Lib.hid ⟨HU3.out, HRW3.out, HM3.out⟩⟩
            case neg =>
             have h17I : ((sym : Int) == 17) = false := by rw [beq_eq_false_iff_ne]; omega
             by_cases h18 : sym = 18
             case pos =>
              have h1 := HAG.out
              obtain ⟨⟨x, st5⟩, hx⟩ : ∃ p, takeU 7 s m st2 = p := ⟨_, rfl⟩
              rw [h18, again18 L s m st2 st5 x hx] at h1
              obtain ⟨h2, rfl⟩ := Prod.mk.inj h1
              obtain ⟨hA, rfl⟩ := Prod.mk.inj h2
              have hx4 : x < 128 := (take_lt hx).1
              have HT := Lib.hid (utake_any b rb s st2 st5 x 7 7 ov m w2 HU2.out hs hin rfl (by omega) hx)
              have hAI : (11 : Int) + (x : Int) = (A : Int) := by omega
              have h18I : ((sym : Int) == 18) = true := by rw [h18]; rfl
              have HH := Lib.hid (And.intro h16 h18)
              clear h1 h2 hA hx h16 h18
              go_wp2_with fail
              refine HT.out.mono ?_
              rintro e w3 ⟨rfl, hu, hm3⟩
              have HU3 := Lib.hid hu
              have HM3 := Lib.hid (HM2.out.trans' hm3)
              have HRW3 : Hid (IRow w3 (.slice p L.length cap) (toI L)) := Lib.hid (HRW2.out.mut hm3 (fun g hg => by
                have := HFR.out g hg
                have := HBR.out
                simp
                omega))
              clear hu hm3
              go_wp2_with fail
              go_meet
              exact ⟨rfl, rfl, Lib.hid ⟨HU3.out, HRW3.out, HM3.out⟩⟩
             case neg =>
              have h18I : ((sym : Int) == 18) = false := by rw [beq_eq_false_iff_ne]; omega
              have h1 := HAG.out
              rw [again1 L s m st2 sym h16 h17 h18] at h1
              obtain ⟨h2, rfl⟩ := Prod.mk.inj h1
              obtain ⟨rfl, rfl⟩ := Prod.mk.inj h2
              have HH := Lib.hid (And.intro h16 (And.intro h17 h18))
              clear h1 h2 h16 h17 h18
              go_wp2_with fail
              go_meet
              exact ⟨rfl, rfl, Lib.hid ⟨HU2.out, HRW2.out, HM2.out⟩⟩
        case rest =>
          obtain ⟨rfl, rfl, HQ⟩ := hcut
          have HIN : Hid (st3.t ≤ 8 * s.size) := Lib.hid (again_inside HAG.out hin)
          have hst := HST.out
          have hfl := HFL.out
          have HAG2 := Lib.hid HAG.out
          clear HU2 HM2 HRW2 HAG HN2 c0 c1 c2 c3 f1 f3 hI he ht1 hin HST HFL
          have hx : failU (decide (n - L.length < A)) 5 s m st3 = (bad, st4) := hfl
          by_cases hbad : bad = true
          case pos =>
            subst hbad
            rw [if_pos rfl] at hst
            obtain ⟨rfl, rfl⟩ := Prod.mk.inj hst
            by_cases hbig : n - L.length < A
            all_goals
              first | (have hbD := decide_eq_true hbig; rw [hbD] at hx; have hbI : (n : Int) - (L.length : Int) < (A : Int) := by omega) | (have hbD := decide_eq_false hbig; rw [hbD] at hx; have hbI : ¬ (n : Int) - (L.length : Int) < (A : Int) := by omega)
              have HF := Lib.hid (ufail_any b rb s st3 st' true _ 5 5 ov m wc HQ.out.1 rfl (fun _ => by decide) hx)
              clear hx hfl hst hbD
              go_wp2_with fail
              refine HF.out.mono ?_
              rintro e w3 ⟨rfl, hu, hm3⟩
              have HU3 := Lib.hid hu
              have HM3 := Lib.hid (HQ.out.2.2.trans' (hm3.mono (by simp)))
              clear hu hm3
              go_wp2_with fail
              exact bodyPost_ret (results_tmp rfl _ _ _) rfl ⟨_, rfl, IRow.nil _, by simp [Value.ownBlock], HU3.out, HM3.out⟩
          case neg =>
            have hbad : bad = false := by simpa using hbad
            subst hbad
            obtain ⟨e4, he3, hfar⟩ := (fail_out hx).2 rfl
            subst e4
            have hfarN : ¬ n - L.length < A := by simpa using hfar
            rw [hfar] at hx
            have hbI : ¬ (n : Int) - (L.length : Int) < (A : Int) := by omega
            have HF := Lib.hid (ufail_any b rb s st4 st4 false _ 5 5 ov m wc HQ.out.1 rfl (fun _ => by decide) hx)
            have hst2 : (R, st') = lengthsU t n k2 (L ++ List.replicate A V) s m st4 := hst
            have HST := Lib.hid hst2
            have HA1 : Hid (1 ≤ A) := Lib.hid (again_pos HAG2.out he3)
            clear hx hfl hst hst2 hfar he3
            go_wp2_with fail
            refine HF.out.mono ?_
            rintro e w3 ⟨rfl, hu, hm3⟩
            have HI0 : Hid (InC w b rb s ov m st4 (L ++ List.replicate 0 V) (.slice p L.length cap) w3) := Lib.hid ⟨hu, by
              rw [List.replicate_zero, List.append_nil]
              exact HQ.out.2.1.mut hm3 (fun g hg => by
                have := HFR.out g hg
                have := HBR.out
                simp
                omega), HFR.out, HQ.out.2.2.trans' (hm3.mono (by simp))⟩
            clear hu hm3 HF HQ
            go_wp2_with fail
            go_loopw [62, 7] (fun c v wx => ∃ i : Nat, c = .int .i64 (i : Int) ∧ i ≤ A ∧ lenOf v = L.length + i ∧ Hid (InC w b rb s ov m st4 (L ++ List.replicate i V) v wx)) (fun c _ _ => A - (intOf c).toNat)
            case atStart => exact ⟨0, rfl, by omega, rfl, HI0⟩
            case round =>
              obtain ⟨i, rfl, hi, hlv, HI⟩ := hrel
              clear HI0
              obtain ⟨hU, hrow, hfr, hM⟩ := HI.out
              by_cases hlt2 : i < A
              · have hlt2I : (i : Int) < (A : Int) := by omega
                have hne : ∀ g, ov.ownBlock = some g → u7.ownBlock ≠ some g := fun g hg h => by
                  have h1 := hfr g h
                  have h2 := HOV.out g hg
                  omega
                have HU := Lib.hid hU
                have HFR2 := Lib.hid hfr
                have HM := Lib.hid hM
                have hm0 : Mut [] wr (wr.alloc (.cells #[.int .i64 (V : Int)] 3 (0, 0))) := (Mut.refl [] wr).alloc _
                have hnew : (wr.alloc (.cells #[.int .i64 (V : Int)] 3 (0, 0))).heap[wr.heap.size]? = some (.cells #[.int .i64 (V : Int)] 3 (0, 0)) := heap_alloc_new wr _
                have HRA := Lib.hid (hrow.mut hm0 (by simp))
                have HNW := Lib.hid hnew
                have HM0 := Lib.hid hm0
                have hlen : (toI (L ++ List.replicate i V)).length + 1 ≤ 1099511627776 := by rw [toI_length, List.length_append, List.length_replicate]; omega
                have HLN := Lib.hid hlen
                have HNE := Lib.hid hne
                clear hU hrow hfr hM hm0 hnew HI hlen hne
                go_wp2_with (at_builtin; refine wp_appI rfl (.tmp 64) (.tmp 66) rfl HRA.out rfl (src_one HNW.out) rfl HLN.out ?_)
                intro v' w' r1 r2 r3
                have HIN2 : Hid (InC w b rb s ov m st4 (L ++ List.replicate (i + 1) V) v' w') := Lib.hid (by
                  have hne := HNE.out
                  have hbb : ∀ g, u7.ownBlock = some g → g ∉ [b, rb] := fun g hg => by
                    have := HFR2.out g hg
                    have := HBR.out
                    simp
                    omega
                  have m1 : Mut u7.ownBlock.toList wr w' := (HM0.out.mono (by simp)).trans' r2
                  refine ⟨?_, ?_, ?_, ?_⟩
                  · exact HU.out.mut m1 (fun h => hbb b (by simpa using h) (by simp)) (fun h => hbb rb (by simpa using h) (by simp)) (fun g hg h => hne g hg (by simpa using h))
                  · rw [List.replicate_succ', ← List.append_assoc, toI_append]; exact r1
                  · intro g hg
                    rcases r3 g hg with h | h
                    · exact HFR2.out g h
                    · have := HM.out.size
                      have := HM0.out.size
                      omega
                  · exact HM.out.trans m1 (fun y hy => .inr (HFR2.out y (by simpa using hy))))
                have hlv' : lenOf v' = L.length + (i + 1) := by
                  obtain ⟨_, _, rfl, -⟩ := r1.read
                  simp [lenOf, toI_length]
                  omega
                clear r1 r2 r3 HRA HNW HM0 HLN HU HM HFR2
                go_wp2_with fail
                exact ⟨⟨i + 1, by rw [Int.natCast_add]; rfl, by omega, hlv', HIN2⟩, by simp only [intOf]; omega⟩
              · obtain rfl : i = A := by omega
                have HNX : Hid (LenC w b rb s ov m n t (R, st') u7 (L ++ List.replicate i V) wr) := Lib.hid ⟨st4, k2, hU, hrow, hfr, hM, HST.out.symm, by rw [List.length_append, List.length_replicate]; have := HA1.out; omega, HIN.out⟩
                have hpos := HA1.out
                clear hU hrow hfr hM HI HST
                go_wp2_with fail
                exact ⟨⟨_, by rw [hlv, List.length_append, List.length_replicate], by rw [List.length_append, List.length_replicate]; omega, HNX⟩, by rw [hlv]; simp only [lenOf]; omega⟩

end Go.Proofs.Ytgjcnembeebjfaa
