/- Walks over package inflate: the tables that a block tells. -/
import Derived.Test.YtgjcnembeebjfaaInfW9
import Derived.Test.YtgjcnembeebjfaaGIn1
import Derived.Test.YtgjcnembeebjfaaInfW7
namespace Go.Proofs.Ytgjcnembeebjfaa
open Go.RowKit
set_option linter.unusedVariables false

theorem lengths_len (t : List Nat) (n : Nat) (s : ByteArray) (m : Nat) : ∀ (k : Nat) (L R : List Nat) (st st' : US), lengthsU t n k L s m st = (R, st') → st'.er = 0 → n - L.length < k → L.length ≤ n → R.length = n
  | 0, L, R, st, st', h, h0, hk, hl => by omega
  | k + 1, L, R, st, st', h, h0, hk, hl => by
    by_cases hd : st.er ≠ 0 ∨ n ≤ L.length
    · rw [lengths_end t n (k + 1) L s m st hd] at h
      obtain ⟨rfl, rfl⟩ := Prod.mk.inj h
      rcases hd with hd | hd
      · exact absurd h0 hd
      · omega
    · obtain ⟨⟨sym, st1⟩, hn⟩ : ∃ p, nextU t s m st = p := ⟨_, rfl⟩
      obtain ⟨⟨⟨A, V⟩, st2⟩, ha⟩ : ∃ p, againU sym L s m st1 = p := ⟨_, rfl⟩
      obtain ⟨⟨bad, st3⟩, hf⟩ : ∃ p, failU (decide (n - L.length < A)) 5 s m st2 = p := ⟨_, rfl⟩
      rw [lengths_step t n k L s m st st1 st2 st3 sym A V bad (by simp only [not_or, ne_eq, Classical.not_not] at hd; exact hd.1) (by omega) hn ha hf] at h
      cases bad with
      | true =>
        rw [if_pos rfl] at h
        obtain ⟨rfl, rfl⟩ := Prod.mk.inj h
        exfalso
        unfold failU at hf
        split at hf
        · rename_i h5
          obtain ⟨-, rfl⟩ := Prod.mk.inj hf
          exact h5 h0
        · split at hf
          · obtain ⟨-, rfl⟩ := Prod.mk.inj hf
            simp at h0
          · simp at hf
      | false =>
        rw [if_neg (by simp)] at h
        obtain ⟨e3, he3, hle⟩ := (fail_out hf).2 rfl
        subst e3
        have hA := again_pos ha he3
        have hle : ¬ n - L.length < A := by simpa using hle
        exact lengths_len t n s m k _ R st3 st' h h0 (by rw [List.length_append, List.length_replicate]; omega) (by rw [List.length_append, List.length_replicate]; omega)

theorem ulengths_any (b rb lo hi : Nat) (t : List Nat) (n k : Nat) (s : ByteArray) (st st' : US) (R : List Nat) (ov : Value) (m : Nat) (w : World) (h : UAt w b rb s ov m st) (p : Option Addr) (hT : st.er = 0 → ∃ tb, p = some ⟨tb, 0, none⟩ ∧ TabOf w lo hi tb b rb t) (hs : s.size ≤ 140737488351232) (ht : st.t ≤ 8 * s.size)
    (hn : n ≤ 1000) (hk : n < k) (hu : lengthsU t n k [] s m st = (R, st')) (N : Int) (hN : N = (n : Int)) :
    Calls Try.prog 96 #[.pointer (some ⟨b, 0, none⟩), .pointer p, .int .i64 N] w fun e w' => ∃ v, e = .returned v ∧ IRow w' v (toI R) ∧ (∀ g, v.ownBlock = some g → w.heap.size ≤ g) ∧ UAt w' b rb s ov m st' ∧ Mut [b, rb] w w' := by
  subst hN
  by_cases he : st.er = 0
  · obtain ⟨tb, rfl, hT2⟩ := hT he
    exact ulengths_ok b rb lo hi tb t n k s st st' R ov m w h hT2 hs ht hn hk hu
  · rw [lengths_end t n k [] s m st (.inl he)] at hu
    obtain ⟨rfl, rfl⟩ := Prod.mk.inj hu
    exact (ulengths_err b rb s st _ _ ov m w h he).mono fun e w' ⟨h1, h2⟩ => ⟨_, h1, IRow.nil _, by simp [Value.ownBlock], h2 ▸ h, h2 ▸ Mut.refl _ _⟩

/-- told, step by step -/
theorem told_steps {s : ByteArray} {m : Nat} {st s1 s2 s3 s4 s5 s6 s7 s8 s9 s10 : US} {nl nd nc : Nat} {bd b2 : Bool} {sh tb l x y : List Nat} (h1 : takeU 5 s m st = (nl, s1)) (h2 : takeU 5 s m s1 = (nd, s2)) (h3 : takeU 4 s m s2 = (nc, s3))
    (h4 : failU (decide (29 < nl) || decide (29 < nd)) 5 s m s3 = (bd, s4)) (h5 : shortU (nc + 4) s m s4 = (sh, s5)) (h6 : tableU (toI sh) s m s5 = (tb, s6)) (h7 : lengthsU tb (nl + 257 + nd + 1) 400 [] s m s6 = (l, s7)) (h8 : failU (decide (l.getD 256 0 = 0)) 5 s m s7 = (b2, s8))
    (h9 : tableU (toI (l.take (nl + 257))) s m s8 = (x, s9)) (h10 : tableU (toI (l.drop (nl + 257))) s m s9 = (y, s10)) :
    toldU s m st = if bd = true then (([], []), s4) else if b2 = true then (([], []), s8) else ((x, y), s10) := by
  unfold toldU
  simp only [UM.bind, h1, h2, h3, h4]
  cases bd with
  | true => rfl
  | false =>
    simp only [Bool.false_eq_true, if_false]
    show (UM.bind _ _) s m s4 = _
    simp only [UM.bind, h5, h6, h7, h8]
    cases b2 with
    | true => rfl
    | false =>
      simp only [Bool.false_eq_true, if_false]
      show (UM.bind _ _) s m s8 = _
      simp only [UM.bind, h9, h10]
      rfl

/-- where the loop over the short lengths is -/
def ShC (w0 : World) (b rb : Nat) (s : ByteArray) (ov : Value) (m : Nat) (st : US) (go g : Nat) (l : List Nat) (w : World) : Prop :=
  UAt w b rb s ov m st ∧ IRow w (.slice (some ⟨g, 0, none⟩) 19 19) (toI l) ∧ l.length = 19 ∧ w.heap[go]? = some (.cells order19 159 (0, 0)) ∧ w0.heap.size ≤ go ∧ go < g ∧ Mut [b, rb] w0 w

theorem short_len (k : Nat) (s : ByteArray) (m : Nat) (st : US) : (shortU k s m st).1.length = 19 := by
  induction k with
  | zero => simp [shortU, UM.ret]
  | succ k ih =>
    rw [shortU]
    simp only [UM.bind, UM.ret, List.length_set]
    exact ih

theorem short_step {k : Nat} {s : ByteArray} {m : Nat} {st st1 st2 : US} {l : List Nat} {x : Nat} (h : shortU k s m st = (l, st1)) (hx : takeU 3 s m st1 = (x, st2)) : shortU (k + 1) s m st = (l.set (orderU.getD k 0) x, st2) := by
  rw [shortU]
  simp only [UM.bind, h, hx, UM.ret]

theorem order_at : ∀ i, i < 19 → order19[i]? = some (.int .i64 (orderU.getD i 0 : Nat)) ∧ orderU.getD i 0 < 19 := by
  intro i hi
  have h2 : ∀ i, i < 19 → orderU.getD i 0 < 19 := by decide +kernel
  refine ⟨?_, h2 i hi⟩
  rw [show order19 = (orderU.map (fun n : Nat => Value.int .i64 (n : Int))).toArray from rfl]
  have hl : i < orderU.length := hi
  simp only [List.getElem?_toArray, List.getElem?_map, List.getD, List.getElem?_eq_getElem hl]
  rfl

theorem order_new (wa : World) (Z : Array Value) : ((wa.alloc (.cells Z 159)).setRow wa.heap.size order19).heap[wa.heap.size]? = some (.cells order19 159 (0, 0)) ∧ Mut [] wa ((wa.alloc (.cells Z 159)).setRow wa.heap.size order19) :=
  ⟨setRow_heap _ wa.heap.size Z order19 159 (0, 0) (heap_alloc_new wa _),
    ((Mut.refl [] wa).alloc _).trans (T := [wa.heap.size]) ⟨rfl, rfl, rfl, by simp, fun k _ hn => setRow_other _ wa.heap.size k order19 (by simpa using hn)⟩ (fun x hx => .inr (by simp at hx; omega))⟩

theorem IRow.cell19 {w : World} {g n cap : Nat} {L : List Int} (h : IRow w (.slice (some ⟨g, 0, none⟩) n cap) L) (i : Nat) (hi : i < L.length) : w.cell? ⟨g, i, none⟩ = some (.int .i64 (L.getD i 0)) ∧ w.frozen? ⟨g, i, none⟩ = false := by
  refine ⟨h.cellI i hi, ?_⟩
  rcases h.2 with ⟨h1, _⟩ | ⟨g', cap, cur, h1, _, hh, _⟩
  · cases h1
  · simp only [Value.slice.injEq, Option.some.injEq, Addr.mk.injEq] at h1
    rw [h1.1.1]
    exact frozenOf hh i

theorem IRow.set {w : World} {g n cap : Nat} {L : List Int} (h : IRow w (.slice (some ⟨g, 0, none⟩) n cap) L) (i : Nat) (v : Int) : IRow (w.setCell ⟨g, i, none⟩ (.int .i64 v)) (.slice (some ⟨g, 0, none⟩) n cap) (L.set i v) := by
  unfold IRow at *
  rw [List.map_set, List.length_set]
  refine ⟨by rw [List.length_set]; exact h.1, ?_⟩
  rcases h.2 with ⟨h1, h0⟩ | ⟨g', cap', cur, h1, hb, hh, r1, r2, r3, r4⟩
  · cases h1
  · have e := h1
    simp only [Value.slice.injEq, Option.some.injEq, Addr.mk.injEq] at e
    obtain ⟨⟨e1, -⟩, -, -⟩ := e
    subst e1
    refine .inr ⟨_, _, _, h1, hb, heap_set hh i _, r1, r2, by simpa using r3, ?_⟩
    rw [← r4, Array.toList_setIfInBounds, List.take_set]

theorem TabOf.widen {w : World} {lo hi lo' hi' tb b rb : Nat} {ls : List Nat} (h : TabOf w lo hi tb b rb ls) (h1 : lo' ≤ lo) (h2 : hi ≤ hi') (h3 : hi' ≤ w.heap.size) (h4 : b < lo') (h5 : rb < lo') : TabOf w lo' hi' tb b rb ls :=
  ⟨h.tab.wide h1 h2, h.good, h.len, .inl h4, .inl h5, h3⟩

def CO (go i : Nat) (z : Nat) (w' : World) : Prop := w'.cell? ⟨go, i, none⟩ = some (.int .i64 (z : Int))

set_option maxHeartbeats 3200000 in
set_option maxRecDepth 100000 in
theorem utold_any (b rb : Nat) (s : ByteArray) (st st' : US) (X Y : List Nat) (ov : Value) (m : Nat) (w : World) (h : UAt w b rb s ov m st) (hs : s.size ≤ 140737488351232) (ht : st.t ≤ 8 * s.size) (hu : toldU s m st = ((X, Y), st')) :
    Calls Try.prog 73 #[.pointer (some ⟨b, 0, none⟩)] w fun e w' => (∃ p1 p2, e = .returned (.tuple #[.pointer p1, .pointer p2]) ∧ (st'.er = 0 → ∃ lb db, p1 = some ⟨lb, 0, none⟩ ∧ p2 = some ⟨db, 0, none⟩ ∧ TabOf w' w.heap.size w'.heap.size lb b rb X ∧ TabOf w' w.heap.size w'.heap.size db b rb Y)) ∧
      UAt w' b rb s ov m st' ∧ Mut [b, rb] w w' := by
  obtain ⟨⟨nl, s1⟩, h1⟩ : ∃ p, takeU 5 s m st = p := ⟨_, rfl⟩
  obtain ⟨⟨nd, s2⟩, h2⟩ : ∃ p, takeU 5 s m s1 = p := ⟨_, rfl⟩
  obtain ⟨⟨nc, s3⟩, h3⟩ : ∃ p, takeU 4 s m s2 = p := ⟨_, rfl⟩
  obtain ⟨⟨bd, s4⟩, h4⟩ : ∃ p, failU (decide (29 < nl) || decide (29 < nd)) 5 s m s3 = p := ⟨_, rfl⟩
  obtain ⟨⟨sh, s5⟩, h5⟩ : ∃ p, shortU (nc + 4) s m s4 = p := ⟨_, rfl⟩
  obtain ⟨⟨tb, s6⟩, h6⟩ : ∃ p, tableU (toI sh) s m s5 = p := ⟨_, rfl⟩
  obtain ⟨⟨l, s7⟩, h7⟩ : ∃ p, lengthsU tb (nl + 257 + nd + 1) 400 [] s m s6 = p := ⟨_, rfl⟩
  obtain ⟨⟨b2, s8⟩, h8⟩ : ∃ p, failU (decide (l.getD 256 0 = 0)) 5 s m s7 = p := ⟨_, rfl⟩
  obtain ⟨⟨x, s9⟩, h9⟩ : ∃ p, tableU (toI (l.take (nl + 257))) s m s8 = p := ⟨_, rfl⟩
  obtain ⟨⟨y, s10⟩, h10⟩ : ∃ p, tableU (toI (l.drop (nl + 257))) s m s9 = p := ⟨_, rfl⟩
  have HST := told_steps h1 h2 h3 h4 h5 h6 h7 h8 h9 h10
  rw [hu] at HST
  replace HST := Lib.hid HST
  have t1 := tk_inside h1 ht
  have t2 := tk_inside h2 t1
  have t3 := tk_inside h3 t2
  have l1 := (take_lt h1).1
  have l2 := (take_lt h2).1
  have l3 := (take_lt h3).1
  have H1 := Lib.hid (utake_any b rb s st s1 nl 5 5 ov m w h hs ht rfl (by omega) h1)
  have H2 : Hid (∀ w, UAt w b rb s ov m s1 → Calls Try.prog 69 #[.pointer (some ⟨b, 0, none⟩), .int .i64 5] w fun e w' => e = .returned (.int .i64 (nd : Int)) ∧ UAt w' b rb s ov m s2 ∧ Mut [b, rb] w w') := Lib.hid fun w h => utake_any b rb s s1 s2 nd 5 5 ov m w h hs t1 rfl (by omega) h2
  have H3 : Hid (∀ w, UAt w b rb s ov m s2 → Calls Try.prog 69 #[.pointer (some ⟨b, 0, none⟩), .int .i64 4] w fun e w' => e = .returned (.int .i64 (nc : Int)) ∧ UAt w' b rb s ov m s3 ∧ Mut [b, rb] w w') := Lib.hid fun w h => utake_any b rb s s2 s3 nc 4 4 ov m w h hs t2 rfl (by omega) h3
  have HBR : Hid (b < w.heap.size ∧ rb < w.heap.size ∧ ∀ g, ov.ownBlock = some g → g < w.heap.size) := Lib.hid ⟨lt_of_heap h.box, lt_of_heap (show w.heap[rb]? = _ from h.rd), fun g hg => by
    rcases h.row.2 with ⟨h1, _⟩ | ⟨g', cap, cur, h1, _, hh, _⟩
    · rw [h1] at hg; simp [Value.ownBlock] at hg
    · rw [h1] at hg
      simp [Value.ownBlock] at hg
      subst hg
      exact lt_of_heap hh⟩
  have Q4 := Lib.hid h4
  have Q5 := Lib.hid h5
  have Q6 := Lib.hid h6
  have Q7 := Lib.hid h7
  have Q8 := Lib.hid h8
  have Q9 := Lib.hid h9
  have Q10 := Lib.hid h10
  have hl1 : nl < 32 := l1
  have hl2 : nd < 32 := l2
  have hl3 : nc < 16 := l3
  clear h hu h1 h2 h3 h4 h5 h6 h7 h8 h9 h10 l1 l2 l3 t1 t2 ht
  go_enter Try.func73, Try.ntmps73
  go_wp2_with fail
  refine H1.out.mono ?_
  rintro e w1 ⟨rfl, hu, hm⟩
  have HU1 := Lib.hid hu
  have HM1 := Lib.hid hm
  clear hu hm
  go_wp2_with fail
  refine (H2.out w1 HU1.out).mono ?_
  rintro e w2 ⟨rfl, hu, hm⟩
  have HU2 := Lib.hid hu
  have HM2 := Lib.hid (HM1.out.trans' hm)
  clear hu hm
  go_wp2_with fail
  refine (H3.out w2 HU2.out).mono ?_
  rintro e w3 ⟨rfl, hu, hm⟩
  have HU3 := Lib.hid hu
  have HM3 := Lib.hid (HM2.out.trans' hm)
  clear hu hm H1 H2 H3 HU1 HU2 HM1 HM2
  go_upto_region 2 with fail
  go_cut [27] (fun q wx => q = .bool bd ∧ Hid (UAt wx b rb s ov m s4 ∧ Mut [b, rb] w wx))
  case first =>
    have h4 := Q4.out
    by_cases c1 : 29 < nl
    case pos =>
      have c1I : (29 : Int) < (nl : Int) := by omega
      rw [decide_eq_true c1, Bool.true_or] at h4
      have HF := Lib.hid (ufail_any b rb s s3 s4 bd true 5 5 ov m w3 HU3.out rfl (by decide) h4)
      clear h4
      go_wp2_with fail
      refine HF.out.mono ?_
      rintro e w4 ⟨rfl, hu, hm⟩
      have HU := Lib.hid (And.intro hu (HM3.out.trans' (hm.mono (by simp))))
      clear hu hm
      go_wp2_with fail
      go_meet
      exact ⟨rfl, HU⟩
    case neg =>
      have c1I : ¬ (29 : Int) < (nl : Int) := by omega
      rw [decide_eq_false c1, Bool.false_or] at h4
      by_cases c2 : 29 < nd
      case pos =>
        have c2I : (29 : Int) < (nd : Int) := by omega
        rw [decide_eq_true c2] at h4
        have HF := Lib.hid (ufail_any b rb s s3 s4 bd true 5 5 ov m w3 HU3.out rfl (by decide) h4)
        clear h4
        go_wp2_with fail
        refine HF.out.mono ?_
        rintro e w4 ⟨rfl, hu, hm⟩
        have HU := Lib.hid (And.intro hu (HM3.out.trans' (hm.mono (by simp))))
        clear hu hm
        go_wp2_with fail
        go_meet
        exact ⟨rfl, HU⟩
      case neg =>
        have c2I : ¬ (29 : Int) < (nd : Int) := by omega
        rw [decide_eq_false c2] at h4
        have HF := Lib.hid (ufail_any b rb s s3 s4 bd false 5 5 ov m w3 HU3.out rfl (by decide) h4)
        clear h4
        go_wp2_with fail
        refine HF.out.mono ?_
        rintro e w4 ⟨rfl, hu, hm⟩
        have HU := Lib.hid (And.intro hu (HM3.out.trans' (hm.mono (by simp))))
        clear hu hm
        go_wp2_with fail
        go_meet
        exact ⟨rfl, HU⟩
  case rest =>
    obtain ⟨rfl, HU4⟩ := hcut
    clear HU3 HM3
    cases bd with
    | true =>
      have hst := HST.out
      rw [if_pos rfl] at hst
      obtain ⟨-, e4⟩ := Prod.mk.inj hst
      have HE := Lib.hid e4
      have HNE : Hid (s4.er ≠ 0) := Lib.hid (by
        have h4 := Q4.out
        unfold failU at h4
        split at h4
        · rename_i h5
          obtain ⟨-, rfl⟩ := Prod.mk.inj h4
          exact h5
        · split at h4
          · obtain ⟨-, rfl⟩ := Prod.mk.inj h4
            simp
          · simp at h4)
      clear hst e4
      go_wp2_with fail
      refine bodyPost_ret (results_tmp2 rfl _ _ _) rfl ⟨⟨none, none, rfl, fun h0 => ?_⟩, ?_, HU4.out.2⟩
      · exact absurd (by rw [← HE.out]; exact h0) HNE.out
      · rw [HE.out]; exact HU4.out.1
    | false =>
      obtain ⟨e4, he3, hle⟩ := (fail_out Q4.out).2 rfl
      subst e4
      have hn1 : nl ≤ 29 ∧ nd ≤ 29 := by
        simp only [Bool.or_eq_false_iff, decide_eq_false_iff_not] at hle
        omega
      have HST2 : Hid (((X, Y), st') = if b2 = true then (([], []), s8) else ((x, y), s10)) := Lib.hid (by have := HST.out; rwa [if_neg (by decide)] at this)
      clear HST hle Q4 hl1 hl2
      have HOR := Lib.hid (uorder_any wc)
      go_wp2_with fail
      refine HOR.out.mono ?_
      rintro e wa ⟨rfl, hm⟩
      have HUA : Hid (UAt wa b rb s ov m s4 ∧ Mut [b, rb] w wa) := Lib.hid ⟨HU4.out.1.mut hm (by simp) (by simp) (by simp), HU4.out.2.trans' (hm.mono (by simp))⟩
      clear hm HOR HU4
      go_upto_region 5 with (refine wpList_store_row rfl 159 _ _ rfl wa.heap.size order19 rfl rfl 159 _ (heap_alloc_new wa _) (by as_aux_lemma => kernel_rfl) (by as_aux_lemma => kernel_rfl) (by as_aux_lemma => kernel_rfl) ?_)
      have hO := order_new wa #[.int .i64 0, .int .i64 0, .int .i64 0, .int .i64 0, .int .i64 0, .int .i64 0, .int .i64 0, .int .i64 0, .int .i64 0, .int .i64 0, .int .i64 0, .int .i64 0, .int .i64 0, .int .i64 0, .int .i64 0, .int .i64 0, .int .i64 0, .int .i64 0, .int .i64 0]
      generalize (wa.alloc (.cells #[.int .i64 0, .int .i64 0, .int .i64 0, .int .i64 0, .int .i64 0, .int .i64 0, .int .i64 0, .int .i64 0, .int .i64 0, .int .i64 0, .int .i64 0, .int .i64 0, .int .i64 0, .int .i64 0, .int .i64 0, .int .i64 0, .int .i64 0, .int .i64 0, .int .i64 0] 159)).setRow wa.heap.size order19 = wb at *
      obtain ⟨go, hgo⟩ : ∃ go, wa.heap.size = go := ⟨_, rfl⟩
      obtain ⟨Z1, hZ1⟩ : ∃ Z, madeCells (Value.int .i64 0).cells 19 = Z := ⟨_, rfl⟩
      have hmk1 := run_make_int 19 (by decide) Z1 hZ1 19 rfl
      have hA := (RowAt.start wb wb 19 (by decide) (Mut.refl _ _) Z1 hZ1).irow
      have hma : Mut [] wb (wb.alloc (.cells Z1 3)) := (Mut.refl [] wb).alloc _
      have hgg : go < wb.heap.size := by rw [← hgo]; exact lt_of_heap hO.1
      have HSH : Hid (ShC w b rb s ov m s4 go wb.heap.size (List.replicate 19 0) (wb.alloc (.cells Z1 3))) := Lib.hid (by
        refine ⟨HUA.out.1.mut (hO.2.trans' hma) (by simp) (by simp) (by simp), by simpa [toI] using hA, by simp, hma.get (by rw [← hgo]; exact hO.1) (by simp), by rw [← hgo]; exact HUA.out.2.size, hgg, HUA.out.2.trans' ((hO.2.trans' hma).mono (by simp))⟩)
      rw [hgo]
      clear hO hZ1 hA hma hgg HUA hgo
      go_upto_region 6 with fail
      generalize wb.alloc (.cells Z1 3) = wx at *
      generalize wb.heap.size = g at *
      clear hmk1
      have HS0 : Hid (∃ l' st', shortU 0 s m s4 = (l', st') ∧ ShC w b rb s ov m st' go g l' wx) := Lib.hid ⟨_, _, rfl, HSH.out⟩
      clear HSH
      go_wp2_with fail
      go_loopw [32] (fun c wx => ∃ i : Nat, c = .int .i64 (i : Int) ∧ i ≤ nc + 4 ∧ Hid (∃ l' st', shortU i s m s4 = (l', st') ∧ ShC w b rb s ov m st' go g l' wx)) (fun c _ => nc + 4 - (intOf c).toNat)
      case atStart => exact ⟨0, rfl, by omega, HS0⟩
      case round =>
        obtain ⟨i, rfl, hi, HR⟩ := hrel
        clear HS0
        obtain ⟨l', st5, hsu, hU, hrow, hlen, hord, hgo, hgg, hM⟩ := HR.out
        clear HR
        have hin5 : st5.t ≤ 8 * s.size := by have := (short_nice i).inside s m s4 t3; rwa [hsu] at this
        by_cases hlt : i < nc + 4
        · have hltI : (i : Int) < (nc : Int) + 4 := by omega
          obtain ⟨ho1, ho2⟩ := order_at i (by omega)
          obtain ⟨⟨xv, st6⟩, hx⟩ : ∃ p, takeU 3 s m st5 = p := ⟨_, rfl⟩
          have hss := short_step hsu hx
          generalize orderU.getD i 0 = z at *
          have hcell := cellOf hord i ho1
          have HT : Hid (∀ w, UAt w b rb s ov m st5 → Calls Try.prog 69 #[.pointer (some ⟨b, 0, none⟩), .int .i64 3] w fun e w' => e = .returned (.int .i64 (xv : Int)) ∧ UAt w' b rb s ov m st6 ∧ Mut [b, rb] w w') := Lib.hid fun w h => utake_any b rb s st5 st6 xv 3 3 ov m w h hs hin5 rfl (by omega) hx
          have hi19 : (i : Int) < 19 := by omega
          have hz19 : (z : Int) < 19 := by omega
          have HSS := Lib.hid hss
          have HU := Lib.hid hU
          have HROW := Lib.hid (And.intro hrow hlen)
          have HORD := Lib.hid (And.intro hord (And.intro hgo hgg))
          have HM := Lib.hid hM
          have HZ := Lib.hid ho2
          have hd1 : ∀ v : WIn (CO go i z), v.w.cell? ⟨go, i, none⟩ = some (.int .i64 (z : Int)) := fun v => v.ok
          clear hsu hU hrow hlen hord hgo hgg hM hss hx ho1 ho2 hin5
          go_wp2_with fail
          haveI : Nonempty (WIn (CO go i z)) := ⟨⟨wr, hcell⟩⟩
          refine wp_region_mix (fun w' => ∃ v : WIn (CO go i z), w' = v.w) 6 1 [4] [0, 1, 2, 3] [5, 6, 7]
            (fun l => (l.drop 4).take 1) (fun l => l.take 4) (fun l => l.drop 5) rfl rfl rfl (by kernel_rfl) (by kernel_rfl) (by kernel_rfl) (by kernel_rfl) (fun _ _ _ _ _ h => h) ⟨⟨wr.drew, hcell⟩, rfl⟩ ?_
          simp only [List.take_succ_cons, List.take_zero, List.drop_succ_cons, List.drop_zero]
          go_big_quiet_step (fail)
          refine wpQuiet_nil ?_
          repeat (go_big_quiet_step (fail))
          refine wpQuiet_nil ?_
          intro K hK
          go_simp
          go_at_call 69
          refine (HT.out wr.drew (HU.out.mut ((Mut.refl [] wr).drew) (by simp) (by simp) (by simp))).mono ?_
          rintro e w4 ⟨rfl, hu, hm4⟩
          have hm : Mut [b, rb] wr w4 := ((Mut.refl [b, rb] wr).drew).trans' hm4
          have hgn : g ≠ b ∧ g ≠ rb ∧ go ≠ b ∧ go ≠ rb := by
            have h1 := HBR.out
            have h2 := HORD.out
            omega
          have hrow4 : IRow w4 (.slice (some ⟨g, 0, none⟩) 19 19) (toI l') := HROW.out.1.mut hm (fun g' hg => by
            obtain rfl : g = g' := by simpa [Value.ownBlock] using hg
            simpa using ⟨hgn.1, hgn.2.1⟩)
          have hord4 := hm.get HORD.out.1 (by simpa using ⟨hgn.2.2.1, hgn.2.2.2⟩)
          have hcell4 : w4.cell? ⟨go, i, none⟩ = some (.int .i64 (z : Int)) := hm.cell hcell (by simpa using ⟨hgn.2.2.1, hgn.2.2.2⟩)
          obtain ⟨cz, fz⟩ := IRow.cell19 hrow4 z (by rw [toI_length, HROW.out.2]; exact HZ.out)
          obtain ⟨zv, hzv⟩ : ∃ zv, (toI l').getD z 0 = zv := ⟨_, rfl⟩
          rw [hzv] at cz
          have HSET : Hid (ShC w b rb s ov m st6 go g (l'.set z xv) (w4.setCell ⟨g, z, none⟩ (.int .i64 (xv : Int)))) := Lib.hid (by
            have h2 := HORD.out
            have h1 := HBR.out
            have hms : Mut [g] w4 (w4.setCell ⟨g, z, none⟩ (.int .i64 (xv : Int))) := (Mut.refl _ _).setCell (by simp) _
            refine ⟨hu.mut hms (by simp; omega) (by simp; omega) (fun g' hg => by have := h1.2.2 g' hg; simp; omega), ?_, by simpa using HROW.out.2, hms.get hord4 (by simp; omega), h2.2.1, h2.2.2, (HM.out.trans' hm).trans hms (fun y hy => .inr (by simp at hy; omega))⟩
            have := hrow4.set z (xv : Int)
            rwa [show toI (l'.set z xv) = (toI l').set z (xv : Int) by simp [toI]])
          clear hu hm4 hm hrow4 hord4 hzv HU HROW HORD HM
          go_simp
          refine hK _ _ (fun _ => ⟨⟨w4, hcell4⟩, rfl⟩) ?_
          clear hK K
          intro K hK
          go_simp
          refine hK _ _ (fun h => absurd h (by decide)) ?_
          clear hK K
          intro K hK
          go_simp
          refine hK _ _ (fun h => absurd h (by decide)) ?_
          clear hK K
          unfold wpMov
          go_wp2_with fail
          exact ⟨⟨i + 1, by rw [Int.natCast_add]; rfl, by omega, Lib.hid ⟨_, _, HSS.out, HSET.out⟩⟩, by simp only [intOf]; omega⟩
        · obtain rfl : i = nc + 4 := by omega
          rw [Q5.out] at hsu
          obtain ⟨rfl, rfl⟩ := Prod.mk.inj hsu
          have hTB := utable_any b rb (toI sh) tb s s5 s6 ov m wr hU (by rw [toI_length]; omega) (some ⟨g, 0, none⟩) 19 (fun w' hm' i hi => ⟨_, rfl, by
            rw [Addr.add_lit, Nat.zero_add]
            exact (hrow.mut hm' (by simp)).cellI i hi⟩) Q6.out
          rw [toI_length, hlen] at hTB
          have HTB := Lib.hid hTB
          have HM := Lib.hid hM
          have t6 : s6.t ≤ 8 * s.size := by have := (table_nice (toI sh)).inside s m s5 hin5; rwa [Q6.out] at this
          have HN : Hid (nl + 257 + nd + 1 ≤ 400 ∧ 257 ≤ nl + 257) := Lib.hid (by omega)
          clear hTB hM hord hgo hgg hrow hlen hU hsu hin5 hi hlt Q5 Q6
          go_wp2_with fail
          refine HTB.out.mono ?_
          rintro e w5 ⟨⟨p, rfl, hp⟩, hu, hm⟩
          have HU5 := Lib.hid hu
          have HP := Lib.hid hp
          have HM5 := Lib.hid (HM.out.trans' (hm.mono (by simp)))
          clear hu hp hm HTB HM
          obtain ⟨n, hn⟩ : ∃ n, nl + 257 + nd + 1 = n := ⟨_, rfl⟩
          have hnI : (nl : Int) + 257 + (nd : Int) + 1 = (n : Int) := by omega
          have q7 := Q7.out
          rw [hn] at q7
          have hn4 : n ≤ 400 := by have := HN.out; omega
          have HL := Lib.hid (ulengths_any b rb wr.heap.size w5.heap.size tb n 400 s s6 s7 l ov m w5 HU5.out p (fun h => by
            obtain ⟨tb', h1, h2⟩ := HP.out h
            exact ⟨tb', h1, h2⟩) hs t6 (by omega) (by omega) q7 (n : Int) rfl)
          have HLN : Hid (s7.er = 0 → l.length = n) := Lib.hid fun h => lengths_len tb n s m 400 [] l s6 s7 q7 h (by simp; omega) (by simp)
          have HNN := Lib.hid hn
          clear q7 hn Q7 HP
          go_wp2_with fail
          refine HL.out.mono ?_
          rintro e w6 ⟨v, rfl, hrow, hfr, hu, hm⟩
          have HU6 := Lib.hid hu
          have HM6 := Lib.hid (HM5.out.trans' hm)
          have HFR : Hid (∀ g, v.ownBlock = some g → w.heap.size ≤ g) := Lib.hid fun g hg => Nat.le_trans HM5.out.size (hfr g hg)
          obtain ⟨pv, cv, rfl, -⟩ := hrow.read
          rw [toI_length] at hrow HFR ⊢
          have HROW := Lib.hid hrow
          clear hu hm hfr hrow HL HU5 HM5 t6
          by_cases he7 : s7.er = 0
          case neg =>
            obtain ⟨c0, c1, c2, c3, f1, f3⟩ := cells4 HU6.out.box
            have hI : ((s7.er : Int) == 0) = false := by rw [beq_eq_false_iff_ne]; omega
            have hI' : ((s7.er : Int) != 0) = true := by simp [bne, hI]
            have HE : Hid (st' = s7) := Lib.hid (by
              have h8 := Q8.out
              have hst := HST2.out
              unfold failU at h8
              rw [if_pos he7] at h8
              obtain ⟨rfl, rfl⟩ := Prod.mk.inj h8
              rw [if_pos rfl] at hst
              exact (Prod.mk.inj hst).2)
            clear HST2 Q8 Q9 Q10 HLN
            go_wp2_with fail
            refine bodyPost_ret (results_tmp2 rfl _ _ _) rfl ⟨⟨none, none, rfl, fun h0 => ?_⟩, ?_, HM6.out⟩
            · exact absurd (by rw [← HE.out]; exact h0) he7
            · rw [HE.out]; exact HU6.out
          case pos =>
            have hll := HLN.out he7
            have hn258 : 257 < n := by have := HNN.out; omega
            obtain ⟨g2, cap2, hsl, -, hcap⟩ := row_some HROW.out (by rw [toI_length]; omega)
            rw [toI_length] at hsl hcap
            obtain ⟨rfl, -, rfl⟩ : pv = some ⟨g2, 0, none⟩ ∧ l.length = l.length ∧ cv = cap2 := by simpa using hsl
            have hcell := HROW.out.cellI 256 (by rw [toI_length]; omega)
            rw [toI_getD] at hcell
            have h8 := Q8.out
            obtain ⟨zv, hzv⟩ : ∃ zv, l.getD 256 0 = zv := ⟨_, rfl⟩
            rw [hzv] at h8 hcell
            rw [hll] at HROW HFR ⊢
            have HLL := Lib.hid hll
            have h256I : (256 : Int) < (n : Int) := by omega
            have hU6 := HU6.out
            obtain ⟨t7, o7, er7⟩ := s7
            simp only at he7
            subst he7
            obtain ⟨c0, c1, c2, c3, f1, f3⟩ := cellsU hU6.box
            by_cases hz0 : zv = 0
            case pos =>
              have hzI : ((zv : Int) == 0) = true := by rw [hz0]; rfl
              rw [decide_eq_true hz0] at h8
              have HF := Lib.hid (ufail_any b rb s ⟨t7, o7, 0⟩ s8 b2 true 5 5 ov m w6 hU6 rfl (by decide) h8)
              have HE : Hid (b2 = true ∧ st' = s8 ∧ s8.er ≠ 0) := Lib.hid (by
                have hst := HST2.out
                unfold failU at h8
                rw [if_neg (by simp), if_pos rfl] at h8
                obtain ⟨rfl, rfl⟩ := Prod.mk.inj h8
                rw [if_pos rfl] at hst
                exact ⟨rfl, (Prod.mk.inj hst).2, by simp⟩)
              have HZ := Lib.hid hz0
              clear hz0 h8 hsl hll hU6 HST2 Q8 Q9 Q10 hzv hcap
              go_wp2_with fail
              refine HF.out.mono ?_
              rintro e w7 ⟨rfl, hu, hm⟩
              obtain ⟨rfl, e8, n8⟩ := HE.out
              have HU7 := Lib.hid hu
              have HE8 := Lib.hid e8
              have HN8 := Lib.hid n8
              have HM7 := Lib.hid (HM6.out.trans' (hm.mono (by simp)))
              clear hu hm HF HE e8 n8
              go_wp2_with fail
              refine bodyPost_ret (results_tmp2 rfl _ _ _) rfl ⟨⟨none, none, rfl, fun h0 => ?_⟩, ?_, HM7.out⟩
              · exact absurd (by rw [← HE8.out]; exact h0) HN8.out
              · rw [HE8.out]; exact HU7.out
            case neg =>
              have hzI : ((zv : Int) == 0) = false := by rw [beq_eq_false_iff_ne]; omega
              rw [decide_eq_false hz0] at h8
              have HF := Lib.hid (ufail_any b rb s ⟨t7, o7, 0⟩ s8 b2 false 5 5 ov m w6 hU6 rfl (by decide) h8)
              have HE : Hid (b2 = false ∧ ((X, Y), st') = ((x, y), s10) ∧ s8 = ⟨t7, o7, 0⟩) := Lib.hid (by
                have hst := HST2.out
                unfold failU at h8
                rw [if_neg (by simp), if_neg (by simp)] at h8
                obtain ⟨rfl, rfl⟩ := Prod.mk.inj h8
                rw [if_neg (by simp)] at hst
                exact ⟨rfl, hst, rfl⟩)
              have HZ := Lib.hid hz0
              have HCAP := Lib.hid hcap
              clear hz0 h8 hsl hll hU6 HST2 Q8 hzv hcap
              go_wp2_with fail
              refine HF.out.mono ?_
              rintro e w7 ⟨rfl, hu, hm⟩
              obtain ⟨rfl, e8, rfl⟩ := HE.out
              obtain ⟨e9, rfl⟩ := Prod.mk.inj e8
              obtain ⟨rfl, rfl⟩ := Prod.mk.inj e9
              have hgb : g2 ≠ b := by
                have h1 := HFR.out g2 rfl
                have h2 := HBR.out
                omega
              have hrow7 : IRow w7 (.slice (some ⟨g2, 0, none⟩) n cv) (toI l) := HROW.out.mut hm (fun g' hg => by
                obtain rfl : g2 = g' := by simpa [Value.ownBlock] using hg
                simpa using hgb)
              obtain ⟨c, hc⟩ : ∃ c, nl + 257 = c := ⟨_, rfl⟩
              have hcI : (nl : Int) + 257 = (c : Int) := by omega
              have hcn : c < n := by have := HNN.out; omega
              have hcnI : (c : Int) < (n : Int) := by omega
              have hccI : (c : Int) ≤ (cv : Int) := by have := HCAP.out; have := HLL.out; omega
              have hncI : (n : Int) ≤ (cv : Int) := by have := HCAP.out; have := HLL.out; omega
              have q9 := Q9.out
              have q10 := Q10.out
              rw [hc] at q9 q10
              have hT1 := utable_any b rb (toI (l.take c)) X s ⟨t7, o7, 0⟩ s9 ov m w7 hu (by rw [toI_length, List.length_take]; omega) (some ⟨g2, 0, none⟩) cv (fun w' hm' i hi => ⟨_, rfl, by
                rw [toI_length, List.length_take] at hi
                rw [Addr.add_lit, Nat.zero_add, (hrow7.mut hm' (by simp)).cellI i (by rw [toI_length]; omega), toI_getD, toI_getD]
                simp only [List.getD, List.getElem?_take]
                rw [if_pos (by omega)]⟩) q9
              rw [toI_length, List.length_take, HLL.out, Nat.min_eq_left (by omega : c ≤ n)] at hT1
              have HT1 := Lib.hid hT1
              have HT2 : Hid (∀ w8, UAt w8 b rb s ov m s9 → Mut [b] w7 w8 → Calls Try.prog 95 #[.pointer (some ⟨b, 0, none⟩), .slice (some ⟨g2, c, none⟩) (n - c) (cv - c)] w8 fun e w' => (∃ p, e = .returned (.pointer p) ∧ (st'.er = 0 → ∃ tb, p = some ⟨tb, 0, none⟩ ∧ TabOf w' w8.heap.size w'.heap.size tb b rb Y)) ∧ UAt w' b rb s ov m st' ∧ Mut [b] w8 w') := Lib.hid (by
                intro w8 hu8 hm8
                have hrow8 : IRow w8 (.slice (some ⟨g2, 0, none⟩) n cv) (toI l) := hrow7.mut hm8 (fun g' hg => by
                  obtain rfl : g2 = g' := by simpa [Value.ownBlock] using hg
                  simpa using hgb)
                have := utable_any b rb (toI (l.drop c)) Y s s9 st' ov m w8 hu8 (by rw [toI_length, List.length_drop, HLL.out]; omega) (some ⟨g2, c, none⟩) (cv - c) (fun w' hm' i hi => ⟨_, rfl, by
                  rw [toI_length, List.length_drop, HLL.out] at hi
                  rw [Addr.add_lit, (hrow8.mut hm' (by simp)).cellI (c + i) (by rw [toI_length, HLL.out]; omega), toI_getD, toI_getD]
                  simp only [List.getD, List.getElem?_drop]⟩) q10
                rwa [toI_length, List.length_drop, HLL.out] at this)
              have HBI : Hid (∀ w', UAt w' b rb s ov m st' → True) := Lib.hid fun _ _ => trivial
              have HU7 := Lib.hid hu
              have HM7 := Lib.hid (HM6.out.trans' (hm.mono (by simp)))
              have HTA : Hid (st'.er = 0 → s9.er = 0) := Lib.hid fun h => by
                by_cases h9 : s9.er = 0
                · exact h9
                · have := (table_nice (toI (l.drop c))).sticky s m s9 h9
                  rw [q10] at this
                  simp only at this
                  rw [this] at h
                  exact absurd h h9
              clear hT1 hrow7 hgb q9 q10 Q9 Q10 hu hm HU6 HM6 HF HE e8 e9 HROW c0 c1 c2 c3 f1 f3 hcell HFR hzI
              go_wp2_with fail
              refine HT1.out.mono ?_
              rintro e w8 ⟨⟨p1, rfl, hp1⟩, hu, hm⟩
              have HP1 := Lib.hid hp1
              have HU8 := Lib.hid hu
              have HM8 := Lib.hid hm
              clear hp1 hu hm HT1
              go_wp2_with fail
              refine (HT2.out w8 HU8.out HM8.out).mono ?_
              rintro e w9 ⟨⟨p2, rfl, hp2⟩, hu, hm⟩
              have HP2 := Lib.hid hp2
              have HU9 := Lib.hid hu
              have HM9 := Lib.hid hm
              clear hp2 hu hm HT2
              go_wp2_with fail
              refine bodyPost_ret (results_tmp2 rfl _ _ _) rfl ⟨⟨p1, p2, rfl, fun h0 => ?_⟩, HU9.out, (HM7.out.trans' (HM8.out.mono (by simp))).trans' (HM9.out.mono (by simp))⟩
              obtain ⟨lb, rfl, hA⟩ := HP1.out (HTA.out h0)
              obtain ⟨db, rfl, hB⟩ := HP2.out h0
              have z1 := HM7.out.size
              have z2 := HM8.out.size
              have z3 := HM9.out.size
              have hbr := HBR.out
              exact ⟨lb, db, rfl, rfl, (hA.mut HM9.out (fun x hx => by simp at hx; omega)).widen z1 z3 (Nat.le_refl _) hbr.1 hbr.2.1, hB.widen (Nat.le_trans z1 z2) (Nat.le_refl _) (Nat.le_refl _) hbr.1 hbr.2.1⟩

end Go.Proofs.Ytgjcnembeebjfaa
