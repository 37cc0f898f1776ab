/- Walks over package gz: the head of a part. -/
import Derived.Test.YtgjcnembeebjfaaGzA
import Derived.Deep.RegionWith
import Derived.Test.YtgjcnembeebjfaaReg
namespace Go.Proofs.Ytgjcnembeebjfaa
open Go.RowKit
set_option linter.unusedVariables false

/-- the reader's box and the part that is told -/
structure Hd (w0 : World) (b P : Nat) (D : ByteArray) (a c f : Nat) (p : GPart) (w : World) : Prop where
  rx : RX b D a c f w
  px : w.heap[P]? = some (.cells (gpC p).toArray 37 (0, 0))
  ne : b ≠ P
  new : w0.heap.size ≤ P
  kept : Mut [b] w0 w

theorem Hd.cells {w0 w : World} {b P : Nat} {D : ByteArray} {a c f : Nat} {p : GPart} (h : Hd w0 b P D a c f p w) :
    w.cell? ⟨P, 0, none⟩ = some (.string p.name) ∧ w.cell? ⟨P, 1, none⟩ = some (.string p.comment) ∧ w.cell? ⟨P, 2, none⟩ = some (.string p.extra) ∧ w.cell? ⟨P, 3, none⟩ = some (.bool p.text) ∧ w.cell? ⟨P, 4, none⟩ = some (.bool p.headSum) ∧
    w.cell? ⟨P, 5, none⟩ = some (.int .i64 p.time) ∧ w.cell? ⟨P, 6, none⟩ = some (.int .i64 p.more) ∧ w.cell? ⟨P, 7, none⟩ = some (.int .i64 p.system) ∧ w.cell? ⟨P, 8, none⟩ = some (.string p.data) ∧ (∀ i, w.frozen? ⟨P, i, none⟩ = false) :=
  ⟨cellOf h.px 0 rfl, cellOf h.px 1 rfl, cellOf h.px 2 rfl, cellOf h.px 3 rfl, cellOf h.px 4 rfl, cellOf h.px 5 rfl, cellOf h.px 6 rfl, cellOf h.px 7 rfl, cellOf h.px 8 rfl, fun i => frozenOf h.px i⟩
theorem Hd.rd {w0 w w' : World} {b P : Nat} {D : ByteArray} {a c f a' c' f' : Nat} {p : GPart} (h : Hd w0 b P D a c f p w) (m : Mut [b] w w') (r : RX b D a' c' f' w') : Hd w0 b P D a' c' f' p w' :=
  ⟨r, m.get h.px (by simp; exact fun e => h.ne e.symm), h.ne, h.new, h.kept.trans' m⟩
theorem Hd.drewN {w0 w : World} {b P : Nat} {D : ByteArray} {a c f : Nat} {p : GPart} (h : Hd w0 b P D a c f p w) (n : Nat) : Hd w0 b P D a c f p (w.drewN n) :=
  ⟨h.rx, h.px, h.ne, h.new, h.kept.drewN n⟩
theorem Hd.set {w0 w : World} {b P : Nat} {D : ByteArray} {a c f : Nat} {p q : GPart} (h : Hd w0 b P D a c f p w) (i : Nat) (v : Value) (e : (gpC p).toArray.setIfInBounds i v = (gpC q).toArray) : Hd w0 b P D a c f q (w.setCell ⟨P, i, none⟩ v) :=
  ⟨(heap_set_ne h.ne v).trans h.rx, by rw [heap_set h.px i v, e], h.ne, h.new, h.kept.setCell (.inr h.new) v⟩

/-- the part is stored where it lies -/
def again9 (P : Nat) (p : GPart) (w : World) : World :=
  ((((((((w.setCell ⟨P, 0, none⟩ (.string p.name)).setCell ⟨P, 1, none⟩ (.string p.comment)).setCell ⟨P, 2, none⟩ (.string p.extra)).setCell ⟨P, 3, none⟩ (.bool p.text)).setCell ⟨P, 4, none⟩ (.bool p.headSum)).setCell ⟨P, 5, none⟩ (.int .i64 p.time)).setCell ⟨P, 6, none⟩ (.int .i64 p.more)).setCell ⟨P, 7, none⟩ (.int .i64 p.system)).setCell ⟨P, 8, none⟩ (.string p.data)
theorem Hd.again {w0 w : World} {b P : Nat} {D : ByteArray} {a c f : Nat} {p : GPart} (h : Hd w0 b P D a c f p w) : Hd w0 b P D a c f p (again9 P p w) :=
  ((((((((h.set (q := p) 0 (.string p.name) rfl).set (q := p) 1 (.string p.comment) rfl).set (q := p) 2 (.string p.extra) rfl).set (q := p) 3 (.bool p.text) rfl).set (q := p) 4 (.bool p.headSum) rfl).set (q := p) 5 (.int .i64 p.time) rfl).set (q := p) 6 (.int .i64 p.more) rfl).set (q := p) 7 (.int .i64 p.system) rfl).set (q := p) 8 (.string p.data) rfl

theorem results_part9 {tmps : Array Value} {w : World} {g : Nat} {p : GPart} (h : w.heap[g]? = some (.cells (gpC p).toArray 37 (0, 0))) (p2 : tmps.getD 2 undef = .pointer (some ⟨g, 0, none⟩)) :
    (results Try.f29 tmps).run Try.prog w = .ok (gpV p) w := by
  have q2 : tmps[2]?.getD undef = .pointer (some ⟨g, 0, none⟩) := by simpa using p2
  have e2 := run_loadVar_row (P := Try.prog) w g 37 37 (gpC p).toArray (0, 0) _ h Try.underlying37 rfl (by kernel_rfl)
  simp [results, q2, asAddr, e2, gpV]

/-- what head and part leave -/
def RQ (b : Nat) (D : ByteArray) (r : RR GPart) (e : Ending) (w w' : World) : Prop :=
  Mut [b] w w' ∧ match r with
  | .ok p a => e = .returned (gpV p) ∧ RX b D a 0 0 w'
  | .bad c f => (∃ p, e = .returned (gpV p)) ∧ ∃ a, a ≤ D.size ∧ RX b D a c f w'

/-- a stage of the head -/
def Stg (w0 : World) (b P : Nat) (D : ByteArray) (R : RR GPart) (w : World) : Prop :=
  match R with
  | .ok p a => a ≤ D.size ∧ Hd w0 b P D a 0 0 p w
  | .bad c f => c ≠ 0 ∧ ∃ a p, a ≤ D.size ∧ Hd w0 b P D a c f p w

def st1 (D h : ByteArray) (a1 : Nat) (p : GPart) : RR GPart := if flag h 4 = true then (extraM D a1).bind fun x a2 => .ok { p with extra := x } a2 else .ok p a1
def st2 (D h : ByteArray) (R : RR GPart) : RR GPart := R.bind fun p a => if flag h 8 = true then (textM D a).bind fun n a' => .ok { p with name := n } a' else .ok p a
def st3 (D h : ByteArray) (R : RR GPart) : RR GPart := R.bind fun p a => if flag h 16 = true then (textM D a).bind fun n a' => .ok { p with comment := n } a' else .ok p a
def p0 (h : ByteArray) : GPart := { text := flag h 1, headSum := flag h 2, time := numL (bytesOf (h.extract 4 8)), more := gB h 8, system := gB h 9 }

theorem st1_in (D h : ByteArray) (a1 : Nat) (p : GPart) (h1 : a1 ≤ D.size) : (st1 D h a1 p).In a1 D.size := by
  unfold st1
  split
  · exact (extraM_in D a1).bind fun x a2 _ h2 h3 => ⟨h2, h3⟩
  · exact ⟨Nat.le_refl _, h1⟩
theorem st2_in (D h : ByteArray) (R : RR GPart) (lo : Nat) (hR : R.In lo D.size) : (st2 D h R).In lo D.size := by
  refine hR.bind fun p a _ h1 h2 => ?_
  split
  · exact RR.In.up (RR.In.bind (g := fun n a' => RR.ok { p with name := n } a') (textM_in D a h2) (fun x a2 _ h3 h4 => ⟨h3, h4⟩)) h1
  · exact ⟨h1, h2⟩
theorem st3_in (D h : ByteArray) (R : RR GPart) (lo : Nat) (hR : R.In lo D.size) : (st3 D h R).In lo D.size := by
  refine hR.bind fun p a _ h1 h2 => ?_
  split
  · exact RR.In.up (RR.In.bind (g := fun n a' => RR.ok { p with comment := n } a') (textM_in D a h2) (fun x a2 _ h3 h4 => ⟨h3, h4⟩)) h1
  · exact ⟨h1, h2⟩
/-- what a part says of its head's sum -/
def HsIs (f : Bool) (R : RR GPart) : Prop := ∀ p a, R = .ok p a → p.headSum = f
theorem st1_hs (D h : ByteArray) (a1 : Nat) (p : GPart) : HsIs p.headSum (st1 D h a1 p) := by
  intro q a e
  unfold st1 at e
  split at e
  · cases hx : extraM D a1 with
    | ok x a2 => rw [hx] at e; cases e; rfl
    | bad c f => rw [hx] at e; cases e
  · cases e; rfl
theorem st2_hs (D h : ByteArray) (R : RR GPart) (f : Bool) (hR : HsIs f R) : HsIs f (st2 D h R) := by
  intro q a e
  unfold st2 at e
  cases R with
  | bad c f => cases e
  | ok p a1 =>
    simp only [RR.bind] at e
    split at e
    · cases hx : textM D a1 with
      | ok x a2 => rw [hx] at e; cases e; exact hR p a1 rfl
      | bad c f => rw [hx] at e; cases e
    · cases e; exact hR _ _ rfl
theorem st3_hs (D h : ByteArray) (R : RR GPart) (f : Bool) (hR : HsIs f R) : HsIs f (st3 D h R) := by
  intro q a e
  unfold st3 at e
  cases R with
  | bad c f => cases e
  | ok p a1 =>
    simp only [RR.bind] at e
    split at e
    · cases hx : textM D a1 with
      | ok x a2 => rw [hx] at e; cases e; exact hR p a1 rfl
      | bad c f => rw [hx] at e; cases e
    · cases e; exact hR _ _ rfl

theorem restM_eq (D : ByteArray) (a : Nat) (h : ByteArray) (a1 : Nat) : restM D a h a1 = (st3 D h (st2 D h (st1 D h a1 (p0 h)))).bind fun p a4 => sumM D a p (flag h 2) a4 := by
  unfold restM st1 st2 st3 p0
  generalize flag h 1 = f1
  generalize flag h 2 = f2
  cases flag h 4
  all_goals cases flag h 8
  all_goals cases flag h 16
  all_goals simp only [if_true, if_false, Bool.false_eq_true, RR.bind]
  all_goals (try (cases extraM D a1 <;> try simp only []))
  all_goals (try (rename_i x a2; cases textM D a2 <;> try simp only []))
  all_goals (try (rename_i x a2; cases textM D a2 <;> try simp only []))
  all_goals (try (cases textM D a1 <;> try simp only []))
  all_goals (try (rename_i x a2; cases textM D a2 <;> try simp only []))
  all_goals (try rfl)

set_option maxHeartbeats 3200000 in
set_option maxRecDepth 100000 in
theorem gz_head_any (b : Nat) (D : ByteArray) (a : Nat) (ha : a ≤ D.size) (hD : D.size ≤ 1099511627776) (w : World) (h : RX b D a 0 0 w) :
    Calls Try.prog 29 #[.pointer (some ⟨b, 0, none⟩)] w fun e w' => RQ b D (headM D a) e w w' := by
  have k1 : (0 : Int) ≤ (a : Int) := by omega
  have k2 : (a : Int) ≤ (D.size : Int) := by omega
  have HIS := Lib.hid fun q hq W => gz_is_any (D.extract a D.size) q hq W
  have hne : b ≠ w.heap.size := by have := h.lt; omega
  have H0 : Hid (Hd w b w.heap.size D a 0 0 {} (w.alloc (.cells #[.string ⟨#[]⟩, .string ⟨#[]⟩, .string ⟨#[]⟩, .bool false, .bool false, .int .i64 0, .int .i64 0, .int .i64 0, .string ⟨#[]⟩] 37))) :=
    Lib.hid ⟨h.mut ((Mut.refl [] w).alloc _) (by simp), heap_alloc_new' _ _, hne, Nat.le_refl _, (Mut.refl _ w).alloc _⟩
  clear h hne
  have hH : headM D a = headM D a := rfl
  conv at hH => lhs; rw [headM]
  obtain ⟨R, hR⟩ : ∃ R, headM D a = R := ⟨_, rfl⟩
  rw [hR] at hH ⊢
  have HH := Lib.hid hH
  clear hR hH
  go_enter Try.func29, Try.ntmps29
  go_upto_region 1 with fail
  generalize w.alloc (.cells #[.string ⟨#[]⟩, .string ⟨#[]⟩, .string ⟨#[]⟩, .bool false, .bool false, .int .i64 0, .int .i64 0, .int .i64 0, .string ⟨#[]⟩] 37) = w1 at *
  generalize w.heap.size = P at *
  obtain ⟨c0, c1, c2, c3, d1, d2, d3⟩ := H0.out.rx.cells
  obtain ⟨e0, e1, e2, e3, e4, e5, e6, e7, e8, e9⟩ := H0.out.cells
  cases hq : isM (D.extract a D.size) with
  | false =>
    have HE : Hid (RR.bad 12 a = R) := Lib.hid (by rw [← HH.out, if_pos hq])
    have HI := Lib.hid (HIS.out false hq)
    have HF : Hid (Calls Try.prog 18 #[.pointer (some ⟨b, 0, none⟩), .bool true, .int .i64 12, .int .i64 (a : Int)] w1 fun e w' => e = .returned (.bool true) ∧ RX b D a 12 a w' ∧ Mut [b] w1 w') := Lib.hid (gz_fail_new b D a 0 12 a (by decide) w1 H0.out.rx)
    clear hq HIS HH
    go_wp2_with fail
    refine (HI.out _).mono ?_
    rintro e w2 ⟨rfl, rfl⟩
    go_wp2_with fail
    refine HF.out.mono ?_
    rintro e w3 ⟨rfl, hr, hm⟩
    have HX := Lib.hid (H0.out.rd hm hr)
    clear e0 e1 e2 e3 e4 e5 e6 e7 e8 e9 c0 c1 c2 c3 d1 d2 d3 hr hm
    obtain ⟨e0, e1, e2, e3, e4, e5, e6, e7, e8, e9⟩ := HX.out.cells
    go_wp2_with fail
    rw [← HE.out]
    refine bodyPost_ret (results_part9 HX.out.again.px rfl) rfl ⟨HX.out.again.kept, ⟨_, rfl⟩, a, ha, HX.out.again.rx⟩
  | true =>
    have HN : Hid (∀ W, RX b D a 0 0 W → ∀ p, Calls Try.prog 18 #[.pointer (some ⟨b, 0, none⟩), .bool false, .int .i64 12, .int .i64 p] W fun e w' => e = .returned (.bool false) ∧ w' = W) := Lib.hid fun W hW p => gz_fail_no b D a 0 12 p W hW
    have HI := Lib.hid (HIS.out true hq)
    have hH := HH.out
    rw [hq, if_neg (by simp)] at hH
    have HTK : Hid (Calls Try.prog 31 #[.pointer (some ⟨b, 0, none⟩), .int .i64 10] w1 fun e w' => RP b D (takeM D 10 a) e w1 w') := Lib.hid (gz_take_any b D a 10 (by decide) ha hD w1 H0.out.rx)
    clear HIS hq HH
    cases ht : takeM D 10 a with
    | bad c f =>
      rw [ht] at hH HTK
      have HE : Hid (RR.bad c f = R) := Lib.hid hH
      have hc : c ≠ 0 := by
        have := takeM_in D 10 a
        rw [ht] at this
        exact this
      have hc' : ((c : Int) == 0) = false := by rw [beq_eq_false_iff_ne]; omega
      clear hH ht
      go_wp2_with fail
      refine (HI.out _).mono ?_
      rintro e w2 ⟨rfl, rfl⟩
      go_wp2_with fail
      refine (HN.out _ H0.out.rx _).mono ?_
      rintro e w3 ⟨rfl, rfl⟩
      go_wp2_with fail
      refine HTK.out.mono ?_
      rintro e w4 ⟨hm, rfl, a1, ha1, hr⟩
      have HX := Lib.hid (H0.out.rd hm hr)
      clear e0 e1 e2 e3 e4 e5 e6 e7 e8 e9 c0 c1 c2 c3 d1 d2 d3 hm
      obtain ⟨c0, c1, c2, c3, d1, d2, d3⟩ := hr.cells
      obtain ⟨e0, e1, e2, e3, e4, e5, e6, e7, e8, e9⟩ := HX.out.cells
      clear hr
      go_wp2_with fail
      rw [← HE.out]
      refine bodyPost_ret (results_part9 HX.out.again.px rfl) rfl ⟨HX.out.again.kept, ⟨_, rfl⟩, a1, ha1, HX.out.again.rx⟩
    | ok h a1 =>
      obtain ⟨ht1, rfl, -, hs10⟩ := takeM_ok ht
      rw [ht] at hH HTK
      clear ht
      obtain ⟨x2, hx2⟩ : ∃ x, (h[2]'(by omega)).toNat = x := ⟨_, rfl⟩
      obtain ⟨x3, hx3⟩ : ∃ x, (h[3]'(by omega)).toNat = x := ⟨_, rfl⟩
      obtain ⟨x8, hx8⟩ : ∃ x, (h[8]'(by omega)).toNat = x := ⟨_, rfl⟩
      obtain ⟨x9, hx9⟩ : ∃ x, (h[9]'(by omega)).toNat = x := ⟨_, rfl⟩
      have hb8 : x8 < 256 := by rw [← hx8]; exact UInt8.toNat_lt _
      have hb9 : x9 < 256 := by rw [← hx9]; exact UInt8.toNat_lt _
      have hb3 : x3 < 256 := by rw [← hx3]; exact UInt8.toNat_lt _
      have g2 : gB h 2 = x2 := by rw [← hx2, bytesOf_getD h 2 (by omega)]; rfl
      have g3 : gB h 3 = x3 := by rw [← hx3, bytesOf_getD h 3 (by omega)]; rfl
      have g8 : gB h 8 = x8 := by rw [← hx8, bytesOf_getD h 8 (by omega)]; rfl
      have g9 : gB h 9 = x9 := by rw [← hx9, bytesOf_getD h 9 (by omega)]; rfl
      simp only [RR.bind, g2] at hH
      have HG := Lib.hid (And.intro g3 (And.intro g8 g9))
      have HH2 := Lib.hid hH
      clear g2 g3 g8 g9 hH
      go_upto_region 2 with fail
      go_wp2_with fail
      refine (HI.out _).mono ?_
      rintro e w2 ⟨rfl, rfl⟩
      go_wp2_with fail
      refine (HN.out _ H0.out.rx _).mono ?_
      rintro e w3 ⟨rfl, rfl⟩
      go_wp2_with fail
      refine HTK.out.mono ?_
      rintro e w4 ⟨hm, rfl, hr⟩
      have HX := Lib.hid (H0.out.rd hm hr)
      clear e0 e1 e2 e3 e4 e5 e6 e7 e8 e9 c0 c1 c2 c3 d1 d2 d3 hm
      obtain ⟨c0, c1, c2, c3, d1, d2, d3⟩ := hr.cells
      obtain ⟨e0, e1, e2, e3, e4, e5, e6, e7, e8, e9⟩ := HX.out.cells
      clear hr H0 HI HN HTK
      have hsI : (h.size : Int) = 10 := by omega
      by_cases h8 : x2 = 8
      case neg =>
        have hb2 : ((x2 : Int) != 8) = true := by simp only [bne_iff_ne, ne_eq]; omega
        have HE : Hid (RR.bad 13 (a + 2) = R) := Lib.hid (by rw [← HH2.out, if_pos h8])
        have HF : Hid (Calls Try.prog 18 #[.pointer (some ⟨b, 0, none⟩), .bool true, .int .i64 13, .int .i64 ((a : Int) + 2)] w4 fun e w' => e = .returned (.bool true) ∧ RX b D (a + 10) 13 (a + 2) w' ∧ Mut [b] w4 w') := Lib.hid (gz_fail_new b D (a + 10) 0 13 (a + 2) (by decide) w4 HX.out.rx)
        clear HH2
        go_wp2_with fail
        refine HF.out.mono ?_
        rintro e w5 ⟨rfl, hr, hm⟩
        have HX5 := Lib.hid (HX.out.rd hm hr)
        clear e0 e1 e2 e3 e4 e5 e6 e7 e8 e9 c0 c1 c2 c3 d1 d2 d3 hr hm HX HF
        obtain ⟨e0, e1, e2, e3, e4, e5, e6, e7, e8, e9⟩ := HX5.out.cells
        go_wp2_with fail
        rw [← HE.out]
        refine bodyPost_ret (results_part9 HX5.out.again.px rfl) rfl ⟨HX5.out.again.kept, ⟨_, rfl⟩, a + 10, ht1, HX5.out.again.rx⟩
      case pos =>
        have hb2 : ((x2 : Int) != 8) = false := by rw [h8]; rfl
        have hH := HH2.out
        rw [if_neg (by simp [h8])] at hH
        have HNO : Hid (∀ W, RX b D (a + 10) 0 0 W → ∀ e p, Calls Try.prog 18 #[.pointer (some ⟨b, 0, none⟩), .bool false, .int .i64 e, .int .i64 p] W fun e w' => e = .returned (.bool false) ∧ w' = W) := Lib.hid fun W hW e p => gz_fail_no b D (a + 10) 0 e p W hW
        clear HH2 h8
        cases hf : flag h 224 with
        | true =>
          rw [hf, if_pos rfl] at hH
          have HE : Hid (RR.bad 4 (a + 3) = R) := Lib.hid hH
          have hb3n : (bits .and .u8 (x3 : Int) 224 != 0) = true := by
            unfold flag at hf
            rw [HG.out.1] at hf
            exact hf
          have HF : Hid (Calls Try.prog 18 #[.pointer (some ⟨b, 0, none⟩), .bool true, .int .i64 4, .int .i64 ((a : Int) + 3)] w4 fun e w' => e = .returned (.bool true) ∧ RX b D (a + 10) 4 (a + 3) w' ∧ Mut [b] w4 w') := Lib.hid (gz_fail_new b D (a + 10) 0 4 (a + 3) (by decide) w4 HX.out.rx)
          clear hH hf
          go_wp2_with fail
          refine (HNO.out _ HX.out.rx _ _).mono ?_
          rintro e w5 ⟨rfl, rfl⟩
          go_wp2_with fail
          refine HF.out.mono ?_
          rintro e w5 ⟨rfl, hr, hm⟩
          have HX5 := Lib.hid (HX.out.rd hm hr)
          clear e0 e1 e2 e3 e4 e5 e6 e7 e8 e9 c0 c1 c2 c3 d1 d2 d3 hr hm HX HF
          obtain ⟨e0, e1, e2, e3, e4, e5, e6, e7, e8, e9⟩ := HX5.out.cells
          go_wp2_with fail
          rw [← HE.out]
          refine bodyPost_ret (results_part9 HX5.out.again.px rfl) rfl ⟨HX5.out.again.kept, ⟨_, rfl⟩, a + 10, ht1, HX5.out.again.rx⟩
        | false =>
          have HRR : Hid (restM D a h (a + 10) = R) := Lib.hid (by rw [hf, if_neg (by simp)] at hH; exact hH)
          have hb3n : (bits .and .u8 (x3 : Int) 224 != 0) = false := by
            unfold flag at hf
            rw [HG.out.1] at hf
            exact hf
          clear hH hf
          obtain ⟨f1, hf1⟩ : ∃ f, (bits .and .u8 (x3 : Int) 1 != 0) = f := ⟨_, rfl⟩
          obtain ⟨f2, hf2⟩ : ∃ f, (bits .and .u8 (x3 : Int) 2 != 0) = f := ⟨_, rfl⟩
          obtain ⟨f4, hf4⟩ : ∃ f, (bits .and .u8 (x3 : Int) 4 != 0) = f := ⟨_, rfl⟩
          obtain ⟨f8, hf8⟩ : ∃ f, (bits .and .u8 (x3 : Int) 8 != 0) = f := ⟨_, rfl⟩
          obtain ⟨f16, hf16⟩ : ∃ f, (bits .and .u8 (x3 : Int) 16 != 0) = f := ⟨_, rfl⟩
          have HF1 : Hid (flag h 1 = f1) := Lib.hid (by unfold flag; rw [HG.out.1]; exact hf1)
          have HF2 : Hid (flag h 2 = f2) := Lib.hid (by unfold flag; rw [HG.out.1]; exact hf2)
          have HF4 : Hid (flag h 4 = f4) := Lib.hid (by unfold flag; rw [HG.out.1]; exact hf4)
          have HF8 : Hid (flag h 8 = f8) := Lib.hid (by unfold flag; rw [HG.out.1]; exact hf8)
          have HF16 : Hid (flag h 16 = f16) := Lib.hid (by unfold flag; rw [HG.out.1]; exact hf16)
          have HNM := Lib.hid fun W => number_any (h.extract 4 8) (by rw [ByteArray.size_extract]; omega) W
          obtain ⟨T, hT⟩ : ∃ T, numL (bytesOf (h.extract 4 8)) = T := ⟨_, rfl⟩
          rw [hT] at HNM
          have HTT := Lib.hid hT
          have hh1 : (4 : Int) ≤ (h.size : Int) := by omega
          have hh2 : (8 : Int) ≤ (h.size : Int) := by omega
          clear hT
          go_wp2_with fail
          refine (HNO.out _ HX.out.rx _ _).mono ?_
          rintro e w5 ⟨rfl, rfl⟩
          go_wp2_with fail
          refine (HNO.out _ HX.out.rx _ _).mono ?_
          rintro e w6 ⟨rfl, rfl⟩
          go_upto_region 10 with fail
          go_cut [55] (fun t wx => Hid (Hd w b P D (a + 10) 0 0 { time := (T : Int), more := (x8 : Int), system := (x9 : Int) } wx))
          case first =>
            refine wp_region_mix (fun w' => ∃ x : World, w' = x) 9 1 [0, 1, 3, 4, 5, 6, 7, 8] [] [2, 9, 10, 11, 12, 13, 14] (fun l => l.take 2 ++ (l.drop 3).take 6) (fun _ => []) (fun l => (l.drop 2).take 1 ++ l.drop 9) rfl rfl rfl (by kernel_rfl) (by kernel_rfl) (by kernel_rfl) (by kernel_rfl) (fun _ _ _ _ _ h => h) ⟨_, rfl⟩ ?_
            simp only [List.take_succ_cons, List.take_zero, List.drop_succ_cons, List.drop_zero, List.cons_append, List.nil_append]
            repeat (go_big_quiet_step (fail))
            refine wpQuiet_nil ?_
            refine wpQuiet_nil ?_
            intro K hK
            go_simp
            go_at_call 32
            refine (HNM.out _).mono ?_
            rintro e w7 ⟨rfl, rfl⟩
            refine hK _ _ (fun _ => ⟨_, rfl⟩) ?_
            clear hK K
            have hx7 : Hd w b P D (a + 10) 0 0 {} w6.drew := HX.out.drewN 1
            have hS := ((hx7.set (q := { time := (T : Int) }) 5 (.int .i64 (T : Int)) rfl).set (q := { time := (T : Int), more := (x8 : Int) }) 6 (.int .i64 (x8 : Int)) rfl).set (q := { time := (T : Int), more := (x8 : Int), system := (x9 : Int) }) 7 (.int .i64 (x9 : Int)) rfl
            have HS := Lib.hid hS
            have y8 : IntKind.i64.wrap (x8 : Int) = (x8 : Int) := IntWalk.i64_in _ (by omega)
            have y9 : IntKind.i64.wrap (x9 : Int) = (x9 : Int) := IntWalk.i64_in _ (by omega)
            clear e0 e1 e2 e3 e4 e5 e6 e7 e8 e9 c0 c1 c2 c3 d1 d2 d3 hS
            obtain ⟨e0, e1, e2, e3, e4, e5, e6, e7, e8, e9⟩ := hx7.cells
            clear hx7
            generalize w6.drew = w7 at *
            intro K hK
            go_simp
            refine hK _ _ (fun h => absurd h (by decide)) ?_
            clear hK K
            intro K hK
            go_simp
            refine hK _ _ (fun h => absurd h (by decide)) ?_
            clear hK K
            intro K hK
            go_simp
            refine hK _ _ (fun h => absurd h (by decide)) ?_
            clear hK K
            intro K hK
            go_simp
            refine hK _ _ (fun h => absurd h (by decide)) ?_
            clear hK K
            intro K hK
            go_simp
            refine hK _ _ (fun h => absurd h (by decide)) ?_
            clear hK K
            intro K hK
            go_simp
            refine hK _ _ (fun h => absurd h (by decide)) ?_
            clear hK K
            unfold wpMov
            go_wp2_with fail
            go_meet
            exact HS
          case rest =>
          obtain ⟨e0, e1, e2, e3, e4, e5, e6, e7, e8, e9⟩ := hcut.out.cells
          have hp0 : p0 h = { text := f1, headSum := f2, time := (T : Int), more := (x8 : Int), system := (x9 : Int) } := by
            unfold p0
            rw [HF1.out, HF2.out, HTT.out, HG.out.2.1, HG.out.2.2]
          have HX0 : Hid (Hd w b P D (a + 10) 0 0 (p0 h) ((wc.setCell ⟨P, 3, none⟩ (.bool f1)).setCell ⟨P, 4, none⟩ (.bool f2))) := Lib.hid (by
            rw [hp0]
            exact (hcut.out.set (q := { text := f1, time := (T : Int), more := (x8 : Int), system := (x9 : Int) }) 3 (.bool f1) rfl).set (q := { text := f1, headSum := f2, time := (T : Int), more := (x8 : Int), system := (x9 : Int) }) 4 (.bool f2) rfl)
          have HPS : Hid ((p0 h).headSum = f2) := Lib.hid (by rw [hp0])
          clear hp0 HG HTT HNM HX HNO hb3n hb2 hx2 hx8 hx9 hb8 hb9 hh1 hh2
          go_upto_region 12 with fail
          generalize (wc.setCell ⟨P, 3, none⟩ (.bool f1)).setCell ⟨P, 4, none⟩ (.bool f2) = wc0 at *
          clear e0 e1 e2 e3 e4 e5 e6 e7 e8 e9 hcut
          go_upto_if 75 with fail
          go_cut [77] (fun t wx => Hid (Stg w b P D (st1 D h (a + 10) (p0 h)) wx))
          case first =>
            cases hfl : f4
            · have HS : Hid (Stg w b P D (st1 D h (a + 10) (p0 h)) wc0) := Lib.hid (by
                have h1 := HF4.out
                rw [hfl] at h1
                unfold st1
                rw [h1]
                exact ⟨ht1, HX0.out⟩)
              clear HX0
              go_wp2_with fail
              go_meet
              exact HS
            · have HQ : Hid (st1 D h (a + 10) (p0 h) = (extraM D (a + 10)).bind fun x a2 => .ok { p0 h with extra := x } a2) := Lib.hid (by
                have h1 := HF4.out
                rw [hfl] at h1
                unfold st1
                rw [h1]
                rfl)
              have HTX := Lib.hid (gz_extra_any b D (a + 10) ht1 hD wc0 HX0.out.rx)
              go_wp2_with fail
              refine HTX.out.mono ?_
              rintro e w7 ⟨hm, hr⟩
              cases ht : extraM D (a + 10) with
              | ok x a2 =>
                rw [ht] at hr HQ
                obtain ⟨rfl, hr⟩ := hr
                have ha2 : a2 ≤ D.size := by
                  have := extraM_in D (a + 10)
                  rw [ht] at this
                  exact (RR.In.of_ok this).2
                have hx7 := HX0.out.rd hm hr
                have HS : Hid (Stg w b P D (st1 D h (a + 10) (p0 h)) (w7.setCell ⟨P, 2, none⟩ (.string x))) := Lib.hid (by
                  rw [HQ.out]
                  exact ⟨ha2, hx7.set 2 (.string x) rfl⟩)
                obtain ⟨e0, e1, e2, e3, e4, e5, e6, e7, e8, e9⟩ := hx7.cells
                clear hx7 HQ HX0 HTX hm hr ht
                go_wp2_with fail
                go_meet
                exact HS
              | bad c f =>
                rw [ht] at hr HQ
                obtain ⟨rfl, a2, ha2, hr⟩ := hr
                have hc : c ≠ 0 := by
                  have := extraM_in D (a + 10)
                  rw [ht] at this
                  exact RR.In.of_bad this
                have hx7 := HX0.out.rd hm hr
                have HS : Hid (Stg w b P D (st1 D h (a + 10) (p0 h)) (w7.setCell ⟨P, 2, none⟩ (.string .empty))) := Lib.hid (by
                  rw [HQ.out]
                  exact ⟨hc, a2, { p0 h with extra := .empty }, ha2, hx7.set 2 (.string .empty) rfl⟩)
                obtain ⟨e0, e1, e2, e3, e4, e5, e6, e7, e8, e9⟩ := hx7.cells
                clear hx7 HQ HX0 HTX hm hr ht
                go_wp2_with fail
                go_meet
                exact HS
          case rest =>
          rename World => wc1
          have HC1 := hcut
          clear hcut HX0
          obtain ⟨R1, hR1⟩ : ∃ R, st1 D h (a + 10) (p0 h) = R := ⟨_, rfl⟩
          rw [hR1] at HC1
          have HR1 := Lib.hid hR1
          clear hR1
          go_upto_if 81 with fail
          go_cut [83] (fun t wx => Hid (Stg w b P D (st2 D h R1) wx))
          case first =>
            cases hfl : f8
            · have HS : Hid (Stg w b P D (st2 D h R1) wc1) := Lib.hid (by
                have h1 := HF8.out
                rw [hfl] at h1
                have h2 := HC1.out
                unfold st2
                rw [h1]
                cases R1 with
                | ok p q => exact h2
                | bad c f => exact h2)
              clear HC1
              go_wp2_with fail
              go_meet
              exact HS
            · have h1 := HF8.out
              rw [hfl] at h1
              cases hR : R1 with
              | ok p q =>
                have h2 := HC1.out
                rw [hR] at h2
                obtain ⟨hq, hx⟩ := h2
                have HQ : Hid (st2 D h (.ok p q) = (textM D q).bind fun n a' => .ok { p with name := n } a') := Lib.hid (by unfold st2; rw [h1]; rfl)
                have HTX := Lib.hid (gz_text_any b D q hq hD wc1 hx.rx)
                have HX := Lib.hid hx
                clear h1 hx HC1
                go_wp2_with fail
                refine HTX.out.mono ?_
                rintro e w7 ⟨hm, hr⟩
                cases ht : textM D q with
                | ok x a2 =>
                  rw [ht] at hr HQ
                  obtain ⟨rfl, hr⟩ := hr
                  have ha2 : a2 ≤ D.size := by
                    have := textM_in D q hq
                    rw [ht] at this
                    exact (RR.In.of_ok this).2
                  have hx7 := HX.out.rd hm hr
                  have HS : Hid (Stg w b P D (st2 D h (.ok p q)) (w7.setCell ⟨P, 0, none⟩ (.string x))) := Lib.hid (by
                    rw [HQ.out]
                    exact ⟨ha2, hx7.set 0 (.string x) rfl⟩)
                  obtain ⟨e0, e1, e2, e3, e4, e5, e6, e7, e8, e9⟩ := hx7.cells
                  clear hx7 HQ HX HTX hm hr ht
                  go_wp2_with fail
                  go_meet
                  rw [hR]
                  exact HS
                | bad c f =>
                  rw [ht] at hr HQ
                  obtain ⟨rfl, a2, ha2, hr⟩ := hr
                  have hc : c ≠ 0 := by
                    have := textM_in D q hq
                    rw [ht] at this
                    exact RR.In.of_bad this
                  have hx7 := HX.out.rd hm hr
                  have HS : Hid (Stg w b P D (st2 D h (.ok p q)) (w7.setCell ⟨P, 0, none⟩ (.string .empty))) := Lib.hid (by
                    rw [HQ.out]
                    exact ⟨hc, a2, { p with name := .empty }, ha2, hx7.set 0 (.string .empty) rfl⟩)
                  obtain ⟨e0, e1, e2, e3, e4, e5, e6, e7, e8, e9⟩ := hx7.cells
                  clear hx7 HQ HX HTX hm hr ht
                  go_wp2_with fail
                  go_meet
                  rw [hR]
                  exact HS
              | bad c f =>
                have h2 := HC1.out
                rw [hR] at h2
                obtain ⟨hc, a2, p, ha2, hx⟩ := h2
                have HTX := Lib.hid (gz_text_old b D a2 c f hc wc1 hx.rx)
                have HS : Hid (Stg w b P D (st2 D h (.bad c f)) (wc1.setCell ⟨P, 0, none⟩ (.string .empty))) := Lib.hid
                  ⟨hc, a2, { p with name := .empty }, ha2, hx.set 0 (.string .empty) rfl⟩
                obtain ⟨e0, e1, e2, e3, e4, e5, e6, e7, e8, e9⟩ := hx.cells
                clear hx h1 HC1
                go_wp2_with fail
                refine HTX.out.mono ?_
                rintro e w7 ⟨rfl, rfl⟩
                go_wp2_with fail
                go_meet
                rw [hR]
                exact HS
          case rest =>
          rename World => wc2
          have HC2 := hcut
          clear hcut HC1
          obtain ⟨R2, hR2⟩ : ∃ R, st2 D h R1 = R := ⟨_, rfl⟩
          rw [hR2] at HC2
          have HR2 := Lib.hid hR2
          clear hR2
          go_upto_if 87 with fail
          go_cut [89] (fun t wx => Hid (Stg w b P D (st3 D h R2) wx))
          case first =>
            cases hfl : f16
            · have HS : Hid (Stg w b P D (st3 D h R2) wc2) := Lib.hid (by
                have h1 := HF16.out
                rw [hfl] at h1
                have h2 := HC2.out
                unfold st3
                rw [h1]
                cases R2 with
                | ok p q => exact h2
                | bad c f => exact h2)
              clear HC2
              go_wp2_with fail
              go_meet
              exact HS
            · have h1 := HF16.out
              rw [hfl] at h1
              cases hR : R2 with
              | ok p q =>
                have h2 := HC2.out
                rw [hR] at h2
                obtain ⟨hq, hx⟩ := h2
                have HQ : Hid (st3 D h (.ok p q) = (textM D q).bind fun n a' => .ok { p with comment := n } a') := Lib.hid (by unfold st3; rw [h1]; rfl)
                have HTX := Lib.hid (gz_text_any b D q hq hD wc2 hx.rx)
                have HX := Lib.hid hx
                clear h1 hx HC2
                go_wp2_with fail
                refine HTX.out.mono ?_
                rintro e w7 ⟨hm, hr⟩
                cases ht : textM D q with
                | ok x a2 =>
                  rw [ht] at hr HQ
                  obtain ⟨rfl, hr⟩ := hr
                  have ha2 : a2 ≤ D.size := by
                    have := textM_in D q hq
                    rw [ht] at this
                    exact (RR.In.of_ok this).2
                  have hx7 := HX.out.rd hm hr
                  have HS : Hid (Stg w b P D (st3 D h (.ok p q)) (w7.setCell ⟨P, 1, none⟩ (.string x))) := Lib.hid (by
                    rw [HQ.out]
                    exact ⟨ha2, hx7.set 1 (.string x) rfl⟩)
                  obtain ⟨e0, e1, e2, e3, e4, e5, e6, e7, e8, e9⟩ := hx7.cells
                  clear hx7 HQ HX HTX hm hr ht
                  go_wp2_with fail
                  go_meet
                  rw [hR]
                  exact HS
                | bad c f =>
                  rw [ht] at hr HQ
                  obtain ⟨rfl, a2, ha2, hr⟩ := hr
                  have hc : c ≠ 0 := by
                    have := textM_in D q hq
                    rw [ht] at this
                    exact RR.In.of_bad this
                  have hx7 := HX.out.rd hm hr
                  have HS : Hid (Stg w b P D (st3 D h (.ok p q)) (w7.setCell ⟨P, 1, none⟩ (.string .empty))) := Lib.hid (by
                    rw [HQ.out]
                    exact ⟨hc, a2, { p with comment := .empty }, ha2, hx7.set 1 (.string .empty) rfl⟩)
                  obtain ⟨e0, e1, e2, e3, e4, e5, e6, e7, e8, e9⟩ := hx7.cells
                  clear hx7 HQ HX HTX hm hr ht
                  go_wp2_with fail
                  go_meet
                  rw [hR]
                  exact HS
              | bad c f =>
                have h2 := HC2.out
                rw [hR] at h2
                obtain ⟨hc, a2, p, ha2, hx⟩ := h2
                have HTX := Lib.hid (gz_text_old b D a2 c f hc wc2 hx.rx)
                have HS : Hid (Stg w b P D (st3 D h (.bad c f)) (wc2.setCell ⟨P, 1, none⟩ (.string .empty))) := Lib.hid
                  ⟨hc, a2, { p with comment := .empty }, ha2, hx.set 1 (.string .empty) rfl⟩
                obtain ⟨e0, e1, e2, e3, e4, e5, e6, e7, e8, e9⟩ := hx.cells
                clear hx h1 HC2
                go_wp2_with fail
                refine HTX.out.mono ?_
                rintro e w7 ⟨rfl, rfl⟩
                go_wp2_with fail
                go_meet
                rw [hR]
                exact HS
          case rest =>
          rename World => wc3
          have HC3 := hcut
          clear hcut HC2
          obtain ⟨R3, hR3⟩ : ∃ R, st3 D h R2 = R := ⟨_, rfl⟩
          rw [hR3] at HC3
          have HR3 := Lib.hid hR3
          clear hR3
          have hin : R3.In (a + 10) D.size := by
            rw [← HR3.out, ← HR2.out, ← HR1.out]
            exact st3_in D h _ _ (st2_in D h _ _ (st1_in D h _ _ ht1))
          have hhs : HsIs f2 R3 := by
            rw [← HR3.out, ← HR2.out, ← HR1.out, ← HPS.out]
            exact st3_hs D h _ _ (st2_hs D h _ _ (st1_hs D h _ _))
          have HSM : Hid ((R3.bind fun p a4 => sumM D a p f2 a4) = R) := Lib.hid (by
            rw [← HRR.out, restM_eq, HR1.out, HR2.out, HR3.out, HF2.out])
          clear HR1 HR2 HR3 HPS HRR HF1 HF2 HF4 HF8 HF16 hf1 hf2 hf4 hf8 hf16 hx3 hb3 e0 e1 e2 e3 e4 e5 e6 e7 e8 e9 c0 c1 c2 c3 d1 d2 d3
          cases R3 with
          | bad c f =>
            obtain ⟨hc, a2, p, ha2, hx⟩ := HC3.out
            have HE : Hid (RR.bad c f = R) := HSM
            have HX5 := Lib.hid hx
            have hc' : ((c : Int) == 0) = false := by rw [beq_eq_false_iff_ne]; omega
            obtain ⟨c0, c1, c2, c3, d1, d2, d3⟩ := hx.rx.cells
            obtain ⟨e0, e1, e2, e3, e4, e5, e6, e7, e8, e9⟩ := hx.cells
            clear hx HC3 HSM hin hhs hc
            cases hph : p.headSum
            · rw [hph] at e4
              go_wp2_with fail
              rw [← HE.out]
              have HX6 := HX5.out.again
              unfold again9 at HX6
              rw [hph] at HX6
              exact bodyPost_ret (results_part9 HX6.px rfl) rfl ⟨HX6.kept, ⟨_, rfl⟩, a2, ha2, HX6.rx⟩
            · rw [hph] at e4
              go_wp2_with fail
              rw [← HE.out]
              have HX6 := HX5.out.again
              unfold again9 at HX6
              rw [hph] at HX6
              exact bodyPost_ret (results_part9 HX6.px rfl) rfl ⟨HX6.kept, ⟨_, rfl⟩, a2, ha2, HX6.rx⟩
          | ok p a4 =>
            obtain ⟨ha4, hx⟩ := HC3.out
            have hph := hhs p a4 rfl
            have hlo : a ≤ a4 := by have := (RR.In.of_ok hin).1; omega
            have HE : Hid (sumM D a p f2 a4 = R) := HSM
            have HX5 := Lib.hid hx
            obtain ⟨c0, c1, c2, c3, d1, d2, d3⟩ := hx.rx.cells
            obtain ⟨e0, e1, e2, e3, e4, e5, e6, e7, e8, e9⟩ := hx.cells
            rw [hph] at e4
            clear HC3 HSM hin hhs
            cases hf2 : f2
            · rw [hf2] at e4 hph HE
              have HE2 : Hid (RR.ok p a4 = R) := HE
              clear hx
              go_wp2_with fail
              rw [← HE2.out]
              have HX6 := HX5.out.again
              unfold again9 at HX6
              rw [hph] at HX6
              exact bodyPost_ret (results_part9 HX6.px rfl) rfl ⟨HX6.kept, rfl, HX6.rx⟩
            · rw [hf2] at e4 hph HE
              have HE2 : Hid (((takeM D 2 a4).bind fun y a5 => if (numL (bytesOf y) : Int) = bits .and .i64 (sumOf (bytesOf (D.extract a a4))) 65535 then .ok p a5 else .bad 10 a4) = R) := HE
              have HSU := Lib.hid fun W => sum_any (D.extract a a4) (by rw [ByteArray.size_extract]; omega) W
              have hsin := sumOf_in (bytesOf (D.extract a a4))
              generalize sumOf (bytesOf (D.extract a a4)) = SM at *
              have q1 : (a : Int) ≤ (a4 : Int) := by omega
              have q2 : (a4 : Int) ≤ (D.size : Int) := by omega
              obtain ⟨WT, hWT⟩ : ∃ W, bits .and .i64 SM 65535 = W := ⟨_, rfl⟩
              rw [hWT] at HE2
              clear hx HE
              go_upto_region 19 with fail
              go_quiet ((go_at_call 14; exact (HSU.out _).mono fun e w'' ⟨he, hw⟩ => ⟨he, _, hw⟩))
              have HX6 := Lib.hid (HX5.out.drewN nq)
              generalize wc3.drewN nq = w8 at *
              clear HX5 HSU e0 e1 e2 e3 e4 e5 e6 e7 e8 e9 c0 c1 c2 c3 d1 d2 d3 hWT hsin
              have HTK : Hid (Calls Try.prog 31 #[.pointer (some ⟨b, 0, none⟩), .int .i64 2] w8 fun e w' => RP b D (takeM D 2 a4) e w8 w') := Lib.hid (gz_take_any b D a4 2 (by decide) ha4 hD w8 HX6.out.rx)
              cases ht : takeM D 2 a4 with
              | bad c f =>
                rw [ht] at HE2 HTK
                have HE : Hid (RR.bad c f = R) := HE2
                have hc : c ≠ 0 := by
                  have := takeM_in D 2 a4
                  rw [ht] at this
                  exact RR.In.of_bad this
                have HNU := Lib.hid fun W => number_any .empty (by decide) W
                clear HE2 ht
                go_wp2_with fail
                refine HTK.out.mono ?_
                rintro e w9 ⟨hm, rfl, a5, ha5, hr⟩
                have HX7 := Lib.hid (HX6.out.rd hm hr)
                have HF : Hid (∀ bad k q, Calls Try.prog 18 #[.pointer (some ⟨b, 0, none⟩), .bool bad, .int .i64 k, .int .i64 q] w9 fun e w' => e = .returned (.bool true) ∧ w' = w9) := Lib.hid fun bad k q => gz_fail_old b D a5 c f hc bad k q w9 hr
                obtain ⟨e0, e1, e2, e3, e4, e5, e6, e7, e8, e9⟩ := HX7.out.cells
                clear hm hr HX6 HTK hc
                go_wp2_with fail
                refine (HNU.out _).mono ?_
                rintro e w10 ⟨rfl, rfl⟩
                go_wp2_with fail
                refine (HF.out _ _ _).mono ?_
                rintro e w11 ⟨rfl, rfl⟩
                go_wp2_with fail
                rw [← HE.out]
                have HX9 := HX7.out.again
                unfold again9 at HX9
                rw [hph] at HX9
                exact bodyPost_ret (results_part9 HX9.px rfl) rfl ⟨HX9.kept, ⟨_, rfl⟩, a5, ha5, HX9.rx⟩
              | ok y a5 =>
                rw [ht] at HE2 HTK
                obtain ⟨h5, rfl, -, hys⟩ := takeM_ok ht
                have HE3 : Hid ((if (numL (bytesOf y) : Int) = WT then RR.ok p (a4 + 2) else .bad 10 a4) = R) := HE2
                have HNU := Lib.hid fun W => number_any y (by omega) W
                clear HE2 ht hys
                generalize numL (bytesOf y) = N at *
                by_cases hN : (N : Int) = WT
                · have HE : Hid (RR.ok p (a4 + 2) = R) := Lib.hid (by rw [← HE3.out, if_pos hN])
                  have hNb : ((N : Int) != WT) = false := by rw [hN]; simp
                  clear HE3 hN
                  go_wp2_with fail
                  refine HTK.out.mono ?_
                  rintro e w9 ⟨hm, rfl, hr⟩
                  have HX7 := Lib.hid (HX6.out.rd hm hr)
                  have HF : Hid (∀ k q, Calls Try.prog 18 #[.pointer (some ⟨b, 0, none⟩), .bool false, .int .i64 k, .int .i64 q] w9 fun e w' => e = .returned (.bool false) ∧ w' = w9) := Lib.hid fun k q => gz_fail_no b D (a4 + 2) 0 k q w9 hr
                  obtain ⟨e0, e1, e2, e3, e4, e5, e6, e7, e8, e9⟩ := HX7.out.cells
                  clear hm hr HX6 HTK
                  go_wp2_with fail
                  refine (HNU.out _).mono ?_
                  rintro e w10 ⟨rfl, rfl⟩
                  go_wp2_with fail
                  refine (HF.out _ _).mono ?_
                  rintro e w11 ⟨rfl, rfl⟩
                  go_wp2_with fail
                  rw [← HE.out]
                  have HX9 := HX7.out.again
                  unfold again9 at HX9
                  rw [hph] at HX9
                  exact bodyPost_ret (results_part9 HX9.px rfl) rfl ⟨HX9.kept, rfl, HX9.rx⟩
                · have HE : Hid (RR.bad 10 a4 = R) := Lib.hid (by rw [← HE3.out, if_neg hN])
                  have hNb : ((N : Int) != WT) = true := by simpa using hN
                  clear HE3 hN
                  go_wp2_with fail
                  refine HTK.out.mono ?_
                  rintro e w9 ⟨hm, rfl, hr⟩
                  have hx7 := HX6.out.rd hm hr
                  have HF : Hid (Calls Try.prog 18 #[.pointer (some ⟨b, 0, none⟩), .bool true, .int .i64 10, .int .i64 (a4 : Int)] w9 fun e w' => e = .returned (.bool true) ∧ RX b D (a4 + 2) 10 a4 w' ∧ Mut [b] w9 w') := Lib.hid (gz_fail_new b D (a4 + 2) 0 10 a4 (by decide) w9 hr)
                  have HX7 := Lib.hid hx7
                  clear hm hr HX6 HTK hx7
                  go_wp2_with fail
                  refine (HNU.out _).mono ?_
                  rintro e w10 ⟨rfl, rfl⟩
                  go_wp2_with fail
                  refine HF.out.mono ?_
                  rintro e w11 ⟨rfl, hr, hm⟩
                  have HX8 := Lib.hid (HX7.out.rd hm hr)
                  obtain ⟨e0, e1, e2, e3, e4, e5, e6, e7, e8, e9⟩ := HX8.out.cells
                  clear hr hm HX7 HF
                  go_wp2_with fail
                  rw [← HE.out]
                  have HX9 := HX8.out.again
                  unfold again9 at HX9
                  rw [hph] at HX9
                  exact bodyPost_ret (results_part9 HX9.px rfl) rfl ⟨HX9.kept, ⟨_, rfl⟩, a4 + 2, h5, HX9.rx⟩

end Go.Proofs.Ytgjcnembeebjfaa
