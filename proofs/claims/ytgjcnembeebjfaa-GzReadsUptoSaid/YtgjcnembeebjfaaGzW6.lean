/- Walks over package gz: a part. -/
import Derived.Test.YtgjcnembeebjfaaGzW5
import Derived.Test.YtgjcnembeebjfaaGInZ
namespace Go.Proofs.Ytgjcnembeebjfaa
open Go.RowKit
set_option linter.unusedVariables false

def tailN (D : ByteArray) (p : GPart) (st : US) (a1 : Nat) : RR GPart :=
  if st.er ≠ 0 then .bad st.er (a1 + st.t / 8) else
  (takeM D 8 (a1 + (st.t + 7) / 8)).bind fun t a2 =>
  if (numL (bytesOf (t.extract 0 4)) : Int) = sumOf (bytesOf (strOf st.out)) then
    if numL (bytesOf (t.extract 4 t.size)) = (strOf st.out).size then .ok { p with data := strOf st.out } a2
    else .bad 11 (a1 + (st.t + 7) / 8 + 4)
  else .bad 10 (a1 + (st.t + 7) / 8)
def unpN (fu : Nat) (D : ByteArray) (a1 most : Nat) : US := runU fu (D.extract a1 D.size) most
def partN (fu : Nat) (D : ByteArray) (most a : Nat) : RR GPart := (headM D a).bind fun p a1 => tailN D p (unpN fu D a1 most) a1

theorem partN_ok {fu : Nat} {D : ByteArray} {most a a1 : Nat} {p : GPart} (h : headM D a = .ok p a1) : partN fu D most a = tailN D p (unpN fu D a1 most) a1 := by
  unfold partN
  rw [h, RR.bind]
theorem partN_bad {fu : Nat} {D : ByteArray} {most a c f : Nat} (h : headM D a = .bad c f) : partN fu D most a = .bad c f := by
  unfold partN
  rw [h, RR.bind]
theorem unpN_in (fu : Nat) (D : ByteArray) (a1 most : Nat) (h : a1 ≤ D.size) : (unpN fu D a1 most).t ≤ 8 * (D.size - a1) ∧ (unpN fu D a1 most).out.length ≤ most := by
  have h1 := run_inside fu (D.extract a1 D.size) most
  have h2 := run_most fu (D.extract a1 D.size) most
  have hs : (D.extract a1 D.size).size = D.size - a1 := by rw [ByteArray.size_extract]; omega
  rw [hs] at h1
  unfold unpN
  exact ⟨h1, h2⟩
theorem gz_unpack (fu : Nat) (D : ByteArray) (hfu : 8 * D.size < fu) (a1 most : Nat) (ha : a1 ≤ D.size) (hD : D.size ≤ 1099511627776) (hm : most ≤ 9223372036854775807) (hB : (unpN fu D a1 most).out.length ≤ 1099511627776) (W : World) :
    Calls Try.prog 30 #[.string D, .int .i64 (a1 : Int), .int .i64 (most : Int)] W fun e w' => e = .returned (unpRes a1 (unpN fu D a1 most)) ∧ Mut [] W w' := by
  unfold unpN at *
  have hs : (D.extract a1 D.size).size = D.size - a1 := by rw [ByteArray.size_extract]; omega
  exact unpack_wide D (D.extract a1 D.size) a1 most fu W (by omega) ha rfl hm hB (by omega) (a1 : Int) (most : Int) rfl rfl

/-- the part that is handed back, and the part that is read -/
structure Pd (w0 : World) (b A B : Nat) (D : ByteArray) (a c f : Nat) (p : GPart) (w : World) : Prop where
  hd : Hd w0 b A D a c f {} w
  px : w.heap[B]? = some (.cells (gpC p).toArray 37 (0, 0))
  ne : B ≠ A ∧ B ≠ b
  new : w0.heap.size ≤ B

theorem Pd.rd {w0 w w' : World} {b A B : Nat} {D : ByteArray} {a c f a' c' f' : Nat} {p : GPart} (h : Pd w0 b A B D a c f p w) (m : Mut [b] w w') (r : RX b D a' c' f' w') : Pd w0 b A B D a' c' f' p w' :=
  ⟨h.hd.rd m r, m.get h.px (by simp; exact h.ne.2), h.ne, h.new⟩
theorem Pd.mut {w0 w w' : World} {b A B : Nat} {D : ByteArray} {a c f : Nat} {p : GPart} (h : Pd w0 b A B D a c f p w) (m : Mut [] w w') : Pd w0 b A B D a c f p w' :=
  h.rd (m.mono (by simp)) (h.hd.rx.mut m (by simp))
theorem Pd.data {w0 w : World} {b A B : Nat} {D : ByteArray} {a c f : Nat} {p : GPart} (h : Pd w0 b A B D a c f p w) (S : ByteArray) : Pd w0 b A B D a c f { p with data := S } (w.setCell ⟨B, 8, none⟩ (.string S)) :=
  ⟨⟨(heap_set_ne (fun e => h.ne.2 e.symm) _).trans h.hd.rx, (heap_set_ne (fun e => h.ne.1 e.symm) _).trans h.hd.px, h.hd.ne, h.hd.new, h.hd.kept.setCell (.inr h.new) _⟩, (heap_set h.px 8 (.string S)).trans rfl, h.ne, h.new⟩
theorem Pd.cells {w0 w : World} {b A B : Nat} {D : ByteArray} {a c f : Nat} {p : GPart} (h : Pd w0 b A B D a c f p w) :
    w.cell? ⟨B, 0, none⟩ = some (.string p.name) ∧ w.cell? ⟨B, 1, none⟩ = some (.string p.comment) ∧ w.cell? ⟨B, 2, none⟩ = some (.string p.extra) ∧ w.cell? ⟨B, 3, none⟩ = some (.bool p.text) ∧ w.cell? ⟨B, 4, none⟩ = some (.bool p.headSum) ∧
    w.cell? ⟨B, 5, none⟩ = some (.int .i64 p.time) ∧ w.cell? ⟨B, 6, none⟩ = some (.int .i64 p.more) ∧ w.cell? ⟨B, 7, none⟩ = some (.int .i64 p.system) ∧ w.cell? ⟨B, 8, none⟩ = some (.string p.data) ∧ (∀ i, w.frozen? ⟨B, i, none⟩ = false) ∧ (∀ i, w.frozen? ⟨A, i, none⟩ = false) :=
  ⟨cellOf h.px 0 rfl, cellOf h.px 1 rfl, cellOf h.px 2 rfl, cellOf h.px 3 rfl, cellOf h.px 4 rfl, cellOf h.px 5 rfl, cellOf h.px 6 rfl, cellOf h.px 7 rfl, cellOf h.px 8 rfl, fun i => frozenOf h.px i, fun i => frozenOf h.hd.px i⟩
theorem Pd.acells {w0 w : World} {b A B : Nat} {D : ByteArray} {a c f : Nat} {p : GPart} (h : Pd w0 b A B D a c f p w) :
    w.cell? ⟨A, 0, none⟩ = some (.string .empty) ∧ w.cell? ⟨A, 1, none⟩ = some (.string .empty) ∧ w.cell? ⟨A, 2, none⟩ = some (.string .empty) ∧ w.cell? ⟨A, 3, none⟩ = some (.bool false) ∧ w.cell? ⟨A, 4, none⟩ = some (.bool false) ∧
    w.cell? ⟨A, 5, none⟩ = some (.int .i64 0) ∧ w.cell? ⟨A, 6, none⟩ = some (.int .i64 0) ∧ w.cell? ⟨A, 7, none⟩ = some (.int .i64 0) ∧ w.cell? ⟨A, 8, none⟩ = some (.string .empty) :=
  let k := h.hd.cells
  ⟨k.1, k.2.1, k.2.2.1, k.2.2.2.1, k.2.2.2.2.1, k.2.2.2.2.2.1, k.2.2.2.2.2.2.1, k.2.2.2.2.2.2.2.1, k.2.2.2.2.2.2.2.2.1⟩

/-- the part is copied to where it is handed back -/
theorem Hd.copy {w0 w : World} {b A : Nat} {D : ByteArray} {a c f : Nat} {q : GPart} (p : GPart) (h : Hd w0 b A D a c f q w) : Hd w0 b A D a c f p (again9 A p w) :=
  ((((((((h.set (q := { q with name := p.name }) 0 (.string p.name) rfl).set (q := { q with name := p.name, comment := p.comment }) 1 (.string p.comment) rfl).set (q := { q with name := p.name, comment := p.comment, extra := p.extra }) 2 (.string p.extra) rfl).set (q := { q with name := p.name, comment := p.comment, extra := p.extra, text := p.text }) 3 (.bool p.text) rfl).set (q := { q with name := p.name, comment := p.comment, extra := p.extra, text := p.text, headSum := p.headSum }) 4 (.bool p.headSum) rfl).set (q := { q with name := p.name, comment := p.comment, extra := p.extra, text := p.text, headSum := p.headSum, time := p.time }) 5 (.int .i64 p.time) rfl).set (q := { q with name := p.name, comment := p.comment, extra := p.extra, text := p.text, headSum := p.headSum, time := p.time, more := p.more }) 6 (.int .i64 p.more) rfl).set (q := { q with name := p.name, comment := p.comment, extra := p.extra, text := p.text, headSum := p.headSum, time := p.time, more := p.more, system := p.system }) 7 (.int .i64 p.system) rfl).set (q := p) 8 (.string p.data) rfl

theorem results_part4 {tmps : Array Value} {w : World} {g : Nat} {p : GPart} (h : w.heap[g]? = some (.cells (gpC p).toArray 37 (0, 0))) (p2 : tmps.getD 4 undef = .pointer (some ⟨g, 0, none⟩)) :
    (results Try.f19 tmps).run Try.prog w = .ok (gpV p) w := by
  have q2 : tmps[4]?.getD undef = .pointer (some ⟨g, 0, none⟩) := by simpa using p2
  have e2 := run_loadVar_row (P := Try.prog) w g 37 37 (gpC p).toArray (0, 0) _ h Try.underlying37 rfl (by kernel_rfl)
  simp [results, q2, asAddr, e2, gpV]

theorem unpRes_all (k : Nat) (st : US) : ∃ x n c e, unpRes k st = .tuple #[.string x, .int .i64 n, .agg #[.int .i64 ((c : Nat) : Int), .int .i64 ((e : Nat) : Int)]] ∧ c = st.er ∧ (st.er = 0 → x = strOf st.out ∧ n = ((k + (st.t + 7) / 8 : Nat) : Int) ∧ e = 0) ∧ (st.er ≠ 0 → e = k + st.t / 8) := by
  unfold unpRes
  by_cases h : st.er = 0
  · rw [if_pos h]
    exact ⟨_, _, 0, 0, rfl, h.symm, fun _ => ⟨rfl, rfl, rfl⟩, fun h' => absurd h h'⟩
  · rw [if_neg h]
    exact ⟨_, _, _, _, rfl, rfl, fun h' => absurd h' h, fun _ => rfl⟩

set_option maxHeartbeats 3200000 in
set_option maxRecDepth 100000 in
theorem gz_part_any (fu : Nat) (b : Nat) (D : ByteArray) (hfu : 8 * D.size < fu) (a most : Nat) (hmost : most ≤ 9223372036854775807) (hB : ∀ a1, a1 ≤ D.size → (unpN fu D a1 most).out.length ≤ 1099511627776) (ha : a ≤ D.size) (hD : D.size ≤ 1099511627776) (w : World) (h : RX b D a 0 0 w) :
    Calls Try.prog 19 #[.pointer (some ⟨b, 0, none⟩), .int .i64 (most : Int)] w fun e w' => RQ b D (partN fu D most a) e w w' := by
  have hne : b ≠ w.heap.size := by have := h.lt; omega
  have H0 : Hid (Hd w b w.heap.size D a 0 0 {} (w.alloc (.cells #[.string ⟨#[]⟩, .string ⟨#[]⟩, .string ⟨#[]⟩, .bool false, .bool false, .int .i64 0, .int .i64 0, .int .i64 0, .string ⟨#[]⟩] 37))) :=
    Lib.hid ⟨h.mut ((Mut.refl [] w).alloc _) (by simp), heap_alloc_new' _ _, hne, Nat.le_refl _, (Mut.refl _ w).alloc _⟩
  have HFU := Lib.hid hfu
  clear h hne hfu
  obtain ⟨R, hR⟩ : ∃ R, partN fu D most a = R := ⟨_, rfl⟩
  rw [hR]
  have HH := Lib.hid hR
  clear hR
  go_enter Try.func19, Try.ntmps19
  go_upto_region 1 with fail
  generalize w.alloc (.cells #[.string ⟨#[]⟩, .string ⟨#[]⟩, .string ⟨#[]⟩, .bool false, .bool false, .int .i64 0, .int .i64 0, .int .i64 0, .string ⟨#[]⟩] 37) = w1 at *
  have HAl : Hid (w.heap.size < w1.heap.size) := Lib.hid (lt_of_heap H0.out.px)
  generalize hA : w.heap.size = A at *
  have HAe := Lib.hid hA
  clear hA
  have HHD := Lib.hid (gz_head_any b D a ha hD w1 H0.out.rx)
  go_wp2_with fail
  refine HHD.out.mono ?_
  rintro e w2 ⟨hm, hr⟩
  cases ht : headM D a with
  | bad c f =>
    rw [ht] at hr
    obtain ⟨⟨p, rfl⟩, a1, ha1, hr⟩ := hr
    have hc : c ≠ 0 := by
      have := headM_in D a
      rw [ht] at this
      exact RR.In.of_bad this
    have HE : Hid (RR.bad c f = R) := Lib.hid (by rw [← HH.out, partN_bad ht])
    have hx := H0.out.rd hm hr
    have hbl := hr.lt
    have hal := lt_of_heap hx.px
    have hP : Pd w b A w2.heap.size D a1 c f p (w2.alloc (.cells #[.string p.name, .string p.comment, .string p.extra, .bool p.text, .bool p.headSum, .int .i64 p.time, .int .i64 p.more, .int .i64 p.system, .string p.data] 37)) :=
      ⟨⟨hr.mut ((Mut.refl [] w2).alloc _) (by simp), ((Mut.refl [] w2).alloc _).get hx.px (by simp), hx.ne, hx.new, hx.kept.alloc _⟩, heap_alloc_new' _ _, ⟨by omega, by omega⟩, Nat.le_trans hx.new (by omega)⟩
    have HP := Lib.hid hP
    have hc' : ((c : Int) == 0) = false := by rw [beq_eq_false_iff_ne]; omega
    clear hm hr hx H0 HH HHD ht hc hP hbl hal HAl
    rw [show gpV p = .agg #[.string p.name, .string p.comment, .string p.extra, .bool p.text, .bool p.headSum, .int .i64 p.time, .int .i64 p.more, .int .i64 p.system, .string p.data] from rfl]
    go_upto_region 2 with fail
    generalize w2.alloc (.cells #[.string p.name, .string p.comment, .string p.extra, .bool p.text, .bool p.headSum, .int .i64 p.time, .int .i64 p.more, .int .i64 p.system, .string p.data] 37) = w3 at *
    generalize w2.heap.size = B at *
    obtain ⟨c0, c1, c2, c3, d1, d2, d3⟩ := HP.out.hd.rx.cells
    obtain ⟨e0, e1, e2, e3, e4, e5, e6, e7, e8, e9, e10⟩ := HP.out.cells
    obtain ⟨g0, g1, g2, g3, g4, g5, g6, g7, g8⟩ := HP.out.acells
    go_wp2_with fail
    rw [← HE.out]
    have HX9 := HP.out.hd.copy p
    exact bodyPost_ret (results_part4 HX9.px rfl) rfl ⟨HX9.kept, ⟨_, rfl⟩, a1, ha1, HX9.rx⟩
  | ok p a1 =>
    rw [ht] at hr
    obtain ⟨rfl, hr⟩ := hr
    have ha1 : a1 ≤ D.size := by
      have := headM_in D a
      rw [ht] at this
      exact (RR.In.of_ok this).2
    have HE : Hid (tailN D p (unpN fu D a1 most) a1 = R) := Lib.hid (by rw [← HH.out, partN_ok ht])
    have hx := H0.out.rd hm hr
    have hbl := hr.lt
    have hal := lt_of_heap hx.px
    have hP : Pd w b A w2.heap.size D a1 0 0 p (w2.alloc (.cells #[.string p.name, .string p.comment, .string p.extra, .bool p.text, .bool p.headSum, .int .i64 p.time, .int .i64 p.more, .int .i64 p.system, .string p.data] 37)) :=
      ⟨⟨hr.mut ((Mut.refl [] w2).alloc _) (by simp), ((Mut.refl [] w2).alloc _).get hx.px (by simp), hx.ne, hx.new, hx.kept.alloc _⟩, heap_alloc_new' _ _, ⟨by omega, by omega⟩, Nat.le_trans hx.new (by omega)⟩
    have HP := Lib.hid hP
    have HUP := Lib.hid fun W => gz_unpack fu D HFU.out a1 most ha1 hD hmost (hB a1 ha1) W
    obtain ⟨htin, hom⟩ := unpN_in fu D a1 most ha1
    have hB1 := hB a1 ha1
    generalize unpN fu D a1 most = st at *
    obtain ⟨S, E, C, F, hU, hC, hU0, hU1⟩ := unpRes_all a1 st
    rw [hU] at HUP
    have HU0 := Lib.hid hU0
    have HU1 := Lib.hid hU1
    have HC := Lib.hid hC
    clear hm hr hx H0 HH HHD ht hP hbl hal HAl hU hU0 hU1 hC
    rw [show gpV p = .agg #[.string p.name, .string p.comment, .string p.extra, .bool p.text, .bool p.headSum, .int .i64 p.time, .int .i64 p.more, .int .i64 p.system, .string p.data] from rfl]
    go_upto_region 2 with fail
    generalize w2.alloc (.cells #[.string p.name, .string p.comment, .string p.extra, .bool p.text, .bool p.headSum, .int .i64 p.time, .int .i64 p.more, .int .i64 p.system, .string p.data] 37) = w3 at *
    generalize w2.heap.size = B at *
    obtain ⟨c0, c1, c2, c3, d1, d2, d3⟩ := HP.out.hd.rx.cells
    go_upto_region 4 with fail
    go_cut [6, 7, 8] (fun x y z wx => ∃ g, x = .string S ∧ y = .int .i64 E ∧ z = .pointer (some ⟨g, 0, none⟩) ∧ wx.cell? ⟨g, 0, none⟩ = some (.int .i64 (C : Int)) ∧ wx.cell? ⟨g, 1, none⟩ = some (.int .i64 (F : Int)) ∧ Hid (Pd w b A B D a1 0 0 p wx))
    case first =>
      have b0' : ∀ o, (w3.alloc o).cell? ⟨b, 0, none⟩ = some (.string D) := fun o => ((Mut.refl [] w3).alloc o).cell c0 (by simp)
      have b1' : ∀ o, (w3.alloc o).cell? ⟨b, 1, none⟩ = some (.int .i64 (a1 : Int)) := fun o => ((Mut.refl [] w3).alloc o).cell c1 (by simp)
      go_region_with (go_at_call 30; refine (HUP.out _).mono ?_; rintro e w7 ⟨rfl, hm⟩; (first | (have HFB := Lib.hid (hm.get (heap_alloc_new w3 (.cells #[.int .i64 0, .int .i64 0] 26)) (by simp)); obtain ⟨f0, f1, f2, f3⟩ := cells2 HFB.out; have HMM : Hid (Mut [] w3 w7) := Lib.hid (by first | exact ((Mut.refl [] w3).alloc _).trans' hm | exact (((Mut.refl [] w3).alloc _).drew).trans' hm | exact (((Mut.refl [] w3).drew).alloc _).trans' hm); clear hm) | (have HMM : Hid (Mut [] w3 w7) := Lib.hid (by first | exact hm | exact ((Mut.refl [] w3).drew).trans' hm); clear hm)))
      all_goals
        go_wp2_with fail
        go_meet
      all_goals first
        | (have m := HMM.out.trans' ((Mut.refl [] w7).alloc (.cells #[.int .i64 (C : Int), .int .i64 (F : Int)] 26)); have k := cells2 (heap_alloc_new w7 (.cells #[.int .i64 (C : Int), .int .i64 (F : Int)] 26)); exact ⟨_, rfl, rfl, rfl, k.1, k.2.1, Lib.hid (HP.out.mut m)⟩)
        | (have m : Mut [] w3 ((w7.setCell ⟨w3.heap.size, 0, none⟩ (.int .i64 (C : Int))).setCell ⟨w3.heap.size, 1, none⟩ (.int .i64 (F : Int))) := (HMM.out.setCell (.inr (Nat.le_refl _)) _).setCell (.inr (Nat.le_refl _)) _; have k := heap_set (heap_set HFB.out 0 (.int .i64 (C : Int))) 1 (.int .i64 (F : Int)); exact ⟨_, rfl, rfl, rfl, cellOf k 0 rfl, cellOf k 1 rfl, Lib.hid (HP.out.mut m)⟩)
    case rest =>
    obtain ⟨g, rfl, rfl, rfl, f0, f1, HP4⟩ := hcut
    clear HP HUP c0 c1 c2 c3 d1 d2 d3
    obtain ⟨c0, c1, c2, c3, d1, d2, d3⟩ := HP4.out.hd.rx.cells
    obtain ⟨e0, e1, e2, e3, e4, e5, e6, e7, e8, e9, e10⟩ := HP4.out.cells
    obtain ⟨g0, g1, g2, g3, g4, g5, g6, g7, g8⟩ := HP4.out.acells
    by_cases her : st.er = 0
    case neg =>
      have hC0 : C ≠ 0 := by rw [HC.out]; exact her
      have hE2 : Hid (RR.bad C F = R) := Lib.hid (by rw [← HE.out, tailN, if_pos her, HU1.out her, HC.out])
      have hCb : ((C : Int) != 0) = true := by simp only [bne_iff_ne, ne_eq]; omega
      have HF := Lib.hid (gz_fail_new b D a1 0 C F hC0 wc HP4.out.hd.rx)
      clear HE HU0 HU1 HC
      go_wp2_with fail
      refine HF.out.mono ?_
      rintro e w5 ⟨rfl, hr, hm⟩
      have HP5 := Lib.hid (HP4.out.rd hm hr)
      clear e0 e1 e2 e3 e4 e5 e6 e7 e8 e9 e10 g0 g1 g2 g3 g4 g5 g6 g7 g8 c0 c1 c2 c3 d1 d2 d3 hr hm f0 f1 HF HP4
      obtain ⟨e0, e1, e2, e3, e4, e5, e6, e7, e8, e9, e10⟩ := HP5.out.cells
      obtain ⟨g0, g1, g2, g3, g4, g5, g6, g7, g8⟩ := HP5.out.acells
      go_wp2_with fail
      rw [← hE2.out]
      have HX9 := HP5.out.hd.copy p
      exact bodyPost_ret (results_part4 HX9.px rfl) rfl ⟨HX9.kept, ⟨_, rfl⟩, a1, ha1, HX9.rx⟩
    case pos =>
      obtain ⟨hS, hE, hF0⟩ := HU0.out her
      obtain rfl : C = 0 := by rw [HC.out]; exact her
      obtain ⟨q, hq⟩ : ∃ q, a1 + (st.t + 7) / 8 = q := ⟨_, rfl⟩
      have hqD : q ≤ D.size := by omega
      rw [hq] at hE
      have HE2 : Hid (((takeM D 8 q).bind fun t a2 => if (numL (bytesOf (t.extract 0 4)) : Int) = sumOf (bytesOf S) then (if numL (bytesOf (t.extract 4 t.size)) = S.size then .ok { p with data := S } a2 else .bad 11 (q + 4)) else .bad 10 q) = R) := Lib.hid (by
        rw [← HE.out, tailN, if_neg (by simp [her]), hq, ← hS])
      subst hE
      have HSsz : Hid (S.size ≤ 1099511627776) := Lib.hid (by rw [hS, strOf_size]; omega)
      have HN : Hid (∀ k p, Calls Try.prog 18 #[.pointer (some ⟨b, 0, none⟩), .bool false, .int .i64 k, .int .i64 p] wc fun e w' => e = .returned (.bool false) ∧ w' = wc) := Lib.hid fun k p => gz_fail_no b D a1 0 k p wc HP4.out.hd.rx
      clear HE HU0 HU1 HC hq hF0 her hS
      go_wp2_with fail
      refine (HN.out _ _).mono ?_
      rintro e w5 ⟨rfl, rfl⟩
      go_upto_region 8 with fail
      have hr8 := HP4.out.hd.rx.at (a' := q)
      have hm8 : Mut [b] w5 (w5.setCell ⟨b, 1, none⟩ (.int .i64 (q : Int))) := (Mut.refl [b] w5).setCell (.inl (by simp)) _
      have HP6 := Lib.hid (HP4.out.rd hm8 hr8)
      clear e0 e1 e2 e3 e4 e5 e6 e7 e8 e9 e10 g0 g1 g2 g3 g4 g5 g6 g7 g8 c0 c1 c2 c3 d1 d2 d3 hr8 hm8 f0 f1 HN HP4
      generalize w5.setCell ⟨b, 1, none⟩ (.int .i64 (q : Int)) = w6 at *
      have HTK : Hid (Calls Try.prog 31 #[.pointer (some ⟨b, 0, none⟩), .int .i64 8] w6 fun e w' => RP b D (takeM D 8 q) e w6 w') := Lib.hid (gz_take_any b D q 8 (by decide) hqD hD w6 HP6.out.hd.rx)
      cases ht : takeM D 8 q with
      | bad c f =>
        have hc : c ≠ 0 := by
          have := takeM_in D 8 q
          rw [ht] at this
          exact RR.In.of_bad this
        have HE3 : Hid (RR.bad c f = R) := Lib.hid (by rw [← HE2.out, ht, RR.bind])
        rw [ht] at HTK
        have hc' : ((c : Int) != 0) = true := by simp only [bne_iff_ne, ne_eq]; omega
        have hc2 : ((c : Int) == 0) = false := by rw [beq_eq_false_iff_ne]; omega
        clear HE2 ht hc
        go_wp2_with fail
        refine HTK.out.mono ?_
        rintro e w7 ⟨hm, rfl, a5, ha5, hr⟩
        have HP7 := Lib.hid (HP6.out.rd hm hr)
        obtain ⟨c0, c1, c2, c3, d1, d2, d3⟩ := hr.cells
        obtain ⟨e0, e1, e2, e3, e4, e5, e6, e7, e8, e9, e10⟩ := HP7.out.cells
        obtain ⟨g0, g1, g2, g3, g4, g5, g6, g7, g8⟩ := HP7.out.acells
        clear hm hr HP6 HTK
        go_wp2_with fail
        rw [← HE3.out]
        have HX9 := HP7.out.hd.copy p
        exact bodyPost_ret (results_part4 HX9.px rfl) rfl ⟨HX9.kept, ⟨_, rfl⟩, a5, ha5, HX9.rx⟩
      | ok t a2 =>
        obtain ⟨h8, rfl, -, hts⟩ := takeM_ok ht
        have HE3 : Hid ((if (numL (bytesOf (t.extract 0 4)) : Int) = sumOf (bytesOf S) then (if numL (bytesOf (t.extract 4 t.size)) = S.size then RR.ok { p with data := S } (q + 8) else .bad 11 (q + 4)) else .bad 10 q) = R) := Lib.hid (by rw [← HE2.out, ht, RR.bind])
        rw [ht] at HTK
        rw [hts] at HE3
        have HN1 := Lib.hid fun W => number_any (t.extract 0 4) (by rw [ByteArray.size_extract]; omega) W
        have HN2 := Lib.hid fun W => number_any (t.extract 4 8) (by rw [ByteArray.size_extract]; omega) W
        have HSU := Lib.hid fun W => sum_any S (by have := HSsz.out; omega) W
        have hsin := sumOf_in (bytesOf S)
        generalize numL (bytesOf (t.extract 0 4)) = N1 at *
        generalize numL (bytesOf (t.extract 4 8)) = N2 at *
        generalize sumOf (bytesOf S) = SM at *
        have hz := HSsz.out
        have hts4 : (4 : Int) ≤ (t.size : Int) := by omega
        clear HE2 ht
        go_wp2_with fail
        refine HTK.out.mono ?_
        rintro e w7 ⟨hm, rfl, hr⟩
        have HP7 := Lib.hid (HP6.out.rd hm hr)
        obtain ⟨c0, c1, c2, c3, d1, d2, d3⟩ := hr.cells
        obtain ⟨e0, e1, e2, e3, e4, e5, e6, e7, e8, e9, e10⟩ := HP7.out.cells
        obtain ⟨g0, g1, g2, g3, g4, g5, g6, g7, g8⟩ := HP7.out.acells
        clear hm hr HP6 HTK
        by_cases hs1 : (N1 : Int) = SM
        case neg =>
          have hb1 : ((N1 : Int) != SM) = true := by simpa using hs1
          have HE4 : Hid (RR.bad 10 q = R) := Lib.hid (by rw [← HE3.out, if_neg hs1])
          have HF : Hid (Calls Try.prog 18 #[.pointer (some ⟨b, 0, none⟩), .bool true, .int .i64 10, .int .i64 (q : Int)] w7 fun e w' => e = .returned (.bool true) ∧ RX b D (q + 8) 10 q w' ∧ Mut [b] w7 w') := Lib.hid (gz_fail_new b D (q + 8) 0 10 q (by decide) w7 HP7.out.hd.rx)
          clear HE3 hs1
          go_wp2_with fail
          refine (HN1.out _).mono ?_
          rintro e w8 ⟨rfl, rfl⟩
          go_wp2_with fail
          refine (HSU.out _).mono ?_
          rintro e w9 ⟨rfl, rfl⟩
          go_wp2_with fail
          refine HF.out.mono ?_
          rintro e w10 ⟨rfl, hr, hm⟩
          have HP8 := Lib.hid (HP7.out.rd hm hr)
          clear e0 e1 e2 e3 e4 e5 e6 e7 e8 e9 e10 g0 g1 g2 g3 g4 g5 g6 g7 g8 c0 c1 c2 c3 d1 d2 d3 hr hm HP7
          obtain ⟨e0, e1, e2, e3, e4, e5, e6, e7, e8, e9, e10⟩ := HP8.out.cells
          obtain ⟨g0, g1, g2, g3, g4, g5, g6, g7, g8⟩ := HP8.out.acells
          go_wp2_with fail
          rw [← HE4.out]
          have HX9 := HP8.out.hd.copy p
          exact bodyPost_ret (results_part4 HX9.px rfl) rfl ⟨HX9.kept, ⟨_, rfl⟩, q + 8, h8, HX9.rx⟩
        case pos =>
          have hb1 : ((N1 : Int) != SM) = false := by rw [hs1]; simp
          have HN0 : Hid (∀ k p, Calls Try.prog 18 #[.pointer (some ⟨b, 0, none⟩), .bool false, .int .i64 k, .int .i64 p] w7 fun e w' => e = .returned (.bool false) ∧ w' = w7) := Lib.hid fun k p => gz_fail_no b D (q + 8) 0 k p w7 HP7.out.hd.rx
          have HE4 : Hid ((if N2 = S.size then RR.ok { p with data := S } (q + 8) else .bad 11 (q + 4)) = R) := Lib.hid (by rw [← HE3.out, if_pos hs1])
          clear HE3 hs1
          by_cases hs2 : N2 = S.size
          case neg =>
            have hb2 : ((N2 : Int) != (S.size : Int)) = true := by simp only [bne_iff_ne, ne_eq]; omega
            have HE5 : Hid (RR.bad 11 (q + 4) = R) := Lib.hid (by rw [← HE4.out, if_neg hs2])
            have HF : Hid (Calls Try.prog 18 #[.pointer (some ⟨b, 0, none⟩), .bool true, .int .i64 11, .int .i64 ((q : Int) + 4)] w7 fun e w' => e = .returned (.bool true) ∧ RX b D (q + 8) 11 (q + 4) w' ∧ Mut [b] w7 w') := Lib.hid (gz_fail_new b D (q + 8) 0 11 (q + 4) (by decide) w7 HP7.out.hd.rx)
            clear HE4 hs2
            go_wp2_with fail
            refine (HN1.out _).mono ?_
            rintro e w8 ⟨rfl, rfl⟩
            go_wp2_with fail
            refine (HSU.out _).mono ?_
            rintro e w9 ⟨rfl, rfl⟩
            go_wp2_with fail
            refine (HN0.out _ _).mono ?_
            rintro e w10 ⟨rfl, rfl⟩
            go_wp2_with fail
            refine (HN2.out _).mono ?_
            rintro e w11 ⟨rfl, rfl⟩
            go_wp2_with fail
            refine HF.out.mono ?_
            rintro e w12 ⟨rfl, hr, hm⟩
            have HP8 := Lib.hid (HP7.out.rd hm hr)
            clear e0 e1 e2 e3 e4 e5 e6 e7 e8 e9 e10 g0 g1 g2 g3 g4 g5 g6 g7 g8 c0 c1 c2 c3 d1 d2 d3 hr hm HP7
            obtain ⟨e0, e1, e2, e3, e4, e5, e6, e7, e8, e9, e10⟩ := HP8.out.cells
            obtain ⟨g0, g1, g2, g3, g4, g5, g6, g7, g8⟩ := HP8.out.acells
            go_wp2_with fail
            rw [← HE5.out]
            have HX9 := HP8.out.hd.copy p
            exact bodyPost_ret (results_part4 HX9.px rfl) rfl ⟨HX9.kept, ⟨_, rfl⟩, q + 8, h8, HX9.rx⟩
          case pos =>
            have hb2 : ((N2 : Int) != (S.size : Int)) = false := by rw [hs2]; simp
            have HE5 : Hid (RR.ok { p with data := S } (q + 8) = R) := Lib.hid (by rw [← HE4.out, if_pos hs2])
            clear HE4 hs2
            go_wp2_with fail
            refine (HN1.out _).mono ?_
            rintro e w8 ⟨rfl, rfl⟩
            go_wp2_with fail
            refine (HSU.out _).mono ?_
            rintro e w9 ⟨rfl, rfl⟩
            go_wp2_with fail
            refine (HN0.out _ _).mono ?_
            rintro e w10 ⟨rfl, rfl⟩
            go_wp2_with fail
            refine (HN2.out _).mono ?_
            rintro e w11 ⟨rfl, rfl⟩
            go_wp2_with fail
            refine (HN0.out _ _).mono ?_
            rintro e w12 ⟨rfl, rfl⟩
            go_upto_region 12 with fail
            have HP8 := Lib.hid (HP7.out.data S)
            generalize w12.setCell ⟨B, 8, none⟩ (.string S) = w13 at *
            clear e0 e1 e2 e3 e4 e5 e6 e7 e8 e9 e10 g0 g1 g2 g3 g4 g5 g6 g7 g8 c0 c1 c2 c3 d1 d2 d3 HP7
            obtain ⟨e0, e1, e2, e3, e4, e5, e6, e7, e8, e9, e10⟩ := HP8.out.cells
            obtain ⟨g0, g1, g2, g3, g4, g5, g6, g7, g8⟩ := HP8.out.acells
            go_wp2_with fail
            rw [← HE5.out]
            have HX9 := HP8.out.hd.copy { p with data := S }
            exact bodyPost_ret (results_part4 HX9.px rfl) rfl ⟨HX9.kept, rfl, HX9.rx⟩

end Go.Proofs.Ytgjcnembeebjfaa
