/- Walk over package ferretref05: part. -/
import Derived.Test.YtgjcnembeebjfaaGzRQ
import Derived.Deep.RegionWith
import Derived.BigQuiet
import Derived.Deep.DeepCutAuto
namespace Go.Proofs.Ytgjcnembeebjfaa
open Go.RowKit
set_option linter.unusedVariables false

/-- the part that is handed back, and the part that is read -/
structure RJ (w0 : World) (A B : Nat) (p : GPart) (w : World) : Prop where
  ax : w.heap[A]? = some (.cells (gpC {}).toArray 44 (0, 0))
  px : w.heap[B]? = some (.cells (gpC p).toArray 44 (0, 0))
  ne : A ≠ B
  newA : w0.heap.size ≤ A
  newB : w0.heap.size ≤ B
  kept : Mut [] w0 w

theorem RJ.mut {w0 w w' : World} {A B : Nat} {p : GPart} (h : RJ w0 A B p w) (m : Mut [] w w') : RJ w0 A B p w' :=
  ⟨m.get h.ax (by simp), m.get h.px (by simp), h.ne, h.newA, h.newB, h.kept.trans' m⟩
theorem RJ.set {w0 w : World} {A B : Nat} {p q : GPart} (h : RJ w0 A B p w) (i : Nat) (v : Value) (e : (gpC p).toArray.setIfInBounds i v = (gpC q).toArray) : RJ w0 A B q (w.setCell ⟨B, i, none⟩ v) :=
  ⟨(heap_set_ne h.ne v).trans h.ax, by rw [heap_set h.px i v, e], h.ne, h.newA, h.newB, h.kept.setCell (.inr h.newB) v⟩
theorem RJ.cells {w0 w : World} {A B : Nat} {p : GPart} (h : RJ w0 A B p w) :
    w.cell? ⟨B, 0, none⟩ = some (.string p.name) ∧ w.cell? ⟨B, 1, none⟩ = some (.string p.comment) ∧ w.cell? ⟨B, 2, none⟩ = some (.string p.extra) ∧ w.cell? ⟨B, 3, none⟩ = some (.bool p.text) ∧ w.cell? ⟨B, 4, none⟩ = some (.bool p.headSum) ∧
    w.cell? ⟨B, 5, none⟩ = some (.int .i64 p.time) ∧ w.cell? ⟨B, 6, none⟩ = some (.int .i64 p.more) ∧ w.cell? ⟨B, 7, none⟩ = some (.int .i64 p.system) ∧ w.cell? ⟨B, 8, none⟩ = some (.string p.data) ∧ (∀ i, w.frozen? ⟨B, i, none⟩ = false) ∧ (∀ i, w.frozen? ⟨A, i, none⟩ = false) :=
  ⟨cellOf h.px 0 rfl, cellOf h.px 1 rfl, cellOf h.px 2 rfl, cellOf h.px 3 rfl, cellOf h.px 4 rfl, cellOf h.px 5 rfl, cellOf h.px 6 rfl, cellOf h.px 7 rfl, cellOf h.px 8 rfl, fun i => frozenOf h.px i, fun i => frozenOf h.ax i⟩
theorem RJ.acells {w0 w : World} {A B : Nat} {p : GPart} (h : RJ w0 A B p w) :
    w.cell? ⟨A, 0, none⟩ = some (.string .empty) ∧ w.cell? ⟨A, 1, none⟩ = some (.string .empty) ∧ w.cell? ⟨A, 2, none⟩ = some (.string .empty) ∧ w.cell? ⟨A, 3, none⟩ = some (.bool false) ∧ w.cell? ⟨A, 4, none⟩ = some (.bool false) ∧
    w.cell? ⟨A, 5, none⟩ = some (.int .i64 0) ∧ w.cell? ⟨A, 6, none⟩ = some (.int .i64 0) ∧ w.cell? ⟨A, 7, none⟩ = some (.int .i64 0) ∧ w.cell? ⟨A, 8, none⟩ = some (.string .empty) :=
  ⟨cellOf h.ax 0 rfl, cellOf h.ax 1 rfl, cellOf h.ax 2 rfl, cellOf h.ax 3 rfl, cellOf h.ax 4 rfl, cellOf h.ax 5 rfl, cellOf h.ax 6 rfl, cellOf h.ax 7 rfl, cellOf h.ax 8 rfl⟩

/-- a part laid in a block -/
theorem part_set {w : World} {A : Nat} {p q : GPart} (h : w.heap[A]? = some (.cells (gpC p).toArray 44 (0, 0))) (i : Nat) (v : Value) (e : (gpC p).toArray.setIfInBounds i v = (gpC q).toArray) : (w.setCell ⟨A, i, none⟩ v).heap[A]? = some (.cells (gpC q).toArray 44 (0, 0)) := by rw [heap_set h i v, e]
theorem again9_at {w : World} {A : Nat} {q : GPart} (p : GPart) (h : w.heap[A]? = some (.cells (gpC q).toArray 44 (0, 0))) : (again9 A p w).heap[A]? = some (.cells (gpC p).toArray 44 (0, 0)) :=
  part_set (q := p) (part_set (q := { q with name := p.name, comment := p.comment, extra := p.extra, text := p.text, headSum := p.headSum, time := p.time, more := p.more, system := p.system }) (part_set (q := { q with name := p.name, comment := p.comment, extra := p.extra, text := p.text, headSum := p.headSum, time := p.time, more := p.more }) (part_set (q := { q with name := p.name, comment := p.comment, extra := p.extra, text := p.text, headSum := p.headSum, time := p.time }) (part_set (q := { q with name := p.name, comment := p.comment, extra := p.extra, text := p.text, headSum := p.headSum }) (part_set (q := { q with name := p.name, comment := p.comment, extra := p.extra, text := p.text }) (part_set (q := { q with name := p.name, comment := p.comment, extra := p.extra }) (part_set (q := { q with name := p.name, comment := p.comment }) (part_set (q := { q with name := p.name }) h 0 (.string p.name) rfl) 1 (.string p.comment) rfl) 2 (.string p.extra) rfl) 3 (.bool p.text) rfl) 4 (.bool p.headSum) rfl) 5 (.int .i64 p.time) rfl) 6 (.int .i64 p.more) rfl) 7 (.int .i64 p.system) rfl) 8 (.string p.data) rfl
theorem again9_mut {w0 w : World} {A : Nat} (p : GPart) (h : Mut [] w0 w) (hA : w0.heap.size ≤ A) : Mut [] w0 (again9 A p w) :=
  ((((((((h.setCell (.inr hA) _).setCell (.inr hA) _).setCell (.inr hA) _).setCell (.inr hA) _).setCell (.inr hA) _).setCell (.inr hA) _).setCell (.inr hA) _).setCell (.inr hA) _).setCell (.inr hA) _

theorem results_rpart {tmps : Array Value} {w : World} {g : Nat} {p : GPart} {v7 v8 v9 : Value} (h : w.heap[g]? = some (.cells (gpC p).toArray 44 (0, 0))) (p6 : tmps.getD 6 undef = .pointer (some ⟨g, 0, none⟩))
    (p7 : tmps.getD 7 undef = v7) (p8 : tmps.getD 8 undef = v8) (p9 : tmps.getD 9 undef = v9) :
    (results Try.f20 tmps).run Try.prog w = .ok (.tuple #[gpV p, v7, v8, v9]) w := by
  have q6 : tmps[6]?.getD undef = .pointer (some ⟨g, 0, none⟩) := by simpa using p6
  have q7 : tmps[7]?.getD undef = v7 := by simpa using p7
  have q8 : tmps[8]?.getD undef = v8 := by simpa using p8
  have q9 : tmps[9]?.getD undef = v9 := by simpa using p9
  have e2 := run_loadVar_row (P := Try.prog) w g 44 44 (gpC p).toArray (0, 0) _ h Try.underlying44 rfl (by kernel_rfl)
  simp [results, q6, q7, q8, q9, asAddr, e2, gpV]

theorem ofIntNat64 (a : Nat) (h : a < 2 ^ 64) : (BitVec.ofInt 64 (a : Int)).toNat = a := by
  rw [BitVec.toNat_ofInt]
  omega
theorem and_i64_16 (a : Nat) (ha : a < 2 ^ 32) : Go.bits .and .i64 (a : Int) 65535 = ((a % 65536 : Nat) : Int) := by
  show IntKind.i64.wrap ((BitVec.ofInt 64 (a : Int) &&& BitVec.ofInt 64 ((65535 : Nat) : Int)).toNat : Nat) = _
  rw [BitVec.toNat_and, ofIntNat64 a (by omega), ofIntNat64 65535 (by decide), show (65535 : Nat) = 2 ^ 16 - 1 from rfl, Nat.and_two_pow_sub_one_eq_mod]
  exact IntWalk.i64_in _ (by omega)

/-- what the reference's part answers -/
def RPA (R : RR GPart) (w0 : World) (e : Ending) (w' : World) : Prop :=
  Mut [] w0 w' ∧ match R with
  | .ok p a => e = .returned (.tuple #[gpV p, .int .i64 (a : Int), .int .i64 0, .int .i64 0])
  | .bad c f => ∃ p : GPart, e = .returned (.tuple #[gpV p, .int .i64 0, .int .i64 (c : Int), .int .i64 (f : Int)])

set_option maxHeartbeats 3200000 in
set_option maxRecDepth 100000 in
theorem rpart_any (fu : Nat) (D : ByteArray) (hfu : 8 * D.size < fu) (a most : Nat) (hmost : most ≤ 9223372036854775807) (ha : a ≤ D.size) (hD : D.size ≤ 268435456) (w0 : World) :
    Calls Try.prog 20 #[.string D, .int .i64 (a : Int), .int .i64 (most : Int)] w0 fun e w' => RPA (partN fu D most a) w0 e w' := by
  obtain ⟨R, hR⟩ : ∃ R, partN fu D most a = R := ⟨_, rfl⟩
  rw [hR]
  have HR := Lib.hid hR
  have HFU := Lib.hid hfu
  clear hR hfu
  go_enter Try.func20, Try.ntmps20
  have H0 : Hid (RJ w0 w0.heap.size (w0.heap.size + 1) {} ((w0.alloc (.cells #[.string ⟨#[]⟩, .string ⟨#[]⟩, .string ⟨#[]⟩, .bool false, .bool false, .int .i64 0, .int .i64 0, .int .i64 0, .string ⟨#[]⟩] 44)).alloc (.cells #[.string ⟨#[]⟩, .string ⟨#[]⟩, .string ⟨#[]⟩, .bool false, .bool false, .int .i64 0, .int .i64 0, .int .i64 0, .string ⟨#[]⟩] 44))) := Lib.hid
    ⟨((Mut.refl [] _).alloc _).get (heap_alloc_new w0 _) (by simp), by
      have := heap_alloc_new (w0.alloc (.cells #[.string ⟨#[]⟩, .string ⟨#[]⟩, .string ⟨#[]⟩, .bool false, .bool false, .int .i64 0, .int .i64 0, .int .i64 0, .string ⟨#[]⟩] 44)) (.cells #[.string ⟨#[]⟩, .string ⟨#[]⟩, .string ⟨#[]⟩, .bool false, .bool false, .int .i64 0, .int .i64 0, .int .i64 0, .string ⟨#[]⟩] 44)
      rwa [World.size_alloc] at this, by omega, Nat.le_refl _, by omega, ((Mut.refl [] w0).alloc _).alloc _⟩
  go_upto_region 2 with fail
  generalize (w0.alloc (.cells #[.string ⟨#[]⟩, .string ⟨#[]⟩, .string ⟨#[]⟩, .bool false, .bool false, .int .i64 0, .int .i64 0, .int .i64 0, .string ⟨#[]⟩] 44)).alloc (.cells #[.string ⟨#[]⟩, .string ⟨#[]⟩, .string ⟨#[]⟩, .bool false, .bool false, .int .i64 0, .int .i64 0, .int .i64 0, .string ⟨#[]⟩] 44) = w1 at *
  generalize hB : w0.heap.size + 1 = B at *
  generalize hA : w0.heap.size = A at *
  clear hA hB
  by_cases h2 : a + 2 ≤ D.size
  case neg =>
    have h2I : (D.size : Int) - (a : Int) < 2 := by omega
    obtain ⟨e0, e1, e2, e3, e4, e5, e6, e7, e8, e9, e10⟩ := H0.out.cells
    obtain ⟨g0, g1, g2, g3, g4, g5, g6, g7, g8⟩ := H0.out.acells
    have HE : Hid (RR.bad 12 a = R) := Lib.hid (by rw [← HR.out, part_12 fu D most a (isM_short D a h2)])
    go_wp2_with fail
    rw [← HE.out]
    exact bodyPost_ret (results_rpart (again9_at {} H0.out.ax) rfl rfl rfl rfl) rfl ⟨again9_mut {} H0.out.kept H0.out.newA, _, rfl⟩
  case pos =>
    have h2I : ¬ (D.size : Int) - (a : Int) < 2 := by omega
    have haI : (a : Int) < (D.size : Int) := by omega
    have ha1I : (a : Int) + 1 < (D.size : Int) := by omega
    have hM := isM_at D a h2
    by_cases hq0 : (D[a]'(by omega)).toNat = 31
    case neg =>
      have hb0 : (((D[a]'(by omega)).toNat : Int) != 31) = true := by simp only [bne_iff_ne, ne_eq]; omega
      obtain ⟨e0, e1, e2, e3, e4, e5, e6, e7, e8, e9, e10⟩ := H0.out.cells
      obtain ⟨g0, g1, g2, g3, g4, g5, g6, g7, g8⟩ := H0.out.acells
      have HE : Hid (RR.bad 12 a = R) := Lib.hid (by rw [← HR.out, part_12 fu D most a (by rw [hM]; exact decide_eq_false (fun h => hq0 h.1))])
      clear hM hq0
      go_wp2_with fail
      rw [← HE.out]
      exact bodyPost_ret (results_rpart (again9_at {} H0.out.ax) rfl rfl rfl rfl) rfl ⟨again9_mut {} H0.out.kept H0.out.newA, _, rfl⟩
    case pos =>
      have hb0 : (((D[a]'(by omega)).toNat : Int) != 31) = false := by rw [hq0]; rfl
      by_cases hq1 : (D[a + 1]'(by omega)).toNat = 139
      case neg =>
        have hb1 : (((D[a + 1]'(by omega)).toNat : Int) != 139) = true := by simp only [bne_iff_ne, ne_eq]; omega
        obtain ⟨e0, e1, e2, e3, e4, e5, e6, e7, e8, e9, e10⟩ := H0.out.cells
        obtain ⟨g0, g1, g2, g3, g4, g5, g6, g7, g8⟩ := H0.out.acells
        have HE : Hid (RR.bad 12 a = R) := Lib.hid (by rw [← HR.out, part_12 fu D most a (by rw [hM]; exact decide_eq_false (fun h => hq1 h.2))])
        have ha0I : 0 ≤ (a : Int) + 1 := by omega
        clear hM hq0 hq1
        go_wp2_with fail
        rw [← HE.out]
        exact bodyPost_ret (results_rpart (again9_at {} H0.out.ax) rfl rfl rfl rfl) rfl ⟨again9_mut {} H0.out.kept H0.out.newA, _, rfl⟩
      case pos =>
        have hb1 : (((D[a + 1]'(by omega)).toNat : Int) != 139) = false := by rw [hq1]; rfl
        have hMT : isM (D.extract a D.size) = true := by rw [hM]; exact decide_eq_true ⟨hq0, hq1⟩
        have ha0I : 0 ≤ (a : Int) + 1 := by omega
        have HMT := Lib.hid hMT
        clear hM hq0 hq1 hMT
        by_cases h10 : a + 10 ≤ D.size
        case neg =>
          have h10I : (D.size : Int) - (a : Int) < 10 := by omega
          obtain ⟨e0, e1, e2, e3, e4, e5, e6, e7, e8, e9, e10⟩ := H0.out.cells
          obtain ⟨g0, g1, g2, g3, g4, g5, g6, g7, g8⟩ := H0.out.acells
          have HE : Hid (RR.bad 3 a = R) := Lib.hid (by rw [← HR.out, part_3 fu D most a HMT.out h10])
          go_wp2_with fail
          rw [← HE.out]
          exact bodyPost_ret (results_rpart (again9_at {} H0.out.ax) rfl rfl rfl rfl) rfl ⟨again9_mut {} H0.out.kept H0.out.newA, _, rfl⟩
        case pos =>
          have h10I : ¬ (D.size : Int) - (a : Int) < 10 := by omega
          have hG2 := gB_at D a 10 2 h10 (by decide)
          have hG3 := gB_at D a 10 3 h10 (by decide)
          have hG8 := gB_at D a 10 8 h10 (by decide)
          have hG9 := gB_at D a 10 9 h10 (by decide)
          by_cases hq2 : (D[a + 2]'(by omega)).toNat = 8
          case neg =>
            have hb2 : (((D[a + 2]'(by omega)).toNat : Int) != 8) = true := by simp only [bne_iff_ne, ne_eq]; omega
            obtain ⟨e0, e1, e2, e3, e4, e5, e6, e7, e8, e9, e10⟩ := H0.out.cells
            obtain ⟨g0, g1, g2, g3, g4, g5, g6, g7, g8⟩ := H0.out.acells
            have HE : Hid (RR.bad 13 (a + 2) = R) := Lib.hid (by rw [← HR.out, part_13 fu D most a HMT.out h10 (by rw [hG2]; exact hq2)])
            clear hG2 hG3 hG8 hG9 hq2
            go_wp2_with fail
            rw [← HE.out]
            exact bodyPost_ret (results_rpart (again9_at {} H0.out.ax) rfl rfl rfl rfl) rfl ⟨again9_mut {} H0.out.kept H0.out.newA, _, by rw [Int.natCast_add]; rfl⟩
          case pos =>
            have hb2 : (((D[a + 2]'(by omega)).toNat : Int) != 8) = false := by rw [hq2]; rfl
            have hf256 : (D[a + 3]'(by omega)).toNat < 256 := UInt8.toNat_lt _
            obtain ⟨fl, hfl⟩ : ∃ fl, (D[a + 3]'(by omega)).toNat = fl := ⟨_, rfl⟩
            rw [hfl] at hf256 hG3
            obtain ⟨f1, f2, f4, f8, f16, f224⟩ := flags_at fl hf256
            have HF1 : Hid (flag (D.extract a (a + 10)) 1 = decide (fl % 2 = 1)) := Lib.hid (by unfold flag; rw [hG3, f1])
            have HF2 : Hid (flag (D.extract a (a + 10)) 2 = decide (fl / 2 % 2 = 1)) := Lib.hid (by unfold flag; rw [hG3, f2])
            have HF4 : Hid (flag (D.extract a (a + 10)) 4 = decide (fl / 4 % 2 = 1)) := Lib.hid (by unfold flag; rw [hG3, f4])
            have HF8 : Hid (flag (D.extract a (a + 10)) 8 = decide (fl / 8 % 2 = 1)) := Lib.hid (by unfold flag; rw [hG3, f8])
            have HF16 : Hid (flag (D.extract a (a + 10)) 16 = decide (fl / 16 % 2 = 1)) := Lib.hid (by unfold flag; rw [hG3, f16])
            have HF224 : Hid (flag (D.extract a (a + 10)) 224 = decide (31 < fl)) := Lib.hid (by unfold flag; rw [hG3, f224])
            have hflI : ((D[a + 3]'(by omega)).toNat : Int) = (fl : Int) := by rw [hfl]
            have hwf : IntKind.i64.wrap (fl : Int) = (fl : Int) := IntWalk.i64_in _ (by omega)
            clear f1 f2 f4 f8 f16 f224 hfl hG3
            by_cases h31 : 31 < fl
            case pos =>
              have h31I : (31 : Int) < (fl : Int) := by omega
              obtain ⟨e0, e1, e2, e3, e4, e5, e6, e7, e8, e9, e10⟩ := H0.out.cells
              obtain ⟨g0, g1, g2, g3, g4, g5, g6, g7, g8⟩ := H0.out.acells
              have HE : Hid (RR.bad 4 (a + 3) = R) := Lib.hid (by rw [← HR.out, part_4 fu D most a HMT.out h10 (by rw [hG2]; exact hq2) (by rw [HF224.out]; exact decide_eq_true h31)])
              clear hG2 hG8 hG9 hq2
              go_wp2_with fail
              rw [← HE.out]
              exact bodyPost_ret (results_rpart (again9_at {} H0.out.ax) rfl rfl rfl rfl) rfl ⟨again9_mut {} H0.out.kept H0.out.newA, _, by rw [Int.natCast_add]; rfl⟩
            case neg =>
              have h31I : ¬ (31 : Int) < (fl : Int) := by omega
              have HK : Hid (rK2 fu D most a (D.extract a (a + 10)) (p0 (D.extract a (a + 10))) (a + 10) = R) := Lib.hid (by rw [← HR.out, part_K fu D most a HMT.out h10 (by rw [hG2]; exact hq2) (by rw [HF224.out]; exact decide_eq_false h31)])
              have HV1 := Lib.hid fun W => rvalue_any (D.extract (a + 4) (a + 8)) (by rw [ByteArray.size_extract]; omega) W
              clear hG2 hq2 HF224 HMT HR
              obtain ⟨e0, e1, e2, e3, e4, e5, e6, e7, e8, e9, e10⟩ := H0.out.cells
              obtain ⟨T, hT⟩ : ∃ T, numL (bytesOf (D.extract (a + 4) (a + 8))) = T := ⟨_, rfl⟩
              rw [hT] at HV1
              have hw8 : IntKind.i64.wrap ((D[a + 8]'(by omega)).toNat : Int) = ((D[a + 8]'(by omega)).toNat : Int) := IntWalk.i64_in _ (by have := UInt8.toNat_lt (D[a + 8]'(by omega)); omega)
              have hw9 : IntKind.i64.wrap ((D[a + 9]'(by omega)).toNat : Int) = ((D[a + 9]'(by omega)).toNat : Int) := IntWalk.i64_in _ (by have := UInt8.toNat_lt (D[a + 9]'(by omega)); omega)
              have hp0 : p0 (D.extract a (a + 10)) = { text := decide (fl % 2 = 1), headSum := decide (fl / 2 % 2 = 1), time := (T : Int), more := ((D[a + 8]'(by omega)).toNat : Int), system := ((D[a + 9]'(by omega)).toNat : Int) } := by
                unfold p0
                rw [HF1.out, HF2.out, hG8, hG9, ByteArray.extract_extract, show min (a + 8) (a + 10) = a + 8 by omega, hT]
              rw [hp0] at HK
              clear hp0 hG8 hG9 hT
              go_wp2_with fail
              refine (HV1.out _).mono ?_
              rintro e w2 ⟨rfl, rfl⟩
              clear HV1
              go_upto_region 12 with fail
              have HS1 := Lib.hid (H0.out.set (q := { time := (T : Int) }) 5 (.int .i64 (T : Int)) rfl)
              clear e0 e1 e2 e3 e4 e5 e6 e7 e8 e9 e10 H0
              generalize w2.setCell ⟨B, 5, none⟩ (.int .i64 (T : Int)) = w3 at *
              obtain ⟨e0, e1, e2, e3, e4, e5, e6, e7, e8, e9, e10⟩ := HS1.out.cells
              have ha8 : 0 ≤ (a : Int) + 8 := by omega
              have ha8' : (a : Int) + 8 < (D.size : Int) := by omega
              have ha9 : 0 ≤ (a : Int) + 9 := by omega
              have ha9' : (a : Int) + 9 < (D.size : Int) := by omega
              refine wp_region_mix (fun w' => ∃ x : World, w' = x) 12 2 [0, 1, 2, 3, 4, 5, 6, 7, 8, 9] [] [10, 11, 12, 13] (fun l => l.take 10) (fun _ => []) (fun l => l.drop 10) rfl rfl rfl (by kernel_rfl) (by kernel_rfl) (by kernel_rfl) (by kernel_rfl) (fun _ _ _ _ _ h => h) ⟨w3.drew, rfl⟩ ?_
              simp only [List.take_succ_cons, List.take_zero, List.drop_succ_cons, List.drop_zero]
              repeat (go_big_quiet_step (fail))
              refine wpQuiet_nil ?_
              refine wpQuiet_nil ?_
              have HSd := Lib.hid (HS1.out.mut ((Mut.refl [] w3).drew))
              clear e0 e1 e2 e3 e4 e5 e6 e7 e8 e9 e10 HS1
              generalize w3.drew = w4 at *
              generalize ((D[a + 8]'(by omega)).toNat : Int) = M8 at *
              generalize ((D[a + 9]'(by omega)).toNat : Int) = M9 at *
              have HS2 := Lib.hid ((HSd.out.set (q := { time := (T : Int), more := M8 }) 6 (.int .i64 M8) rfl).set (q := { time := (T : Int), more := M8, system := M9 }) 7 (.int .i64 M9) rfl)
              obtain ⟨e0, e1, e2, e3, e4, e5, e6, e7, e8, e9, e10⟩ := HSd.out.cells
              intro K hK
              go_simp
              refine hK _ _ (fun _ => ⟨_, rfl⟩) ?_
              clear hK K
              intro K hK
              go_simp
              refine hK _ _ (fun _ => ⟨_, rfl⟩) ?_
              clear hK K
              intro K hK
              go_simp
              refine hK _ _ (fun h => absurd h (by decide)) ?_
              clear hK K
              intro K hK
              go_simp
              refine hK _ _ (fun h => absurd h (by decide)) ?_
              clear hK K
              unfold wpMov
              clear e0 e1 e2 e3 e4 e5 e6 e7 e8 e9 e10 HSd
              go_upto_region 13 with fail
              generalize (w4.setCell ⟨B, 6, none⟩ (.int .i64 M8)).setCell ⟨B, 7, none⟩ (.int .i64 M9) = w5 at *
              obtain ⟨e0, e1, e2, e3, e4, e5, e6, e7, e8, e9, e10⟩ := HS2.out.cells
              go_upto_region 14 with fail
              have hd1 : decide (fl % 2 = 1) = ((fl : Int) % 2 == 1) := by rw [Bool.eq_iff_iff, decide_eq_true_eq, beq_iff_eq]; omega
              have hd2 : decide (fl / 2 % 2 = 1) = ((fl : Int) / 2 % 2 == 1) := by rw [Bool.eq_iff_iff, decide_eq_true_eq, beq_iff_eq]; omega
              rw [hd1, hd2] at HK
              rw [hd1] at HF1
              rw [hd2] at HF2
              clear hd1 hd2
              generalize ((fl : Int) % 2 == 1) = t1 at *
              generalize ((fl : Int) / 2 % 2 == 1) = t2 at *
              have HS3 := Lib.hid ((HS2.out.set (q := { text := t1, time := (T : Int), more := M8, system := M9 }) 3 (.bool t1) rfl).set (q := { text := t1, headSum := t2, time := (T : Int), more := M8, system := M9 }) 4 (.bool t2) rfl)
              clear e0 e1 e2 e3 e4 e5 e6 e7 e8 e9 e10 HS2
              generalize (w5.setCell ⟨B, 3, none⟩ (.bool t1)).setCell ⟨B, 4, none⟩ (.bool t2) = w6 at *
              obtain ⟨a1, ha1⟩ : ∃ a1, a + 10 = a1 := ⟨_, rfl⟩
              have h10e : (a : Int) + 10 = (a1 : Int) := by omega
              rw [ha1] at HK h10
              rw [ha1] at HF1 HF2 HF4 HF8 HF16
              generalize D.extract a a1 = hh at *
              obtain ⟨P0, hP0⟩ : ∃ P : GPart, ({ text := t1, headSum := t2, time := (T : Int), more := M8, system := M9 } : GPart) = P := ⟨_, rfl⟩
              rw [hP0] at HK HS3
              have HPE : Hid (P0.extra = .empty ∧ P0.name = .empty ∧ P0.comment = .empty ∧ P0.headSum = t2 ∧ P0.data = .empty) := Lib.hid (by rw [← hP0]; exact ⟨rfl, rfl, rfl, rfl, rfl⟩)
              clear hP0
              go_upto_if 99 with fail
              go_cut [12] (fun c wx => ∃ (a2 : Nat) (X : ByteArray), c = .int .i64 (a2 : Int) ∧ a1 ≤ a2 ∧ a2 ≤ D.size ∧ Hid (RJ w0 A B { P0 with extra := X } wx ∧ rK3 fu D most a hh { P0 with extra := X } a2 = R))
              case first =>
                obtain ⟨e0, e1, e2, e3, e4, e5, e6, e7, e8, e9, e10⟩ := HS3.out.cells
                obtain ⟨g0, g1, g2, g3, g4, g5, g6, g7, g8⟩ := HS3.out.acells
                by_cases hx : fl / 4 % 2 = 1
                case neg =>
                  have hxI : ((fl : Int) / 4 % 2 == 1) = false := by rw [beq_eq_false_iff_ne]; omega
                  have HQ : Hid (RJ w0 A B { P0 with extra := .empty } w6 ∧ rK3 fu D most a hh { P0 with extra := .empty } a1 = R) := Lib.hid (by
                    have e : ({ P0 with extra := .empty } : GPart) = P0 := by
                      have := HPE.out.1
                      cases P0
                      simp only at this
                      rw [this]
                    rw [e]
                    refine ⟨HS3.out, ?_⟩
                    rw [← HK.out]
                    unfold rK2
                    rw [HF4.out, if_neg (by simpa using hx)]
                    simp only [RR.bind]
                    rw [e])
                  go_wp2_with fail
                  go_meet
                  exact ⟨a1, .empty, rfl, by omega, by omega, HQ⟩
                case pos =>
                  have hxI : ((fl : Int) / 4 % 2 == 1) = true := by rw [beq_iff_eq]; omega
                  have HK2 : Hid ((extraM D a1).bind (fun x a3 => rK3 fu D most a hh { P0 with extra := x } a3) = R) := Lib.hid (by
                    rw [← HK.out]
                    unfold rK2
                    rw [HF4.out, if_pos (by simpa using hx)])
                  clear HK hx
                  by_cases hl2 : a1 + 2 ≤ D.size
                  case neg =>
                    have hl2I : (D.size : Int) - (a1 : Int) < 2 := by omega
                    have HE : Hid (RR.bad 3 a1 = R) := Lib.hid (by
                      rw [← HK2.out]
                      unfold extraM takeM
                      rw [if_neg hl2]
                      rfl)
                    go_wp2_with fail
                    rw [← HE.out]
                    exact bodyPost_ret (results_rpart (again9_at P0 HS3.out.ax) rfl rfl rfl rfl) rfl ⟨again9_mut P0 HS3.out.kept HS3.out.newA, _, rfl⟩
                  case pos =>
                    have hl2I : ¬ (D.size : Int) - (a1 : Int) < 2 := by omega
                    have HV := Lib.hid fun W => rvalue_any (D.extract a1 (a1 + 2)) (by rw [ByteArray.size_extract]; omega) W
                    obtain ⟨N, hN⟩ : ∃ N, numL (bytesOf (D.extract a1 (a1 + 2))) = N := ⟨_, rfl⟩
                    rw [hN] at HV
                    have HK3 : Hid ((if a1 + 2 + N ≤ D.size then (RR.ok (D.extract (a1 + 2) (a1 + 2 + N)) (a1 + 2 + N)) else .bad 3 a1).bind (fun x a3 => rK3 fu D most a hh { P0 with extra := x } a3) = R) := Lib.hid (by
                      rw [← HK2.out]
                      unfold extraM takeM
                      rw [if_pos hl2]
                      simp only [RR.bind]
                      rw [hN])
                    clear HK2
                    by_cases hl3 : a1 + 2 + N ≤ D.size
                    case neg =>
                      have hl3I : (D.size : Int) - (a1 : Int) - 2 < (N : Int) := by omega
                      have HE : Hid (RR.bad 3 a1 = R) := Lib.hid (by
                        rw [← HK3.out, if_neg hl3]
                        rfl)
                      clear HK3 hN
                      go_wp2_with fail
                      refine (HV.out _).mono ?_
                      rintro e w7 ⟨rfl, rfl⟩
                      go_wp2_with fail
                      rw [← HE.out]
                      exact bodyPost_ret (results_rpart (again9_at P0 HS3.out.ax) rfl rfl rfl rfl) rfl ⟨again9_mut P0 HS3.out.kept HS3.out.newA, _, rfl⟩
                    case pos =>
                      have hl3I : ¬ (D.size : Int) - (a1 : Int) - 2 < (N : Int) := by omega
                      have HQ : Hid (RJ w0 A B { P0 with extra := D.extract (a1 + 2) (a1 + 2 + N) } (w6.setCell ⟨B, 2, none⟩ (.string (D.extract (a1 + 2) (a1 + 2 + N)))) ∧ rK3 fu D most a hh { P0 with extra := D.extract (a1 + 2) (a1 + 2 + N) } (a1 + 2 + N) = R) := Lib.hid
                        ⟨HS3.out.set 2 (.string (D.extract (a1 + 2) (a1 + 2 + N))) rfl, by rw [← HK3.out, if_pos hl3]; rfl⟩
                      clear HK3 hN
                      go_wp2_with fail
                      refine (HV.out _).mono ?_
                      rintro e w7 ⟨rfl, rfl⟩
                      go_wp2_with fail
                      refine (HV.out _).mono ?_
                      rintro e w8 ⟨rfl, rfl⟩
                      go_wp2_with fail
                      go_meet
                      exact ⟨a1 + 2 + N, D.extract (a1 + 2) (a1 + 2 + N), congrArg (Value.int .i64) (by omega), by omega, by omega, HQ⟩
              case rest =>
                obtain ⟨a2, X, rfl, ha12, ha2D, HQ⟩ := hcut
                have HL : Hid (RJ w0 A B { P0 with extra := X } wc ∧ ({ P0 with extra := X } : GPart).headSum = t2 ∧ ({ P0 with extra := X } : GPart).data = .empty ∧ ({ P0 with extra := X } : GPart).name = .empty ∧ ({ P0 with extra := X } : GPart).comment = .empty ∧ rK3 fu D most a hh { P0 with extra := X } a2 = R) := Lib.hid
                  ⟨HQ.out.1, HPE.out.2.2.2.1, HPE.out.2.2.2.2, HPE.out.2.1, HPE.out.2.2.1, HQ.out.2⟩
                clear HQ HPE HS3 HK
                generalize ({ P0 with extra := X } : GPart) = P1 at *
                go_wp2_with fail
                go_loopw [12, 14] (fun c d wx => ∃ (k a3 : Nat) (q : GPart), c = .int .i64 (a3 : Int) ∧ d = .int .i64 (k : Int) ∧ 3 ≤ k ∧ k ≤ 5 ∧ a1 ≤ a3 ∧ a3 ≤ D.size ∧ Hid (RJ w0 A B q wx ∧ q.headSum = t2 ∧ q.data = .empty ∧ (k ≤ 3 → q.name = .empty) ∧ (k ≤ 4 → q.comment = .empty) ∧ (if k = 3 then rK3 fu D most a hh q a3 else if k = 4 then rK4 fu D most a hh q a3 else rK5 fu D most a hh q a3) = R)) (fun _ d _ => 5 - (intOf d).toNat)
                case atStart => exact ⟨3, a2, P1, rfl, rfl, by omega, by omega, ha12, ha2D, Lib.hid ⟨HL.out.1, HL.out.2.1, HL.out.2.2.1, fun _ => HL.out.2.2.2.1, fun _ => HL.out.2.2.2.2.1, HL.out.2.2.2.2.2⟩⟩
                case round =>
                  clear HL
                  obtain ⟨k, a3, q, rfl, rfl, hk3, hk5, ha13, ha3D, HR⟩ := hrel
                  obtain ⟨e0, e1, e2, e3, e4, e5, e6, e7, e8, e9, e10⟩ := HR.out.1.cells
                  obtain ⟨g0, g1, g2, g3, g4, g5, g6, g7, g8⟩ := HR.out.1.acells
                  have hk : k = 3 ∨ k = 4 ∨ k = 5 := by omega
                  rcases hk with rfl | rfl | rfl
                  · have HS : Hid (rK3 fu D most a hh q a3 = R) := Lib.hid (by have := HR.out.2.2.2.2.2; rwa [if_pos rfl] at this)
                    by_cases hx : fl / 8 % 2 = 1
                    case neg =>
                      have hxI : ((fl : Int) / 8 % 2 == 0) = true := by rw [beq_iff_eq]; omega
                      have HQ : Hid (RJ w0 A B q wr ∧ (q : GPart).headSum = t2 ∧ (q : GPart).data = .empty ∧ (4 ≤ 3 → (q : GPart).name = .empty) ∧ (4 ≤ 4 → (q : GPart).comment = .empty) ∧ (if 4 = 3 then rK3 fu D most a hh q a3 else if 4 = 4 then rK4 fu D most a hh q a3 else rK5 fu D most a hh q a3) = R) := Lib.hid (by
                        obtain ⟨h1, h2, h3, h4, h5, h6⟩ := HR.out
                        refine ⟨h1, h2, h3, fun h => absurd h (by decide), fun _ => h5 (by decide), ?_⟩
                        rw [if_neg (by decide), if_pos rfl, ← HS.out]
                        unfold rK3
                        rw [HF8.out, if_neg (by simpa using hx)]
                        simp only [RR.bind]
                        have h7 := h4 (by decide)
                        cases q
                        simp only at h7
                        rw [h7])
                      clear hx HR HS
                      go_wp2_with fail
                      exact ⟨⟨4, a3, q, rfl, rfl, by omega, by omega, ha13, ha3D, HQ⟩, by decide⟩
                    case pos =>
                      have hxI : ((fl : Int) / 8 % 2 == 0) = false := by rw [beq_eq_false_iff_ne]; omega
                      have HZ := Lib.hid fun W => rzero_any D (by omega) a3 W
                      obtain ⟨hz1, hz2⟩ := textM_zero D a3 ha3D
                      obtain ⟨Z, hZ⟩ : ∃ Z, zeroN D a3 = Z := ⟨_, rfl⟩
                      rw [hZ] at HZ hz1
                      have HS2 : Hid ((textM D a3).bind (fun n a4 => rK4 fu D most a hh { q with name := n } a4) = R) := Lib.hid (by
                        rw [← HS.out]
                        unfold rK3
                        rw [HF8.out, if_pos (by simpa using hx)])
                      clear hx HS
                      by_cases hneg : Z < 0
                      case pos =>
                        have HE : Hid (RR.bad 3 a3 = R) := Lib.hid (by rw [← HS2.out, hz1 hneg]; rfl)
                        clear hz1 hz2 hZ HS2
                        go_wp2_with fail
                        refine (HZ.out _).mono ?_
                        rintro e w7 ⟨rfl, rfl⟩
                        go_wp2_with fail
                        rw [← HE.out]
                        exact bodyPost_ret (results_rpart (again9_at q HR.out.1.ax) rfl rfl rfl rfl) rfl ⟨again9_mut q HR.out.1.kept HR.out.1.newA, _, rfl⟩
                      case neg =>
                        obtain ⟨z, rfl⟩ : ∃ z : Nat, Z = (z : Int) := ⟨Z.toNat, by omega⟩
                        obtain ⟨hz3, hz4, hz5⟩ := hz2 z hZ
                        have hzn : ¬ (z : Int) < 0 := by omega
                        rw [hz5] at HS2
                        clear hz1 hz2 hz5 hZ hneg
                        by_cases hlong : 256 < z - a3
                        case pos =>
                          have hlI : (256 : Int) < (z : Int) - (a3 : Int) := by omega
                          have HE : Hid (RR.bad 2 a3 = R) := Lib.hid (by rw [← HS2.out, if_pos hlong]; rfl)
                          clear HS2
                          go_wp2_with fail
                          refine (HZ.out _).mono ?_
                          rintro e w7 ⟨rfl, rfl⟩
                          go_wp2_with fail
                          rw [← HE.out]
                          exact bodyPost_ret (results_rpart (again9_at q HR.out.1.ax) rfl rfl rfl rfl) rfl ⟨again9_mut q HR.out.1.kept HR.out.1.newA, _, rfl⟩
                        case neg =>
                          have hlI : ¬ (256 : Int) < (z : Int) - (a3 : Int) := by omega
                          have HQ : Hid (RJ w0 A B { q with name := D.extract a3 z } (wr.setCell ⟨B, 0, none⟩ (.string (D.extract a3 z))) ∧ ({ q with name := D.extract a3 z } : GPart).headSum = t2 ∧ ({ q with name := D.extract a3 z } : GPart).data = .empty ∧ (4 ≤ 3 → ({ q with name := D.extract a3 z } : GPart).name = .empty) ∧ (4 ≤ 4 → ({ q with name := D.extract a3 z } : GPart).comment = .empty) ∧ (if 4 = 3 then rK3 fu D most a hh { q with name := D.extract a3 z } (z + 1) else if 4 = 4 then rK4 fu D most a hh { q with name := D.extract a3 z } (z + 1) else rK5 fu D most a hh { q with name := D.extract a3 z } (z + 1)) = R) := Lib.hid (by
                            obtain ⟨h1, h2, h3, h4, h5, h6⟩ := HR.out
                            refine ⟨h1.set 0 (.string (D.extract a3 z)) rfl, h2, h3, fun h => absurd h (by decide), fun _ => h5 (by decide), ?_⟩
                            rw [if_neg (by decide), if_pos rfl, ← HS2.out, if_neg hlong]
                            rfl)
                          clear HS2 HR
                          go_wp2_with fail
                          refine (HZ.out _).mono ?_
                          rintro e w7 ⟨rfl, rfl⟩
                          go_wp2_with fail
                          exact ⟨⟨4, z + 1, { q with name := D.extract a3 z }, rfl, rfl, by omega, by omega, by omega, by omega, HQ⟩, by decide⟩
                  · have HS : Hid (rK4 fu D most a hh q a3 = R) := Lib.hid (by have := HR.out.2.2.2.2.2; rwa [if_neg (by decide), if_pos rfl] at this)
                    by_cases hx : fl / 16 % 2 = 1
                    case neg =>
                      have hxI : ((fl : Int) / 16 % 2 == 0) = true := by rw [beq_iff_eq]; omega
                      have HQ : Hid (RJ w0 A B q wr ∧ (q : GPart).headSum = t2 ∧ (q : GPart).data = .empty ∧ (5 ≤ 3 → (q : GPart).name = .empty) ∧ (5 ≤ 4 → (q : GPart).comment = .empty) ∧ (if 5 = 3 then rK3 fu D most a hh q a3 else if 5 = 4 then rK4 fu D most a hh q a3 else rK5 fu D most a hh q a3) = R) := Lib.hid (by
                        obtain ⟨h1, h2, h3, h4, h5, h6⟩ := HR.out
                        refine ⟨h1, h2, h3, fun h => absurd h (by decide), fun h => absurd h (by decide), ?_⟩
                        rw [if_neg (by decide), if_neg (by decide), ← HS.out]
                        unfold rK4
                        rw [HF16.out, if_neg (by simpa using hx)]
                        simp only [RR.bind]
                        have h7 := h5 (by decide)
                        cases q
                        simp only at h7
                        rw [h7])
                      clear hx HR HS
                      go_wp2_with fail
                      exact ⟨⟨5, a3, q, rfl, rfl, by omega, by omega, ha13, ha3D, HQ⟩, by decide⟩
                    case pos =>
                      have hxI : ((fl : Int) / 16 % 2 == 0) = false := by rw [beq_eq_false_iff_ne]; omega
                      have HZ := Lib.hid fun W => rzero_any D (by omega) a3 W
                      obtain ⟨hz1, hz2⟩ := textM_zero D a3 ha3D
                      obtain ⟨Z, hZ⟩ : ∃ Z, zeroN D a3 = Z := ⟨_, rfl⟩
                      rw [hZ] at HZ hz1
                      have HS2 : Hid ((textM D a3).bind (fun n a4 => rK5 fu D most a hh { q with comment := n } a4) = R) := Lib.hid (by
                        rw [← HS.out]
                        unfold rK4
                        rw [HF16.out, if_pos (by simpa using hx)])
                      clear hx HS
                      by_cases hneg : Z < 0
                      case pos =>
                        have HE : Hid (RR.bad 3 a3 = R) := Lib.hid (by rw [← HS2.out, hz1 hneg]; rfl)
                        clear hz1 hz2 hZ HS2
                        go_wp2_with fail
                        refine (HZ.out _).mono ?_
                        rintro e w7 ⟨rfl, rfl⟩
                        go_wp2_with fail
                        rw [← HE.out]
                        exact bodyPost_ret (results_rpart (again9_at q HR.out.1.ax) rfl rfl rfl rfl) rfl ⟨again9_mut q HR.out.1.kept HR.out.1.newA, _, rfl⟩
                      case neg =>
                        obtain ⟨z, rfl⟩ : ∃ z : Nat, Z = (z : Int) := ⟨Z.toNat, by omega⟩
                        obtain ⟨hz3, hz4, hz5⟩ := hz2 z hZ
                        have hzn : ¬ (z : Int) < 0 := by omega
                        rw [hz5] at HS2
                        clear hz1 hz2 hz5 hZ hneg
                        by_cases hlong : 256 < z - a3
                        case pos =>
                          have hlI : (256 : Int) < (z : Int) - (a3 : Int) := by omega
                          have HE : Hid (RR.bad 2 a3 = R) := Lib.hid (by rw [← HS2.out, if_pos hlong]; rfl)
                          clear HS2
                          go_wp2_with fail
                          refine (HZ.out _).mono ?_
                          rintro e w7 ⟨rfl, rfl⟩
                          go_wp2_with fail
                          rw [← HE.out]
                          exact bodyPost_ret (results_rpart (again9_at q HR.out.1.ax) rfl rfl rfl rfl) rfl ⟨again9_mut q HR.out.1.kept HR.out.1.newA, _, rfl⟩
                        case neg =>
                          have hlI : ¬ (256 : Int) < (z : Int) - (a3 : Int) := by omega
                          have HQ : Hid (RJ w0 A B { q with comment := D.extract a3 z } (wr.setCell ⟨B, 1, none⟩ (.string (D.extract a3 z))) ∧ ({ q with comment := D.extract a3 z } : GPart).headSum = t2 ∧ ({ q with comment := D.extract a3 z } : GPart).data = .empty ∧ (5 ≤ 3 → ({ q with comment := D.extract a3 z } : GPart).name = .empty) ∧ (5 ≤ 4 → ({ q with comment := D.extract a3 z } : GPart).comment = .empty) ∧ (if 5 = 3 then rK3 fu D most a hh { q with comment := D.extract a3 z } (z + 1) else if 5 = 4 then rK4 fu D most a hh { q with comment := D.extract a3 z } (z + 1) else rK5 fu D most a hh { q with comment := D.extract a3 z } (z + 1)) = R) := Lib.hid (by
                            obtain ⟨h1, h2, h3, h4, h5, h6⟩ := HR.out
                            refine ⟨h1.set 1 (.string (D.extract a3 z)) rfl, h2, h3, fun h => absurd h (by decide), fun h => absurd h (by decide), ?_⟩
                            rw [if_neg (by decide), if_neg (by decide), ← HS2.out, if_neg hlong]
                            rfl)
                          clear HS2 HR
                          go_wp2_with fail
                          refine (HZ.out _).mono ?_
                          rintro e w7 ⟨rfl, rfl⟩
                          go_wp2_with fail
                          exact ⟨⟨5, z + 1, { q with comment := D.extract a3 z }, rfl, rfl, by omega, by omega, by omega, by omega, HQ⟩, by decide⟩
                  · have HS : Hid ((sumM D a q t2 a3).bind (fun p a6 => tailN D p (unpN fu D a6 most) a6) = R) := Lib.hid (by
                      have := HR.out.2.2.2.2.2
                      rw [if_neg (by decide), if_neg (by decide)] at this
                      unfold rK5 at this
                      rwa [HF2.out] at this)
                    have hh4 := HR.out.2.1
                    rw [hh4] at e4
                    clear hh4
                    have HP5 := Lib.hid HR.out.1
                    have HPD := Lib.hid HR.out.2.2.1
                    clear HR
                    go_upto_if 177 with fail
                    go_cut [12] (fun c wx => ∃ a6 : Nat, c = .int .i64 (a6 : Int) ∧ a6 ≤ D.size ∧ Hid (RJ w0 A B q wx ∧ tailN D q (unpN fu D a6 most) a6 = R))
                    case first =>
                      cases t2
                      case false =>
                        have HQ : Hid (RJ w0 A B q wr ∧ tailN D q (unpN fu D a3 most) a3 = R) := Lib.hid ⟨HP5.out, HS.out⟩
                        go_wp2_with fail
                        go_meet
                        exact ⟨a3, rfl, ha3D, HQ⟩
                      case true =>
                        have HS1 : Hid (((takeM D 2 a3).bind fun y a5 => if (numL (bytesOf y) : Int) = bits .and .i64 (sumOf (bytesOf (D.extract a a3))) 65535 then RR.ok q a5 else .bad 10 a3).bind (fun p a6 => tailN D p (unpN fu D a6 most) a6) = R) := Lib.hid (by
                          have := HS.out
                          unfold sumM at this
                          rwa [if_pos rfl] at this)
                        clear HS
                        by_cases hl2 : a3 + 2 ≤ D.size
                        case neg =>
                          have hl2I : (D.size : Int) - (a3 : Int) < 2 := by omega
                          have HE : Hid (RR.bad 3 a3 = R) := Lib.hid (by rw [← HS1.out]; unfold takeM; rw [if_neg hl2]; rfl)
                          clear HS1
                          go_wp2_with fail
                          rw [← HE.out]
                          exact bodyPost_ret (results_rpart (again9_at { q with headSum := true } HP5.out.ax) rfl rfl rfl rfl) rfl ⟨again9_mut { q with headSum := true } HP5.out.kept HP5.out.newA, _, rfl⟩
                        case pos =>
                          have hl2I : ¬ (D.size : Int) - (a3 : Int) < 2 := by omega
                          have HV := Lib.hid fun W => rvalue_any (D.extract a3 (a3 + 2)) (by rw [ByteArray.size_extract]; omega) W
                          have HSU := Lib.hid fun W => rsum_any (D.extract a a3) (by rw [ByteArray.size_extract]; omega) W
                          have hsin := sumOf_in (bytesOf (D.extract a a3))
                          have HS2 : Hid ((if (numL (bytesOf (D.extract a3 (a3 + 2))) : Int) = bits .and .i64 (sumOf (bytesOf (D.extract a a3))) 65535 then RR.ok q (a3 + 2) else .bad 10 a3).bind (fun p a6 => tailN D p (unpN fu D a6 most) a6) = R) := Lib.hid (by
                            have := HS1.out
                            unfold takeM at this
                            rwa [if_pos hl2] at this)
                          obtain ⟨sm, hsm⟩ : ∃ sm : Nat, sumOf (bytesOf (D.extract a a3)) = (sm : Int) := ⟨(sumOf (bytesOf (D.extract a a3))).toNat, by omega⟩
                          rw [hsm] at HSU hsin HS2
                          rw [and_i64_16 sm (by omega)] at HS2
                          obtain ⟨N, hN⟩ : ∃ N, numL (bytesOf (D.extract a3 (a3 + 2))) = N := ⟨_, rfl⟩
                          rw [hN] at HV HS2
                          have haa3 : (a : Int) ≤ (a3 : Int) := by omega
                          clear HS1 hN hsm
                          by_cases hs1 : N = sm % 65536
                          case neg =>
                            have hb1 : ((N : Int) != (sm : Int) % 65536) = true := by simp only [bne_iff_ne, ne_eq]; omega
                            have HE : Hid (RR.bad 10 a3 = R) := Lib.hid (by rw [← HS2.out, if_neg (by omega)]; rfl)
                            clear HS2 hs1
                            go_wp2_with fail
                            go_quiet ((first | (go_at_call 33; exact (HV.out _).mono fun e w'' ⟨he, hw⟩ => ⟨he, _, hw⟩) | (go_at_call 15; exact (HSU.out _).mono fun e w'' ⟨he, hw⟩ => ⟨he, _, hw⟩)))
                            have HP7 := Lib.hid (HP5.out.mut ((Mut.refl [] wr).drewN nq))
                            go_wp2_with fail
                            rw [← HE.out]
                            exact bodyPost_ret (results_rpart (again9_at { q with headSum := true } HP7.out.ax) rfl rfl rfl rfl) rfl ⟨again9_mut { q with headSum := true } HP7.out.kept HP7.out.newA, _, rfl⟩
                          case pos =>
                            have hb1 : ((N : Int) != (sm : Int) % 65536) = false := by simp only [bne_eq_false_iff_eq]; omega
                            have HQ : Hid (RJ w0 A B q wr ∧ tailN D q (unpN fu D (a3 + 2) most) (a3 + 2) = R) := Lib.hid ⟨HP5.out, by rw [← HS2.out, if_pos (by omega)]; rfl⟩
                            clear HS2 hs1
                            go_wp2_with fail
                            go_quiet ((first | (go_at_call 33; exact (HV.out _).mono fun e w'' ⟨he, hw⟩ => ⟨he, _, hw⟩) | (go_at_call 15; exact (HSU.out _).mono fun e w'' ⟨he, hw⟩ => ⟨he, _, hw⟩)))
                            have HQ2 : Hid (RJ w0 A B q (wr.drewN nq) ∧ tailN D q (unpN fu D (a3 + 2) most) (a3 + 2) = R) := Lib.hid ⟨HQ.out.1.mut ((Mut.refl [] wr).drewN nq), HQ.out.2⟩
                            go_wp2_with fail
                            go_meet
                            exact ⟨a3 + 2, rfl, hl2, HQ2⟩
                    case rest =>
                      clear HP5 HS
                      obtain ⟨a6, rfl, ha6, HQ6⟩ := hcut
                      have HP6 := Lib.hid HQ6.out.1
                      have HE6 := Lib.hid HQ6.out.2
                      clear HQ6 e0 e1 e2 e3 e4 e5 e6 e7 e8 e9 e10 g0 g1 g2 g3 g4 g5 g6 g7 g8
                      have hs6 : (D.extract a6 D.size).size = D.size - a6 := by rw [ByteArray.size_extract]; omega
                      have HUP := Lib.hid (runpack_any D (D.extract a6 D.size) a6 most fu wc (by omega) ha6 rfl hmost (by have := HFU.out; omega) (by have := run_small fu (D.extract a6 D.size) most; omega))
                      obtain ⟨htin, hom⟩ := unpN_in fu D a6 most ha6
                      have hosm : (unpN fu D a6 most).out.length ≤ 2400 * D.size := by have := run_small fu (D.extract a6 D.size) most; unfold unpN; omega
                      rw [show runU fu (D.extract a6 D.size) most = unpN fu D a6 most from rfl] at HUP
                      generalize unpN fu D a6 most = st at *
                      by_cases her : st.er = 0
                      case neg =>
                        have hrr : runpRes a6 st = .tuple #[.string ByteArray.empty, .int .i64 0, .int .i64 (st.er : Int), .int .i64 ((a6 + st.t / 8 : Nat) : Int)] := by unfold runpRes; rw [if_neg her]
                        rw [hrr] at HUP
                        have HE : Hid (RR.bad st.er (a6 + st.t / 8) = R) := Lib.hid (by rw [← HE6.out]; unfold tailN; rw [if_pos her])
                        have hb1 : ((st.er : Int) != 0) = true := by simp only [bne_iff_ne, ne_eq]; omega
                        obtain ⟨T8, hT8⟩ : ∃ T8, a6 + st.t / 8 = T8 := ⟨_, rfl⟩
                        rw [hT8] at HUP HE
                        clear hrr hT8 HE6 her hs6 hom
                        go_wp2_with fail
                        refine HUP.out.mono ?_
                        rintro e w7 ⟨rfl, hm⟩
                        have HP7 := Lib.hid (HP6.out.mut hm)
                        clear hm HUP HP6
                        obtain ⟨e0, e1, e2, e3, e4, e5, e6, e7, e8, e9, e10⟩ := HP7.out.cells
                        obtain ⟨g0, g1, g2, g3, g4, g5, g6, g7, g8⟩ := HP7.out.acells
                        go_wp2_with fail
                        rw [← HE.out]
                        exact bodyPost_ret (results_rpart (again9_at q HP7.out.ax) rfl rfl rfl rfl) rfl ⟨again9_mut q HP7.out.kept HP7.out.newA, _, rfl⟩
                      case pos =>
                        have hrr : runpRes a6 st = .tuple #[.string (strOf st.out), .int .i64 ((a6 + (st.t + 7) / 8 : Nat) : Int), .int .i64 0, .int .i64 0] := by unfold runpRes; rw [if_pos her]
                        rw [hrr] at HUP
                        obtain ⟨qq, hqq⟩ : ∃ qq, a6 + (st.t + 7) / 8 = qq := ⟨_, rfl⟩
                        have hqD : qq ≤ D.size := by omega
                        obtain ⟨S, hS⟩ : ∃ S, strOf st.out = S := ⟨_, rfl⟩
                        have hSz : S.size ≤ 1099511627776 := by rw [← hS, strOf_size]; omega
                        rw [hqq, hS] at HUP
                        have HE : Hid (((takeM D 8 qq).bind fun t a2 => if (numL (bytesOf (t.extract 0 4)) : Int) = sumOf (bytesOf S) then (if numL (bytesOf (t.extract 4 t.size)) = S.size then RR.ok { q with data := S } a2 else .bad 11 (qq + 4)) else .bad 10 qq) = R) := Lib.hid (by
                          rw [← HE6.out]
                          unfold tailN
                          rw [if_neg (by simp [her]), hqq, hS])
                        clear hrr HE6 her hs6 hom hqq hS hosm htin
                        go_wp2_with fail
                        refine HUP.out.mono ?_
                        rintro e w7 ⟨rfl, hm⟩
                        have HP7 := Lib.hid (HP6.out.mut hm)
                        clear hm HUP HP6
                        obtain ⟨e0, e1, e2, e3, e4, e5, e6, e7, e8, e9, e10⟩ := HP7.out.cells
                        obtain ⟨g0, g1, g2, g3, g4, g5, g6, g7, g8⟩ := HP7.out.acells
                        by_cases h8 : qq + 8 ≤ D.size
                        case neg =>
                          have h8I : (D.size : Int) - (qq : Int) < 8 := by omega
                          have HE2 : Hid (RR.bad 3 qq = R) := Lib.hid (by rw [← HE.out]; unfold takeM; rw [if_neg h8]; rfl)
                          clear HE
                          go_wp2_with fail
                          rw [← HE2.out]
                          exact bodyPost_ret (results_rpart (again9_at q HP7.out.ax) rfl rfl rfl rfl) rfl ⟨again9_mut q HP7.out.kept HP7.out.newA, _, rfl⟩
                        case pos =>
                          have h8I : ¬ (D.size : Int) - (qq : Int) < 8 := by omega
                          have HV := Lib.hid fun W => rvalue_any (D.extract qq (qq + 4)) (by rw [ByteArray.size_extract]; omega) W
                          have HV2 := Lib.hid fun W => rvalue_any (D.extract (qq + 4) (qq + 8)) (by rw [ByteArray.size_extract]; omega) W
                          have HSU := Lib.hid fun W => rsum_any S hSz W
                          have hsin := sumOf_in (bytesOf S)
                          have HE2 : Hid ((if (numL (bytesOf (D.extract qq (qq + 4))) : Int) = sumOf (bytesOf S) then (if numL (bytesOf (D.extract (qq + 4) (qq + 8))) = S.size then RR.ok { q with data := S } (qq + 8) else .bad 11 (qq + 4)) else .bad 10 qq) = R) := Lib.hid (by
                            have h := HE.out
                            have hts : (D.extract qq (qq + 8)).size = 8 := by rw [ByteArray.size_extract]; omega
                            unfold takeM at h
                            rw [if_pos h8] at h
                            simp only [RR.bind] at h
                            rwa [hts, ByteArray.extract_extract, ByteArray.extract_extract, show qq + 0 = qq from rfl, show min (qq + 4) (qq + 8) = qq + 4 by omega, show min (qq + 8) (qq + 8) = qq + 8 by omega] at h)
                          generalize numL (bytesOf (D.extract qq (qq + 4))) = N1 at *
                          generalize numL (bytesOf (D.extract (qq + 4) (qq + 8))) = N2 at *
                          generalize sumOf (bytesOf S) = SM at *
                          clear HE
                          by_cases hs1 : (N1 : Int) = SM
                          case neg =>
                            have hb1 : ((N1 : Int) != SM) = true := by simpa using hs1
                            have HE3 : Hid (RR.bad 10 qq = R) := Lib.hid (by rw [← HE2.out, if_neg hs1])
                            clear HE2 hs1
                            go_wp2_with fail
                            refine (HV.out _).mono ?_
                            rintro e w8 ⟨rfl, rfl⟩
                            go_wp2_with fail
                            refine (HSU.out _).mono ?_
                            rintro e w9 ⟨rfl, rfl⟩
                            go_wp2_with fail
                            rw [← HE3.out]
                            exact bodyPost_ret (results_rpart (again9_at q HP7.out.ax) rfl rfl rfl rfl) rfl ⟨again9_mut q HP7.out.kept HP7.out.newA, _, rfl⟩
                          case pos =>
                            have hb1 : ((N1 : Int) != SM) = false := by rw [hs1]; simp
                            have HE3 : Hid ((if N2 = S.size then RR.ok { q with data := S } (qq + 8) else .bad 11 (qq + 4)) = R) := Lib.hid (by rw [← HE2.out, if_pos hs1])
                            clear HE2 hs1
                            by_cases hs2 : N2 = S.size
                            case neg =>
                              have hb2 : ((N2 : Int) != (S.size : Int)) = true := by simp only [bne_iff_ne, ne_eq]; omega
                              have HE4 : Hid (RR.bad 11 (qq + 4) = R) := Lib.hid (by rw [← HE3.out, if_neg hs2])
                              clear HE3 hs2
                              go_wp2_with fail
                              refine (HV.out _).mono ?_
                              rintro e w8 ⟨rfl, rfl⟩
                              go_wp2_with fail
                              refine (HSU.out _).mono ?_
                              rintro e w9 ⟨rfl, rfl⟩
                              go_wp2_with fail
                              refine (HV2.out _).mono ?_
                              rintro e w10 ⟨rfl, rfl⟩
                              go_wp2_with fail
                              rw [← HE4.out]
                              exact bodyPost_ret (results_rpart (again9_at q HP7.out.ax) rfl rfl rfl rfl) rfl ⟨again9_mut q HP7.out.kept HP7.out.newA, _, by rw [Int.natCast_add]; rfl⟩
                            case pos =>
                              have hb2 : ((N2 : Int) != (S.size : Int)) = false := by rw [hs2]; simp
                              have HE4 : Hid (RR.ok { q with data := S } (qq + 8) = R) := Lib.hid (by rw [← HE3.out, if_pos hs2])
                              clear HE3 hs2
                              go_wp2_with fail
                              refine (HV.out _).mono ?_
                              rintro e w8 ⟨rfl, rfl⟩
                              go_wp2_with fail
                              refine (HSU.out _).mono ?_
                              rintro e w9 ⟨rfl, rfl⟩
                              go_wp2_with fail
                              refine (HV2.out _).mono ?_
                              rintro e w10 ⟨rfl, rfl⟩
                              go_upto_region 50 with fail
                              have HP9 := Lib.hid (HP7.out.set (q := { q with data := S }) 8 (.string S) rfl)
                              clear e0 e1 e2 e3 e4 e5 e6 e7 e8 e9 e10 g0 g1 g2 g3 g4 g5 g6 g7 g8 HP7 HV HV2 HSU
                              generalize w10.setCell ⟨B, 8, none⟩ (.string S) = wz at *
                              obtain ⟨e0, e1, e2, e3, e4, e5, e6, e7, e8, e9, e10⟩ := HP9.out.cells
                              obtain ⟨g0, g1, g2, g3, g4, g5, g6, g7, g8⟩ := HP9.out.acells
                              go_wp2_with fail
                              rw [← HE4.out]
                              exact bodyPost_ret (results_rpart (again9_at { q with data := S } HP9.out.ax) rfl rfl rfl rfl) rfl ⟨again9_mut { q with data := S } HP9.out.kept HP9.out.newA, by
                                show Ending.returned (Value.tuple #[gpV { q with data := S }, .int .i64 ((qq : Int) + 8), .int .i64 0, .int .i64 0]) = Ending.returned (Value.tuple #[gpV { q with data := S }, .int .i64 ((qq + 8 : Nat) : Int), .int .i64 0, .int .i64 0])
                                rw [Int.natCast_add]
                                rfl⟩

end Go.Proofs.Ytgjcnembeebjfaa
