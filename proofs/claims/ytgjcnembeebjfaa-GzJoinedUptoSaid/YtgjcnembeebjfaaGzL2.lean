/- Walk over the law GzJoined. -/
import Derived.Test.YtgjcnembeebjfaaGzK
import Derived.Test.YtgjcnembeebjfaaGzJ
import Derived.Deep.RegionWith
import Derived.BigQuiet
import Derived.Deep.LoopGhost
namespace Go.Proofs.Ytgjcnembeebjfaa
open Go.RowKit
set_option linter.unusedVariables false

/-- what a reading answers, as the law takes it -/
def RdAns (D : ByteArray) (k : Nat) (n c f : Nat) (L : List GPart) : Prop :=
  L.length = n ∧ ∀ w, Calls Try.prog 10 #[.string D, .int .i64 (k : Int)] w fun e w' => ∃ p cc, e = .returned (.tuple #[.slice p n cc, .agg #[.int .i64 (c : Int), .int .i64 (f : Int)]]) ∧ w'.ownsRow 0 37 9 (.slice p n cc) n (gpL L) ∧ Mut [] w w'

theorem ans_of (fu : Nat) (D : ByteArray) (hfu : 8 * D.size < fu) (most : Nat) (hmost : most ≤ 1073741824) (hD : D.size ≤ 1099511627776) (R : RR (List GPart)) (hR : readN fu D 1026 most 0 [] = R) : RdAns D most (RL R).length (RC R) (RF R) (RL R) := by
  refine ⟨rfl, fun w => (gz_read_any fu D hfu most hmost hD R hR w).mono ?_⟩
  rintro e w' ⟨v, rfl, h, hm⟩
  obtain ⟨p, c, rfl, hr⟩ := readRes_flat h
  exact ⟨p, c, rfl, hr, hm⟩

/-- what the law asks of the three readings -/
theorem joined_facts (a b : ByteArray) (za : a.size + b.size ≤ 2097152) :
    ∃ l m n, ∃ n1 c1 f1 n2 c2 f2 n3 c3 f3, RdAns a 1048576 n1 c1 f1 l ∧ RdAns b 1048576 n2 c2 f2 m ∧ RdAns (a ++ b) 2097152 n3 c3 f3 n ∧
      ((c1 ≠ 0 ∧ n1 = 0) ∨ (c1 = 0 ∧ f1 = 0 ∧ n1 ≤ 1024 ∧
        ((c2 = 2) ∨ (c2 ≠ 2 ∧ c2 ≠ 0 ∧ b.size = 0 ∧ n3 = n1) ∨ (c2 ≠ 2 ∧ c2 ≠ 0 ∧ b.size ≠ 0 ∧ c3 ≠ 0 ∧ n3 = 0) ∨
         (c2 = 0 ∧ f2 = 0 ∧ 1024 < n1 + n2 ∧ n2 ≤ 1024 ∧ c3 = 16) ∨ (c2 = 0 ∧ f2 = 0 ∧ n1 + n2 ≤ 1024 ∧ c3 = 0 ∧ f3 = 0 ∧ n3 = n1 + n2 ∧ n = l ++ m)))) := by
  obtain ⟨fu, hfu⟩ : ∃ fu, 8 * (a.size + b.size) + 1 = fu := ⟨_, rfl⟩
  have hfu' : 8 * (a ++ b).size < fu := by rw [ByteArray.size_append]; omega
  have hj := joined_plain fu a b 1048576 2097152 (by decide)
  have A1 := ans_of fu a (by omega) 1048576 (by decide) (by omega) _ rfl
  have A2 := ans_of fu b (by omega) 1048576 (by decide) (by omega) _ rfl
  have A3 := ans_of fu (a ++ b) hfu' 2097152 (by decide) (by rw [ByteArray.size_append]; omega) _ rfl
  have hb0 : b.size = 0 → ∃ c f, c = 12 ∧ readN fu b 1026 1048576 0 [] = .bad c f := fun h => by
    rw [size_empty h]
    refine ⟨12, 0, rfl, ?_⟩
    have hh : headM ByteArray.empty 0 = .bad 12 0 := rfl
    rw [readN, if_pos (.inl rfl), if_neg (by decide), partN_bad hh, RR.bind]
  have hin : ∀ (D : ByteArray) (k c f : Nat), readN fu D 1026 k 0 [] = .bad c f → c ≠ 0 := by
    have : ∀ (D : ByteArray) (g k a : Nat) (acc : List GPart) (c f : Nat), readN fu D g k a acc = .bad c f → c ≠ 0 := by
      intro D g
      induction g with
      | zero => intro k a acc c f h; rw [readN] at h; cases h
      | succ g ih =>
        intro k a acc c f h
        rw [readN] at h
        split at h
        · split at h
          · simp only [RR.bad.injEq] at h
            obtain ⟨rfl, -⟩ := h
            decide
          · cases hp : partN fu D k a with
            | ok p a1 =>
              rw [hp, RR.bind] at h
              exact ih _ _ _ _ _ h
            | bad c1 f1 =>
              rw [hp, RR.bind] at h
              simp only [RR.bad.injEq] at h
              obtain ⟨rfl, rfl⟩ := h
              have := partN_in fu D k a
              rw [hp] at this
              exact RR.In.of_bad this
        · cases h
    exact fun D k c f => this D 1026 k 0 [] c f
  have hin1 := hin a 1048576
  have hin2 := hin b 1048576
  have hin3 := hin (a ++ b) 2097152
  refine ⟨_, _, _, _, _, _, _, _, _, _, _, _, A1, A2, A3, ?_⟩
  generalize readN fu a 1026 1048576 0 [] = Ra at *
  generalize readN fu b 1026 1048576 0 [] = Rb at *
  generalize readN fu (a ++ b) 1026 2097152 0 [] = Rn at *
  cases Ra with
  | bad c f => exact .inl ⟨hin1 c f rfl, rfl⟩
  | ok l e =>
    obtain ⟨h1, h2, h3, h4, h5⟩ := hj l e rfl
    refine .inr ⟨rfl, rfl, h1, ?_⟩
    cases Rb with
    | bad c f =>
      by_cases hc : c = 2
      · exact .inl hc
      by_cases hb : b.size = 0
      · obtain ⟨e', he⟩ := h3 hb
        exact .inr (.inl ⟨hc, hin2 c f rfl, hb, by rw [he]; rfl⟩)
      · obtain ⟨c', f', hc', he⟩ := h4 c f rfl hc hb
        exact .inr (.inr (.inl ⟨hc, hin2 c f rfl, hb, by rw [he]; exact hc', by rw [he]; rfl⟩))
    | ok m e' =>
      have hb : b.size ≠ 0 := fun h => by
        obtain ⟨c, f, -, h'⟩ := hb0 h
        cases h'
      obtain ⟨k1, k2, k3⟩ := h5 m e' rfl hb
      by_cases hle : l.length + m.length ≤ 1024
      · obtain ⟨e2, he⟩ := k2 hle
        exact .inr (.inr (.inr (.inr ⟨rfl, rfl, hle, by rw [he]; rfl, by rw [he]; rfl, by rw [he]; exact List.length_append, by rw [he]; rfl⟩)))
      · obtain ⟨f, he⟩ := k3 (by omega)
        exact .inr (.inr (.inr (.inl ⟨rfl, rfl, by simp only [RL]; omega, k1, by rw [he]; rfl⟩)))

theorem ne_facts' {s : ByteArray} (h : s ≠ .empty) : s.toList ≠ [] ∧ s.toList.isEmpty = false := by
  have hn0 : s.toList ≠ [] := fun e => h (ByteArray.ext (Array.ext' (by rw [← str_toList, e]; rfl)))
  refine ⟨hn0, ?_⟩
  cases h : s.toList with
  | nil => exact absurd h hn0
  | cons a r => rfl

/-- the rows of the three answers, and the boxes of what is wrong -/
structure J3 (w0 w : World) (p1 : Option Addr) (n1 k1 : Nat) (l : List GPart) (p2 : Option Addr) (n2 k2 : Nat) (m : List GPart) (p3 : Option Addr) (n3 k3 : Nat) (n : List GPart) : Prop where
  r1 : w.ownsRow 0 37 9 (.slice p1 n1 k1) n1 (gpL l)
  r2 : w.ownsRow 0 37 9 (.slice p2 n2 k2) n2 (gpL m)
  r3 : w.ownsRow 0 37 9 (.slice p3 n3 k3) n3 (gpL n)
  mu : Mut [] w0 w

set_option maxHeartbeats 3200000 in
set_option maxRecDepth 100000 in
theorem lawGzJoined {w : World} (a : ByteArray) (wa : a.size ≤ maxLen) (za : a.size ≤ 1048576) (b : ByteArray) (wb : b.size ≤ maxLen) (zb : b.size ≤ 1048576) :
    Calls Try.prog 4 #[.string a, .string b] w fun e w' => e = .returned (.bool true) ∧ Below w.heap.size w w' := by
  clear wa wb
  have zab : a.size + b.size ≤ 2097152 := by omega
  clear za zb
  have HS := Lib.hid (speaks5_any w)
  obtain ⟨l, m, n, n1, c1, f1, n2, c2, f2, n3, c3, f3, A1, A2, A3, hF⟩ := joined_facts a b zab
  have HA1 := Lib.hid A1
  have HA2 := Lib.hid A2
  have HA3 := Lib.hid A3
  have HF := Lib.hid hF
  clear A1 A2 A3 hF
  go_enter Try.func4, Try.ntmps4
  go_wp2_with fail
  refine HS.out.mono ?_
  rintro e w1 ⟨rfl, hm⟩
  have HM1 := Lib.hid hm
  clear hm HS
  go_wp2_with fail
  refine (HA1.out.2 _).mono ?_
  rintro e w2 ⟨p1, k1, rfl, hr1, hm⟩
  have HR1 := Lib.hid hr1
  have HM2 := Lib.hid (HM1.out.trans' hm)
  clear hm hr1 HM1
  go_upto_region 4 with fail
  have HB1 := Lib.hid (heap_alloc_new w2 (.cells #[.int .i64 (c1 : Int), .int .i64 (f1 : Int)] 26))
  have HM3 := Lib.hid ((Mut.refl [] w2).alloc (.cells #[.int .i64 (c1 : Int), .int .i64 (f1 : Int)] 26))
  generalize w2.alloc (.cells #[.int .i64 (c1 : Int), .int .i64 (f1 : Int)] 26) = w3 at *
  generalize w2.heap.size = g1 at *
  go_wp2_with fail
  refine (HA2.out.2 _).mono ?_
  rintro e w4 ⟨p2, k2, rfl, hr2, hm⟩
  have HR2 := Lib.hid hr2
  have HM4 := Lib.hid hm
  clear hm hr2
  go_upto_region 5 with fail
  have HB2 := Lib.hid (heap_alloc_new w4 (.cells #[.int .i64 (c2 : Int), .int .i64 (f2 : Int)] 26))
  have HM5 := Lib.hid ((Mut.refl [] w4).alloc (.cells #[.int .i64 (c2 : Int), .int .i64 (f2 : Int)] 26))
  generalize w4.alloc (.cells #[.int .i64 (c2 : Int), .int .i64 (f2 : Int)] 26) = w5 at *
  generalize w4.heap.size = g2 at *
  have hsm : a.size + b.size ≤ 9223372036854775807 := by omega
  go_wp2_with fail
  refine (HA3.out.2 _).mono ?_
  rintro e w6 ⟨p3, k3, rfl, hr3, hm⟩
  have HR3 := Lib.hid hr3
  have HM6 := Lib.hid hm
  clear hm hr3
  have HB3 := Lib.hid (heap_alloc_new w6 (.cells #[.int .i64 (c3 : Int), .int .i64 (f3 : Int)] 26))
  have m67 := (Mut.refl [] w6).alloc (.cells #[.int .i64 (c3 : Int), .int .i64 (f3 : Int)] 26)
  have m47 := (HM5.out.trans' HM6.out).trans' m67
  have m27 := (HM3.out.trans' HM4.out).trans' m47
  have m37 := HM4.out.trans' m47
  have m57 := HM6.out.trans' m67
  have HJ : Hid (J3 w (w6.alloc (.cells #[.int .i64 (c3 : Int), .int .i64 (f3 : Int)] 26)) p1 n1 k1 l p2 n2 k2 m p3 n3 k3 n) := Lib.hid ⟨HR1.out.mut' m27 (by simp), HR2.out.mut' m47 (by simp), HR3.out.mut' m67 (by simp), HM2.out.trans' m27⟩
  obtain ⟨a0, a1, -, -⟩ := cells2 (m37.get HB1.out (by simp))
  obtain ⟨b0, b1, -, -⟩ := cells2 (m57.get HB2.out (by simp))
  obtain ⟨d0, d1, -, -⟩ := cells2 HB3.out
  have HLEN := Lib.hid (And.intro HA1.out.1 (And.intro HA2.out.1 HA3.out.1))
  clear m47 m27 m37 m57 m67 HR1 HR2 HR3 HB1 HB2 HB3 HM2 HM3 HM4 HM5 HM6 HA1 HA2 HA3
  go_upto_region 6 with fail
  generalize w6.alloc (.cells #[.int .i64 (c3 : Int), .int .i64 (f3 : Int)] 26) = w7 at *
  generalize w6.heap.size = g3 at *
  rcases HF.out with ⟨h1, h2⟩ | ⟨h1, h2, h3, hF⟩
  · have e1 : ((c1 : Int) == 0) = false := by rw [beq_eq_false_iff_ne]; omega
    subst h2
    clear HF b0 b1 d0 d1
    go_wp2_with fail
    go_ret
    exact ⟨rfl, HJ.out.mu.nil (by simp)⟩
  · subst h1 h2
    clear HF
    have a0 : w7.cell? ⟨g1, 0, none⟩ = some (.int .i64 0) := a0
    have a1 : w7.cell? ⟨g1, 1, none⟩ = some (.int .i64 0) := a1
    go_upto_if 33 with fail
    clear a0 a1
    by_cases h4 : 1024 ≤ n1 ∨ c2 = 2
    · have h4I : (1024 : Int) ≤ (n1 : Int) ∨ (¬ (1024 : Int) ≤ (n1 : Int) ∧ ((c2 : Int) == 2) = true) := by
        rw [beq_iff_eq]
        omega
      clear hF d0 d1 h4
      go_upto_region 8 with fail
      go_cut [44] (fun x wx => x = .bool true ∧ wx = w7)
      case first =>
        rcases h4I with h | ⟨h, h'⟩
        · go_wp2_with fail
          go_meet
          exact ⟨rfl, rfl⟩
        · go_wp2_with fail
          go_meet
          exact ⟨rfl, rfl⟩
      case rest =>
        obtain ⟨rfl, hwc⟩ := hcut
        obtain rfl := hwc.symm
        clear h4I
        go_wp2_with fail
        go_ret
        exact ⟨rfl, HJ.out.mu.nil (by simp)⟩
    · have h4I : ¬ (1024 : Int) ≤ (n1 : Int) := by omega
      have h4c : ((c2 : Int) == 2) = false := by rw [beq_eq_false_iff_ne]; omega
      go_upto_region 8 with fail
      go_cut [44] (fun x wx => x = .bool false ∧ wx = w7)
      case first =>
        clear hF d0 d1
        go_wp2_with fail
        go_meet
        exact ⟨rfl, rfl⟩
      case rest =>
        obtain ⟨rfl, hwc⟩ := hcut
        obtain rfl := hwc.symm
        clear h4I h4c
        rcases hF with hF | ⟨-, e2, hb, e3⟩ | ⟨-, e2, hb, e3, e4⟩ | ⟨e2, e3, e4, e4', e5⟩ | ⟨e2, e3, e4, e5, e6, e7, e8⟩
        · omega
        · have h2c : ((c2 : Int) == 0) = false := by rw [beq_eq_false_iff_ne]; omega
          have hse : b.toList.isEmpty = true := by rw [size_empty hb]; simp
          subst e3
          clear a0 a1 d0 d1 h4 hb hwc
          go_wp2_with fail
          go_ret
          exact ⟨rfl, HJ.out.mu.nil (by simp)⟩
        · have h2c : ((c2 : Int) == 0) = false := by rw [beq_eq_false_iff_ne]; omega
          have h3c : ((c3 : Int) == 0) = false := by rw [beq_eq_false_iff_ne]; omega
          obtain ⟨hse0, hse⟩ := ne_facts' (s := b) (fun h => hb (by rw [h]; rfl))
          subst e4
          have e3' : ¬ c3 = 0 := e3
          clear a0 a1 h4 hb hwc e2 e3
          have h3n : ((c3 : Int) != 0) = true := by simp [bne, h3c]
          go_wp2_with fail
          go_ret
          exact ⟨rfl, HJ.out.mu.nil (by simp)⟩
        · subst e2 e3 e5
          have h12 : (1024 : Int) < (n1 : Int) + (n2 : Int) := by omega
          have hn2 : (n2 : Int) ≤ 1024 := by omega
          clear a0 a1 hwc
          go_wp2_with fail
          go_ret
          exact ⟨rfl, HJ.out.mu.nil (by simp)⟩
        · subst e2 e3 e5 e6
          have h12 : ¬ (1024 : Int) < (n1 : Int) + (n2 : Int) := by omega
          have hn3 : ((n3 : Int) == (n1 : Int) + (n2 : Int)) = true := by rw [beq_iff_eq]; omega
          have HN := Lib.hid (And.intro e4 (And.intro e7 e8))
          clear a0 a1 hwc e4 e7 e8 h4
          go_wp2_with fail
          go_loopg [11] n3 (fun g c wr => ∃ i : Nat, g = n3 - i ∧ i ≤ n3 ∧ c = .int .i64 (i : Int) ∧ Hid (J3 w wr p1 n1 k1 l p2 n2 k2 m p3 n3 k3 n))
          case atStart => exact ⟨0, rfl, Nat.zero_le _, rfl, HJ⟩
          case round =>
            obtain ⟨i, rfl, hi, rfl, HJr⟩ := hrel
            clear HJ b0 b1 d0 d1 hn3 h12
            by_cases hlt : i < n3
            case pos =>
              have hI : (i : Int) < (n3 : Int) := by omega
              have hI0 : (0 : Int) ≤ (i : Int) := by omega
              have hil : i < n.length := by rw [HLEN.out.2.2]; exact hlt
              obtain ⟨G3, cp3, e3, -, -⟩ := row_some HJr.out.r3 (by omega)
              cases e3
              have r3 := HJr.out.r3
              have d := rowAt9 (n := n3) r3 i hil
              obtain ⟨p, hp⟩ : ∃ p, n[i] = p := ⟨_, rfl⟩
              rw [hp] at d
              have x0 : ∀ j, (wr.drewN j).cell? ⟨G3, i * 9, none⟩ = some (.string p.name) := fun j => d 0 (.string p.name) (by decide) rfl
              have x1 : ∀ j, (wr.drewN j).cell? ⟨G3, i * 9 + 1, none⟩ = some (.string p.comment) := fun j => d 1 (.string p.comment) (by decide) rfl
              have x2 : ∀ j, (wr.drewN j).cell? ⟨G3, i * 9 + 2, none⟩ = some (.string p.extra) := fun j => d 2 (.string p.extra) (by decide) rfl
              have x3 : ∀ j, (wr.drewN j).cell? ⟨G3, i * 9 + 3, none⟩ = some (.bool p.text) := fun j => d 3 (.bool p.text) (by decide) rfl
              have x4 : ∀ j, (wr.drewN j).cell? ⟨G3, i * 9 + 4, none⟩ = some (.bool p.headSum) := fun j => d 4 (.bool p.headSum) (by decide) rfl
              have x5 : ∀ j, (wr.drewN j).cell? ⟨G3, i * 9 + 5, none⟩ = some (.int .i64 p.time) := fun j => d 5 (.int .i64 p.time) (by decide) rfl
              have x6 : ∀ j, (wr.drewN j).cell? ⟨G3, i * 9 + 6, none⟩ = some (.int .i64 p.more) := fun j => d 6 (.int .i64 p.more) (by decide) rfl
              have x7 : ∀ j, (wr.drewN j).cell? ⟨G3, i * 9 + 7, none⟩ = some (.int .i64 p.system) := fun j => d 7 (.int .i64 p.system) (by decide) rfl
              have x8 : ∀ j, (wr.drewN j).cell? ⟨G3, i * 9 + 8, none⟩ = some (.string p.data) := fun j => d 8 (.string p.data) (by decide) rfl
              clear d r3
              have hss : ∀ s : ByteArray, (s.toList == s.toList) = true := fun s => by simp
              have hbb : ∀ s : Bool, (s == s) = true := fun s => by simp
              have hii : ∀ s : Int, (s == s) = true := fun s => by simp
              by_cases hb : i < n1
              · have hbI : (i : Int) < (n1 : Int) := by omega
                have hl1 : i < l.length := by rw [HLEN.out.1]; exact hb
                have hq : l[i] = p := by
                  have := HN.out.2.2
                  subst this
                  rw [← hp, List.getElem_append_left hl1]
                obtain ⟨G1, cp1, e1, -, -⟩ := row_some HJr.out.r1 (by omega)
                cases e1
                have r1 := HJr.out.r1
                have d := rowAt9 (n := n1) r1 i hl1
                rw [hq] at d
                have y0 : ∀ j, (wr.drewN j).cell? ⟨G1, i * 9, none⟩ = some (.string p.name) := fun j => d 0 (.string p.name) (by decide) rfl
                have y1 : ∀ j, (wr.drewN j).cell? ⟨G1, i * 9 + 1, none⟩ = some (.string p.comment) := fun j => d 1 (.string p.comment) (by decide) rfl
                have y2 : ∀ j, (wr.drewN j).cell? ⟨G1, i * 9 + 2, none⟩ = some (.string p.extra) := fun j => d 2 (.string p.extra) (by decide) rfl
                have y3 : ∀ j, (wr.drewN j).cell? ⟨G1, i * 9 + 3, none⟩ = some (.bool p.text) := fun j => d 3 (.bool p.text) (by decide) rfl
                have y4 : ∀ j, (wr.drewN j).cell? ⟨G1, i * 9 + 4, none⟩ = some (.bool p.headSum) := fun j => d 4 (.bool p.headSum) (by decide) rfl
                have y5 : ∀ j, (wr.drewN j).cell? ⟨G1, i * 9 + 5, none⟩ = some (.int .i64 p.time) := fun j => d 5 (.int .i64 p.time) (by decide) rfl
                have y6 : ∀ j, (wr.drewN j).cell? ⟨G1, i * 9 + 6, none⟩ = some (.int .i64 p.more) := fun j => d 6 (.int .i64 p.more) (by decide) rfl
                have y7 : ∀ j, (wr.drewN j).cell? ⟨G1, i * 9 + 7, none⟩ = some (.int .i64 p.system) := fun j => d 7 (.int .i64 p.system) (by decide) rfl
                have y8 : ∀ j, (wr.drewN j).cell? ⟨G1, i * 9 + 8, none⟩ = some (.string p.data) := fun j => d 8 (.string p.data) (by decide) rfl
                clear d r1 hq hp hl1 hil
                have hd1 : decide (i < n1) = true := decide_eq_true hb
                have hd2 : decide (n1 ≤ i) = false := decide_eq_false (by omega)
                go_wp2_with fail
                go_quiet (fail)
                have HJ9 := Lib.hid (show J3 w (wr.drewN nq) (some ⟨G1, 0, none⟩) n1 k1 l p2 n2 k2 m (some ⟨G3, 0, none⟩) n3 k3 n from ⟨HJr.out.r1, HJr.out.r2, HJr.out.r3, HJr.out.mu.drewN nq⟩)
                clear x0 x1 x2 x3 x4 x5 x6 x7 x8 y0 y1 y2 y3 y4 y5 y6 y7 y8 HJr
                go_wp2_with fail
                go_roundg (n3 - (i + 1))
                case measure => omega
                case rel => exact ⟨i + 1, rfl, by omega, by rw [Int.natCast_add]; rfl, HJ9⟩
              · obtain ⟨k, hk⟩ : ∃ k, i = n1 + k := ⟨i - n1, by omega⟩
                have hkI : (i : Int) - (n1 : Int) = (k : Int) := by omega
                have hk2 : (k : Int) < (n2 : Int) := by have := HN.out.2.1; omega
                have hk0 : (0 : Int) ≤ (k : Int) := by omega
                have hk3 : k ≤ 1024 := by have := HN.out.1; have := HN.out.2.1; omega
                have hl1 : k < m.length := by have := HN.out.2.1; rw [HLEN.out.2.1]; omega
                have hq : m[k] = p := by
                  have := HN.out.2.2
                  have h1 := HLEN.out.1
                  subst this
                  rw [← hp, List.getElem_append_right (by omega)]
                  congr 1
                  omega
                obtain ⟨G1, cp1, e1, -, -⟩ := row_some HJr.out.r2 (by omega)
                cases e1
                have r1 := HJr.out.r2
                have d := rowAt9 (n := n2) r1 k hl1
                rw [hq] at d
                have y0 : ∀ j, (wr.drewN j).cell? ⟨G1, k * 9, none⟩ = some (.string p.name) := fun j => d 0 (.string p.name) (by decide) rfl
                have y1 : ∀ j, (wr.drewN j).cell? ⟨G1, k * 9 + 1, none⟩ = some (.string p.comment) := fun j => d 1 (.string p.comment) (by decide) rfl
                have y2 : ∀ j, (wr.drewN j).cell? ⟨G1, k * 9 + 2, none⟩ = some (.string p.extra) := fun j => d 2 (.string p.extra) (by decide) rfl
                have y3 : ∀ j, (wr.drewN j).cell? ⟨G1, k * 9 + 3, none⟩ = some (.bool p.text) := fun j => d 3 (.bool p.text) (by decide) rfl
                have y4 : ∀ j, (wr.drewN j).cell? ⟨G1, k * 9 + 4, none⟩ = some (.bool p.headSum) := fun j => d 4 (.bool p.headSum) (by decide) rfl
                have y5 : ∀ j, (wr.drewN j).cell? ⟨G1, k * 9 + 5, none⟩ = some (.int .i64 p.time) := fun j => d 5 (.int .i64 p.time) (by decide) rfl
                have y6 : ∀ j, (wr.drewN j).cell? ⟨G1, k * 9 + 6, none⟩ = some (.int .i64 p.more) := fun j => d 6 (.int .i64 p.more) (by decide) rfl
                have y7 : ∀ j, (wr.drewN j).cell? ⟨G1, k * 9 + 7, none⟩ = some (.int .i64 p.system) := fun j => d 7 (.int .i64 p.system) (by decide) rfl
                have y8 : ∀ j, (wr.drewN j).cell? ⟨G1, k * 9 + 8, none⟩ = some (.string p.data) := fun j => d 8 (.string p.data) (by decide) rfl
                clear d r1 hq hp hl1 hil hk
                have hd1 : decide (i < n1) = false := decide_eq_false hb
                have hd2 : decide (n1 ≤ i) = true := decide_eq_true (by omega)
                have hbI : ¬ (i : Int) < (n1 : Int) := by omega
                go_wp2_with fail
                go_quiet (fail)
                have HJ9 := Lib.hid (show J3 w (wr.drewN nq) p1 n1 k1 l (some ⟨G1, 0, none⟩) n2 k2 m (some ⟨G3, 0, none⟩) n3 k3 n from ⟨HJr.out.r1, HJr.out.r2, HJr.out.r3, HJr.out.mu.drewN nq⟩)
                clear x0 x1 x2 x3 x4 x5 x6 x7 x8 y0 y1 y2 y3 y4 y5 y6 y7 y8 HJr
                go_wp2_with fail
                go_roundg (n3 - (i + 1))
                case measure => omega
                case rel => exact ⟨i + 1, rfl, by omega, by rw [Int.natCast_add]; rfl, HJ9⟩
            case neg =>
              obtain rfl : i = n3 := by omega
              have hI : ¬ (i : Int) < (i : Int) := by omega
              go_wp2_with fail
              go_ret
              exact ⟨rfl, HJr.out.mu.nil (by simp)⟩

end Go.Proofs.Ytgjcnembeebjfaa
