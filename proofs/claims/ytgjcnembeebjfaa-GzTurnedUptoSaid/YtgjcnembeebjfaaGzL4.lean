/- Walk over the law GzTurned. -/
import Derived.Test.YtgjcnembeebjfaaGzT
import Derived.Test.YtgjcnembeebjfaaGzK
import Derived.Test.YtgjcnembeebjfaaMRow
import Derived.Deep.RegionWith
import Derived.BigQuiet
import Derived.StillTailTactics
import Derived.Deep.DeepCutAuto
namespace Go.Proofs.Ytgjcnembeebjfaa
open Go.RowKit
set_option linter.unusedVariables false

/-- a part of its own, as one row -/
theorem own_row (w : World) (p : GPart) : (w.alloc (.cells (gpC p).toArray 37)).ownsRow 0 37 9 (.slice (some ⟨w.heap.size, 0, none⟩) 1 1) 1 (gpL [p]) :=
  ⟨rfl, .inr ⟨w.heap.size, 1, (gpC p).toArray, rfl, Nat.zero_le _, heap_alloc_new w _, Nat.le_refl _, by decide, rfl, rfl⟩⟩

theorem xor_u8_nat (a b : Nat) (ha : a < 256) (hb : b < 256) : Go.bits .xor .u8 (a : Int) (b : Int) = ((a ^^^ b : Nat) : Int) := by
  have h : a ^^^ b < 2 ^ 8 := Nat.xor_lt_two_pow ha hb
  show IntKind.u8.wrap ((BitVec.ofInt 8 (a : Int) ^^^ BitVec.ofInt 8 (b : Int)).toNat : Nat) = _
  have e : ∀ c : Nat, c < 256 → (BitVec.ofInt 8 (c : Int)).toNat = c := fun c hc => by rw [BitVec.toNat_ofInt]; omega
  rw [BitVec.toNat_xor, e a ha, e b hb]
  generalize a ^^^ b = c at *
  exact IntWalk.u8_in _ (by omega)

set_option maxHeartbeats 3200000 in
set_option maxRecDepth 100000 in
theorem lawGzTurned {w : World} (d : ByteArray) (wd : d.size ≤ maxLen) (hzd : d.size ≤ 1048576) (bit : Int) (wb : (Lit.int .i64 bit).wf = true) :
    Calls Try.prog 6 #[.string d, .int .i64 bit] w fun e w' => e = .returned (.bool true) ∧ Below w.heap.size w w' := by
  clear wd wb
  have HS := Lib.hid (speaks5_any w)
  go_enter Try.func6, Try.ntmps6
  go_wp2_with fail
  refine HS.out.mono ?_
  rintro e w1 ⟨rfl, hm⟩
  have HM1 := Lib.hid hm
  clear hm HS
  by_cases hbig : 65535 < d.size
  case pos =>
    have hI : (65535 : Int) < (d.size : Int) := by omega
    go_wp2_with fail
    go_ret
    exact ⟨rfl, HM1.out.nil (by simp)⟩
  case neg =>
    have hI : ¬ (65535 : Int) < (d.size : Int) := by omega
    have hd : d.size ≤ 65535 := by omega
    obtain ⟨P, hP⟩ : ∃ P, partB { data := d } [] = P := ⟨_, rfl⟩
    have hPz : P.size = d.size + 23 := by
      have h := congrArg List.length (file_bytes d hd)
      rw [bytesOf_length, hP, List.length_append, List.length_append, List.length_append, A15_len, lowL_len, lowL_len, bytesOf_length] at h
      omega
    have HW : Hid (∀ w, Calls Try.prog 16 #[.slice (some ⟨w.heap.size, 0, none⟩) 1 1, .slice none 0 0] (w.alloc (.cells (gpC { data := d }).toArray 37)) fun e w' => e = .returned (.tuple #[.string P, .int .i64 0]) ∧ Mut [] w w') := Lib.hid fun w => by
      have h := gz_write_ok [{ data := d }] (by simp) (by simp) (by intro p hp; simp at hp; subst hp; exact ⟨rfl, hzd⟩) (some ⟨w.heap.size, 0, none⟩) 1 [] (by decide) (by simp) (.slice none 0 0) P (by simp [fileL, hP]) (by omega)
        (w.alloc (.cells (gpC { data := d }).toArray 37)) (own_row w _) (CRow.nil _ _)
      exact h.mono fun e w' h => ⟨h.1, ((Mut.refl [] w).alloc _).trans' h.2⟩
    have HT : Hid (∀ j y, j < d.size + 8 → y < 256 → y ≠ (bytesOf P).getD (15 + j) 0 → ∃ c f : Nat, c ≠ 0 ∧ ∀ w, Calls Try.prog 10 #[.string (strOf ((bytesOf P).set (15 + j) y)), .int .i64 (d.size : Int)] w fun e w' => e = .returned (.tuple #[.slice none 0 0, .agg #[.int .i64 (c : Int), .int .i64 (f : Int)]]) ∧ Mut [] w w') := Lib.hid fun j y hj hy hne => by
      have hsz : (strOf ((bytesOf P).set (15 + j) y)).size = d.size + 23 := by rw [strOf_size, List.length_set, bytesOf_length, hPz]
      obtain ⟨c, f, hc, hr⟩ := turned_plain (8 * (d.size + 23) + 1) (by omega) d hd j y hj hy (by rw [hP]; exact hne)
      rw [hP] at hr
      refine ⟨c, f, hc, fun w => ?_⟩
      refine (gz_read_any (8 * (d.size + 23) + 1) _ (by rw [hsz]; omega) d.size (by omega) (by rw [hsz]; omega) _ hr w).mono ?_
      rintro e w' ⟨v, rfl, rfl, hm⟩
      exact ⟨rfl, hm⟩
    obtain ⟨L, hL⟩ : ∃ L, bytesOf P = L := ⟨_, rfl⟩
    have HL : Hid (bytesOf P = L ∧ L.length = d.size + 23 ∧ ∀ x ∈ L, x < 256) := Lib.hid ⟨hL, by rw [← hL, bytesOf_length, hPz], by rw [← hL]; exact bytesOf_lt P⟩
    rw [hL] at HT
    obtain ⟨N, hN⟩ : ∃ N, d.size + 8 = N := ⟨_, rfl⟩
    rw [hN] at HT
    have HPZ := Lib.hid (And.intro hPz hN)
    have hPI : (P.size : Int) - 15 = (N : Int) := by omega
    have hNI : N ≤ 65543 := by omega
    clear hP hPz hL hbig hN
    go_wp2_with fail
    refine (HW.out _).mono ?_
    rintro e w2 ⟨rfl, hm⟩
    have HM2 := Lib.hid (HM1.out.trans' hm)
    clear hm HW HM1
    go_upto_region 8 with fail
    go_cut [33] (fun x wx => x = .bool (decide (bit < 0 ∨ 8 * (N : Int) ≤ bit)) ∧ wx = w2)
    case first =>
      by_cases h1 : bit < 0
      · have hq : decide (bit < 0 ∨ 8 * (N : Int) ≤ bit) = true := decide_eq_true (.inl h1)
        go_wp2_with fail
        go_meet
        exact ⟨congrArg Value.bool hq.symm, rfl⟩
      · by_cases h2 : 8 * (N : Int) ≤ bit
        · have hq : decide (bit < 0 ∨ 8 * (N : Int) ≤ bit) = true := decide_eq_true (.inr h2)
          go_wp2_with fail
          go_meet
          exact ⟨congrArg Value.bool hq.symm, rfl⟩
        · have hq : decide (bit < 0 ∨ 8 * (N : Int) ≤ bit) = false := decide_eq_false (by omega)
          go_wp2_with fail
          go_meet
          exact ⟨congrArg Value.bool hq.symm, rfl⟩
    case rest =>
      obtain ⟨rfl, hw⟩ := hcut
      obtain rfl := hw.symm
      clear hw
      obtain ⟨q, hq⟩ : ∃ q, decide (bit < 0 ∨ 8 * (N : Int) ≤ bit) = q := ⟨_, rfl⟩
      rw [hq]
      go_upto_if 33 with fail
      go_cut [1] (fun x wx => ∃ B : Nat, x = .int .i64 (B : Int) ∧ B < 8 * N ∧ wx = w2)
      case first =>
        cases q with
        | true =>
          clear hq
          go_wp2_with fail
          go_meet
          exact ⟨0, rfl, by have := HPZ.out; omega, rfl⟩
        | false =>
          have hq' := of_decide_eq_false hq
          clear hq
          go_wp2_with fail
          go_meet
          exact ⟨bit.toNat, congrArg (Value.int .i64) (by omega), by omega, rfl⟩
      case rest =>
        obtain ⟨B, rfl, hB, hw⟩ := hcut
        obtain rfl := hw.symm
        clear hw hq
        have hcv := fun (w : World) s => run_bytes_of_string (P := Try.prog) w 9 54 5 s Try.underlying9 Try.underlying54 Try.underlying5
        have HRW := Lib.hid ((MRow.ofString w2 P).resolve_right (by have := HPZ.out; unfold maxLen; omega))
        rw [HL.out.1] at HRW
        have HRW2 : Hid (MRow (w2.alloc (.cells (bytesRow P (grownCap w2 P.size 0 5)) 5 ((bytesRow P (grownCap w2 P.size 0 5)).size, (bytesRow P (grownCap w2 P.size 0 5)).size + 1))).drew (.slice (some ⟨w2.heap.size, 0, none⟩) P.size (grownCap w2 P.size 0 5)) L) := Lib.hid HRW.out
        have HM3 : Hid (Mut [] w (w2.alloc (.cells (bytesRow P (grownCap w2 P.size 0 5)) 5 ((bytesRow P (grownCap w2 P.size 0 5)).size, (bytesRow P (grownCap w2 P.size 0 5)).size + 1))).drew ∧ w.heap.size ≤ w2.heap.size) := Lib.hid ⟨(HM2.out.alloc _).drew, HM2.out.size⟩
        clear HRW HM2
        go_upto_region 11 with fail
        generalize (w2.alloc (.cells (bytesRow P (grownCap w2 P.size 0 5)) 5 ((bytesRow P (grownCap w2 P.size 0 5)).size, (bytesRow P (grownCap w2 P.size 0 5)).size + 1))).drew = w3 at *
        generalize w2.heap.size = g at *
        generalize grownCap w2 P.size 0 5 = cap at *
        clear hcv
        obtain ⟨J, hJ⟩ : ∃ J, B / 8 = J := ⟨_, rfl⟩
        obtain ⟨K, hK⟩ : ∃ K, B % 8 = K := ⟨_, rfl⟩
        obtain ⟨Q, hQ⟩ : ∃ Q, 15 + J = Q := ⟨_, rfl⟩
        obtain ⟨S, hS⟩ : ∃ S, 2 ^ K = S := ⟨_, rfl⟩
        have hK8 : K < 8 := by omega
        have hSb : 0 < S ∧ S < 256 := by
          rw [← hS]
          exact ⟨Nat.pow_pos (by decide), Nat.lt_of_lt_of_le (Nat.pow_lt_pow_right (by decide) hK8) (by decide)⟩
        have hQL : Q < L.length := by have := HL.out.2.1; have := HPZ.out; omega
        obtain ⟨x, hx⟩ : ∃ x, L.getD Q 0 = x := ⟨_, rfl⟩
        have hxb : x < 256 := by
          rw [← hx, List.getD_eq_getElem?_getD, List.getElem?_eq_getElem hQL, Option.getD_some]
          exact HL.out.2.2 _ (List.getElem_mem hQL)
        have hc0 := HRW2.out.cellAt Q hQL
        rw [hx] at hc0
        have hfz : w3.frozen? ⟨g, Q, none⟩ = false := HRW2.out.frozenAt Q (by
          obtain ⟨g', cap', e, -, h⟩ := HRW2.out.form
          simp only [Value.slice.injEq] at e
          omega)
        have hdv : (B : Int).tdiv 8 = (J : Int) := by rw [Int.tdiv_eq_ediv_of_nonneg (by omega)]; omega
        have hmd : (B : Int).tmod 8 = (K : Int) := by rw [Int.tmod_eq_emod_of_nonneg (by omega)]; omega
        have hQI : 15 + (J : Int) = (Q : Int) := by omega
        have hQP : (Q : Int) < (P.size : Int) := by have := HL.out.2.1; have := HPZ.out; omega
        have hQ0 : (0 : Int) ≤ (Q : Int) := by omega
        have hxr := xor_u8_nat x S hxb hSb.2
        obtain ⟨y, hy⟩ : ∃ y, x ^^^ S = y := ⟨_, rfl⟩
        rw [hy] at hxr
        have HY : Hid (15 + J = Q ∧ J < N ∧ y < 256 ∧ y ≠ L.getD Q 0) := Lib.hid ⟨hQ, by omega, by rw [← hy]; exact Nat.xor_lt_two_pow (n := 8) hxb hSb.2, by
          rw [hx]
          intro h
          rw [h] at hy
          have h2 : x ^^^ S = x ^^^ 0 := by rw [hy, Nat.xor_zero]
          have := xor_l h2
          omega⟩
        have hJb : J ≤ 65543 := by omega
        have hQb : Q ≤ 65600 := by omega
        have hwJ : IntKind.i64.wrap (J : Int) = (J : Int) := IntWalk.i64_in _ (by omega)
        have hwQ : IntKind.i64.wrap (Q : Int) = (Q : Int) := IntWalk.i64_in _ (by omega)
        have hwK : IntKind.i64.wrap (K : Int) = (K : Int) := IntWalk.i64_in _ (by omega)
        have hsh : IntKind.u8.wrap ((2 : Int) ^ K) = (S : Int) := by
          have e : ((2 : Int) ^ K) = ((2 ^ K : Nat) : Int) := by simp
          rw [e, hS]
          exact IntWalk.u8_in _ (by omega)
        have HQL := Lib.hid hQL
        clear hJ hQ hx hB hPI hS hy hK hQL
        go_still_tail 11, (by kernel_rfl)
        change wpList _ _ _ _ _ w3.drew
        go_upto_region 12 with fail
        have HRW5 : Hid (MRow (w3.setCell ⟨g, Q, none⟩ (.int .u8 (y : Int))).drew (.slice (some ⟨g, 0, none⟩) P.size cap) (L.set Q y)) := Lib.hid ((HRW2.out.stored Q y HQL.out).mut ((Mut.refl [] _).drew) (by simp))
        have HM5 : Hid (Mut [] w (w3.setCell ⟨g, Q, none⟩ (.int .u8 (y : Int))).drew) := Lib.hid ((HM3.out.1.setCell (.inr HM3.out.2) _).drew)
        generalize (w3.setCell ⟨g, Q, none⟩ (.int .u8 (y : Int))).drew = w5 at *
        clear hc0 hfz hdv hmd hQI hQP hQ0 hxr hJb hQb hwJ hwQ hwK hsh HRW2 HM3 HQL hxb hSb hK8
        obtain ⟨hy1, hy2, hy3, hy4⟩ := HY.out
        obtain ⟨c, f, hc, hr⟩ := HT.out J y hy2 hy3 (by rw [hy1]; exact hy4)
        rw [hy1] at hr
        have HRD := Lib.hid hr
        have hlen : (L.set Q y).length = P.size := by rw [List.length_set, HL.out.2.1, HPZ.out.1]
        have hcv0 := HRW5.out.conv
        have hcv1 : ∀ n, (convert 54 9 (.slice (some ⟨g, 0, none⟩) P.size cap)).run Try.prog (w5.drewN n) = .ok (.string (strOf (L.set Q y))) (w5.drewN n) := fun n => (HRW5.out.mut ((Mut.refl [] w5).drewN n) (by simp)).conv
        have hc0 : ((c : Int) == 0) = false := by rw [beq_eq_false_iff_ne]; omega
        have hcn : ((c : Int) != 0) = true := by simp [bne, hc0]
        obtain ⟨s, hs⟩ : ∃ s, strOf (L.set Q y) = s := ⟨_, rfl⟩
        rw [hs] at hcv0 hcv1 HRD
        clear hr hs hlen HT HRW5 hy1 hy2 hy3 hy4 HY HL HPZ
        go_wp2_with fail
        refine (HRD.out _).mono ?_
        rintro e w6 ⟨rfl, hm⟩
        have HM6 := Lib.hid ((HM5.out.trans' hm).alloc (.cells #[.int .i64 (c : Int), .int .i64 (f : Int)] 26))
        obtain ⟨c0, c1, -, -⟩ := cells2 (heap_alloc_new w6 (.cells #[.int .i64 (c : Int), .int .i64 (f : Int)] 26))
        clear hm HM5 HRD hcv0 hcv1
        go_upto_region 13 with fail
        generalize w6.alloc (.cells #[.int .i64 (c : Int), .int .i64 (f : Int)] 26) = w7 at *
        generalize w6.heap.size = g7 at *
        go_wp2_with fail
        go_ret
        exact ⟨rfl, HM6.out.nil (by simp)⟩

end Go.Proofs.Ytgjcnembeebjfaa
