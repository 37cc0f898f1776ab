/- Walk over package ferretref04: Pack. -/
import Derived.Test.YtgjcnembeebjfaaGRefB
import Derived.Test.YtgjcnembeebjfaaGRefA
import Derived.Test.YtgjcnembeebjfaaGSzc
import Derived.BigQuiet
import Derived.Deep.DeepCutAuto
import Derived.Deep.CutBlock
namespace Go.Proofs.Ytgjcnembeebjfaa
open Go.RowKit
set_option linter.unusedVariables false

theorem low8 (n : Nat) : lowBits (n : Int) 8 = bits8 n := by
  have e : ∀ k : Nat, bitOf (n : Int) k = decide (n / 2 ^ k % 2 = 1) := fun k => by
    unfold bitOf
    congr 1
    apply propext
    rw [show ((2 : Int) ^ k) = ((2 ^ k : Nat) : Int) by simp]
    generalize (2 : Nat) ^ k = P
    rw [← Int.natCast_ediv]
    omega
  unfold lowBits bits8
  simp [List.range_succ, e]

theorem low16 (n : Nat) : lowBits (n : Int) 16 = bits8 (n % 256) ++ bits8 (n / 256) := by
  rw [← low8, ← low8]
  have e : ∀ k : Nat, bitOf (n : Int) k = decide (n / 2 ^ k % 2 = 1) := fun k => by
    unfold bitOf
    congr 1
    apply propext
    rw [show ((2 : Int) ^ k) = ((2 ^ k : Nat) : Int) by simp]
    generalize (2 : Nat) ^ k = P
    rw [← Int.natCast_ediv]
    omega
  rw [low8, low8]
  unfold lowBits bits8
  simp [List.range_succ, e, Nat.div_div_eq_div_mul]
  omega

theorem span_snoc (D : List Nat) (a k : Nat) (h : a + k < D.length) : (D.drop a).take (k + 1) = (D.drop a).take k ++ [D.getD (a + k) 0] := by
  rw [List.take_succ_eq_append_getElem (by rw [List.length_drop]; omega)]
  simp [List.getD, h]

theorem bytesBits_snoc (l : List Nat) (x : Nat) : bytesBits (l ++ [x]) = bytesBits l ++ bits8 x := by
  induction l with
  | nil => simp [bytesBits]
  | cons y r ih => simp [bytesBits, ih]

/-- a block as it is -/
theorem blk0_ref (D : List Nat) (a n R : Nat) (q : Bool) (B : List Bool) (hn : n ≤ 65535) :
    pad8 (B ++ lowBits (q.toNat : Int) 1 ++ lowBits 0 2) ++ lowBits (n : Int) 16 ++ lowBits ((65535 - n : Nat) : Int) 16 ++ bytesBits ((D.drop a).take n) = blkB D 0 a n R q B := by
  unfold blkB
  simp only [if_true]
  rw [low16, low16, show (65535 - n) % 256 = 255 - n % 256 by omega, show (65535 - n) / 256 = 255 - n / 256 by omega]
  simp [bytesBits]

theorem pad8_at (l : List Bool) (k : Nat) (hk : k ≤ 8 * ((l.length + 7) / 8) - l.length) (h : (l.length + k) % 8 = 0) : l ++ List.replicate k false = pad8 l := by
  unfold pad8
  rw [show 8 * ((l.length + 7) / 8) - l.length = k by omega]

/-- where the outer loop of Pack is -/
def RpO (w : World) (D : List Nat) (C : List Ch) (FIN : List Bool) (K0 : Nat) (wx : World) (v : Value) (a i : Nat) : Prop :=
  ∃ B, RbS w none wx v B ∧
    ((a = D.length ∧ C.length ≤ i ∧ (i = C.length → 0 < C.length) ∧ B = FIN ∧ B.length ≤ K0 + 1400) ∨
     (i ≤ C.length ∧ (a < D.length ∨ i < C.length ∨ C.length = 0) ∧ ∃ f, PInv D.length C a i (leftOf C D.length a i) ∧ muOf D.length C a i < f ∧ packR D C f a i (leftOf C D.length a i) B = FIN ∧ B.length + 60 * (D.length - a) + 1400 * muOf D.length C a i ≤ K0))

/-- where the inner loop of Pack is -/
def RpI (w : World) (D : List Nat) (C : List Ch) (FIN : List Bool) (K0 i : Nat) (wx : World) (v : Value) (a L : Nat) : Prop :=
  ∃ B f, RbS w none wx v B ∧ PInv D.length C a i L ∧ muOf D.length C a i < f ∧ packR D C f a i L B = FIN ∧ B.length + 60 * (D.length - a) + 1400 * muOf D.length C a i ≤ K0

theorem RbS.brow {w0 wx : World} {r : Option Nat} {v : Value} {L : List Bool} (h : RbS w0 r wx v L) : BlRow wx v L := by
  have h1 := h.row
  unfold IRow at h1
  unfold BlRow
  rw [bI_len] at h1
  simpa [bI, Function.comp_def] using h1

def rlenOf : Value → Nat
  | .slice _ n _ => n
  | _ => 0

theorem reachOfR_spec (r : Int) : ((reachOf r : Nat) : Int) = min (max r 0) 32768 := by unfold reachOf; omega

theorem kindOf_absR (k k1 : Int) (h : (if k < 0 then -(k + 1) else k) = k1) : 0 ≤ k1 ∧ k1 % 3 = ((kindOf k : Nat) : Int) := by
  unfold kindOf
  rw [h]
  have : 0 ≤ k1 := by
    rw [← h]
    split <;> omega
  omega

set_option maxHeartbeats 6400000 in
set_option maxRecDepth 100000 in
theorem rpack_any (data : ByteArray) (D : List Nat) (hD : bytesOf data = D) (hz : data.size ≤ 1048576) (C : List Ch) (hCl : C.length ≤ 1048576) (hCk : ∀ c ∈ C, -9223372036854775808 ≤ c.1 ∧ c.1 ≤ 9223372036854775807) (v : Value) (w : World) (hv : CRow 48 w v C) :
    Calls Try.prog 28 #[.string data, v] w fun e w' => e = .returned (.string (strOf (pack (packAll D C)))) ∧ Mut [] w w' := by
  have hDl : D.length = data.size := by rw [← hD, bytesOf_length]
  have hDlt : ∀ x ∈ D, x < 256 := by rw [← hD]; exact bytesOf_lt data
  obtain ⟨FIN, hFIN⟩ : ∃ FIN, packAll D C = FIN := ⟨_, rfl⟩
  have hmu0 : muOf D.length C 0 0 < D.length + C.length + 1 := by unfold muOf; omega
  obtain ⟨K0, hK0⟩ : ∃ K0, 60 * D.length + 1400 * muOf D.length C 0 0 = K0 := ⟨_, rfl⟩
  have hK0b : K0 ≤ 3100000000 := by unfold muOf at hK0; omega
  have HAT : Hid (RpO w D C FIN K0 w (.slice none 0 0) 0 0) := Lib.hid ⟨[], RbS.start (v := .slice none 0 0) (L := []) (IRow.nil w), .inr ⟨Nat.zero_le _, by omega, _, PInv.start _ _, hmu0, hFIN, by rw [← hK0]; simp⟩⟩
  have HCR : Hid (∀ wx, Mut [] w wx → CRow 48 wx v C) := Lib.hid fun wx m => hv.mut m (by simp)
  obtain ⟨pv, cv, rfl⟩ := hv.form
  have HD := Lib.hid hD
  have HDL := Lib.hid hDl
  have HDT := Lib.hid hDlt
  have HCK := Lib.hid hCk
  rw [hFIN]
  clear hD hDlt hCk hFIN hmu0 hK0 hv hDl
  go_enter Try.func28, Try.ntmps28
  go_wp2_with fail
  go_loopw [5, 6, 7] (fun b a i wx => ∃ (p : Option Addr) (n c an m : Nat), b = .slice p n c ∧ a = .int .i64 (an : Int) ∧ i = .int .i64 (m : Int) ∧ an ≤ data.size ∧ m ≤ C.length + 1 ∧ Hid (RpO w D C FIN K0 wx (.slice p n c) an m)) (fun _ _ i _ => C.length + 1 - (intOf i).toNat)
  case atStart => exact ⟨none, 0, 0, 0, 0, rfl, rfl, rfl, by omega, by omega, HAT⟩
  case round =>
    obtain ⟨p, nb, cb, a, i, rfl, rfl, rfl, ha, hi, HR⟩ := hrel
    clear HAT
    obtain ⟨B, hB, hrun⟩ := HR.out
    rcases hrun with ⟨hae, hie, hin, hBF, hBl⟩ | ⟨hiC, hcont, f, hI, hmu, hF, hbud⟩
    · --DEV{
      have hdl := HDL.out
      subst hBF
      obtain rfl : a = data.size := by omega
      have HA := Lib.hid (pack_any _ _ wr hB.brow (by omega))
      have HM : Hid (Mut [] w wr) := Lib.hid hB.mu
      rcases Nat.lt_or_ge C.length i with h | h
      · have hI : ¬ (i : Int) ≤ (C.length : Int) := by omega
        clear hae hie hin hBl hB HR hdl
        go_wp2_with fail
        refine HA.out.mono ?_
        rintro e w2 ⟨rfl, m⟩
        have HM2 := Lib.hid (HM.out.trans' m)
        clear m
        go_wp2_with fail
        exact bodyPost_ret (results_tmp rfl _ _ _) rfl ⟨rfl, HM2.out⟩
      · obtain rfl : i = C.length := by omega
        have h0 := hin rfl
        have h0I : (0 : Int) < (C.length : Int) := by omega
        clear hae hie hin hBl hB HR hdl
        go_wp2_with fail
        refine HA.out.mono ?_
        rintro e w2 ⟨rfl, m⟩
        have HM2 := Lib.hid (HM.out.trans' m)
        clear m
        go_wp2_with fail
        exact bodyPost_ret (results_tmp rfl _ _ _) rfl ⟨rfl, HM2.out⟩
      --DEV}
    · have HB := Lib.hid hB
      have hdl := HDL.out
      obtain ⟨L, hL⟩ : ∃ L, leftOf C D.length a i = L := ⟨_, rfl⟩
      rw [hL] at hI hF
      obtain ⟨⟨ck, cs, cr⟩, hch⟩ : ∃ c, chAt C D.length i = c := ⟨_, rfl⟩
      obtain ⟨k, hk⟩ : ∃ k, kindOf ck = k := ⟨_, rfl⟩
      have hk3 : k < 3 := by rw [← hk]; exact kindOf_lt ck
      have hckb : -9223372036854775808 ≤ ck ∧ ck ≤ 9223372036854775807 := by
        by_cases h : i < C.length
        · have e : C[i] = (ck, cs, cr) := by rw [← hch]; simp [chAt, List.getD, h]
          have := HCK.out C[i] (List.getElem_mem h)
          rw [e] at this
          exact this
        · have e : chAt C D.length i = (0, (D.length : Int), 0) := by simp [chAt, List.getD, show C.length ≤ i by omega]
          rw [hch] at e
          simp only [Prod.mk.injEq] at e
          rw [e.1]
          decide
      have HRUN0 := Lib.hid (And.intro hI (And.intro hmu (And.intro hF hbud)))
      have HCH := Lib.hid hch
      have HK := Lib.hid hk
      have HL := Lib.hid hL
      have HCKB := Lib.hid hckb
      have hiI : (i : Int) ≤ (C.length : Int) := by omega
      have HCONT := Lib.hid hcont
      clear hB hL hI hF hmu hbud hch hk hckb HR hcont
      go_upto_if 30 with fail
      go_cut [8, 9, 10] (fun x y z wx => x = .int .i64 (k : Int) ∧ y = .int .i64 (L : Int) ∧ z = .int .i64 cr ∧ Hid (Mut [] wr wx))
      case first =>
        --DEV{
        by_cases h : i < C.length
        · have hltI : (i : Int) < (C.length : Int) := by omega
          have e : C[i] = (ck, cs, cr) := by rw [← HCH.out]; simp [chAt, List.getD, h]
          have hcr := HCR.out wr HB.out.mu
          obtain ⟨gc, cc, e1, -, -⟩ := row_some hcr (by omega)
          simp only [Value.slice.injEq] at e1
          obtain ⟨rfl, -, rfl⟩ := e1
          obtain ⟨d0, d1, d2⟩ := hcr.cells i h
          rw [e, Nat.mul_comm] at d0 d1 d2
          dsimp only at d0 d1 d2
          have HM1 : Hid (Mut [] wr (wr.alloc (.cells #[.int .i64 ck, .int .i64 cs, .int .i64 cr] 48))) := Lib.hid ((Mut.refl [] wr).alloc _)
          have h9 := heap_alloc_new wr (.cells #[.int .i64 ck, .int .i64 cs, .int .i64 cr] 48)
          clear e hcr
          go_upto_region 9 with fail
          clear d0 d1 d2
          generalize wr.alloc (.cells #[.int .i64 ck, .int .i64 cs, .int .i64 cr] 48) = w1 at *
          generalize wr.heap.size = g9 at *
          obtain ⟨c0, c1, c2, -, -, -⟩ := cells3 h9
          go_quiet (fail)
          have HM2 : Hid (Mut [] wr (w1.drewN nq)) := Lib.hid (HM1.out.drewN _)
          have c1' : (w1.drewN nq).cell? ⟨g9, 1, none⟩ = some (.int .i64 cs) := c1
          clear c0 c1 c2 h9 HM1
          generalize w1.drewN nq = w2 at *
          generalize hZI : (data.size : Int) - (a : Int) = Zi at *
          have hLz : (L : Int) = min (max cs 0) Zi := by
            rw [← HL.out]
            unfold leftOf
            rw [HCH.out, hdl]
            simp only
            omega
          have hZ1 : 0 ≤ Zi ∧ Zi ≤ 1048576 := by omega
          have HZI := Lib.hid hZI
          obtain ⟨k1, hk1⟩ : ∃ k1, (if ck < 0 then -(ck + 1) else ck) = k1 := ⟨_, rfl⟩
          obtain ⟨hk10, hk13⟩ := kindOf_absR ck k1 hk1
          rw [HK.out] at hk13
          have hkt : k1.tmod 3 = (k : Int) := by rw [Int.tmod_eq_emod_of_nonneg hk10]; exact hk13
          have hckb := HCKB.out
          clear hZI hk10 hk13 hdl
          by_cases hc0 : ck < 0
          · rw [if_pos hc0] at hk1
            obtain ⟨m, hm⟩ : ∃ m, ck + 1 = m := ⟨_, rfl⟩
            have hw1 : wrap64 (ck + 1) = m := by rw [IntWalk.wrap64_in _ (by omega)]; exact hm
            have hw1' : IntKind.i64.wrap (ck + 1) = m := by rw [IntWalk.i64_in _ (by omega)]; exact hm
            have hw2 : wrap64 (-m) = k1 := by rw [IntWalk.wrap64_in _ (by omega)]; omega
            have hw2' : IntKind.i64.wrap (-m) = k1 := by rw [IntWalk.i64_in _ (by omega)]; omega
            clear hckb hm hk1
            by_cases hz1 : cs < Zi
            · by_cases hz2 : cs < 0
              · have E := Lib.hid (show (0 : Int) = (L : Int) by omega)
                clear HZI hLz
                go_wp2_with fail
                go_meet
                exact ⟨rfl, congrArg _ E.out, rfl, HM2⟩
              · have E := Lib.hid (show cs = (L : Int) by omega)
                clear HZI hLz
                go_wp2_with fail
                go_meet
                exact ⟨rfl, congrArg _ E.out, rfl, HM2⟩
            · have hz2 : ¬ Zi < 0 := by omega
              have E := Lib.hid (show Zi = (L : Int) by omega)
              clear HZI hLz
              go_wp2_with fail
              go_meet
              exact ⟨rfl, congrArg _ E.out, rfl, HM2⟩
          · rw [if_neg hc0] at hk1
            subst hk1
            clear hckb
            by_cases hz1 : cs < Zi
            · by_cases hz2 : cs < 0
              · have E := Lib.hid (show (0 : Int) = (L : Int) by omega)
                clear HZI hLz
                go_wp2_with fail
                go_meet
                exact ⟨rfl, congrArg _ E.out, rfl, HM2⟩
              · have E := Lib.hid (show cs = (L : Int) by omega)
                clear HZI hLz
                go_wp2_with fail
                go_meet
                exact ⟨rfl, congrArg _ E.out, rfl, HM2⟩
            · have hz2 : ¬ Zi < 0 := by omega
              have E := Lib.hid (show Zi = (L : Int) by omega)
              clear HZI hLz
              go_wp2_with fail
              go_meet
              exact ⟨rfl, congrArg _ E.out, rfl, HM2⟩
        · have e : chAt C D.length i = (0, (D.length : Int), 0) := by simp [chAt, List.getD, show C.length ≤ i by omega]
          rw [HCH.out] at e
          simp only [Prod.mk.injEq] at e
          obtain ⟨rfl, rfl, rfl⟩ := e
          have hk0 : k = 0 := by rw [← HK.out]; rfl
          subst hk0
          have hLz : leftOf C D.length a i = data.size - a := by rw [leftOf_past _ _ _ _ (by omega), hdl]
          rw [HL.out] at hLz
          have hcont := HCONT.out
          rw [hdl] at hcont
          have E := Lib.hid (show (data.size : Int) - (a : Int) = (L : Int) by omega)
          obtain rfl : i = C.length := by omega
          by_cases hc : C.length = 0
          · have hcI : ¬ (0 : Int) < (C.length : Int) := by omega
            clear hcont hdl hLz hc
            go_wp2_with fail
            go_meet
            exact ⟨rfl, congrArg _ E.out, rfl, Lib.hid (Mut.refl _ _)⟩
          · have hcI : (0 : Int) < (C.length : Int) := by omega
            have hne : ((data.size : Int) - (a : Int) == 0) = false := by rw [beq_eq_false_iff_ne]; omega
            clear hcont hdl hLz
            go_wp2_with fail
            go_meet
            exact ⟨rfl, congrArg _ E.out, rfl, Lib.hid (Mut.refl _ _)⟩
        --DEV}
      case rest =>
        obtain ⟨rfl, rfl, rfl, HM⟩ := hcut
        have HI : Hid (RpI w D C FIN K0 i wc (.slice p nb cb) a L) := Lib.hid ⟨B, f, HB.out.mut HM.out, HRUN0.out.1, HRUN0.out.2.1, HRUN0.out.2.2.1, HRUN0.out.2.2.2⟩
        have hLb : L ≤ data.size := by
          have := HRUN0.out.1.room
          omega
        clear HB HM HRUN0 HCONT HL hdl HCKB
        go_wp2_with fail
        go_loopw [5, 6, 9] (fun b a l wx => ∃ (p : Option Addr) (n c an ln : Nat), b = .slice p n c ∧ a = .int .i64 (an : Int) ∧ l = .int .i64 (ln : Int) ∧ an ≤ data.size ∧ ln ≤ data.size ∧ Hid (RpI w D C FIN K0 i wx (.slice p n c) an ln)) (fun _ _ l _ => (intOf l).toNat)
        case atStart => exact ⟨p, nb, cb, a, L, rfl, rfl, rfl, by omega, hLb, HI⟩
        case round =>
          obtain ⟨p, nb, cb, a, L, rfl, rfl, rfl, ha, hLb, HR⟩ := hrel
          clear HI
          obtain ⟨B, f, hB, hI, hmu, hF, hbud⟩ := HR.out
          have HRUN := Lib.hid (show PInv D.length C a i L ∧ muOf D.length C a i < f ∧ packR D C f a i L B = FIN ∧ B.length + 60 * (D.length - a) + 1400 * muOf D.length C a i ≤ K0 from ⟨hI, hmu, hF, hbud⟩)
          have HB := Lib.hid hB
          have hdl := HDL.out
          have hL1 : L ≤ data.size - a := by rw [← hdl]; exact hI.room
          obtain ⟨n, hn⟩ : ∃ n, cutOf k L = n := ⟨_, rfl⟩
          have hnL : n ≤ L := by rw [← hn]; exact cut_le k L
          have HN := Lib.hid hn
          have hBb : B.length ≤ 3100000000 := by omega
          obtain ⟨z, hz⟩ : ∃ z : Bool, decide (k = 0 ∧ 65535 < L) = z := ⟨_, rfl⟩
          clear hB hI hmu hF hbud HR
          go_upto_region 19 with fail
          go_cut [67] (fun x wx => x = .bool z ∧ wx = wr)
          case first =>
            --DEV{
            by_cases h1 : k = 0
            · have hkI : ((k : Int) == 0) = true := by rw [h1]; rfl
              by_cases h2 : 65535 < L
              · have h2I : (65535 : Int) < (L : Int) := by omega
                obtain rfl : z = true := by rw [← hz]; exact decide_eq_true ⟨h1, h2⟩
                clear hz hn h1
                go_wp2_with fail
                go_meet
                exact ⟨rfl, rfl⟩
              · have h2I : ¬ (65535 : Int) < (L : Int) := by omega
                obtain rfl : z = false := by rw [← hz]; exact decide_eq_false (fun h => h2 h.2)
                clear hz hn h1
                go_wp2_with fail
                go_meet
                exact ⟨rfl, rfl⟩
            · have hkI : ((k : Int) == 0) = false := by rw [beq_eq_false_iff_ne]; omega
              obtain rfl : z = false := by rw [← hz]; exact decide_eq_false (fun h => h1 h.1)
              clear hz hn h1
              go_wp2_with fail
              go_meet
              exact ⟨rfl, rfl⟩
            --DEV}
          case rest =>
            obtain ⟨rfl, hwc⟩ := hcut
            obtain rfl := hwc.symm
            go_upto_if 67 with fail
            go_cut [12] (fun x wx => x = .int .i64 (n : Int) ∧ wx = wr)
            case first =>
              --DEV{
              cases z with
              | true =>
                have h2 := of_decide_eq_true hz
                obtain rfl : n = 65535 := by rw [← hn]; unfold cutOf; rw [if_pos h2.1]; omega
                clear hz hn h2
                go_wp2_with fail
                go_meet
                exact ⟨rfl, rfl⟩
              | false =>
                have h2 := of_decide_eq_false hz
                obtain rfl : n = L := by
                  rw [← hn]
                  unfold cutOf
                  by_cases h : k = 0
                  · rw [if_pos h]
                    have : ¬ 65535 < L := fun h' => h2 ⟨h, h'⟩
                    omega
                  · rw [if_neg h]
                clear hz hn h2
                go_wp2_with fail
                go_meet
                exact ⟨rfl, rfl⟩
              --DEV}
            case rest =>
              obtain ⟨rfl, hwc⟩ := hcut
              obtain rfl := hwc.symm
              clear hz hn
              obtain ⟨d, hd⟩ : ∃ d, L - n = d := ⟨_, rfl⟩
              have hdI : (L : Int) - (n : Int) = (d : Int) := by omega
              obtain ⟨a2, ha2⟩ : ∃ a2, a + n = a2 := ⟨_, rfl⟩
              have ha2b : a2 ≤ data.size := by omega
              have hd0 : a2 = data.size → d = 0 := by omega
              obtain ⟨q, hq⟩ : ∃ q : Bool, isLast C D.length a i L n = q := ⟨_, rfl⟩
              have hqe : q = decide (a2 = data.size ∧ d = 0 ∧ C.length ≤ i + 1) := by
                rw [← hq]
                unfold isLast nextI
                rw [hdl, ha2, hd]
                apply decide_eq_decide.2
                constructor
                · rintro ⟨h1, h2⟩
                  have h3 := hd0 h1
                  rw [if_pos h3] at h2
                  exact ⟨h1, h3, h2⟩
                · rintro ⟨h1, h2, h3⟩
                  rw [if_pos h2]
                  exact ⟨h1, h3⟩
              have HDD := Lib.hid (show L - n = d ∧ a + n = a2 ∧ isLast C D.length a i L n = q from ⟨hd, ha2, hq⟩)
              have HA2 : Hid ((a : Int) + (n : Int) = (a2 : Int)) := Lib.hid (by omega)
              have hdb : d ≤ L := by omega
              have HQE := Lib.hid hqe
              clear hd ha2 hq hd0 hdl hqe
              go_upto_region 23 with fail
              clear hdI
              have ha2I := HA2.out
              go_cut [87] (fun x wx => x = .bool q ∧ wx = wr)
              case first =>
                --DEV{
                have hqe := HQE.out
                by_cases h1 : a2 = data.size
                · have h1I : ((a2 : Int) == (data.size : Int)) = true := by rw [h1]; simp
                  by_cases h2 : d = 0
                  · have h2I : ((d : Int) == 0) = true := by rw [h2]; rfl
                    by_cases h3 : C.length ≤ i + 1
                    · have h3I : (C.length : Int) - 1 ≤ (i : Int) := by omega
                      obtain rfl : q = true := by rw [hqe]; exact decide_eq_true ⟨h1, h2, h3⟩
                      clear hqe h1 h2
                      go_wp2_with fail
                      go_meet
                      exact ⟨rfl, rfl⟩
                    · have h3I : ¬ (C.length : Int) - 1 ≤ (i : Int) := by omega
                      obtain rfl : q = false := by rw [hqe]; exact decide_eq_false (fun h => h3 h.2.2)
                      clear hqe h1 h2
                      go_wp2_with fail
                      go_meet
                      exact ⟨rfl, rfl⟩
                  · have h2I : ((d : Int) == 0) = false := by rw [beq_eq_false_iff_ne]; omega
                    obtain rfl : q = false := by rw [hqe]; exact decide_eq_false (fun h => h2 h.2.1)
                    clear hqe h1 h2
                    go_wp2_with fail
                    go_meet
                    exact ⟨rfl, rfl⟩
                · have h1I : ((a2 : Int) == (data.size : Int)) = false := by rw [beq_eq_false_iff_ne]; omega
                  obtain rfl : q = false := by rw [hqe]; exact decide_eq_false (fun h => h1 h.1)
                  clear hqe h1
                  go_wp2_with fail
                  go_meet
                  exact ⟨rfl, rfl⟩
                --DEV}
              case rest =>
                obtain ⟨rfl, hwc⟩ := hcut
                obtain rfl := hwc.symm
                clear HQE ha2I
                go_upto_if 87 with fail
                go_cut [13] (fun x wx => wx = wr ∧ x = .int .i64 (q.toNat : Nat))
                case first =>
                  --DEV{
                  cases q with
                  | true =>
                    go_wp2_with fail
                    go_meet
                    exact ⟨rfl, rfl⟩
                  | false =>
                    go_wp2_with fail
                    go_meet
                    exact ⟨rfl, rfl⟩
                  --DEV}
                case rest =>
                  obtain ⟨hwc, rfl⟩ := hcut
                  obtain rfl := hwc.symm
                  have HP1 := Lib.hid (rbits_any q.toNat 1 (by have := Bool.toNat_le q; omega) (by decide) HB.out (by omega))
                  clear HB
                  go_wp2_with fail
                  refine HP1.out.mono ?_
                  rintro e w3 ⟨v1, rfl, hS1⟩
                  obtain ⟨H1, hH1⟩ : ∃ H1, B ++ lowBits ((q.toNat : Nat) : Int) 1 = H1 := ⟨_, rfl⟩
                  have hl1 : H1.length ≤ 3100000001 := by rw [← hH1, List.length_append, lowBits_length]; omega
                  rw [hH1] at hS1
                  obtain ⟨p1, c1, e⟩ := hS1.form
                  subst e
                  have HH1 := Lib.hid hH1
                  have HP2 := Lib.hid (rbits_any k 2 (by omega) (by decide) hS1 (by omega))
                  clear HP1 hS1 hH1
                  go_wp2_with fail
                  refine HP2.out.mono ?_
                  rintro e w4 ⟨v1, rfl, hS1⟩
                  obtain ⟨H, hH⟩ : ∃ H, H1 ++ lowBits ((k : Nat) : Int) 2 = H := ⟨_, rfl⟩
                  have hHl : H.length ≤ 3100000003 := by rw [← hH, List.length_append, lowBits_length]; omega
                  rw [hH] at hS1
                  obtain ⟨p2, c2, e⟩ := hS1.form
                  subst e
                  have HH : Hid (B ++ lowBits ((q.toNat : Nat) : Int) 1 ++ lowBits ((k : Nat) : Int) 2 = H) := Lib.hid (by rw [HH1.out, hH])
                  have HS := Lib.hid hS1
                  clear HP2 hS1 hH hl1 HH1
                  go_upto_region 27 with fail
                  go_upto_block 4 with fail
                  go_cut [5] (fun x wx => ∃ p nb cb, x = .slice p nb cb ∧ Hid (RbS w none wx (.slice p nb cb) (blkB D k a n (reachOf cr) q B)))
                  case first =>
                    have hR := reachOfR_spec cr
                    have hRl := reachOf_le cr
                    have ha2 := HDD.out.2.1
                    have e1 : data.size ≤ 1073741824 := Nat.le_trans hz (by decide)
                    have e2 : a ≤ a2 := by rw [← ha2]; exact Nat.le_add_right _ _
                    have e3 : a2 - a < n + 1 := by rw [← ha2, Nat.add_sub_cancel_left]; exact Nat.lt_succ_self _
                    have HT := Lib.hid (fun wx => rtokens_any data D HD.out a a2 (reachOf cr) (n + 1) cr e1 e2 ha2b hR e3 wx)
                    clear e1 e3
                    have hsp : tks D a2 (reachOf cr) (n + 1) a = span D a n (reachOf cr) := by unfold span; rw [ha2]
                    obtain ⟨hs1, hs2⟩ := span_ok D HDT.out a n (reachOf cr)
                    have hb0 := blk0_ref D a n (reachOf cr) q B
                    have hb1 := blk1_eq D a n (reachOf cr) q B
                    have hb2 := blk2_eq D a n (reachOf cr) q B
                    generalize reachOf cr = R at *
                    rw [hsp] at HT
                    generalize span D a n R = T at *
                    have HS1 := Lib.hid hs1
                    have hTn : T.length ≤ 1048576 := by omega
                    clear hs1 hsp hR hs2 ha2
                    rcases (show k = 0 ∨ k = 1 ∨ k = 2 by omega) with h0 | h1 | h2
                    · --DEV{
                      subst h0
                      have hn16 : n ≤ 65535 := by rw [← HN.out]; exact cut_16 0 L rfl
                      have hb := hb0 hn16
                      rw [show lowBits 0 2 = lowBits ((0 : Nat) : Int) 2 from rfl, HH.out] at hb
                      have HB0 := Lib.hid hb
                      have HBL := Lib.hid (blkB_len D HDT.out 0 a n R hRl q B)
                      have hpl : (pad8 H).length ≤ 3100000020 := by rw [pad8_length]; omega
                      have HS0 : Hid (RbS w none w4 (.slice p2 H.length c2) (H ++ List.replicate 0 false) ∧ H.length = H.length + 0) := Lib.hid ⟨by simpa using HS.out, rfl⟩
                      have hA2 := HDD.out.2.1
                      have hpd : a + n ≤ data.size := by omega
                      clear hb0 hb1 hb2 HT HS1 hb hA2 HH HS
                      go_wp2_with fail
                      go_loopw [5] (fun v wx => ∃ (k m : Nat) (p : Option Addr) (c : Nat), v = .slice p m c ∧ k ≤ 8 * ((H.length + 7) / 8) - H.length ∧ Hid (RbS w none wx (.slice p m c) (H ++ List.replicate k false) ∧ m = H.length + k)) (fun v _ => 8 - (rlenOf v - H.length))
                      case atStart => exact ⟨0, _, p2, c2, rfl, Nat.zero_le _, HS0⟩
                      case round =>
                        obtain ⟨j, m, p6, c6, rfl, hj, HR⟩ := hrel
                        clear HS0
                        obtain ⟨r8, hr8⟩ : ∃ r8, m % 8 = r8 := ⟨_, rfl⟩
                        have hj8 : j < 8 := by omega
                        have hmb : m ≤ 3100000020 := by have := HR.out.2; omega
                        have hmod : (m : Int).tmod 8 = (r8 : Int) := by rw [Int.tmod_eq_emod_of_nonneg (by omega)]; omega
                        have HR8 := Lib.hid hr8
                        clear hr8
                        by_cases h8 : r8 = 0
                        case neg =>
                          have h8I : ((r8 : Int) == 0) = false := by rw [beq_eq_false_iff_ne]; omega
                          have hjn : j + 1 ≤ 8 * ((H.length + 7) / 8) - H.length := by
                            have h1 := HR.out.2
                            have h2 := HR8.out
                            omega
                          have hrow := HR.out.1.row.mut ((Mut.refl [] wr).alloc (.cells #[.int .i64 0] 3)) (by simp)
                          have hlen : (bI (H ++ List.replicate j false)).length ≤ 4000000000 := by rw [bI_len, List.length_append, List.length_replicate]; omega
                          have HLEN := Lib.hid hlen
                          have HJN := Lib.hid hjn
                          clear hlen hjn hj
                          go_upto_region 31 with fail
                          go_wp2_with (at_builtin; (refine wp_appI rfl (.tmp 110) (.tmp 111) rfl hrow rfl (src_one (heap_alloc_new wr _)) rfl ?b1 ?_))
                          case b1 => have := HLEN.out; simp only [List.length_cons, List.length_nil]; omega
                          intro v' w' r1 m1 f1
                          have hS := HR.out.1.app (c := false) r1 m1 (fun g hg => by
                            rcases f1 g hg with h1 | h1
                            · exact .inl h1
                            · exact .inr (by simpa using h1))
                          rw [List.append_assoc, ← List.replicate_succ'] at hS
                          obtain ⟨p', c', e⟩ := hS.form
                          have hm2 : (H ++ List.replicate (j + 1) false).length = H.length + (j + 1) := by rw [List.length_append, List.length_replicate]
                          obtain ⟨m2, hm2'⟩ : ∃ m2, (H ++ List.replicate (j + 1) false).length = m2 := ⟨_, rfl⟩
                          rw [hm2'] at e hm2
                          subst e
                          have HS2 := Lib.hid (And.intro hS hm2)
                          have HMM : Hid (8 - (m2 - H.length) < 8 - (m - H.length)) := Lib.hid (by rw [hm2, HR.out.2, Nat.add_sub_cancel_left, Nat.add_sub_cancel_left]; exact Nat.sub_lt_sub_left hj8 (Nat.lt_succ_self j))
                          clear hS r1 m1 f1 hrow hm2 hm2' HR hmod
                          go_wp2_with fail
                          refine ⟨⟨_, _, _, _, _, _, _, _, ⟨j + 1, m2, p', c', rfl, HJN.out, HS2⟩, rfl⟩, ?_⟩
                          exact HMM.out
                        case pos =>
                          subst h8
                          have hS := HR.out.1
                          rw [pad8_at H j hj (by rw [← HR.out.2]; exact HR8.out)] at hS
                          have HP1 := Lib.hid (rbits_any n 16 (by omega) (by decide) hS (by omega))
                          clear hS HR hj HR8
                          go_wp2_with fail
                          refine HP1.out.mono ?_
                          rintro e w5 ⟨v1, rfl, hS1⟩
                          obtain ⟨Z1, hZ1⟩ : ∃ Z, pad8 H ++ lowBits (n : Int) 16 = Z := ⟨_, rfl⟩
                          have hl1 : Z1.length ≤ 3100000040 := by rw [← hZ1, List.length_append, lowBits_length]; omega
                          rw [hZ1] at hS1
                          obtain ⟨p7, c7, e⟩ := hS1.form
                          subst e
                          have HZ1 := Lib.hid hZ1
                          have hP2 := rbits_any (65535 - n) 16 (by omega) (by decide) hS1 (by omega)
                          rw [show ((65535 - n : Nat) : Int) = 65535 - (n : Int) by omega] at hP2
                          have HP2 := Lib.hid hP2
                          clear HP1 hS1 hZ1 hP2 hmod
                          go_wp2_with fail
                          refine HP2.out.mono ?_
                          rintro e w6 ⟨v1, rfl, hS1⟩
                          obtain ⟨Z2, hZ2⟩ : ∃ Z, Z1 ++ lowBits (65535 - (n : Int)) 16 = Z := ⟨_, rfl⟩
                          have hl2 : Z2.length ≤ 3100000060 := by rw [← hZ2, List.length_append, lowBits_length]; omega
                          rw [hZ2] at hS1
                          obtain ⟨p8, c8, e⟩ := hS1.form
                          subst e
                          have HE0 : Hid (Z2 ++ bytesBits ((D.drop a).take n) = blkB D 0 a n R q B) := Lib.hid (by
                            rw [← HB0.out, ← hZ2, ← HZ1.out, show (((65535 - n : Nat) : Nat) : Int) = 65535 - (n : Int) by omega])
                          have HS2 : Hid (RbS w none w6 (.slice p8 Z2.length c8) (Z2 ++ bytesBits ((D.drop a).take 0))) := Lib.hid (by simpa [bytesBits] using hS1)
                          clear HP2 hS1 hZ2 hl1 HZ1
                          go_wp2_with fail
                          go_loopw [14, 5] (fun c v wx => ∃ (j m : Nat) (p : Option Addr) (c' : Nat), c = .int .i64 (j : Int) ∧ v = .slice p m c' ∧ j ≤ n ∧ Hid (RbS w none wx (.slice p m c') (Z2 ++ bytesBits ((D.drop a).take j)))) (fun c _ _ => n - (intOf c).toNat)
                          case atStart => exact ⟨0, _, p8, c8, rfl, rfl, Nat.zero_le _, HS2⟩
                          case round =>
                            obtain ⟨j, m, p9, c9, rfl, rfl, hj, HR⟩ := hrel
                            clear HS2
                            by_cases hlt : j < n
                            case neg =>
                              obtain rfl : j = n := by omega
                              have hS := HR.out
                              rw [HE0.out] at hS
                              have HS := Lib.hid hS
                              have hnn : ¬ (j : Int) < (j : Int) := by omega
                              clear hS HR
                              go_wp2_with fail
                              go_meet
                              exact ⟨_, _, _, rfl, HS⟩
                            case pos =>
                              have hltI : (j : Int) < (n : Int) := by omega
                              have hin : a + j < data.size := by omega
                              have hbt : (data[a + j]'hin).toNat = D.getD (a + j) 0 := by rw [← HD.out]; exact bytesOf_getD data (a + j) hin
                              obtain ⟨x, hx⟩ : ∃ x, (data[a + j]'hin).toNat = x := ⟨_, rfl⟩
                              have hx256 : x < 256 := by rw [← hx]; exact UInt8.toNat_lt _
                              have hsn := span_snoc D a j (by rw [HDL.out]; exact hin)
                              rw [← hbt, hx] at hsn
                              have hbl : (bytesBits ((D.drop a).take j)).length ≤ 8 * 65535 := by
                                rw [bytesBits_length, List.length_take]
                                omega
                              have hlen : (Z2 ++ bytesBits ((D.drop a).take j)).length ≤ 549755813888 := by rw [List.length_append]; omega
                              have hP := rbits_any x 8 (by omega) (by decide) HR.out hlen
                              rw [List.append_assoc, low8, ← bytesBits_snoc, ← hsn] at hP
                              have HP := Lib.hid hP
                              have hx1 : IntKind.i64.wrap (x : Int) = (x : Int) := IntWalk.i64_in _ (by omega)
                              have hx2 : wrap64 (x : Int) = (x : Int) := IntWalk.wrap64_in _ (by omega)
                              clear hP hlen hbl hsn hbt HR
                              go_wp2_with fail
                              clear hx1 hx2 hx
                              refine HP.out.mono ?_
                              rintro e wq ⟨v1, rfl, hS1⟩
                              obtain ⟨p10, c10, e⟩ := hS1.form
                              obtain ⟨n10, hn10⟩ : ∃ n10, (Z2 ++ bytesBits ((D.drop a).take (j + 1))).length = n10 := ⟨_, rfl⟩
                              rw [hn10] at e
                              subst e
                              have HQ := Lib.hid hS1
                              clear hS1 HP hn10
                              go_wp2_with fail
                              exact ⟨⟨j + 1, _, _, _, by rw [Int.natCast_add]; rfl, rfl, hlt, HQ⟩, by simp only [intOf]; omega⟩
                      --DEV}
                    · --DEV{
                      subst h1
                      have hb := hb1
                      rw [show lowBits 1 2 = lowBits ((1 : Nat) : Int) 2 from rfl, HH.out] at hb
                      have HB1 := Lib.hid hb
                      have HFX := Lib.hid (rfixed_any w4)
                      clear hb0 hb1 hb2 hb HH
                      go_wp2_with fail
                      refine HFX.out.mono ?_
                      rintro e w5 ⟨x, y, rfl, hx, hy, hm, fx, fy⟩
                      obtain ⟨gx, qx, rfl, -, -⟩ := row_some hx (by decide +kernel)
                      obtain ⟨gy, qy, rfl, -, -⟩ := row_some hy (by decide +kernel)
                      obtain ⟨lx, hlx⟩ : ∃ l, (toI fixedL).length = l := ⟨_, rfl⟩
                      obtain ⟨ly, hly⟩ : ∃ l, (toI fixedD).length = l := ⟨_, rfl⟩
                      rw [hlx] at hx fx
                      rw [hly] at hy fy
                      rw [hlx, hly]
                      have HXY := Lib.hid (And.intro hx (And.intro hy (And.intro fx fy)))
                      have HS5 := Lib.hid (HS.out.mut hm)
                      have hvl : ∀ g, (Value.slice p2 H.length c2).ownBlock = some g → g < w4.heap.size := fun g hg => HS.out.row.lt hg
                      have HVL := Lib.hid hvl
                      have hT := HT.out w5
                      rw [← HA2.out] at hT
                      have HT1 := Lib.hid hT
                      clear hx hy hm fx fy hvl hT HT HFX hlx hly HS
                      go_wp2_with fail
                      refine HT1.out.mono ?_
                      rintro e w6 ⟨tv, rfl, ht1, ht2, hm⟩
                      obtain ⟨pt, ct, rfl⟩ := ht1.form
                      have hS6 := HS5.out.mut hm
                      have HD6 : Hid (Calls Try.prog 42 #[.slice p2 H.length c2, .slice pt T.length ct, .slice (some ⟨gx, 0, none⟩) lx qx, .slice (some ⟨gy, 0, none⟩) ly qy] w6 fun e w' => ∃ v', e = .returned v' ∧ RbS w6 (Value.slice p2 H.length c2).ownBlock w' v' (H ++ toks fixedL fixedD T)) := Lib.hid (
                        rtokens_any' fixedL fixedD fixed_15.1 fixed_15.2 fixed_new.1 fixed_new.2.1 (by decide +kernel) (by decide +kernel) T hRl HS1.out hTn (by omega) hS6.row ht1 (HXY.out.1.mut hm (by simp)) (HXY.out.2.1.mut hm (by simp))
                          (fun g hg e => by have h1 := HVL.out g e; have h2 := HXY.out.2.2.1 g hg; omega) (fun g hg e => by have h1 := HVL.out g e; have h2 := HXY.out.2.2.2 g hg; omega) (own_ne hS6.row ht1 (by decide)))
                      have HS6 := Lib.hid hS6
                      clear ht1 ht2 hm hS6 HT1 HXY HVL HS5
                      go_wp2_with fail
                      refine HD6.out.mono ?_
                      rintro e w7 ⟨v7, rfl, hS7⟩
                      have hS8 := HS6.out.comp (Mut.refl _ _) hS7
                      rw [HB1.out] at hS8
                      obtain ⟨p8, c8, e⟩ := hS8.form
                      obtain ⟨n8, hn8⟩ : ∃ m, (blkB D 1 a n R q B).length = m := ⟨_, rfl⟩
                      rw [hn8] at e
                      subst e
                      have HS8 := Lib.hid hS8
                      clear hS7 hS8 hn8 HD6 HS6
                      go_wp2_with fail
                      go_meet
                      exact ⟨_, _, _, rfl, HS8⟩
                      --DEV}
                    · --DEV{
                      subst h2
                      have hb := hb2
                      rw [show lowBits 2 2 = lowBits ((2 : Nat) : Int) 2 from rfl, HH.out] at hb
                      have HB2 := Lib.hid hb
                      have hT := HT.out w4
                      rw [← HA2.out] at hT
                      have HT1 := Lib.hid hT
                      clear hb0 hb1 hb2 hb HH hT HT
                      go_wp2_with fail
                      refine HT1.out.mono ?_
                      rintro e w6 ⟨tv, rfl, ht1, ht2, hm⟩
                      obtain ⟨pt, ct, rfl⟩ := ht1.form
                      have hS6 := HS.out.mut hm
                      have HD6 := Lib.hid (rdyn_any T hRl HS1.out hTn (by omega) hS6.row ht1)
                      have HS6 := Lib.hid hS6
                      clear ht1 ht2 hm hS6 HT1 HS
                      go_wp2_with fail
                      refine HD6.out.mono ?_
                      rintro e w7 ⟨v7, rfl, hS7⟩
                      have hS8 := HS6.out.comp (Mut.refl _ _) hS7
                      rw [HB2.out] at hS8
                      obtain ⟨p8, c8, e⟩ := hS8.form
                      obtain ⟨n8, hn8⟩ : ∃ m, (blkB D 2 a n R q B).length = m := ⟨_, rfl⟩
                      rw [hn8] at e
                      subst e
                      have HS8 := Lib.hid hS8
                      clear hS7 hS8 hn8 HD6 HS6
                      go_wp2_with fail
                      go_meet
                      exact ⟨_, _, _, rfl, HS8⟩
                      --DEV}
                  case rest =>
                    obtain ⟨p5, n5, c5, rfl, HPF⟩ := hcut
                    have hnx := packR_next HRUN.out.1 HRUN.out.2.1 HRUN.out.2.2.1 k n q (by rw [HCH.out]; exact HK.out) HN.out HDD.out.2.2
                    rw [HCH.out] at hnx
                    have hblen := blkB_len D HDT.out k a n (reachOf cr) (reachOf_le cr) q B
                    have hdl := HDL.out
                    have hd1 := HDD.out.1
                    have ha21 := HDD.out.2.1
                    have hbud := HRUN.out.2.2.2
                    have hmu : muOf D.length C a i = (data.size - a) + (C.length - i) := by unfold muOf; rw [hdl]
                    rw [hmu, hdl] at hbud
                    by_cases h0 : d = 0
                    · --DEV{
                      have h0I : ((d : Int) == 0) = true := by rw [h0]; rfl
                      have hni : nextI i L n = i + 1 := by unfold nextI; rw [if_pos (by omega)]
                      have hnl : nextL C D.length a i L n = leftOf C D.length a2 (i + 1) := by unfold nextL; rw [if_pos (by omega), ha21]
                      rw [hni, hnl, ha21] at hnx
                      have HFIN : Hid (RpO w D C FIN K0 wc (.slice p5 n5 c5) a2 (i + 1)) := Lib.hid (by
                        refine ⟨_, HPF.out, ?_⟩
                        rcases hnx with ⟨hq1, h1, h2, h3⟩ | ⟨hq1, f', h1, h2, h3, h4⟩
                        · exact .inl ⟨h2, h3, fun e => by omega, h1, by omega⟩
                        · have hq2 := HDD.out.2.2
                          rw [hq1] at hq2
                          have h5 := of_decide_eq_false hq2
                          rw [hni, ha21, hdl] at h5
                          have h6 : muOf D.length C a2 (i + 1) = (data.size - a2) + (C.length - (i + 1)) := by unfold muOf; rw [hdl]
                          rw [hmu, h6] at h4
                          have h7 := h3.le
                          rw [hdl] at h7
                          have h8 := h3.room
                          refine .inr ⟨?_, ?_, f', h3, h1, h2, ?_⟩
                          · rcases Nat.lt_or_ge i C.length with h | h
                            · exact h
                            · have h9 := HRUN.out.1.past h
                              rw [hdl] at h9
                              exact absurd ⟨by omega, by omega⟩ h5
                          · rw [hdl]
                            omega
                          · rw [h6, hdl]
                            omega)
                      clear hnx hblen hdl hd1 ha21 hbud hmu hni hnl HPF h0
                      go_wp2_with fail
                      exact ⟨⟨p5, n5, c5, a2, i + 1, rfl, congrArg _ HA2.out, by rw [Int.natCast_add]; rfl, ha2b, by omega, HFIN⟩, by simp only [intOf]; omega⟩
                      --DEV}
                    · --DEV{
                      have h0I : ((d : Int) == 0) = false := by rw [beq_eq_false_iff_ne]; omega
                      have hni : nextI i L n = i := by unfold nextI; rw [if_neg (by omega)]
                      have hnl : nextL C D.length a i L n = d := by unfold nextL; rw [if_neg (by omega), hd1]
                      rw [hni, hnl, ha21] at hnx
                      have hdL : d < L := by
                        have h9 := (cut_zero k L (by rw [HN.out]; omega)).2
                        rw [HN.out] at h9
                        omega
                      have HFIN : Hid (RpI w D C FIN K0 i wc (.slice p5 n5 c5) a2 d) := Lib.hid (by
                        rcases hnx with ⟨hq1, h1, h2, h3⟩ | ⟨hq1, f', h1, h2, h3, h4⟩
                        · have h9 := HRUN.out.1.room
                          rw [hdl] at h9 h2
                          omega
                        · have h6 : muOf D.length C a2 i = (data.size - a2) + (C.length - i) := by unfold muOf; rw [hdl]
                          rw [hmu, h6] at h4
                          have h7 := h3.le
                          rw [hdl] at h7
                          refine ⟨_, f', HPF.out, h3, h1, h2, ?_⟩
                          rw [h6, hdl]
                          omega)
                      clear hnx hblen hdl hd1 ha21 hbud hmu hni hnl HPF h0
                      go_wp2_with fail
                      exact ⟨⟨p5, n5, c5, a2, d, rfl, congrArg _ HA2.out, rfl, ha2b, by omega, HFIN⟩, by simp only [intOf]; omega⟩
                      --DEV}

end Go.Proofs.Ytgjcnembeebjfaa
