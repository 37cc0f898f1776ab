/- Walk over the law SqueezeTokens. -/
import Derived.Test.YtcdoamaljgjojaaSqzL1
import Derived.Test.YtcdoamaljgjojaaTokW2
import Derived.Test.YtcdoamaljgjojaaTokF
import Derived.Test.YtcdoamaljgjojaaTokU
import Derived.Test.YtcdoamaljgjojaaMRow
import Derived.Deep.DeepCutAuto
import Derived.BigQuiet
namespace Go.Proofs.Ytcdoamaljgjojaa
open Go.RowKit
set_option linter.unusedVariables false

theorem info_u8M : (Try.prog.info? 5).map (fun i => (i.zero, i.size, i.bytes)) = some (some (.int .u8 0), 1, 1) := by kernel_rfl

/-- where the loop over the tokens is -/
structure LpS (w0 wx : World) (gb : Nat) (a b : Int) (T : List Tok) (v1 v2 v : Value) (L : List Nat) : Prop where
  r1 : TRow 44 wx v1 T
  r2 : TRow 43 wx v2 T
  row : MRow wx v L
  box : wx.heap[gb]? = some (.cells #[.int .i64 a, .int .i64 b] 37 (0, 0))
  fr : ∀ g, v.ownBlock = some g → w0.heap.size ≤ g
  mu : Mut [] w0 wx

theorem LpS.mut {w0 wx wy : World} {gb : Nat} {a b : Int} {T : List Tok} {v1 v2 v : Value} {L : List Nat} (h : LpS w0 wx gb a b T v1 v2 v L) (hm : Mut [] wx wy) : LpS w0 wy gb a b T v1 v2 v L :=
  ⟨h.r1.mut hm (by simp), h.r2.mut hm (by simp), h.row.mut hm (by simp), hm.get h.box (by simp), h.fr, h.mu.trans' hm⟩

theorem mrow_ne {w : World} {v v1 : Value} {L : List Nat} {e : TypeId} {n k : Nat} {xs : List Value} (h : MRow w v L) (h1 : w.ownsRow 0 e k v1 n xs) (hne : e ≠ 5) : ∀ g, v1.ownBlock = some g → v.ownBlock ≠ some g := by
  intro g hg hv
  obtain ⟨g', cap, cur, fr, rfl, hb, _⟩ := h
  simp only [Value.ownBlock, Option.some.injEq] at hv
  subst hv
  exact row_ne h1 hb hne hg

theorem LpS.app {w0 wx w1 : World} {gb : Nat} {a b : Int} {T : List Tok} {v1 v2 v v' : Value} {L L' : List Nat} {o : Obj} (h : LpS w0 wx gb a b T v1 v2 v L) (hr : MRow w1 v' L') (hg : (wx.alloc o).grownBy w1 v.ownBlock)
    (hf : ∀ g, v'.ownBlock = some g → v.ownBlock = some g ∨ wx.heap.size + 1 ≤ g) : LpS w0 w1 gb a b T v1 v2 v' L' := by
  have hm : Mut v.ownBlock.toList wx w1 := ((Mut.refl _ wx).alloc o).grown hg (fun k hk => .inl (by simp [hk]))
  have n1 := mrow_ne h.row h.r1 (by decide)
  have n2 := mrow_ne h.row h.r2 (by decide)
  refine ⟨h.r1.mut hm (fun g hg => by simpa using n1 g hg), h.r2.mut hm (fun g hg => by simpa using n2 g hg), hr, hm.get h.box ?_, fun g hg => (hf g hg).elim (fun h' => h.fr g h') (fun h' => by have := h.mu.size; omega), h.mu.trans hm (fun x hx => .inr (h.fr x (by simpa using hx)))⟩
  intro hx
  obtain ⟨g', cap, cur, fr, e, hb, _⟩ := h.row
  rw [e] at hx
  simp [Value.ownBlock] at hx
  have := h.box
  rw [hx, hb] at this
  simp at this

theorem bad_test (a b : Int) (n : Nat) : decide (a < 0 ∨ b < a ∨ (n : Int) < b) = (decide (a < 0) || (decide (b < a) || decide ((n : Int) < b))) := by
  by_cases h1 : a < 0 <;> by_cases h2 : b < a <;> by_cases h3 : (n : Int) < b <;> simp [h1, h2, h3]

set_option maxHeartbeats 3200000 in
set_option maxRecDepth 100000 in
theorem lawSqueezeTokens {w : World} (data : ByteArray) (wd : data.size ≤ maxLen) (a b : Int) (wa : (Lit.int .i64 a).wf = true) (wb : (Lit.int .i64 b).wf = true) (r : Int) (wr : (Lit.int .i64 r).wf = true) :
    Calls Try.prog 7 #[.string data, .agg #[.int .i64 a, .int .i64 b], .int .i64 r] w fun e w' => e = .returned (.bool true) ∧ Below w.heap.size w w' := by
  unfold maxLen at wd
  clear wa wb wr
  have HSP := Lib.hid (fun w => speaks4_any w)
  go_enter Try.func7, Try.ntmps7
  go_upto_region 1 with fail
  have hbox : (w.alloc (.cells #[.int .i64 a, .int .i64 b] 37)).heap[w.heap.size]? = some (.cells #[.int .i64 a, .int .i64 b] 37 (0, 0)) := heap_alloc_new w _
  have hm0 : Mut [] w (w.alloc (.cells #[.int .i64 a, .int .i64 b] 37)) := (Mut.refl [] w).alloc _
  generalize w.alloc (.cells #[.int .i64 a, .int .i64 b] 37) = W at *
  generalize hgb : w.heap.size = gb at *
  have HGB := Lib.hid hgb
  have HBOX := Lib.hid hbox
  have HM0 := Lib.hid hm0
  have HS := Lib.hid (HSP.out W)
  clear hgb hbox hm0 HSP
  go_wp2_with fail
  refine HS.out.mono ?_
  rintro e w1 ⟨rfl, hm⟩
  have hbox := hm.get HBOX.out (by simp)
  have HBOX := Lib.hid hbox
  have HM1 := Lib.hid (HM0.out.trans' hm)
  obtain ⟨c0, c1, f0, f1⟩ := cells2 hbox
  clear hm HS HM0 hbox f0 f1
  by_cases hbig : 20000 < data.size
  case pos =>
    have hbI : (20000 : Int) < (data.size : Int) := by omega
    clear hbig
    go_wp2_with fail
    go_ret
    exact ⟨rfl, HM1.out.nil (by simp)⟩
  case neg =>
    have hbI : ¬ (20000 : Int) < (data.size : Int) := by omega
    by_cases hbad : a < 0 ∨ b < a ∨ (data.size : Int) < b
    case pos =>
      have HT := Lib.hid (tokens_bad data a b r hbad w1)
      have HF := Lib.hid (rtokens_bad data a b r hbad w1)
      have HB := Lib.hid hbad
      clear hbad
      go_upto_region 5 with fail
      go_wp2_with fail
      refine HT.out.mono ?_
      rintro e w2 ⟨rfl, rfl⟩
      go_wp2_with fail
      refine HF.out.mono ?_
      rintro e w2 ⟨rfl, rfl⟩
      clear HT HF
      go_upto_region 9 with fail
      by_cases h1 : a < 0
      · clear HB
        go_wp2_with fail
        go_ret
        exact ⟨rfl, HM1.out.nil (by simp)⟩
      · by_cases h2 : b < a
        · clear HB
          go_wp2_with fail
          go_ret
          exact ⟨rfl, HM1.out.nil (by simp)⟩
        · have h3 : (data.size : Int) < b := by have := HB.out; omega
          clear HB
          go_wp2_with fail
          go_ret
          exact ⟨rfl, HM1.out.nil (by simp)⟩
    case neg =>
      obtain ⟨A, rfl⟩ : ∃ A : Nat, a = (A : Int) := ⟨a.toNat, by omega⟩
      obtain ⟨B, rfl⟩ : ∃ B : Nat, b = (B : Int) := ⟨b.toNat, by omega⟩
      have hAB : A ≤ B := by omega
      have hBD : B ≤ data.size := by omega
      clear hbad
      obtain ⟨R, hR⟩ : ∃ R : Nat, (R : Int) = min (max r 0) 32768 := ⟨(min (max r 0) 32768).toNat, by omega⟩
      obtain ⟨D, hD⟩ : ∃ D, bytesOf data = D := ⟨_, rfl⟩
      have hDl : D.length = data.size := by rw [← hD, bytesOf_length]
      have HT := Lib.hid (tokens_any data D hD A B R (B - A + 1) r (by omega) hAB hBD hR (by omega) w1)
      have HF := Lib.hid (fun w => rtokens_any data D hD A B R (B - A + 1) r (by omega) hAB hBD hR (by omega) w)
      have hun := untks D B R (by omega) (B - A + 1) A hAB (by omega)
      have hok := tks_ok D (by rw [← hD]; exact bytesOf_lt data) B R (B - A + 1) A
      have hle := tks_len D B R (B - A + 1) A
      obtain ⟨T, hT⟩ : ∃ T, tks D B R (B - A + 1) A = T := ⟨_, rfl⟩
      rw [hT] at HT HF hun hok hle
      have HUN := Lib.hid hun
      have HOK := Lib.hid hok
      have HD := Lib.hid hD
      have HDL := Lib.hid hDl
      clear hun hok hT hD hR hDl
      go_upto_region 5 with fail
      go_wp2_with fail
      refine HT.out.mono ?_
      rintro e w2 ⟨v1, rfl, ht1, hf1, hm2⟩
      have HT1 := Lib.hid ht1
      have HM2 := Lib.hid hm2
      clear ht1 hm2 HT
      obtain ⟨p1, k1, rfl⟩ := HT1.out.form
      have c0' := HM2.out.cell c0 (by simp)
      have c1' := HM2.out.cell c1 (by simp)
      clear c0 c1
      go_wp2_with fail
      refine (HF.out w2).mono ?_
      rintro e w3 ⟨v2, rfl, ht2, hf2, hm3⟩
      have HT1' := Lib.hid (HT1.out.mut hm3 (by simp))
      have HT2 := Lib.hid ht2
      have HM3 := Lib.hid ((HM1.out.trans' HM2.out).trans' hm3)
      have HBX := Lib.hid (hm3.get (HM2.out.get HBOX.out (by simp)) (by simp))
      have c0 := hm3.cell c0' (by simp)
      have c1 := hm3.cell c1' (by simp)
      obtain ⟨p2, k2, rfl⟩ := HT2.out.form
      clear c0' c1' ht2 hm3 HF HT1 HM1 HM2 HBOX hf1 hf2
      have hA0 : ¬ (A : Int) < 0 := by omega
      have hABI : ¬ (B : Int) < (A : Int) := by omega
      have hBDI : ¬ (data.size : Int) < (B : Int) := by omega
      have hADI : (A : Int) ≤ (data.size : Int) := by omega
      obtain ⟨s0, hs0⟩ : ∃ s0, data.extract 0 A = s0 := ⟨_, rfl⟩
      have hs0z : s0.size = A := by rw [← hs0]; simp; omega
      have hs0D : bytesOf s0 = D.take A := by rw [← hs0, bytesOf_extract, HD.out, List.drop_zero]
      have HS0 := Lib.hid hs0D
      have HSZ := Lib.hid hs0z
      clear hs0D hs0z
      go_upto_region 11 with fail
      go_cut [9] (fun v wx => ∃ g k, v = .slice (some ⟨g, 0, none⟩) A k ∧ Hid (LpS w3 wx gb (A : Int) (B : Int) T (.slice p1 T.length k1) (.slice p2 T.length k2) (.slice (some ⟨g, 0, none⟩) A k) (D.take A)))
      case first =>
        obtain rfl := HSZ.out
        have hcv := fun (w : World) s => run_bytes_of_string (P := Try.prog) w 9 33 5 s Try.underlying9 Try.underlying33 Try.underlying5
        have HRW := Lib.hid ((MRow.ofString w3 s0).resolve_right (by have := HSZ.out; unfold maxLen; omega))
        rw [HS0.out] at HRW
        go_wp2_with fail
        go_meet
        refine ⟨_, _, rfl, Lib.hid ⟨HT1'.out.mut (((Mut.refl [] w3).alloc _).drew) (by simp), HT2.out.mut (((Mut.refl [] w3).alloc _).drew) (by simp), HRW.out, (((Mut.refl [] w3).alloc _).drew).get HBX.out (by simp), ?_, ((Mut.refl [] w3).alloc _).drew⟩⟩
        simp [Value.ownBlock]
      case rest =>
        obtain ⟨g, k, rfl, HLP⟩ := hcut
        clear HS0 HSZ hs0 HBX c0 c1 HT1' HT2
        obtain ⟨G0, hG0⟩ : ∃ G0, w3.heap.size = G0 := ⟨_, rfl⟩
        go_wp2_with fail
        go_loopw [10, 9] (fun c v wx => ∃ (i : Nat) (L : List Nat) (p : Option Addr) (q : Nat), c = .int .i64 (i : Int) ∧ v = .slice p L.length q ∧ i ≤ T.length ∧ L.length ≤ B ∧ Hid (LpS w3 wx gb (A : Int) (B : Int) T (.slice p1 T.length k1) (.slice p2 T.length k2) (.slice p L.length q) L ∧ L = (T.take i).foldl untk (D.take A))) (fun c _ _ => T.length - (intOf c).toNat)
        case atStart =>
          have e : (D.take A).length = A := by have := HDL.out; rw [List.length_take]; omega
          refine ⟨0, D.take A, some ⟨g, 0, none⟩, k, rfl, by rw [e], Nat.zero_le _, by omega, Lib.hid ⟨by rw [e]; exact HLP.out, rfl⟩⟩
        case round =>
          obtain ⟨i, L, p, q, rfl, rfl, hi, hLB, HR⟩ := hrel
          clear HLP
          by_cases hlt : i < T.length
          case neg =>
            have hiT : i = T.length := by omega
            subst hiT
            obtain ⟨hS, hL⟩ := HR.out
            rw [List.take_length, HUN.out] at hL
            have hcv0 := hS.row.conv
            have hcv : ∀ n, (convert 33 9 (.slice p L.length q)).run Try.prog (wr.drewN n) = .ok (.string (strOf L)) (wr.drewN n) := fun n => (hS.row.mut ((Mut.refl [] wr).drewN n) (by simp)).conv
            have hE : strOf L = data.extract 0 B := by
              apply bytesOf_inj
              rw [hL, bytesOf_strOf _ (fun x hx => by
                have := List.mem_of_mem_take hx
                rw [← HD.out] at this
                exact bytesOf_lt data x this), bytesOf_extract, HD.out, List.drop_zero]
            have hss := str_eq (strOf L) (data.extract 0 B)
            rw [decide_eq_true hE] at hss
            obtain ⟨c0, c1, -, -⟩ := cells2 hS.box
            have HMM := Lib.hid ((HM3.out.trans' hS.mu))
            have hB0 : 0 ≤ (B : Int) := by omega
            have hBB : (B : Int) ≤ (data.size : Int) := by omega
            clear hL hE hS HR hlt
            go_wp2_with fail
            go_quiet (fail)
            go_wp2_with fail
            go_ret
            exact ⟨rfl, (HMM.out.drewN _).nil (by simp)⟩
          case pos =>
            have hltI : (i : Int) < (T.length : Int) := by omega
            obtain ⟨hS, hL⟩ := HR.out
            have hx := toksOk_at R T A HOK.out i (D.take A) (by have := HDL.out; rw [List.length_take]; omega) hlt
            rw [← hL] at hx
            have hnext : (T.take (i + 1)).foldl untk (D.take A) = untk L T[i] := by
              rw [List.take_succ_eq_append_getElem hlt, List.foldl_append, ← hL]
              rfl
            obtain ⟨⟨X1, X2, X3⟩, hX⟩ : ∃ x, T[i] = x := ⟨_, rfl⟩
            obtain ⟨g1, cc1, e1, -, -⟩ := row_some hS.r1 (by omega)
            obtain ⟨g2, cc2, e2, -, -⟩ := row_some hS.r2 (by omega)
            simp only [Value.slice.injEq] at e1 e2
            obtain ⟨rfl, -, rfl⟩ := e1
            obtain ⟨rfl, -, rfl⟩ := e2
            obtain ⟨d0, d1, d2⟩ := hS.r1.cells i hlt
            obtain ⟨b0, b1, b2⟩ := hS.r2.cells i hlt
            rw [hX, Nat.mul_comm] at d0 d1 d2 b0 b1 b2
            rw [hX] at hx hnext
            dsimp only at d0 d1 d2 b0 b1 b2
            have hlen : L.length + max X2 1 ≤ B := by
              have h1 := fold_grow (T.drop (i + 1)) ((T.take (i + 1)).foldl untk (D.take A))
              rw [← List.foldl_append, List.take_append_drop, HUN.out, hnext, untk_len, List.length_take] at h1
              show L.length + max X2 1 ≤ B
              simp only at h1
              omega
            have HX := Lib.hid hx
            have HXX := Lib.hid hX
            have HNX := Lib.hid hnext
            clear hx hnext hX hS hL
            go_upto_region 15 with fail
            go_quiet (fail)
            have HS : Hid (LpS w3 (wr.drewN nq) gb (A : Int) (B : Int) T (.slice (some ⟨g1, 0, none⟩) T.length k1) (.slice (some ⟨g2, 0, none⟩) T.length k2) (.slice p L.length q) L) := Lib.hid (HR.out.1.mut ((Mut.refl [] wr).drewN nq))
            clear d0 d1 d2 b0 b1 b2 HR
            generalize wr.drewN nq = w4 at *
            have HCL : Hid (∀ wx vx Lx, LpS w3 wx gb (A : Int) (B : Int) T (.slice (some ⟨g1, 0, none⟩) T.length k1) (.slice (some ⟨g2, 0, none⟩) T.length k2) vx Lx → wx.cell? ⟨g1, i * 3, none⟩ = some (.int .u8 (X1 : Int)) ∧ wx.cell? ⟨g1, i * 3 + 1, none⟩ = some (.int .i64 (X2 : Int)) ∧ wx.cell? ⟨g1, i * 3 + 2, none⟩ = some (.int .i64 (X3 : Int))) := Lib.hid fun wx vx Lx h => by
              have := h.r1.cells i hlt
              rw [HXX.out, Nat.mul_comm] at this
              exact this
            obtain ⟨i0, hi', hz0, hz1, hz2⟩ := info_parts info_u8M
            have HI := Lib.hid (show _ ∧ _ ∧ _ ∧ _ from ⟨hi', hz0, hz1, hz2⟩)
            obtain ⟨d0, d1, d2⟩ := HCL.out _ _ _ HS.out
            obtain ⟨L1, hL1⟩ : ∃ L1, (if X2 = 0 then L ++ [X1] else L) = L1 := ⟨_, rfl⟩
            have hL1l : L1.length + X2 ≤ B := by
              rw [← hL1]
              split
              · rw [List.length_append]; simp; omega
              · omega
            have HL1 := Lib.hid hL1
            clear hi' hz0 hz1 hz2 hL1
            by_cases hx0 : X2 = 0
            case' pos => have hxI : ((X2 : Int) == 0) = true := by rw [hx0]; rfl
            case' neg => have hxI : ((X2 : Int) == 0) = false := by rw [beq_eq_false_iff_ne]; omega
            all_goals
              have HX0 := Lib.hid hx0
              clear hx0
              go_upto_if 81 with fail
              go_cut [9] (fun v wx => ∃ p' q', v = .slice p' L1.length q' ∧ Hid (LpS w3 wx gb (A : Int) (B : Int) T (.slice (some ⟨g1, 0, none⟩) T.length k1) (.slice (some ⟨g2, 0, none⟩) T.length k2) (.slice p' L1.length q') L1))
              case first =>
                first
                  | (go_wp2_with fail
                     go_meet
                     have e := HL1.out
                     rw [if_neg HX0.out] at e
                     subst e
                     exact ⟨_, _, rfl, HS⟩)
                  | (obtain ⟨hi', hz0, hz1, hz2⟩ := HI.out
                     have hrw := HS.out.row.mut ((Mut.refl [] w4).alloc (.cells #[.int .u8 (X1 : Int)] 5)) (by simp)
                     go_wp2_with (at_builtin; refine wp_appM rfl (.tmp 82) (.tmp 88) 33 33 rfl i0 Try.underlying33 hi' hz0 hz1 hz2 hrw rfl (M := [X1]) (src1 Try.underlying33 (heap_alloc_new w4 _) rfl (one1 rfl)) rfl ?b1 ?_)
                     case b1 => show L.length + 1 ≤ _; omega
                     intro v' w5 hr5 hg5 hf5
                     have hS5 := HS.out.app hr5 hg5 hf5
                     go_wp2_with fail
                     go_meet
                     have e := HL1.out
                     rw [if_pos HX0.out] at e
                     subst e
                     obtain ⟨g', c', e1, -, -⟩ := hr5.form
                     subst e1
                     exact ⟨_, _, rfl, Lib.hid hS5⟩)
              case rest =>
                obtain ⟨p', q', rfl, HS1⟩ := hcut
                clear HS d0 d1 d2 hxI
                have hx := HX.out
                unfold tokOk at hx
                simp only at hx
                have hL1L : L.length ≤ L1.length := by rw [← HL1.out]; split <;> simp
                have hX3 : X2 = 0 ∨ (1 ≤ X3 ∧ X3 ≤ L1.length) := by omega
                have hfin : untk L (X1, X2, X3) = copyN L1 X3 X2 := by
                  have := HX0.out
                  rw [← HL1.out]
                  unfold untk
                  by_cases h : X2 = 0
                  · subst h
                    rfl
                  · simp only [if_neg h]
                have HFIN := Lib.hid hfin
                clear hx hfin HX0 HX
                go_wp2_with fail
                go_loopw [11, 9] (fun c v wx => ∃ (k : Nat) (L2 : List Nat) (p2 : Option Addr) (q2 : Nat), c = .int .i64 (k : Int) ∧ v = .slice p2 L2.length q2 ∧ k ≤ X2 ∧ L2.length = L1.length + k ∧ Hid (LpS w3 wx gb (A : Int) (B : Int) T (.slice (some ⟨g1, 0, none⟩) T.length k1) (.slice (some ⟨g2, 0, none⟩) T.length k2) (.slice p2 L2.length q2) L2 ∧ L2 = copyN L1 X3 k)) (fun c _ _ => X2 - (intOf c).toNat)
                case atStart => exact ⟨0, L1, p', q', rfl, rfl, Nat.zero_le _, rfl, Lib.hid ⟨HS1.out, rfl⟩⟩
                case round =>
                  obtain ⟨k, L2, p2, q2, rfl, rfl, hk, hL2, HR2⟩ := hrel
                  clear HS1
                  obtain ⟨d0, d1, d2⟩ := HCL.out _ _ _ HR2.out.1
                  by_cases hkX : k < X2
                  case neg =>
                    have e : k = X2 := by omega
                    subst e
                    have hkI : ¬ (k : Int) < (k : Int) := by omega
                    have HE : Hid (LpS w3 wr gb (A : Int) (B : Int) T (.slice (some ⟨g1, 0, none⟩) T.length k1) (.slice (some ⟨g2, 0, none⟩) T.length k2) (.slice p2 L2.length q2) L2 ∧ L2 = (T.take (i + 1)).foldl untk (D.take A)) := Lib.hid ⟨HR2.out.1, by rw [HNX.out, HFIN.out]; exact HR2.out.2⟩
                    have hL2B : L2.length ≤ B := by omega
                    clear HR2 d0 d2 hL2
                    go_wp2_with fail
                    refine ⟨⟨i + 1, L2, p2, q2, by rw [Int.natCast_add]; rfl, rfl, hlt, hL2B, HE⟩, by simp only [intOf]; omega⟩
                  case pos =>
                    have hkI : (k : Int) < (X2 : Int) := by omega
                    obtain ⟨M, hM⟩ : ∃ M, L2.length - X3 = M := ⟨_, rfl⟩
                    have hMI : (L2.length : Int) - (X3 : Int) = (M : Int) := by omega
                    have hML : M < L2.length := by omega
                    have hX3b : X3 ≤ 20000 := by omega
                    obtain ⟨g5, c5, e5, -, -⟩ := HR2.out.1.row.form
                    simp only [Value.slice.injEq] at e5
                    obtain ⟨rfl, -, rfl⟩ := e5
                    have hcm := HR2.out.1.row.cellAt M hML
                    obtain ⟨x, hx⟩ : ∃ x, L2.getD M 0 = x := ⟨_, rfl⟩
                    rw [hx] at hcm
                    have HN : Hid (L2 ++ [x] = copyN L1 X3 (k + 1)) := Lib.hid (by rw [copyN, ← HR2.out.2, hM, hx])
                    obtain ⟨hi', hz0, hz1, hz2⟩ := HI.out
                    have hL2B : L2.length + 1 ≤ 20000 := by omega
                    have HL2 := Lib.hid hL2
                    clear hx hM hL2
                    have hrw := HR2.out.1.row.mut ((Mut.refl [] wr).alloc (.cells #[.int .u8 (x : Int)] 5)) (by simp)
                    go_wp2_with (at_builtin; refine wp_appM rfl (.tmp 99) (.tmp 111) 33 33 rfl i0 Try.underlying33 hi' hz0 hz1 hz2 hrw rfl (M := [x]) (src1 Try.underlying33 (heap_alloc_new wr _) rfl (one1 rfl)) rfl ?b1 ?_)
                    case b1 => show L2.length + 1 ≤ _; omega
                    intro v' w5 hr5 hg5 hf5
                    have hS5 := HR2.out.1.app hr5 hg5 hf5
                    obtain ⟨g', c', e1, -, -⟩ := hr5.form
                    subst e1
                    have HS5 : Hid (LpS w3 w5 gb (A : Int) (B : Int) T (.slice (some ⟨g1, 0, none⟩) T.length k1) (.slice (some ⟨g2, 0, none⟩) T.length k2) (.slice (some ⟨g', 0, none⟩) (L2 ++ [x]).length c') (L2 ++ [x]) ∧ L2 ++ [x] = copyN L1 X3 (k + 1)) := Lib.hid ⟨hS5, HN.out⟩
                    clear hS5 hr5 hg5 hf5 HR2 HN d0 d1 d2 hcm hrw
                    go_wp2_with fail
                    refine ⟨⟨k + 1, L2 ++ [x], some ⟨g', 0, none⟩, c', by rw [Int.natCast_add]; rfl, by first | rfl | rw [List.length_append]; rfl, hkX, by rw [List.length_append, HL2.out]; simp; omega, HS5⟩, by simp only [intOf]; omega⟩

end Go.Proofs.Ytcdoamaljgjojaa
