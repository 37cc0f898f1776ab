/- Walk over package ferretref03: stored. -/
import Derived.Test.YtgjcnembeebjfaaGzR1
import Derived.Test.YtgjcnembeebjfaaInfW2
import Derived.Test.YtgjcnembeebjfaaReg
import Derived.Deep.RegionWith
import Derived.BigQuiet
import Derived.Deep.DeepCutAuto
namespace Go.Proofs.Ytgjcnembeebjfaa
open Go.RowKit
set_option linter.unusedVariables false

/-- what two bytes and their turned ones are asked -/
theorem turned_ones (a c b d : Nat) (ha : a < 256) (hc : c < 256) (hb : b < 256) (hd : d < 256) : (a + 256 * c) ^^^ (b + 256 * d) = 65535 ↔ (a + 256 * c) + (b + 256 * d) = 65535 := by
  rw [xor_ones' _ _ (by omega) (by omega)]
  omega
theorem and_turned : ∀ a : Nat, a < 256 → bits .and .u8 (a : Int) ((255 - a : Nat) : Int) = 0 := by decide +kernel

theorem SB.setOut {w0 w w1 : World} {b : Nat} {s : ByteArray} {m : Nat} {v v' : Value} {t er : Nat} {out M : List Nat} (h : SB w0 b s m v ⟨t, out, er⟩ w) (hr : w1.ownsRow 0 5 1 v' (out.length + M.length) (uC out ++ uC M)) (hg : w.grownBy w1 v.ownBlock) (hf : ∀ g, v'.ownBlock = some g → v.ownBlock = some g ∨ w.heap.size ≤ g) :
    SB w0 b s m v' ⟨t, out ++ M, er⟩ (w1.setCell ⟨b, 2, none⟩ v') := by
  have hm : Mut v.ownBlock.toList w w1 := (Mut.refl _ w).grown hg (fun k hk => .inl (by simp [hk]))
  have hbx := hm.get h.bx (fun hx => h.ne (by simpa using hx))
  have hob : OB w0 v' (out ++ M) w1 := h.ob.app (Mut.refl [] w) hr hg hf
  refine ⟨by rw [heap_set hbx 2 v']; rfl, ⟨?_, hob.fresh, hob.kept.setCell (.inr h.low) _⟩, h.low⟩
  exact row_set_ne hob.row (fun g hg' e => row_ne hob.row hbx (by decide) (by rw [hg', e])) _

set_option maxHeartbeats 3200000 in
set_option maxRecDepth 100000 in
theorem rstored_any (w0 : World) (b : Nat) (s : ByteArray) (m : Nat) (v : Value) (t : Nat) (out : List Nat) (hs : s.size ≤ 1099511627776) (ht : t ≤ 8 * s.size) (hm : m ≤ 9223372036854775807) (hout : out.length ≤ m) (hB : out.length ≤ 1099511627776) (w : World) (h : SB w0 b s m v ⟨t, out, 0⟩ w) :
    Calls Try.prog 52 #[.pointer (some ⟨b, 0, none⟩)] w fun e w' => e = .returned (.tuple #[]) ∧ ∃ v', SB w0 b s m v' (storedU s m ⟨t, out, 0⟩).2 w' ∧ Mut (b :: v.ownBlock.toList) w w' := by
  obtain ⟨pv, qv, rfl⟩ := h.ob.form
  obtain ⟨v, hv⟩ : ∃ v, Value.slice pv out.length qv = v := ⟨_, rfl⟩
  rw [hv] at h ⊢
  have HVV := Lib.hid hv
  clear hv
  have HSB := Lib.hid h
  have H1 := Lib.hid (rbytes3_any w0 b s m v t out 2 (by decide) hs ht w h)
  clear h
  obtain ⟨fr, hfr⟩ : ∃ z, (t + 7) / 8 = z := ⟨_, rfl⟩
  rw [hfr] at H1
  by_cases hfit : fr + 2 ≤ s.size
  case neg =>
    have e1 : bytesU 2 s m ⟨t, out, 0⟩ = ([], ⟨t, out, 3⟩) := by unfold bytesU; simp only []; rw [hfr, if_neg (by simp), if_neg hfit]
    have e2 : (storedU s m ⟨t, out, 0⟩).2 = ⟨t, out, 3⟩ := by
      unfold storedU
      simp only [UM.bind, e1]
      rw [(bytes_nice 2).sticky s m ⟨t, out, 3⟩ (by simp)]
      simp [failU, UM.ret]
    rw [e2]
    rw [if_neg hfit, e1] at H1
    clear e1 e2
    go_enter Try.func52, Try.ntmps52
    go_wp2_with fail
    refine H1.out.mono ?_
    rintro e w1 ⟨rfl, hsb, hm1⟩
    have HS1 := Lib.hid hsb
    have HM1 := Lib.hid (hm1.mono (T := b :: v.ownBlock.toList) (by simp))
    clear hsb hm1
    go_wp2_with fail
    refine bodyPost_ret (results_none rfl _ _ _) rfl ?_
    exact ⟨rfl, v, HS1.out, HM1.out⟩
  case pos =>
    have hD : (bytesOf s).length = s.size := bytesOf_length s
    obtain ⟨A, hA⟩ : ∃ A, (s[fr]'(by omega)).toNat = A := ⟨_, rfl⟩
    obtain ⟨C, hC⟩ : ∃ C, (s[fr + 1]'(by omega)).toNat = C := ⟨_, rfl⟩
    have hA2 : A < 256 := by rw [← hA]; exact UInt8.toNat_lt _
    have hC2 : C < 256 := by rw [← hC]; exact UInt8.toNat_lt _
    have two : ∀ k, (hk : k + 2 ≤ s.size) → ((bytesOf s).drop k).take 2 = [(s[k]'(by omega)).toNat, (s[k + 1]'(by omega)).toNat] := fun k hk => by
      rw [List.drop_eq_getElem_cons (by omega), List.drop_eq_getElem_cons (by omega), bytesOf_get s k (by omega), bytesOf_get s (k + 1) (by omega)]
      rfl
    have e1 : bytesU 2 s m ⟨t, out, 0⟩ = ([A, C], ⟨8 * (fr + 2), out, 0⟩) := by
      unfold bytesU
      simp only []
      rw [hfr, if_neg (by simp), if_pos hfit, two fr hfit, hA, hC]
    rw [if_pos hfit, e1] at H1
    have H2 : Hid (∀ W, SB w0 b s m v ⟨8 * (fr + 2), out, 0⟩ W → Calls Try.prog 75 #[.pointer (some ⟨b, 0, none⟩), .int .i64 2] W fun e w' => e = .returned (.int .i64 (if fr + 2 + 2 ≤ s.size then ((fr + 2 : Nat) : Int) else -1)) ∧ SB w0 b s m v (bytesU 2 s m ⟨8 * (fr + 2), out, 0⟩).2 w' ∧ Mut [b] W w') := Lib.hid fun W hW => by
      have h := rbytes3_any w0 b s m v (8 * (fr + 2)) out 2 (by decide) hs (by omega) W hW
      rw [show (8 * (fr + 2) + 7) / 8 = fr + 2 by omega] at h
      exact h
    have est : storedU s m ⟨t, out, 0⟩ = ((bytesU 2).bind fun o => (failU (decide (le16 [A, C] ^^^ le16 o ≠ 65535)) 11).bind fun b => if b = true then UM.ret () else (longU (le16 [A, C])).bind fun b => if b = true then UM.ret () else (bytesU (le16 [A, C])).bind pushU) s m ⟨8 * (fr + 2), out, 0⟩ := by
      unfold storedU
      simp only [UM.bind, e1]
    rw [est]
    clear est e1
    go_enter Try.func52, Try.ntmps52
    go_wp2_with fail
    refine H1.out.mono ?_
    rintro e w1 ⟨rfl, hsb, hm1⟩
    have HS1 := Lib.hid hsb
    have HM1 := Lib.hid (hm1.mono (T := b :: v.ownBlock.toList) (by simp))
    clear hsb hm1 H1 HSB
    go_wp2_with fail
    refine (H2.out _ HS1.out).mono ?_
    rintro e w2 ⟨rfl, hsb, hm2⟩
    have hMt : Mut (b :: v.ownBlock.toList) w w2 := HM1.out.trans' (hm2.mono (T := b :: v.ownBlock.toList) (by simp))
    have HM2 := Lib.hid hMt
    clear hm2 hMt HM1 HS1 H2
    by_cases hfit2 : fr + 2 + 2 ≤ s.size
    case neg =>
      have e2 : bytesU 2 s m ⟨8 * (fr + 2), out, 0⟩ = ([], ⟨8 * (fr + 2), out, 3⟩) := by
        unfold bytesU
        simp only []
        rw [show (8 * (fr + 2) + 7) / 8 = fr + 2 by omega, if_neg (by simp), if_neg hfit2]
      rw [e2] at hsb
      rw [if_neg hfit2]
      have HS2 := Lib.hid hsb
      have hres : (((bytesU 2).bind fun o => (failU (decide (le16 [A, C] ^^^ le16 o ≠ 65535)) 11).bind fun b => if b = true then UM.ret () else (longU (le16 [A, C])).bind fun b => if b = true then UM.ret () else (bytesU (le16 [A, C])).bind pushU) s m ⟨8 * (fr + 2), out, 0⟩).2 = ⟨8 * (fr + 2), out, 3⟩ := by
        simp only [UM.bind, e2, failU]
        simp [UM.ret]
      have HRES := Lib.hid hres
      clear hsb e2 hres
      go_wp2_with fail
      refine bodyPost_ret (results_none rfl _ _ _) rfl ⟨rfl, v, ?_, HM2.out⟩
      rw [HRES.out]
      exact HS2.out
    case pos =>
      obtain ⟨B, hB⟩ : ∃ B, (s[fr + 2]'(by omega)).toNat = B := ⟨_, rfl⟩
      obtain ⟨E, hE⟩ : ∃ E, (s[fr + 3]'(by omega)).toNat = E := ⟨_, rfl⟩
      have hB2 : B < 256 := by rw [← hB]; exact UInt8.toNat_lt _
      have hE2 : E < 256 := by rw [← hE]; exact UInt8.toNat_lt _
      have e2 : bytesU 2 s m ⟨8 * (fr + 2), out, 0⟩ = ([B, E], ⟨8 * (fr + 4), out, 0⟩) := by
        unfold bytesU
        simp only []
        rw [show (8 * (fr + 2) + 7) / 8 = fr + 2 by omega, if_neg (by simp), if_pos hfit2, two (fr + 2) hfit2, hB]
        simp only [show fr + 2 + 1 = fr + 3 from rfl, hE]
      rw [e2] at hsb
      rw [if_pos hfit2]
      have HS2 := Lib.hid hsb
      have hres : (((bytesU 2).bind fun o => (failU (decide (le16 [A, C] ^^^ le16 o ≠ 65535)) 11).bind fun b => if b = true then UM.ret () else (longU (le16 [A, C])).bind fun b => if b = true then UM.ret () else (bytesU (le16 [A, C])).bind pushU) s m ⟨8 * (fr + 2), out, 0⟩).2 =
          if (A + 256 * C) + (B + 256 * E) ≠ 65535 then ⟨8 * (fr + 4), out, 11⟩ else if m < out.length + (A + 256 * C) then ⟨8 * (fr + 4), out, 2⟩ else ((bytesU (A + 256 * C)).bind pushU s m ⟨8 * (fr + 4), out, 0⟩).2 := by
        have l1 : le16 [A, C] = A + 256 * C := rfl
        have l2 : le16 [B, E] = B + 256 * E := rfl
        have hto := turned_ones A C B E hA2 hC2 hB2 hE2
        by_cases hx : (A + 256 * C) + (B + 256 * E) = 65535
        · have e3 : failU (decide ((A + 256 * C) ^^^ (B + 256 * E) ≠ 65535)) 11 s m ⟨8 * (fr + 4), out, 0⟩ = (false, ⟨8 * (fr + 4), out, 0⟩) := by unfold failU; simp [hto.2 hx]
          rw [if_neg (not_not_intro hx)]
          simp only [UM.bind, e2, l1, l2, e3, Bool.false_eq_true, if_false]
          by_cases hl : m < out.length + (A + 256 * C)
          · have e4 : longU (A + 256 * C) s m ⟨8 * (fr + 4), out, 0⟩ = (true, ⟨8 * (fr + 4), out, 2⟩) := by unfold longU failU; simp [hl]
            rw [if_pos hl]
            simp only [e4, if_true, UM.ret]
          · have e4 : longU (A + 256 * C) s m ⟨8 * (fr + 4), out, 0⟩ = (false, ⟨8 * (fr + 4), out, 0⟩) := by unfold longU failU; simp [hl]
            rw [if_neg hl]
            simp only [e4, Bool.false_eq_true, if_false]
            rfl
        · have hne : ¬ ((A + 256 * C) ^^^ (B + 256 * E) = 65535) := fun h => hx (hto.1 h)
          have e3 : failU (decide ((A + 256 * C) ^^^ (B + 256 * E) ≠ 65535)) 11 s m ⟨8 * (fr + 4), out, 0⟩ = (true, ⟨8 * (fr + 4), out, 11⟩) := by unfold failU; simp [hne]
          rw [if_pos hx]
          simp only [UM.bind, e2, l1, l2, e3, if_true, UM.ret]
      have HRES := Lib.hid hres
      have HTWO := Lib.hid two
      clear hsb e2 hres two
      obtain ⟨c0, c1, c2, c3, c4, f1, f2, f4⟩ := HS2.out.cells
      simp only at c1 c4
      have x0 : ∀ j, (w2.drewN j).cell? ⟨b, 0, none⟩ = some (.string s) := fun j => c0
      obtain ⟨N, hN⟩ : ∃ N, A + 256 * C = N := ⟨_, rfl⟩
      have hNI : (A : Int) + 256 * (C : Int) = (N : Int) := by omega
      have hfs : (fr : Int) + 3 < (s.size : Int) := by omega
      obtain ⟨F1, hF1⟩ : ∃ z, fr + 1 = z := ⟨_, rfl⟩
      obtain ⟨F2, hF2⟩ : ∃ z, fr + 2 = z := ⟨_, rfl⟩
      obtain ⟨F3, hF3⟩ : ∃ z, fr + 3 = z := ⟨_, rfl⟩
      have hwA : ∀ h : fr < s.size, IntKind.i64.wrap ((s[fr]'h).toNat : Int) = (A : Int) := fun h => by rw [hA]; exact IntWalk.i64_in _ (by omega)
      have hwC : ∀ h : F1 < s.size, IntKind.i64.wrap ((s[F1]'h).toNat : Int) = (C : Int) := fun h => by subst hF1; rw [hC]; exact IntWalk.i64_in _ (by omega)
      have hwB : ∀ h : F2 < s.size, IntKind.i64.wrap ((s[F2]'h).toNat : Int) = (B : Int) := fun h => by subst hF2; rw [hB]; exact IntWalk.i64_in _ (by omega)
      have hwE : ∀ h : F3 < s.size, IntKind.i64.wrap ((s[F3]'h).toNat : Int) = (E : Int) := fun h => by subst hF3; rw [hE]; exact IntWalk.i64_in _ (by omega)
      have hr0 : ∀ h : fr < s.size, ((s[fr]'h).toNat : Int) = (A : Int) := fun h => by rw [hA]
      have hr1 : ∀ h : F1 < s.size, ((s[F1]'h).toNat : Int) = (C : Int) := fun h => by subst hF1; rw [hC]
      have hr2 : ∀ h : F2 < s.size, ((s[F2]'h).toNat : Int) = (B : Int) := fun h => by subst hF2; rw [hB]
      have hr3 : ∀ h : F3 < s.size, ((s[F3]'h).toNat : Int) = (E : Int) := fun h => by subst hF3; rw [hE]
      have HB4 := Lib.hid (And.intro hr0 (And.intro hr1 (And.intro hr2 hr3)))
      have hfr0 : (0 : Int) ≤ (fr : Int) := by omega
      have hk0 : (fr : Int) < (s.size : Int) := by omega
      have hk1 : (F1 : Int) < (s.size : Int) := by omega
      have hk2 : (F2 : Int) < (s.size : Int) := by omega
      have hk3 : (F3 : Int) < (s.size : Int) := by omega
      have hF1b : F1 ≤ 1099511627776 := by omega
      have hF3b : F3 ≤ 1099511627776 := by omega
      have hfr1 : (fr : Int) + 1 = (F1 : Int) := by omega
      have hfr3 : (F2 : Int) + 1 = (F3 : Int) := by omega
      have hNb : N ≤ 65535 := by omega
      have HFF := Lib.hid (And.intro hF1 (And.intro hF2 (And.intro hF3 hN)))
      rw [hF2]
      clear hr0 hr1 hr2 hr3 hF1 hF2 hF3 hN hA hC hB hE hfs
      go_wp2_with fail
      go_quiet (fail)
      have HS3 := Lib.hid (HS2.out.mut ((Mut.refl [] w2).drewN nq))
      have HM3 := Lib.hid (HM2.out.drewN nq)
      clear c0 c1 c2 c3 c4 f1 f2 f4 x0 HS2 HM2 hNI
      generalize w2.drewN nq = w3 at *
      obtain ⟨c0, c1, c2, c3, c4, f1, f2, f4⟩ := HS3.out.cells
      simp only at c1 c4
      obtain ⟨M, hM⟩ : ∃ M, N + (B + 256 * E) = M := ⟨_, rfl⟩
      have HMM := Lib.hid hM
      have hM2 : (N : Int) + (B : Int) + 256 * (E : Int) = (M : Int) := by omega
      have hMb : M ≤ 131070 := by omega
      by_cases hx : M = 65535
      case neg =>
        have hMx : ((M : Int) == 65535) = false := by rw [beq_eq_false_iff_ne]; omega
        have hMn : ((M : Int) != 65535) = true := by simp [bne, hMx]
        clear hM
        go_wp2_with fail
        go_quiet (fail)
        have HQ := Lib.hid ((HS3.out.mut ((Mut.refl [] w3).drewN nq)).setEr 11 (er' := 11) rfl)
        have HM4 := Lib.hid ((HM3.out.drewN nq).setCell (p := ⟨b, 4, none⟩) (.inl (by simp)) (.int .i64 11))
        clear c0 c1 c2 c3 hM2
        have hres2 := HRES.out
        have hsum : ¬ (A + 256 * C + (B + 256 * E) = 65535) := by rw [HFF.out.2.2.2, HMM.out]; exact hx
        rw [if_pos hsum] at hres2
        have HRES2 := Lib.hid hres2
        clear hres2 hsum HRES
        go_wp2_with fail
        refine bodyPost_ret (results_none rfl _ _ _) rfl ⟨rfl, v, ?_, HM4.out⟩
        rw [HRES2.out]
        exact HQ.out
      case pos =>
        subst hx
        have hBA : B = 255 - A ∧ E = 255 - C := by have := HFF.out.2.2.2; omega
        have hand1 : ∀ (h : fr < s.size) (h' : F2 < s.size), bits .and .u8 ((s[fr]'h).toNat : Int) ((s[F2]'h').toNat : Int) = 0 := fun h h' => by
          rw [HB4.out.1, HB4.out.2.2.1, hBA.1]
          exact and_turned A hA2
        have hand2 : ∀ (h : F1 < s.size) (h' : F3 < s.size), bits .and .u8 ((s[F1]'h).toNat : Int) ((s[F3]'h').toNat : Int) = 0 := fun h h' => by
          rw [HB4.out.2.1, HB4.out.2.2.2, hBA.2]
          exact and_turned C hC2
        have hM2 : (N : Int) + (B : Int) + 256 * (E : Int) = 65535 := hM2
        have hMn : ((65535 : Int) != 65535) = false := rfl
        clear hBA hM
        go_wp2_with fail
        go_quiet (fail)
        have HS4 := Lib.hid (HS3.out.mut ((Mut.refl [] w3).drewN nq))
        have HM4 := Lib.hid (HM3.out.drewN nq)
        have hres2 := HRES.out
        have hsum : A + 256 * C + (B + 256 * E) = 65535 := by rw [HFF.out.2.2.2, HMM.out]
        rw [if_neg (not_not_intro hsum), HFF.out.2.2.2] at hres2
        have HRES2 := Lib.hid hres2
        clear c0 c1 c2 c3 c4 f1 f2 f4 HS3 HM3 hM2 hMn hand1 hand2 hwA hwB hwC hwE hfr1 hfr3 hres2 hsum HRES HB4 HMM
        generalize w3.drewN nq = w4 at *
        obtain ⟨c0, c1, cv, c3, c4, f1, f2, f4⟩ := HS4.out.cells
        simp only at c1 c4
        have c2 : w4.cell? ⟨b, 2, none⟩ = some (.slice pv out.length qv) := by rw [HVV.out]; exact cv
        clear cv
        have hmo : (out.length : Int) ≤ (m : Int) := by omega
        by_cases hl : m < out.length + N
        · have hlI : (m : Int) - (out.length : Int) < (N : Int) := by omega
          have hlD : decide ((m : Int) - (out.length : Int) < (N : Int)) = true := decide_eq_true hlI
          go_wp2_with fail
          go_quiet (fail)
          have HQ := Lib.hid ((HS4.out.mut ((Mut.refl [] w4).drewN nq)).setEr 2 (er' := 2) rfl)
          have HM5 := Lib.hid ((HM4.out.drewN nq).setCell (p := ⟨b, 4, none⟩) (.inl (by simp)) (.int .i64 2))
          have hres3 := HRES2.out
          rw [if_pos hl] at hres3
          have HRES3 := Lib.hid hres3
          clear c0 c1 c2 c3 hres3 HRES2
          go_wp2_with fail
          refine bodyPost_ret (results_none rfl _ _ _) rfl ⟨rfl, v, ?_, HM5.out⟩
          rw [HRES3.out]
          exact HQ.out
        · have hlI : ¬ (m : Int) - (out.length : Int) < (N : Int) := by omega
          have hlD : decide ((m : Int) - (out.length : Int) < (N : Int)) = false := decide_eq_false hlI
          have hres3 := HRES2.out
          rw [if_neg hl] at hres3
          have HRES3 := Lib.hid hres3
          clear hres3 HRES2
          go_wp2_with fail
          go_quiet (fail)
          have HS5 := Lib.hid (HS4.out.mut ((Mut.refl [] w4).drewN nq))
          have HM5 := Lib.hid (HM4.out.drewN nq)
          clear c0 c1 c2 c3 c4 f1 f2 f4 HS4 HM4
          generalize w4.drewN nq = w5 at *
          have h3 := rbytes3_any w0 b s m v (8 * (fr + 4)) out N hNb hs (by omega) w5 HS5.out
          rw [show (8 * (fr + 4) + 7) / 8 = fr + 4 by omega] at h3
          have H3 := Lib.hid h3
          clear h3
          go_wp2_with fail
          refine H3.out.mono ?_
          rintro e w6 ⟨rfl, hsb, hm6⟩
          have HM6 := Lib.hid (HM5.out.trans' (hm6.mono (T := b :: v.ownBlock.toList) (by simp)))
          clear hm6 H3
          by_cases hfit3 : fr + 4 + N ≤ s.size
          · have e3 : bytesU N s m ⟨8 * (fr + 4), out, 0⟩ = (((bytesOf s).drop (fr + 4)).take N, ⟨8 * (fr + 4 + N), out, 0⟩) := by
              unfold bytesU
              simp only []
              rw [show (8 * (fr + 4) + 7) / 8 = fr + 4 by omega, if_neg (by simp), if_pos hfit3]
            rw [if_pos hfit3]
            rw [e3] at hsb
            have HS6 := Lib.hid hsb
            have HRES4 : Hid (((bytesU N).bind pushU s m ⟨8 * (fr + 4), out, 0⟩).2 = ⟨8 * (fr + 4 + N), out ++ ((bytesOf s).drop (fr + 4)).take N, 0⟩) := Lib.hid (by
              simp only [UM.bind, e3, pushU]
              simp)
            obtain ⟨F4, hF4⟩ : ∃ z, fr + 4 = z := ⟨_, rfl⟩
            rw [hF4]
            have hF4a : (F4 : Int) + (N : Int) ≤ (s.size : Int) := by omega
            have hF40 : (0 : Int) ≤ (F4 : Int) := by omega
            obtain ⟨c0, c1, cv, c3, c4, f1, f2, f4⟩ := HS6.out.cells
            have c2 : w6.cell? ⟨b, 2, none⟩ = some (.slice pv out.length qv) := by rw [HVV.out]; exact cv
            clear cv hsb e3 c1 c3 c4
            go_upto_region 11 with fail
            obtain ⟨F5, hF5⟩ : ∃ z, F4 + N = z := ⟨_, rfl⟩
            have hF5I : (F4 : Int) + (N : Int) = (F5 : Int) := by omega
            have hF5b : F5 ≤ 1099511627776 := by omega
            have hF5a : (F5 : Int) ≤ (s.size : Int) := by omega
            have hF5c : (F4 : Int) ≤ (F5 : Int) := by omega
            have hwF : IntKind.i64.wrap (F5 : Int) = (F5 : Int) := IntWalk.i64_in _ (by omega)
            obtain ⟨X, hX⟩ : ∃ X, s.extract F4 F5 = X := ⟨_, rfl⟩
            have hXz : X.size = N := by rw [← hX, ByteArray.size_extract]; omega
            have hXb : bytesOf X = ((bytesOf s).drop F4).take N := by rw [← hX, bytesOf_extract, List.drop_take]; congr 1; omega
            have HXB := Lib.hid (And.intro hXz hXb)
            have hrow := (HS6.out.mut ((Mut.refl [] w6).drew)).ob.row
            rw [← HVV.out] at hrow
            obtain ⟨i0, hi0, hz0, hz1, hz2⟩ := info_parts info_u8f
            clear hXz hXb
            have d1 : ∀ x : WIn (Mut [] w6), x.w.cell? ⟨b, 2, none⟩ = some (.slice pv out.length qv) := fun x => x.ok.cell c2 (by simp)
            have d2 : ∀ x : WIn (Mut [] w6), x.w.cell? ⟨b, 0, none⟩ = some (.string s) := fun x => x.ok.cell c0 (by simp)
            haveI : Nonempty (WIn (Mut [] w6)) := ⟨⟨w6, Mut.refl _ _⟩⟩
            refine wp_region_mix (fun w' => ∃ x : WIn (Mut [] w6), w' = x.w) 14 0 [0] [1, 2, 3, 4, 5, 6, 7, 8, 9, 10, 11, 12, 13] [14, 15, 16, 17]
              (fun l => l.take 1) (fun l => (l.drop 1).take 13) (fun l => l.drop 14) rfl rfl rfl (by kernel_rfl) (by kernel_rfl) (by kernel_rfl) (by kernel_rfl) (fun _ _ _ _ _ h => h) ⟨⟨w6.drew, (Mut.refl _ _).drew⟩, rfl⟩ ?_
            simp only [List.take_succ_cons, List.take_zero, List.drop_succ_cons, List.drop_zero]
            go_big_quiet_step (fail)
            refine wpQuiet_nil ?_
            repeat (go_big_quiet_step (fail))
            refine wpQuiet_nil ?_
            intro K hK
            refine step_append rfl (.tmp 112) (.tmp 121) 54 9 rfl 5 i0 (.int .u8 0) 1 1 Try.underlying54 hi0 hz0 hz1 hz2 rfl hrow rfl (Src.ofString w6.drew Try.underlying9 X) rfl ?b1 ?b2 ?_
            case b1 => change out.length + X.size ≤ _; rw [HXB.out.1]; unfold maxLen; omega
            case b2 => change (out.length + X.size) * 1 ≤ _; rw [HXB.out.1]; omega
            intro v1 w7 hr7 hg7 hf7
            obtain ⟨ap, ac, rfl⟩ := row_form hr7
            rw [HVV.out] at hg7 hf7
            have hr8 : w7.ownsRow 0 5 1 (.slice ap (out.length + X.size) ac) (out.length + (bytesOf X).length) (uC out ++ uC (bytesOf X)) := by
              have e : uC (bytesOf X) = byteCells X := by simp [uC, bytesOf, byteCells]
              rw [bytesOf_length, e]
              exact hr7
            have HS6d := Lib.hid (HS6.out.mut ((Mut.refl [] w6).drew))
            have hmg : Mut v.ownBlock.toList w6.drew w7 := (Mut.refl _ w6.drew).grown hg7 (fun k hk => .inl (by simp [hk]))
            have hbx7 := hmg.get HS6d.out.bx (fun hx => HS6d.out.ne (by simpa using hx))
            have k2 := cellOf hbx7 2 (x := v) rfl
            have kf := frozenOf hbx7 2
            have HQ := Lib.hid (HS6d.out.setOut hr8 hg7 hf7)
            have HM8 : Hid (Mut (b :: v.ownBlock.toList) w (w7.setCell ⟨b, 2, none⟩ (.slice ap (out.length + X.size) ac))) := Lib.hid (((HM6.out.drew).trans' (hmg.mono (T := b :: v.ownBlock.toList) (fun x hx => .inl (by simp [hx])))).setCell (.inl (by simp)) _)
            clear hrow hi0 hz0 hz1 hz2 c0 c2 f1 f2 f4 hr7 hg7 hf7 hr8 hmg hbx7 HS6 HM6 HS6d hX d1 d2 this
            refine hK _ _ (fun h => absurd h (by decide)) ?_
            clear hK K
            intro K hK
            go_simp
            refine hK _ _ (fun h => absurd h (by decide)) ?_
            clear hK K
            intro K hK
            go_simp
            refine hK _ _ (fun h => absurd h (by decide)) ?_
            clear hK K
            intro K hK
            go_simp
            refine hK _ _ (fun h => absurd h (by decide)) ?_
            clear hK K
            unfold wpMov
            go_wp2_with fail
            go_end0
            refine ⟨rfl, .slice ap (out.length + X.size) ac, ?_, HM8.out⟩
            rw [HRES3.out, HRES4.out, hF4, ← HXB.out.2, ← hF4]
            exact HQ.out
          · have e3 : bytesU N s m ⟨8 * (fr + 4), out, 0⟩ = ([], ⟨8 * (fr + 4), out, 3⟩) := by
              unfold bytesU
              simp only []
              rw [show (8 * (fr + 4) + 7) / 8 = fr + 4 by omega, if_neg (by simp), if_neg hfit3]
            rw [if_neg hfit3]
            rw [e3] at hsb
            have HS6 := Lib.hid hsb
            have HRES4 : Hid (((bytesU N).bind pushU s m ⟨8 * (fr + 4), out, 0⟩).2 = ⟨8 * (fr + 4), out, 3⟩) := Lib.hid (by
              simp only [UM.bind, e3, pushU]
              simp)
            clear hsb e3
            go_wp2_with fail
            go_end0
            refine ⟨rfl, v, ?_, HM6.out⟩
            rw [HRES3.out, HRES4.out]
            exact HS6.out

end Go.Proofs.Ytgjcnembeebjfaa
