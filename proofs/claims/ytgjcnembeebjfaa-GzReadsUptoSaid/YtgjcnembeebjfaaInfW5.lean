/- Walks over package inflate: copied. -/
import Derived.Test.YtgjcnembeebjfaaInfW4
import Derived.Test.YtgjcnembeebjfaaGIn1
namespace Go.Proofs.Ytgjcnembeebjfaa
open Go.RowKit
set_option linter.unusedVariables false

theorem take_lt {n : Nat} {s : ByteArray} {m : Nat} {st st' : US} {x : Nat} (h : takeU n s m st = (x, st')) : x < 2 ^ n ∧ st'.out = st.out ∧ (st'.er = 0 → st.er = 0) := by
  unfold takeU at h
  split at h
  · obtain ⟨rfl, rfl⟩ := Prod.mk.inj h
    exact ⟨Nat.pow_pos (by decide), rfl, fun h => h⟩
  · rename_i he
    split at h
    · obtain ⟨rfl, rfl⟩ := Prod.mk.inj h
      exact ⟨peek_lt _ _ _, rfl, fun _ => by simpa using he⟩
    · obtain ⟨rfl, rfl⟩ := Prod.mk.inj h
      exact ⟨Nat.pow_pos (by decide), rfl, fun h => by simp at h⟩

theorem next_out {ls : List Nat} {s : ByteArray} {m : Nat} {st st' : US} {x : Nat} (h : nextU ls s m st = (x, st')) : st'.out = st.out := by
  unfold nextU at h
  split at h
  · obtain ⟨rfl, rfl⟩ := Prod.mk.inj h; rfl
  · obtain ⟨rfl, rfl⟩ := Prod.mk.inj h; rfl

theorem fail_out {bad : Bool} {k : Nat} {s : ByteArray} {m : Nat} {st st' : US} {x : Bool} (h : failU bad k s m st = (x, st')) : st'.out = st.out ∧ (x = false → st' = st ∧ st.er = 0 ∧ bad = false) := by
  unfold failU at h
  split at h
  · obtain ⟨rfl, rfl⟩ := Prod.mk.inj h
    exact ⟨rfl, fun h => by cases h⟩
  · rename_i he
    split at h
    · obtain ⟨rfl, rfl⟩ := Prod.mk.inj h
      exact ⟨rfl, fun h => by cases h⟩
    · rename_i hb
      obtain ⟨rfl, rfl⟩ := Prod.mk.inj h
      exact ⟨rfl, fun _ => ⟨rfl, by simpa using he, by simpa using hb⟩⟩

theorem tk_inside {n : Nat} {s : ByteArray} {m : Nat} {st st' : US} {x : Nat} (h : takeU n s m st = (x, st')) (ht : st.t ≤ 8 * s.size) : st'.t ≤ 8 * s.size := by
  have := (take_nice n).inside s m st ht
  rwa [h] at this
theorem nx_inside {ls : List Nat} (hg : Good ls) {s : ByteArray} {m : Nat} {st st' : US} {x : Nat} (h : nextU ls s m st = (x, st')) (ht : st.t ≤ 8 * s.size) : st'.t ≤ 8 * s.size := by
  have := (next_nice ls hg).inside s m st ht
  rwa [h] at this

/-- a symbol that is none -/
theorem ucopied_bad (b rb : Nat) (s : ByteArray) (st st' : US) (sym : Int) (dv : Value) (ov : Value) (m : Nat) (w : World) (h : UAt w b rb s ov m st) (hsym : sym < 257 ∨ 285 < sym) (x : Bool) (hu : failU true 5 s m st = (x, st')) :
    Calls Try.prog 92 #[.pointer (some ⟨b, 0, none⟩), .int .i64 sym, dv] w fun e w' => e = .returned (.tuple #[]) ∧ UAt w' b rb s ov m st' ∧ Mut [b, rb] w w' := by
  have hx : x = true := by
    unfold failU at hu
    split at hu
    · exact (Prod.mk.inj hu).1.symm
    · exact (Prod.mk.inj hu).1.symm
  subst hx
  have HL := Lib.hid (length_bad sym w hsym)
  have HF := Lib.hid (ufail_any b rb s st st' true true 5 5 ov m w h rfl (by decide) hu)
  clear h hsym hu
  go_enter Try.func92, Try.ntmps92
  go_wp2_with fail
  refine HL.out.mono ?_
  rintro e w1 ⟨rfl, rfl⟩
  go_wp2_with fail
  refine HF.out.mono ?_
  rintro e w1 ⟨rfl, hu, hm⟩
  have HU := Lib.hid hu
  have HM := Lib.hid hm
  clear hu hm
  go_wp2_with fail
  refine bodyPost_ret (results_none rfl _ _ _) rfl ?_
  exact ⟨rfl, HU.out, HM.out.mono (by simp)⟩

/-- what the reads of the copying statement lean on -/
def CF (b g i : Nat) (ov : Value) (x : Nat) (w' : World) : Prop := w'.cell? ⟨b, 1, none⟩ = some ov ∧ w'.cell? ⟨g, i, none⟩ = some (.int .u8 (x : Int))

theorem next_err {ls : List Nat} {s : ByteArray} {m : Nat} {st st' : US} {x : Nat} (h : nextU ls s m st = (x, st')) (he : st'.er ≠ 0) : x = 0 := by
  unfold nextU at h
  split at h
  · exact (Prod.mk.inj h).1.symm
  · obtain ⟨rfl, rfl⟩ := Prod.mk.inj h
    simp only at he
    unfold nextRes at he ⊢
    simp only at he ⊢
    split at he
    · exact absurd rfl he
    · rename_i h1
      rw [if_neg h1]
      split <;> rfl

/-- what is left of copied, behind its distance -/
def copyRest (len far : Nat) : UM Unit := (farU far).bind fun b => if b = true then UM.ret () else (longU len).bind fun b => if b = true then UM.ret () else copyU far len

theorem copied_cases (sym : Nat) (d : List Nat) (s : ByteArray) (m : Nat) (st st1 st2 : US) (x y : Nat) (h1 : 257 ≤ sym) (h2 : sym ≤ 285) (hx : takeU (lenR sym).2 s m st = (x, st1)) (hy : nextU d s m st1 = (y, st2)) :
    (st2.er ≠ 0 → y = 0 ∧ (copiedU sym d s m st).2 = st2) ∧ (st2.er = 0 → 29 < y → (copiedU sym d s m st).2 = ⟨st2.t, st2.out, 5⟩) ∧
    (y ≤ 29 → ∀ z st3, takeU (distR y).2 s m st2 = (z, st3) → (copiedU sym d s m st).2 = (copyRest ((lenR sym).1 + x) ((distR y).1 + z) s m st3).2) := by
  have e : (copiedU sym d s m st).2 = ((if y ≤ 29 then (takeU (distR y).2).bind fun z => copyRest ((lenR sym).1 + x) ((distR y).1 + z) else (failU true 5).bind fun _ => UM.ret ()) s m st2).2 := by
    unfold copiedU
    rw [if_pos ⟨h1, h2⟩]
    simp only [UM.bind, hx, hy]
    rfl
  rw [e]
  refine ⟨fun he => ?_, fun he hy2 => ?_, fun hy2 z st3 hz => ?_⟩
  · have hy0 := next_err hy he
    subst hy0
    refine ⟨rfl, ?_⟩
    rw [if_pos (by decide)]
    have h3 : takeU (distR 0).2 s m st2 = (0, st2) := by unfold takeU; rw [if_pos he]
    simp only [UM.bind, h3, copyRest]
    have h4 : ∀ far, farU far s m st2 = (true, st2) := by intro far; unfold farU failU; rw [if_pos he]
    rw [h4]
    rfl
  · rw [if_neg (by omega)]
    simp [UM.bind, failU, he, UM.ret]
  · rw [if_pos hy2]
    simp only [UM.bind, hz]

set_option maxHeartbeats 1600000 in
theorem ucopied_good (b rb lo hi tb : Nat) (d : List Nat) (s : ByteArray) (st : US) (sym : Nat) (ov : Value) (m : Nat) (w : World) (h : UAt w b rb s ov m st) (hT : TabOf w lo hi tb b rb d) (hs : s.size ≤ 140737488351232) (ht : st.t ≤ 8 * s.size) (he : st.er = 0)
    (hm : m ≤ 9223372036854775807) (hB : st.out.length ≤ 1099511627776) (hout : st.out.length ≤ m) (h1 : 257 ≤ sym) (h2 : sym ≤ 285) (st' : US) (hu : (copiedU sym d s m st).2 = st') :
    Calls Try.prog 92 #[.pointer (some ⟨b, 0, none⟩), .int .i64 (sym : Int), .pointer (some ⟨tb, 0, none⟩)] w fun e w' => e = .returned (.tuple #[]) ∧ ∃ ov', UAt w' b rb s ov' m st' ∧ UG w w' b rb ov ov' := by
  have hls := lenR_small sym (by omega) h1
  obtain ⟨⟨x, st1⟩, hx⟩ : ∃ p, takeU (lenR sym).2 s m st = p := ⟨_, rfl⟩
  obtain ⟨⟨y, st2⟩, hy⟩ : ∃ p, nextU d s m st1 = p := ⟨_, rfl⟩
  obtain ⟨k1, k2, k3⟩ := copied_cases sym d s m st st1 st2 x y h1 h2 hx hy
  rw [hu] at k1 k2 k3
  have hxl := take_lt hx
  have hyo := next_out hy
  have hp5 : (2 : Nat) ^ (lenR sym).2 ≤ 2 ^ 5 := Nat.pow_le_pow_right (by decide) hls.2
  have ht1 := tk_inside hx ht
  have ht2 := nx_inside hT.good hy ht1
  have HL := Lib.hid (length_good sym w h1 h2)
  obtain ⟨L, hL⟩ : ∃ L, (lenR sym).1 = L := ⟨_, rfl⟩
  obtain ⟨B, hB'⟩ : ∃ B, (lenR sym).2 = B := ⟨_, rfl⟩
  rw [hL, hB'] at HL
  rw [hB'] at hx
  rw [hL] at k3
  rw [hL] at hls
  have hx5 : x < 32 := by omega
  have hout2 : st2.out.length ≤ m := by rw [hyo, hxl.2.1]; exact hout
  have hB2 : st2.out.length ≤ 1099511627776 := by rw [hyo, hxl.2.1]; exact hB
  have HF0 := Lib.hid (ufail_any b rb s st st false false 5 5 ov m w h rfl (by decide) (by unfold failU; rw [if_neg (by simpa using he)]; rfl))
  have HX : Hid (∀ w, UAt w b rb s ov m st → Calls Try.prog 69 #[.pointer (some ⟨b, 0, none⟩), .int .i64 (B : Int)] w fun e w' => e = .returned (.int .i64 (x : Int)) ∧ UAt w' b rb s ov m st1 ∧ Mut [b, rb] w w') :=
    Lib.hid (fun w h => utake_any b rb s st st1 x B B ov m w h hs ht rfl (by omega) hx)
  have HY : Hid (∀ w, UAt w b rb s ov m st1 → TabOf w lo hi tb b rb d → Calls Try.prog 91 #[.pointer (some ⟨b, 0, none⟩), .pointer (some ⟨tb, 0, none⟩)] w fun e w' => e = .returned (.int .i64 (y : Int)) ∧ UAt w' b rb s ov m st2 ∧ Mut [b, rb] w w') :=
    Lib.hid (fun w h hT => unext_any b rb lo hi tb d s st1 st2 y ov m w h hT hs ht1 hy)
  have HT := Lib.hid hT
  have K1 := Lib.hid k1
  have K2 := Lib.hid k2
  have K3 := Lib.hid k3
  have HOV := Lib.hid hyo
  clear h hT hx ht hy k1 k2 k3 hL hB' hxl hp5 hu he hyo hout h1 h2 ht1
  go_enter Try.func92, Try.ntmps92
  go_wp2_with fail
  refine HL.out.mono ?_
  rintro e w1 ⟨rfl, rfl⟩
  go_wp2_with fail
  refine HF0.out.mono ?_
  rintro e w1 ⟨rfl, hu, hm1⟩
  have HU1 := Lib.hid hu
  have HM1 := Lib.hid (hm1.mono (T := [b, rb]) (by simp))
  clear hu hm1
  go_wp2_with fail
  refine (HX.out _ HU1.out).mono ?_
  rintro e w2 ⟨rfl, hu, hm1⟩
  have HU2 := Lib.hid hu
  have HM2 := Lib.hid (HM1.out.trans' hm1)
  clear hu hm1 HU1 HM1
  go_wp2_with fail
  refine (HY.out _ HU2.out (HT.out.mut2 HM2.out)).mono ?_
  rintro e w3 ⟨rfl, hu, hm1⟩
  have HU3 := Lib.hid hu
  have HM3 := Lib.hid (HM2.out.trans' hm1)
  clear hu hm1 HU2 HM2 HX HY HF0 HL
  by_cases he2 : st2.er = 0
  case neg =>
    obtain ⟨e1, e2⟩ := K1.out he2
    subst e1
    have HE := Lib.hid e2
    have HD := Lib.hid (distance_good 0 w3 (by decide))
    have HF := Lib.hid (ufail_any b rb s st2 st2 true false 5 5 ov m w3 HU3.out rfl (by decide) (by unfold failU; rw [if_pos he2]))
    clear e2 K1 K2 K3 HU3
    go_wp2_with fail
    refine HD.out.mono ?_
    rintro e w4 ⟨rfl, rfl⟩
    go_wp2_with fail
    refine HF.out.mono ?_
    rintro e w4 ⟨rfl, hu, hm1⟩
    have HU4 := Lib.hid hu
    have HM4 := Lib.hid (HM3.out.trans' (hm1.mono (by simp)))
    clear hu hm1
    go_wp2_with fail
    refine bodyPost_ret (results_none rfl _ _ _) rfl ⟨rfl, ov, ?_, UG.of HM4.out⟩
    rw [HE.out]
    exact HU4.out
  case pos =>
    by_cases hy29 : 29 < y
    case pos =>
      have HE := Lib.hid (K2.out he2 hy29)
      have HD := Lib.hid (distance_bad y w3 (.inr (by omega)))
      have HF := Lib.hid (ufail_any b rb s st2 ⟨st2.t, st2.out, 5⟩ true true 5 5 ov m w3 HU3.out rfl (by decide) (by unfold failU; rw [if_neg (by simpa using he2)]; rfl))
      clear K1 K2 K3 HU3
      go_wp2_with fail
      refine HD.out.mono ?_
      rintro e w4 ⟨rfl, rfl⟩
      go_wp2_with fail
      refine HF.out.mono ?_
      rintro e w4 ⟨rfl, hu, hm1⟩
      have HU4 := Lib.hid hu
      have HM4 := Lib.hid (HM3.out.trans' (hm1.mono (by simp)))
      clear hu hm1
      go_wp2_with fail
      refine bodyPost_ret (results_none rfl _ _ _) rfl ⟨rfl, ov, ?_, UG.of HM4.out⟩
      rw [HE.out]
      exact HU4.out
    case neg =>
      have hd := distR_small y (by omega)
      obtain ⟨⟨z, st3⟩, hz⟩ : ∃ p, takeU (distR y).2 s m st2 = p := ⟨_, rfl⟩
      have k3 := K3.out (by omega) z st3 hz
      have hzl := take_lt hz
      have hp14 : (2 : Nat) ^ (distR y).2 ≤ 2 ^ 14 := Nat.pow_le_pow_right (by decide) hd.2
      have ht3 := tk_inside hz ht2
      have HD := Lib.hid (distance_good y w3 (by omega))
      have hd1 : 1 ≤ (distR y).1 := by unfold distR; split <;> simp
      obtain ⟨D, hD⟩ : ∃ D, (distR y).1 = D := ⟨_, rfl⟩
      obtain ⟨C, hC⟩ : ∃ C, (distR y).2 = C := ⟨_, rfl⟩
      rw [hD, hC] at HD
      rw [hC] at hz
      rw [hD] at k3 hd hd1
      have hz14 : z < 16384 := by omega
      have hout3 : st3.out.length ≤ m := by rw [hzl.2.1]; exact hout2
      have hB3 : st3.out.length ≤ 1099511627776 := by rw [hzl.2.1]; exact hB2
      have HF := Lib.hid (ufail_any b rb s st2 st2 false false 5 5 ov m w3 HU3.out rfl (by decide) (by unfold failU; rw [if_neg (by simpa using he2)]; rfl))
      have HZ : Hid (∀ w, UAt w b rb s ov m st2 → Calls Try.prog 69 #[.pointer (some ⟨b, 0, none⟩), .int .i64 (C : Int)] w fun e w' => e = .returned (.int .i64 (z : Int)) ∧ UAt w' b rb s ov m st3 ∧ Mut [b, rb] w w') :=
        Lib.hid (fun w h => utake_any b rb s st2 st3 z C C ov m w h hs ht2 rfl (by omega) hz)
      have K := Lib.hid k3
      clear K1 K2 K3 HU3 k3 hz hzl hp14 hD hC he2 hout2 hy29 ht2
      go_wp2_with fail
      refine HD.out.mono ?_
      rintro e w4 ⟨rfl, rfl⟩
      go_wp2_with fail
      refine HF.out.mono ?_
      rintro e w4 ⟨rfl, hu, hm1⟩
      have HU4 := Lib.hid hu
      have HM4 := Lib.hid (HM3.out.trans' (hm1.mono (by simp)))
      clear hu hm1 HD HF HM3
      go_wp2_with fail
      refine (HZ.out _ HU4.out).mono ?_
      rintro e w5 ⟨rfl, hu, hm1⟩
      have HU5 := Lib.hid hu
      have HM5 := Lib.hid (HM4.out.trans' hm1)
      clear hu hm1 HU4 HM4 HZ
      go_wp2_with fail
      obtain ⟨F, hF⟩ : ∃ F, D + z = F := ⟨_, rfl⟩
      obtain ⟨N, hN⟩ : ∃ N, L + x = N := ⟨_, rfl⟩
      have hFI : (D : Int) + (z : Int) = (F : Int) := by omega
      have hNI : (L : Int) + (x : Int) = (N : Int) := by omega
      have hF1 : 1 ≤ F ∧ F ≤ 65536 := by omega
      have hN1 : N ≤ 65536 := by omega
      have K2 := K.out
      rw [hF, hN] at K2
      have K := Lib.hid K2
      rw [hFI, hNI]
      clear hFI hNI hF hN K2 hls hx5 hd hd1 hz14 HOV
      obtain ⟨ao, cap, rfl⟩ := row_form HU5.out.row
      obtain ⟨c0, c1, c2, c3, f1, f3⟩ := cells4 HU5.out.box
      have HUq : Hid (∀ q, UAt (w5.drewN q) b rb s (.slice ao st3.out.length cap) m st3) := Lib.hid fun q => HU5.out.mut ((Mut.refl [] w5).drewN q) (by simp) (by simp) (by simp)
      obtain ⟨⟨bf, st4⟩, hf4⟩ : ∃ p, failU (decide (st3.out.length < F)) 9 s m st3 = p := ⟨_, rfl⟩
      obtain ⟨⟨bl, st5⟩, hf5⟩ : ∃ p, failU (decide (m < st3.out.length + N)) 2 s m st4 = p := ⟨_, rfl⟩
      by_cases hbf : bf = true
      case pos =>
        subst hbf
        have HE : Hid (st' = st4) := Lib.hid (by rw [K.out]; unfold copyRest; simp only [UM.bind]; unfold farU; rw [hf4]; rfl)
        have HFA : Hid (∀ q, Calls Try.prog 90 #[.pointer (some ⟨b, 0, none⟩), .bool (decide (st3.out.length < F)), .int .i64 9] (w5.drewN q) fun e w' => e = .returned (.bool true) ∧ UAt w' b rb s (.slice ao st3.out.length cap) m st4 ∧ Mut [b] (w5.drewN q) w') :=
          Lib.hid (fun q => ufail_any b rb s st3 st4 true _ 9 9 _ m _ (HUq.out q) rfl (fun _ => by decide) hf4)
        clear hf4 hf5 K HUq
        by_cases hb : st3.out.length < F
        all_goals
          first | (have hbD := decide_eq_true hb; rw [hbD] at HFA) | (have hbD := decide_eq_false hb; rw [hbD] at HFA)
          go_wp2_with fail
          refine wp_region_bar 8 _ rfl (by kernel_rfl) (by kernel_rfl) ?_
          simp only [List.take_succ_cons, List.take_zero, List.drop_succ_cons, List.drop_zero]
          repeat (go_big_quiet_step (fail))
          refine wpQuiet_nil ?_
          rintro _ ⟨nq, rfl⟩ K hK
          go_simp
          go_at_call 90
          refine (HFA.out _).mono ?_
          rintro e w6 ⟨rfl, hu, hm1⟩
          have HU := Lib.hid hu
          have HM := Lib.hid hm1
          clear hu hm1
          go_simp
          refine hK _ _ ?_; clear hK K
          repeat (go_big_quiet_step (fail))
          refine wpQuiet_nil ?_
          rintro _ ⟨nq2, rfl⟩
          go_wp2_with fail
          refine bodyPost_ret (results_none rfl _ _ _) rfl ⟨rfl, _, ?_, UG.of ?_⟩
          · rw [HE.out]
            exact HU.out.mut ((Mut.refl [] w6).drewN nq2) (by simp) (by simp) (by simp)
          · exact ((HM5.out.drewN nq).trans' (HM.out.mono (by simp))).drewN nq2
      case neg =>
        have hbf : bf = false := by simpa using hbf
        subst hbf
        obtain ⟨e4, he3, hfar⟩ := (fail_out hf4).2 rfl
        subst e4
        have hfarN : ¬ st4.out.length < F := by simpa using hfar
        have hfarD : decide (st4.out.length < F) = false := decide_eq_false hfarN
        have HFN : Hid (∀ (k : Int) q, Calls Try.prog 90 #[.pointer (some ⟨b, 0, none⟩), .bool false, .int .i64 k] (w5.drewN q) fun e w' => e = .returned (.bool false) ∧ w' = w5.drewN q) := by
          refine Lib.hid fun k q => ?_
          have hq := HUq.out q
          obtain ⟨t4, o4, er4⟩ := st4
          simp only at he3
          subst he3
          exact (ufail_no b rb s t4 _ o4 m k _ hq).mono fun e w' ⟨h1, h2⟩ => ⟨h1, h2.symm⟩
        by_cases hbl : bl = true
        case pos =>
          subst hbl
          have HE : Hid (st' = st5) := Lib.hid (by rw [K.out]; unfold copyRest; simp only [UM.bind]; unfold farU; rw [hf4]; simp only [Bool.false_eq_true, if_false]; show ((if (longU N s m st4).1 = true then UM.ret () else copyU F N) s m (longU N s m st4).2).2 = _; unfold longU; rw [hf5]; rfl)
          have hlong : m < st4.out.length + N := by
            apply Classical.byContradiction
            intro h
            unfold failU at hf5
            rw [if_neg (by simpa using he3), decide_eq_false h] at hf5
            simp at hf5
          have HFA : Hid (∀ q, Calls Try.prog 90 #[.pointer (some ⟨b, 0, none⟩), .bool true, .int .i64 2] (w5.drewN q) fun e w' => e = .returned (.bool true) ∧ UAt w' b rb s (.slice ao st4.out.length cap) m st5 ∧ Mut [b] (w5.drewN q) w') := by
            rw [decide_eq_true hlong] at hf5
            exact Lib.hid (fun q => ufail_any b rb s st4 st5 true _ 2 2 _ m _ (HUq.out q) rfl (fun _ => by decide) hf5)
          have hlD : decide ((m : Int) - (st4.out.length : Int) < (N : Int)) = true := decide_eq_true (by omega)
          clear hf4 hf5 K HUq hlong hfar hfarN he3
          go_wp2_with fail
          refine wp_region_bar 23 _ rfl (by kernel_rfl) (by kernel_rfl) ?_
          simp only [List.take_succ_cons, List.take_zero, List.drop_succ_cons, List.drop_zero]
          repeat (go_big_quiet_step ((go_at_call 90; exact (HFN.out _ _).mono fun e w'' ⟨he, hw⟩ => ⟨he, _, hw⟩)))
          refine wpQuiet_nil ?_
          rintro _ ⟨nq, rfl⟩ K hK
          go_simp
          go_at_call 90
          refine (HFA.out _).mono ?_
          rintro e w6 ⟨rfl, hu, hm1⟩
          have HU := Lib.hid hu
          have HM := Lib.hid hm1
          clear hu hm1
          go_simp
          refine hK _ _ ?_; clear hK K
          repeat (go_big_quiet_step (fail))
          refine wpQuiet_nil ?_
          rintro _ ⟨nq2, rfl⟩
          go_wp2_with fail
          refine bodyPost_ret (results_none rfl _ _ _) rfl ⟨rfl, _, ?_, UG.of ?_⟩
          · rw [HE.out]
            exact HU.out.mut ((Mut.refl [] w6).drewN nq2) (by simp) (by simp) (by simp)
          · exact ((HM5.out.drewN nq).trans' (HM.out.mono (by simp))).drewN nq2
        case neg =>
          have hbl : bl = false := by simpa using hbl
          subst hbl
          obtain ⟨e5, _, hlong⟩ := (fail_out hf5).2 rfl
          subst e5
          have hlongN : ¬ m < st5.out.length + N := by simpa using hlong
          have HE : Hid (st' = ⟨st5.t, copyN st5.out F N, 0⟩) := Lib.hid (by rw [K.out]; unfold copyRest; simp only [UM.bind]; unfold farU; rw [hf4]; simp only [Bool.false_eq_true, if_false]; show ((if (longU N s m st5).1 = true then UM.ret () else copyU F N) s m (longU N s m st5).2).2 = _; unfold longU; rw [hf5]; show (copyU F N s m st5).2 = _; unfold copyU; rw [if_neg (by rw [he3]; decide)])
          have hlD : decide ((m : Int) - (st5.out.length : Int) < (N : Int)) = false := decide_eq_false (by omega)
          have HLO := Lib.hid hlongN
          obtain ⟨t5, o5, er5⟩ := st5
          simp only at he3 hB3
          subst he3
          clear hf4 hf5 K hfar hlong hlongN
          go_wp2_with fail
          go_quiet ((go_at_call 90; exact (HFN.out _ _).mono fun e w'' ⟨he, hw⟩ => ⟨he, _, hw⟩))
          have HUA : Hid (UIs (w5.drewN nq) b rb s t5 (.slice ao o5.length cap) o5 m 0 ∧ Mut [b, rb] w (w5.drewN nq)) := Lib.hid ⟨HUq.out nq, HM5.out.drewN nq⟩
          generalize w5.drewN nq = wA at *
          clear HU5 HUq HFN K c0 c1 c2 c3 f1 f3 hfarD hlD HM5 hbf hbl
          have HU0 : Hid (∃ ov', UIs wA b rb s t5 ov' (copyN o5 F 0) m 0 ∧ UG wA wA b rb (.slice ao o5.length cap) ov') := Lib.hid ⟨_, HUA.out.1, UG.of (Mut.refl _ _)⟩
          go_wp2_with fail
          go_loopw [68] (fun c wx => ∃ k : Nat, c = .int .i64 (k : Int) ∧ k ≤ N ∧ Hid (∃ ov', UIs wx b rb s t5 ov' (copyN o5 F k) m 0 ∧ UG wA wx b rb (.slice ao o5.length cap) ov')) (fun c _ => N - (intOf c).toNat)
          case atStart => exact ⟨0, rfl, by omega, HU0⟩
          case round =>
            obtain ⟨k, rfl, hk, HR⟩ := hrel
            by_cases hlt : k < N
            · obtain ⟨ov', hU, hG⟩ := HR.out
              have HGR := Lib.hid hG
              obtain ⟨lx, hcl, hcl2⟩ := copyN_len o5 F k
              have hclen : (copyN o5 F k).length = o5.length + k := by rw [hcl, List.length_append, hcl2]
              obtain ⟨X, hX⟩ : ∃ X, copyN o5 F k = X := ⟨_, rfl⟩
              have hNext : copyN o5 F (k + 1) = X ++ [X.getD (X.length - F) 0] := by rw [copyN, hX]
              rw [hX] at hU hclen
              obtain ⟨z, hzN⟩ : ∃ z, X.getD (X.length - F) 0 = z := ⟨_, rfl⟩
              obtain ⟨i, hi⟩ : ∃ i, X.length - F = i := ⟨_, rfl⟩
              have hiX : i < X.length := by omega
              have hz : X.getD i 0 = z := by rw [← hi]; exact hzN
              rw [hzN] at hNext
              have HNX := Lib.hid hNext
              obtain ⟨g, cap', rfl, hgs, hcap⟩ := row_some hU.row (by omega)
              have hcell : wr.cell? ⟨g, i, none⟩ = some (.int .u8 (z : Int)) := by
                rw [hU.row.cellAt i (by omega), ← hz]
                simp [List.getD, hiX]
              have hiI : (X.length : Int) - (F : Int) = (i : Int) := by omega
              have hl0 : 0 ≤ (X.length : Int) := by omega
              obtain ⟨c0, c1, c2, c3, f1, f3⟩ := cellsU hU.box
              have HU := Lib.hid hU
              have hlen : X.length < 1099511693313 := by omega
              have HCL := Lib.hid hclen
              have HI := Lib.hid hi
              have hd1 : ∀ v : WIn (CF b g i (.slice (some ⟨g, 0, none⟩) X.length cap') z), v.w.cell? ⟨b, 1, none⟩ = some (.slice (some ⟨g, 0, none⟩) X.length cap') := fun v => v.ok.1
              have hd2 : ∀ v : WIn (CF b g i (.slice (some ⟨g, 0, none⟩) X.length cap') z), v.w.cell? ⟨g, i, none⟩ = some (.int .u8 (z : Int)) := fun v => v.ok.2
              clear hU hG hcl hcl2 hX hzN hz hNext hclen hi
              haveI : Nonempty (WIn (CF b g i (.slice (some ⟨g, 0, none⟩) X.length cap') z)) := ⟨⟨wr, c1, hcell⟩⟩
              go_wp2_with fail
              refine wp_region_mix (fun w' => ∃ v : WIn (CF b g i (.slice (some ⟨g, 0, none⟩) X.length cap') z), w' = v.w) 19 1 [0] [1, 2, 3, 4, 5, 6, 7, 8, 9, 10, 11, 12, 13, 14, 15, 16, 17] [18, 19, 20, 21, 22]
                (fun l => l.take 1) (fun l => (l.drop 1).take 17) (fun l => l.drop 18) rfl rfl rfl (by kernel_rfl) (by kernel_rfl) (by kernel_rfl) (by kernel_rfl) (fun _ _ _ _ _ h => h) ⟨⟨wr.drew, c1, hcell⟩, rfl⟩ ?_
              simp only [List.take_succ_cons, List.take_zero, List.drop_succ_cons, List.drop_zero]
              go_big_quiet_step (fail)
              refine wpQuiet_nil ?_
              repeat (go_big_quiet_step (fail))
              refine wpQuiet_nil ?_
              intro K hK
              go_simp
              have hm0 : Mut [] wr (wr.drew.alloc (.cells #[.int .u8 (z : Int)] 5 (0, 0))) := ((Mut.refl [] wr).drew).alloc _
              have hnew : (wr.drew.alloc (.cells #[.int .u8 (z : Int)] 5 (0, 0))).heap[wr.heap.size]? = some (.cells #[.int .u8 (z : Int)] 5 (0, 0)) := heap_alloc_new wr.drew _
              have hUa : UIs (wr.drew.alloc (.cells #[.int .u8 (z : Int)] 5 (0, 0))) b rb s t5 (.slice (some ⟨g, 0, none⟩) X.length cap') X m 0 := HU.out.mut hm0 (by simp) (by simp) (by simp)
              refine hK _ _ (fun _ => ⟨⟨_, hm0.cell c1 (by simp), hm0.cell hcell (by simp)⟩, rfl⟩) ?_
              clear hK K hcell hd1 hd2 this c0 c1 c2 c3 f1 f3
              intro K hK
              obtain ⟨i0, hi, hz0, hz1, hz2⟩ := info_parts info_u8r
              refine step_append rfl (.tmp 74) (.tmp 88) 54 54 rfl 5 i0 (.int .u8 0) 1 1 Try.underlying54 hi hz0 hz1 hz2 rfl hUa.row rfl (src1 Try.underlying54 hnew rfl (one1 rfl)) rfl (by unfold maxLen; omega) (by omega) ?_
              intro v' w' r1 r2 r3
              have hap := hUa.appended v' [z] 1 rfl r1 r2
              have hb5 : w'.heap[b]? = _ := ((Mut.refl (Value.slice (some ⟨g, 0, none⟩) X.length cap').ownBlock.toList _).grown r2 (by intro g hg; simp [hg])).get hUa.box (by simpa using hUa.ne.2.1)
              obtain ⟨ap, ac, rfl⟩ := row_form r1
              have HAP := Lib.hid hap
              have HFR := Lib.hid r3
              have HM0 := Lib.hid hm0
              clear r1 r2 r3 hap hm0 hnew hUa hi hz0 hz1 hz2
              obtain ⟨c0, c1, c2, c3, f1, f3⟩ := cellsU hb5
              clear hb5
              refine hK _ _ (fun h => absurd h (by decide)) ?_
              clear hK K
              intro K hK
              go_simp
              refine hK _ _ (fun h => absurd h (by decide)) ?_
              clear hK K
              intro K hK
              go_simp
              refine hK _ _ (fun h => absurd h (by decide)) ?_
              clear hK K
              intro K hK
              go_simp
              refine hK _ _ (fun h => absurd h (by decide)) ?_
              clear hK K
              unfold wpMov
              go_wp2_with fail
              refine ⟨⟨k + 1, by rw [Int.natCast_add]; rfl, by omega, Lib.hid ⟨_, by rw [HNX.out]; exact HAP.out.1, HGR.out.trans ⟨?_, fun g' hg' => ?_⟩⟩⟩, by simp only [intOf]; omega⟩
              · refine (HM0.out.mono (by simp)).trans' (HAP.out.2.mono (fun y hy => .inl ?_))
                simp only [List.mem_cons] at hy ⊢
                rcases hy with h | h
                · exact .inl h
                · exact .inr (.inr h)
              · rcases HFR.out g' hg' with h | h
                · exact .inl h
                · exact .inr (Nat.le_trans HM0.out.size h)
            · obtain rfl : k = N := by omega
              obtain ⟨ov', hU, hG⟩ := HR.out
              go_wp2_with fail
              go_end0
              refine ⟨rfl, ov', ?_, (UG.of HUA.out.2).trans hG⟩
              rw [HE.out]
              exact hU

end Go.Proofs.Ytgjcnembeebjfaa
