/- Walk over package squeeze: which symbols tokens use. -/
import Derived.Test.YtgjcnembeebjfaaGSzb
import Derived.Test.YtgjcnembeebjfaaGPlain
import Derived.Test.YtgjcnembeebjfaaGTok
import Derived.Test.YtgjcnembeebjfaaGBo
import Derived.Deep.DeepCutAuto
namespace Go.Proofs.Ytgjcnembeebjfaa
open Go.RowKit
set_option linter.unusedVariables false

theorem numOf_set (b : List Bool) (j : Nat) (h : j < b.length) : numOf (b.set j true) = numOf b + if b.getD j false = true then 0 else 1 := by
  unfold numOf
  rw [List.count_set (by omega)]
  have e : b.getD j false = b[j] := by simp [List.getD, h]
  rw [e]
  by_cases hb : b[j] = true
  · have : 0 < List.count true b := List.count_pos_iff.2 (hb ▸ List.getElem_mem h)
    simp [hb]
    omega
  · have hb' : b[j] = false := by simpa using hb
    simp [hb']

/-- where the loop over the tokens is -/
structure UsS (w0 wx : World) (ga gb : Nat) (A B : List Bool) (v : Value) (T : List Tok) : Prop where
  a : BoAt w0 wx ga 286 A
  b : BoAt w0 wx gb 30 B
  ne : ga ≠ gb
  row : TRow 146 wx v T

theorem UsS.mut {w0 wx wy : World} {ga gb : Nat} {A B : List Bool} {v : Value} {T : List Tok} (h : UsS w0 wx ga gb A B v T) (m : Mut [] wx wy) : UsS w0 wy ga gb A B v T :=
  ⟨h.a.mut m, h.b.mut m, h.ne, h.row.mut m (by simp)⟩

theorem BoAt.blk {w0 wx : World} {g n : Nat} {L : List Bool} (h : BoAt w0 wx g n L) : ∃ c, wx.heap[g]? = some (.cells c 4 (0, 0)) := by
  rcases h.row.2 with ⟨h1, _⟩ | ⟨g', cap, cur, h1, _, hh, _⟩
  · cases h1
  · cases h1
    exact ⟨cur, hh⟩

theorem TRow.set {e : TypeId} {w : World} {v : Value} {T : List Tok} (h : TRow e w v T) {g : Nat} {c : Array Value} {t : TypeId} {fr : Nat × Nat} (hg : w.heap[g]? = some (.cells c t fr)) (hne : e ≠ t) (i : Nat) (u : Value) : TRow e (w.setCell ⟨g, i, none⟩ u) v T :=
  row_set_ne h (fun g' hg' e' => row_ne h hg hne (by rw [← e']; exact hg')) u

theorem UsS.setA {w0 wx : World} {ga gb : Nat} {A B : List Bool} {v : Value} {T : List Tok} (h : UsS w0 wx ga gb A B v T) (i : Nat) : UsS w0 (wx.setCell ⟨ga, i, none⟩ (.bool true)) ga gb (A.set i true) B v T := by
  obtain ⟨c, hc⟩ := h.a.blk
  refine ⟨h.a.set i true, ⟨row_set_ne h.b.row (fun g hg e => ?_) _, (h.b.kept).setCell (.inr h.a.fresh) _, h.b.fresh⟩, h.ne, h.row.set hc (by decide) i _⟩
  simp [Value.ownBlock] at hg
  exact h.ne (by omega)
theorem UsS.setB {w0 wx : World} {ga gb : Nat} {A B : List Bool} {v : Value} {T : List Tok} (h : UsS w0 wx ga gb A B v T) (i : Nat) : UsS w0 (wx.setCell ⟨gb, i, none⟩ (.bool true)) ga gb A (B.set i true) v T := by
  obtain ⟨c, hc⟩ := h.b.blk
  refine ⟨⟨row_set_ne h.a.row (fun g hg e => ?_) _, (h.a.kept).setCell (.inr h.b.fresh) _, h.a.fresh⟩, h.b.set i true, h.ne, h.row.set hc (by decide) i _⟩
  simp [Value.ownBlock] at hg
  exact h.ne (by omega)

theorem us_start1 {w : World} {v : Value} {T : List Tok} {Z1 Z2 : Array Value} (h1 : madeCells (Value.bool false).cells 286 = Z1) (h2 : madeCells (Value.bool false).cells 30 = Z2) (hv : TRow 146 w v T) :
    UsS w ((w.alloc (.cells Z1 4)).alloc (.cells Z2 4)).drew w.heap.size (w.heap.size + 1) (List.replicate 286 false) (List.replicate 30 false) v T := by
  have m1 : Mut [] w (w.alloc (.cells Z1 4)) := (Mut.refl [] w).alloc _
  have m2 : Mut [] (w.alloc (.cells Z1 4)) ((w.alloc (.cells Z1 4)).alloc (.cells Z2 4)).drew := ((Mut.refl [] _).alloc _).drew
  have a := (BoAt.start w w 286 (by decide) (Mut.refl _ _) Z1 h1).mut m2
  have b := (BoAt.start w (w.alloc (.cells Z1 4)) 30 (by decide) m1 Z2 h2).mut (Mut.refl [] ((w.alloc (.cells Z1 4)).alloc (.cells Z2 4))).drew
  rw [show (w.alloc (.cells Z1 4)).heap.size = w.heap.size + 1 by simp] at b
  exact ⟨a, b, by omega, hv.mut (m1.trans' m2) (by simp)⟩
theorem us_start2 {w : World} {v : Value} {T : List Tok} {Z1 Z2 : Array Value} (h1 : madeCells (Value.bool false).cells 286 = Z1) (h2 : madeCells (Value.bool false).cells 30 = Z2) (hv : TRow 146 w v T) :
    UsS w ((w.alloc (.cells Z2 4)).alloc (.cells Z1 4)).drew (w.heap.size + 1) w.heap.size (List.replicate 286 false) (List.replicate 30 false) v T := by
  have m1 : Mut [] w (w.alloc (.cells Z2 4)) := (Mut.refl [] w).alloc _
  have m2 : Mut [] (w.alloc (.cells Z2 4)) ((w.alloc (.cells Z2 4)).alloc (.cells Z1 4)).drew := ((Mut.refl [] _).alloc _).drew
  have b := (BoAt.start w w 30 (by decide) (Mut.refl _ _) Z2 h2).mut m2
  have a := (BoAt.start w (w.alloc (.cells Z2 4)) 286 (by decide) m1 Z1 h1).mut (Mut.refl [] ((w.alloc (.cells Z2 4)).alloc (.cells Z1 4))).drew
  rw [show (w.alloc (.cells Z2 4)).heap.size = w.heap.size + 1 by simp] at a
  exact ⟨a, b, by omega, hv.mut (m1.trans' m2) (by simp)⟩

set_option maxHeartbeats 3200000 in
set_option maxRecDepth 100000 in
theorem used_any (T : List Tok) {R : Nat} (hR : R ≤ 32768) (hT : ∀ x ∈ T, ∃ o, tokOk R o x) (hTl : T.length ≤ 1073741824) {w : World} {v : Value} (hv : TRow 146 w v T) :
    Calls Try.prog 86 #[v] w fun e w' => ∃ va vb, e = .returned (.tuple #[va, vb]) ∧ BoRow w' va (useL T) ∧ BoRow w' vb (useE (useD T)) ∧ Mut [] w w' := by
  obtain ⟨pv, cv, rfl⟩ := hv.form
  obtain ⟨Z1, hZ1⟩ : ∃ Z, madeCells (Value.bool false).cells 286 = Z := ⟨_, rfl⟩
  obtain ⟨Z2, hZ2⟩ : ∃ Z, madeCells (Value.bool false).cells 30 = Z := ⟨_, rfl⟩
  have HT := Lib.hid hT
  have HV := Lib.hid hv
  clear hT hv
  go_enter Try.func86, Try.ntmps86
  go_upto_region 1 with fail
  go_cut [4, 5] (fun x y wx => ∃ ga gb, x = .slice (some ⟨ga, 0, none⟩) 286 286 ∧ y = .slice (some ⟨gb, 0, none⟩) 30 30 ∧ Hid (UsS w wx ga gb (List.replicate 286 false) (List.replicate 30 false) (.slice pv T.length cv) T))
  case first =>
    have hmk1 := run_make_bool 286 (by decide) Z1 hZ1 286 rfl
    have hmk2 := run_make_bool 30 (by decide) Z2 hZ2 30 rfl
    go_region
    · go_wp2_with fail
      go_meet
      exact ⟨_, _, rfl, rfl, Lib.hid (us_start1 hZ1 hZ2 HV.out)⟩
    · go_wp2_with fail
      go_meet
      exact ⟨_, _, rfl, rfl, Lib.hid (us_start2 hZ1 hZ2 HV.out)⟩
  case rest =>
    obtain ⟨ga, gb, rfl, rfl, HS⟩ := hcut
    have HS1 := Lib.hid (HS.out.setA 256)
    obtain ⟨c1, f1⟩ := HS.out.a.cell 256 (by decide)
    clear HS HV hZ1 hZ2
    go_wp2_with fail
    go_loopw [21, 6] (fun c n wx => ∃ i : Nat, c = .int .i64 (i : Int) ∧ i ≤ T.length ∧ n = .int .i64 (numOf (useD (T.take i)) : Nat) ∧ Hid (UsS w wx ga gb (useL (T.take i)) (useD (T.take i)) (.slice pv T.length cv) T)) (fun c _ _ => T.length - (intOf c).toNat)
    case atStart => exact ⟨0, rfl, Nat.zero_le _, rfl, HS1⟩
    case round =>
      obtain ⟨i, rfl, hi, rfl, HR⟩ := hrel
      clear HS1 c1 f1
      have hnb : numOf (useD (T.take i)) ≤ 30 := by
        have := List.count_le_length (a := true) (l := useD (T.take i))
        rw [useD_len] at this
        exact this
      by_cases hlt : i < T.length
      case neg =>
        have hiT : i = T.length := by omega
        subst hiT
        rw [List.take_length] at HR hnb ⊢
        have hnI : ¬ (T.length : Int) < (T.length : Int) := by omega
        have lb := useD_len T
        obtain ⟨N, hN⟩ : ∃ N, numOf (useD T) = N := ⟨_, rfl⟩
        rw [hN] at hnb ⊢
        have hE : useE (useD T) = if N < 2 then ((useD T).set 0 true).set 1 true else useD T := by unfold useE; rw [hN]
        have HEE := Lib.hid hE
        clear hN hE hlt hi
        by_cases h2 : N < 2
        · have h2I : (N : Int) < 2 := by omega
          have hS1 := HR.out.setB 0
          have hS2 := hS1.setB 1
          obtain ⟨e0, f0⟩ := HR.out.b.cell 0 (by decide)
          obtain ⟨e1, f1⟩ := HR.out.b.cell 1 (by decide)
          have HS2 := Lib.hid hS2
          have HE2 : Hid (useE (useD T) = ((useD T).set 0 true).set 1 true) := Lib.hid (by rw [HEE.out, if_pos h2])
          clear hS1 hS2 HR h2 HEE
          go_wp2_with fail
          exact bodyPost_ret (results_tmp2 rfl _ _ _) rfl ⟨.slice (some ⟨ga, 0, none⟩) 286 286, .slice (some ⟨gb, 0, none⟩) 30 30, rfl, HS2.out.a.row', by rw [HE2.out]; exact HS2.out.b.row', HS2.out.a.kept⟩
        · have h2I : ¬ (N : Int) < 2 := by omega
          have HE2 : Hid (useE (useD T) = useD T) := Lib.hid (by rw [HEE.out, if_neg h2])
          clear h2 HEE
          go_wp2_with fail
          exact bodyPost_ret (results_tmp2 rfl _ _ _) rfl ⟨.slice (some ⟨ga, 0, none⟩) 286 286, .slice (some ⟨gb, 0, none⟩) 30 30, rfl, HR.out.a.row', by rw [HE2.out]; exact HR.out.b.row', HR.out.a.kept⟩
      case pos =>
        have hltI : (i : Int) < (T.length : Int) := by omega
        obtain ⟨o, ho⟩ := HT.out T[i] (List.getElem_mem hlt)
        have hL : useL (T.take (i + 1)) = useL1 (useL (T.take i)) T[i] := by
          unfold useL
          rw [List.take_succ_eq_append_getElem hlt, List.foldl_append]
          rfl
        have hD : useD (T.take (i + 1)) = useD1 (useD (T.take i)) T[i] := by
          unfold useD
          rw [List.take_succ_eq_append_getElem hlt, List.foldl_append]
          rfl
        have la := useL_len (T.take i)
        have lb := useD_len (T.take i)
        obtain ⟨g1, c1', e1, -, -⟩ := row_some HR.out.row (by omega)
        simp only [Value.slice.injEq] at e1
        obtain ⟨rfl, -, rfl⟩ := e1
        obtain ⟨d0, d1, d2⟩ := HR.out.row.cells i hlt
        obtain ⟨⟨X1, X2, X3⟩, hX⟩ : ∃ x, T[i] = x := ⟨_, rfl⟩
        rw [hX, Nat.mul_comm] at d0 d1 d2
        rw [hX] at ho hL hD
        dsimp only at d0 d1 d2
        generalize useL (T.take i) = A at *
        generalize useD (T.take i) = B at *
        have HR2 := Lib.hid (HR.out.mut ((Mut.refl [] wr).alloc (.cells #[.int .u8 (X1 : Int), .int .i64 (X2 : Int), .int .i64 (X3 : Int)] 146)))
        have h9 := heap_alloc_new wr (.cells #[.int .u8 (X1 : Int), .int .i64 (X2 : Int), .int .i64 (X3 : Int)] 146)
        clear hX
        go_upto_region 7 with fail
        clear HR d0 d1 d2
        generalize wr.alloc (.cells #[.int .u8 (X1 : Int), .int .i64 (X2 : Int), .int .i64 (X3 : Int)] 146) = w2 at *
        generalize wr.heap.size = g9 at *
        have H9 := Lib.hid h9
        obtain ⟨c0, c1, c2, -, -, -⟩ := cells3 h9
        clear h9
        rcases ho with ⟨k1, k2, k3⟩ | ⟨k1, k2, k3, k4, k5, k6⟩
        · simp only at k1 k2 k3
          have hxI : ((X2 : Int) == 0) = true := by rw [k1]; rfl
          have hL2 : useL1 A (X1, X2, X3) = A.set X1 true := by unfold useL1; rw [if_pos k1]
          have hD2 : useD1 B (X1, X2, X3) = B := by unfold useD1; rw [if_pos k1]
          have HE := Lib.hid (And.intro (hL.trans hL2) (hD.trans hD2))
          have HS := Lib.hid (HR2.out.setA X1)
          obtain ⟨e1, f1⟩ := HR2.out.a.cell X1 (by omega)
          have hX286 : (X1 : Int) < 286 := by omega
          clear hL hD hL2 hD2 k1 k2 k3 HR2
          go_wp2_with fail
          refine ⟨⟨i + 1, by rw [Int.natCast_add]; rfl, hlt, by rw [HE.out.2], Lib.hid (by rw [HE.out.1, HE.out.2]; exact HS.out)⟩, by simp only [intOf]; omega⟩
        · simp only at k1 k2 k3 k4
          have hxI : ((X2 : Int) == 0) = false := by rw [beq_eq_false_iff_ne]; omega
          have hne : ¬ X2 = 0 := by omega
          have hL2 : useL1 A (X1, X2, X3) = A.set (lenSym X2) true := by unfold useL1; rw [if_neg hne]
          have hD2 : useD1 B (X1, X2, X3) = B.set (distSym X3) true := by unfold useD1; rw [if_neg hne]
          obtain ⟨s1, s2, -, -⟩ := lenSym_spec X2 k1 k2
          obtain ⟨q1, -, -⟩ := distSym_spec X3 k3 (by omega)
          have HL1 := Lib.hid (fun w => slength_any X2 k1 k2 w)
          have HD1 := Lib.hid (fun w => sdistance_any X3 k3 (by omega) w)
          have HE := Lib.hid (And.intro (hL.trans hL2) (hD.trans hD2))
          clear hL hD hL2 hD2 k1 k2 k3 k4 k5 k6 hne
          generalize X2 - (lenR (lenSym X2)).1 = mL at *
          generalize X3 - (distR (distSym X3)).1 = mK at *
          generalize (lenR (lenSym X2)).2 = nL at *
          generalize (distR (distSym X3)).2 = nK at *
          generalize lenSym X2 = sL at *
          generalize distSym X3 = sK at *
          have hns := numOf_set B sK (by omega)
          have HNS := Lib.hid hns
          have HS := Lib.hid (HR2.out.setA sL)
          obtain ⟨e1, f1⟩ := HR2.out.a.cell sL (by omega)
          have hsL : (sL : Int) < 286 := by omega
          have hsK : (sK : Int) < 30 := by omega
          have HQ := Lib.hid (And.intro s2 q1)
          have HR3 := HR2
          clear hns HR2
          go_wp2_with fail
          refine (HL1.out _).mono ?_
          rintro e w3 ⟨rfl, rfl⟩
          have hg9 : g9 ≠ ga := fun e => by
            obtain ⟨c, hc⟩ := HR3.out.a.blk
            have := H9.out
            rw [e, hc] at this
            simp at this
          have H92 : Hid ((w2.setCell ⟨ga, sL, none⟩ (.bool true)).heap[g9]? = some (.cells #[.int .u8 (X1 : Int), .int .i64 (X2 : Int), .int .i64 (X3 : Int)] 146 (0, 0))) := Lib.hid (by rw [heap_set_ne hg9]; exact H9.out)
          clear hg9 HR3
          go_upto_region 11 with fail
          generalize w2.setCell ⟨ga, sL, none⟩ (.bool true) = w4 at *
          clear c0 c1 c2 e1 f1 H9
          obtain ⟨c0, c1, c2, -, -, -⟩ := cells3 H92.out
          obtain ⟨e1, f1⟩ := HS.out.b.cell sK (by omega)
          have HS2 := Lib.hid (HS.out.setB sK)
          go_wp2_with fail
          refine (HD1.out _).mono ?_
          rintro e w3 ⟨rfl, rfl⟩
          clear HL1 HD1 HS
          obtain ⟨N, hN⟩ : ∃ N, numOf B = N := ⟨_, rfl⟩
          rw [hN] at HNS hnb
          rw [hN]
          clear hN
          generalize B.getD sK false = bd at *
          cases bd with
          | true =>
            go_wp2_with fail
            refine ⟨⟨i + 1, by rw [Int.natCast_add]; rfl, hlt, by rw [HE.out.2, HNS.out]; rfl, Lib.hid (by rw [HE.out.1, HE.out.2]; exact HS2.out)⟩, by simp only [intOf]; omega⟩
          | false =>
            go_wp2_with fail
            refine ⟨⟨i + 1, by rw [Int.natCast_add]; rfl, hlt, by rw [HE.out.2, HNS.out]; rfl, Lib.hid (by rw [HE.out.1, HE.out.2]; exact HS2.out)⟩, by simp only [intOf]; omega⟩

end Go.Proofs.Ytgjcnembeebjfaa
