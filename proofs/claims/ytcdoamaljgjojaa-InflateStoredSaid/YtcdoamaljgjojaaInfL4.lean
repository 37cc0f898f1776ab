/- Walk over the law InflateStored. -/
import Derived.Test.YtcdoamaljgjojaaInfL2
import Derived.Test.YtcdoamaljgjojaaStrsI
import Derived.Deep.DeepCutAuto
import Derived.Deep.LoopGhost
namespace Go.Proofs.Ytcdoamaljgjojaa
open Go.RowKit
set_option linter.unusedVariables false

/-- the blocks of the first texts -/
def layP (T : List (List Nat)) (N : Nat) : Nat → List Nat
  | 0 => []
  | i + 1 => layP T N i ++ storedOne (decide (i + 1 = N)) (T.getD i [])

theorem layP_eq (T : List (List Nat)) : ∀ i, i ≤ T.length → layP T T.length i ++ layS (T.drop i) = layS T
  | 0, _ => rfl
  | i + 1, h => by
    rw [← layP_eq T i (by omega), layP, List.append_assoc]
    congr 1
    have e : T.drop i = T[i]'(by omega) :: T.drop (i + 1) := List.drop_eq_getElem_cons (by omega)
    rw [e, layS]
    have g : T.getD i [] = T[i]'(by omega) := by simp [List.getD, show i < T.length by omega]
    rw [g]
    congr 2
    rw [decide_eq_decide]
    rw [List.drop_eq_nil_iff]
    omega

theorem layP_all (T : List (List Nat)) : layP T T.length T.length = layS T := by
  have := layP_eq T T.length (Nat.le_refl _)
  rwa [List.drop_length, layS, List.append_nil] at this

theorem layP_len (T : List (List Nat)) (N : Nat) : ∀ i, i ≤ T.length → (layP T N i).length = 5 * i + (T.take i).flatten.length
  | 0, _ => rfl
  | i + 1, h => by
    rw [layP, List.length_append, layP_len T N i (by omega), List.take_add_one, List.flatten_append, List.length_append]
    simp [storedOne, List.getD, show i < T.length by omega]
    omega

theorem flat_le (T : List (List Nat)) (h : ∀ x ∈ T, x.length ≤ 65535) : T.flatten.length ≤ 65535 * T.length := by
  induction T with
  | nil => simp
  | cons x r ih =>
    have h1 := h x (by simp)
    have h2 := ih (fun y hy => h y (by simp [hy]))
    rw [List.flatten_cons, List.length_append, List.length_cons]
    omega

theorem layS_lt : ∀ (T : List (List Nat)), (∀ x ∈ T, ∀ y ∈ x, y < 256) → (∀ x ∈ T, x.length ≤ 65535) → ∀ y ∈ layS T, y < 256
  | [], _, _, y, hy => by simp [layS] at hy
  | x :: r, h, hl, y, hy => by
    rw [layS, List.mem_append] at hy
    rcases hy with hy | hy
    · have h1 := hl x (by simp)
      simp only [storedOne, List.mem_cons] at hy
      rcases hy with rfl | rfl | rfl | rfl | rfl | hy
      · cases decide (r = []) <;> decide
      · omega
      · omega
      · omega
      · omega
      · exact h x (by simp) y hy
    · exact layS_lt r (fun x hx => h x (by simp [hx])) (fun x hx => hl x (by simp [hx])) y hy

theorem u8sg : IntKind.u8.signed = false := rfl

theorem xor_u8 : ∀ x : Nat, x < 256 → Go.bits .xor .u8 IntKind.u8.max (x : Int) = ((255 - x : Nat) : Int) := by decide +kernel

theorem strOf_append (a b : List Nat) : strOf a ++ strOf b = strOf (a ++ b) := by
  apply ByteArray.ext
  simp [strOf]

/-- several values, just laid, as an append's source -/
theorem src_new {w : World} {g n : Nat} {vs : Array Value} (h : w.heap[g]? = some (.cells vs 5 (0, 0))) (hn : vs.size = n) (ho : ∀ u ∈ vs.toList, u.oneCell' = true) : Src Try.prog 1 33 (.slice (some ⟨g, 0, none⟩) n n) n vs.toList w := by
  refine Src.ofSlice w Try.underlying33 ⟨g, 0, none⟩ n n _ (by simp [hn]) (fun j u hu => ?_) ho
  rw [Addr.add_lit, Nat.zero_add]
  exact cellOf h j (by simpa using hu)

/-- where the loop over the texts is -/
def StC (w0 : World) (T : List (List Nat)) (i : Nat) (v : Value) (w : World) : Prop :=
  w.ownsRow 0 5 1 v (layP T T.length i).length ((layP T T.length i).map fun n : Nat => Value.int .u8 (n : Int)) ∧ (∀ g, v.ownBlock = some g → w0.heap.size ≤ g) ∧ Mut [] w0 w ∧ (∀ x ∈ T.take i, x.length ≤ 65535)

set_option maxHeartbeats 3200000 in
set_option maxRecDepth 100000 in
theorem lawInflateStored {w : World} (v : Value) (ss : List ByteArray) (hv : Strs w v ss) :
    Calls Try.prog 5 #[v] w fun e w' => e = .returned (.bool true) ∧ Below w.heap.size w w' := by
  obtain ⟨ao, cap, rfl, hmax, hcell⟩ := hv
  simp only [maxLen] at hmax
  have HCELL := Lib.hid hcell
  have HS := Lib.hid (speaks3_any w)
  obtain ⟨T, hT⟩ : ∃ T, (ss.take 50).map bytesOf = T := ⟨_, rfl⟩
  have hTl : T.length ≤ 50 ∧ T.length ≤ ss.length ∧ (T.length = 50 ∨ T.length = ss.length) := by
    have : T.length = min 50 ss.length := by rw [← hT]; simp
    omega
  have HT := Lib.hid hT
  clear hcell hT
  go_enter Try.func5, Try.ntmps5
  go_wp2_with fail
  refine HS.out.mono ?_
  rintro e w1 ⟨rfl, hm⟩
  have HC : Hid (StC w T 0 (.slice none 0 0) w1) := Lib.hid ⟨World.ownsRow_nil _ _ _ _, by simp [Value.ownBlock], hm, by simp⟩
  clear hm HS
  go_wp2_with fail
  go_loopw [5, 3, 4] (fun c b s wx => ∃ i : Nat, c = .int .i64 (i : Int) ∧ i ≤ T.length ∧ s = .string (strOf (T.take i).flatten) ∧ Hid (StC w T i b wx)) (fun c _ _ _ => 50 - (intOf c).toNat)
  case atStart => exact ⟨0, rfl, by omega, rfl, HC⟩
  case round =>
    obtain ⟨i, rfl, hi, rfl, HR⟩ := hrel
    clear HC
    by_cases hlt : i < T.length
    case neg =>
      have hiT : i = T.length := by omega
      subst hiT
      obtain ⟨hrow, hfr, hM, hsm⟩ := HR.out
      rw [layP_all] at hrow
      rw [List.take_length] at hsm ⊢
      obtain ⟨ap, ac, rfl⟩ := row_form hrow
      have hlt' : ∀ x ∈ layS T, x < 256 := layS_lt T (fun x hx => by
        rw [← HT.out] at hx
        obtain ⟨s, _, rfl⟩ := List.mem_map.1 hx
        exact bytesOf_lt s) hsm
      have hc : (convert 33 9 (.slice ap (layS T).length ac)).run Try.prog wr = .ok (.string (strOf (layS T))) wr := by
        have h : wr.ownsRow 0 5 1 (.slice ap (layS T).length ac) (layS T).length (((layS T).map fun n : Nat => (n : Int)).map (Value.int .u8)) := by rw [List.map_map]; exact hrow
        rw [conv_row Try.underlying33 Try.underlying5 Try.underlying9 h]
        simp only [List.map_map]
        rfl
      have hfl := flat_le T hsm
      have hsz : (strOf (layS T)).size = (layS T).length := strOf_size _
      have hll := layS_len T
      have hN : T.length ≤ 50 := by omega
      have HU := Lib.hid (unpack_0 (strOf (layS T)) T.flatten.length (8 * (layS T).length + 1) wr (by omega) (by omega) (by omega) ((strOf T.flatten).size : Int) (by rw [strOf_size]))
      have hend : ¬ (T.length : Int) < (ss.length : Int) ∨ ((T.length : Int) < (ss.length : Int) ∧ ¬ (T.length : Int) < 50) := by omega
      have HM := Lib.hid hM
      clear HR hfr hM hrow HCELL hi hlt
      cases hT0 : T with
      | nil =>
        have h0 : ss.length = 0 := by
          have : T.length = 0 := by rw [hT0]; rfl
          omega
        have h0I : ((ss.length : Int) == 0) = true := by rw [h0]; rfl
        have h1I : ¬ (0 : Int) < (ss.length : Int) := by omega
        have hu := HU.out
        rw [hT0] at hu hc
        rw [run_empty _ _ _ (by rfl), unpRes_bad (by decide)] at hu
        have HU2 := Lib.hid hu
        clear HU hu hlt' hsm hsz hll hfl hend hT0 hTl HT
        go_wp2_with fail
        refine HU2.out.mono ?_
        rintro e w3 ⟨rfl, hm⟩
        have HM3 := Lib.hid ((HM.out.trans' hm).alloc (.cells #[.int .i64 3, .int .i64 0] 28))
        clear hm
        go_wp2_with fail
        go_ret
        exact ⟨rfl, HM3.out.nil (by simp)⟩
      | cons z r =>
        have h0 : ss.length ≠ 0 := by
          have : T.length = r.length + 1 := by rw [hT0]; rfl
          omega
        have h0I : ((ss.length : Int) == 0) = false := by rw [beq_eq_false_iff_ne]; omega
        have hu := HU.out
        obtain ⟨m, hm⟩ : ∃ m, (layS T).length = m := ⟨_, rfl⟩
        rw [run_stored _ _ _ T (by rw [hT0]; simp) hsm (bytesOf_strOf _ hlt') (Nat.le_refl _) (by omega), unpRes_ok rfl (m : Int) (by show (m : Int) = ((0 + (8 * (strOf (layS T)).size + 7) / 8 : Nat) : Int); rw [hsz, hm]; omega)] at hu
        have hss := str_eq (strOf T.flatten) (strOf T.flatten)
        rw [decide_eq_true rfl] at hss
        have HU2 := Lib.hid hu
        rw [← hT0]
        rw [hm] at hc ⊢
        have HT0 := Lib.hid hT0
        clear HU hu hlt' hsm hsz hll hfl hT0 hTl HT hm
        rcases hend with h1I | ⟨h1I, h2I⟩
        all_goals
          go_wp2_with fail
          refine HU2.out.mono ?_
          rintro e w3 ⟨rfl, hm⟩
          have HM3 := Lib.hid ((HM.out.trans' hm).alloc (.cells #[.int .i64 0, .int .i64 0] 28))
          clear hm
          go_wp2_with fail
          go_ret
          exact ⟨rfl, HM3.out.nil (by simp)⟩
    case pos =>
      have h1I : (i : Int) < (ss.length : Int) := by omega
      have h2I : (i : Int) < 50 := by omega
      obtain ⟨a, rfl, hca⟩ := HCELL.out i (by omega)
      obtain ⟨s, hs⟩ : ∃ s, ss.getD i ByteArray.empty = s := ⟨_, rfl⟩
      rw [hs] at hca
      have hTi : T.getD i [] = bytesOf s := by
        rw [← HT.out, ← hs]
        simp [List.getD, show i < ss.length by omega, show i < 50 by omega]
      have HTI := Lib.hid hTi
      obtain ⟨hrow, hfr, hM, hsm⟩ := HR.out
      obtain ⟨p3, c3, rfl⟩ := row_form hrow
      have hcell := hM.cell hca (by simp)
      have HROW := Lib.hid hrow
      have HFR := Lib.hid hfr
      have HM := Lib.hid hM
      have HSM := Lib.hid hsm
      clear hrow hfr hM hsm HR hca hs hTi HCELL
      by_cases hbig : 65535 < s.size
      case pos =>
        have hbI : (65535 : Int) < (s.size : Int) := by omega
        go_wp2_with fail
        exact bodyPost_ret (results_tmp rfl _ _ _) rfl ⟨rfl, HM.out.nil (by simp)⟩
      case neg =>
        have hbI : ¬ (65535 : Int) < (s.size : Int) := by omega
        go_upto_region 12 with fail
        obtain ⟨Y, hY⟩ : ∃ Y, ss.length - 1 = Y := ⟨_, rfl⟩
        have hYI : (ss.length : Int) - 1 = (Y : Int) := by omega
        obtain ⟨lb, hlb⟩ : ∃ lb : Bool, decide (i + 1 = T.length) = lb := ⟨_, rfl⟩
        have HLB := Lib.hid hlb
        go_cut [39] (fun q wx => wx = wr ∧ q = .bool lb)
        case first =>
          by_cases g1 : i = Y
          · have g1I : ((i : Int) == (Y : Int)) = true := by simp; omega
            have hl : lb = true := by rw [← hlb]; exact decide_eq_true (by omega)
            have G := Lib.hid g1
            clear g1 hlb
            subst hl
            go_wp2_with fail
            go_meet
            exact ⟨rfl, rfl⟩
          · have g1I : ((i : Int) == (Y : Int)) = false := by rw [beq_eq_false_iff_ne]; omega
            by_cases g2 : i = 49
            · have g2I : ((i : Int) == 49) = true := by simp; omega
              have hl : lb = true := by rw [← hlb]; exact decide_eq_true (by omega)
              have G := Lib.hid g2
              clear g2 hlb
              subst hl
              go_wp2_with fail
              go_meet
              exact ⟨rfl, rfl⟩
            · have g2I : ((i : Int) == 49) = false := by rw [beq_eq_false_iff_ne]; omega
              have hl : lb = false := by rw [← hlb]; exact decide_eq_false (by omega)
              clear hlb
              subst hl
              go_wp2_with fail
              go_meet
              exact ⟨rfl, rfl⟩
        case rest =>
          obtain ⟨rfl, rfl⟩ := hcut
          clear hlb hY hYI
          go_upto_if 39 with fail
          go_cut [7] (fun q wx => wx = wc ∧ q = .int .u8 (lb.toNat : Nat))
          case first =>
            cases lb with
            | true =>
              go_wp2_with fail
              go_meet
              exact ⟨rfl, rfl⟩
            | false =>
              go_wp2_with fail
              go_meet
              exact ⟨rfl, rfl⟩
          case rest =>
            obtain ⟨rfl, rfl⟩ := hcut
            have HLQ := Lib.hid HLB.out
            obtain ⟨lq, hlq⟩ : ∃ lq : Nat, lb.toNat = lq := ⟨_, rfl⟩
            rw [hlq]
            have hn : s.size = s.size := rfl
            obtain ⟨lo, hlo⟩ : ∃ lo, s.size % 256 = lo := ⟨_, rfl⟩
            obtain ⟨hi8, hhi8⟩ : ∃ hi8, s.size / 256 = hi8 := ⟨_, rfl⟩
            have hn16 : s.size ≤ 65535 := by omega
            have hloI : (s.size : Int) % 256 = (lo : Int) := by omega
            have hhiI : (s.size : Int) / 256 = (hi8 : Int) := by omega
            have hlo8 : lo < 256 := by omega
            have hhi88 : hi8 < 256 := by omega
            have hx1 := xor_u8 lo hlo8
            have hx2 := xor_u8 hi8 hhi88
            obtain ⟨lo', hlo'⟩ : ∃ x, 255 - lo = x := ⟨_, rfl⟩
            obtain ⟨hi', hhi'⟩ : ∃ x, 255 - hi8 = x := ⟨_, rfl⟩
            rw [hlo'] at hx1
            rw [hhi'] at hx2
            have hm0 : Mut [] wc (wc.alloc (.cells #[.int .u8 (lq : Int), .int .u8 (lo : Int), .int .u8 (hi8 : Int), .int .u8 (lo' : Int), .int .u8 (hi' : Int)] 5 (0, 0))) := (Mut.refl [] wc).alloc _
            have hnew := heap_alloc_new wc (.cells #[.int .u8 (lq : Int), .int .u8 (lo : Int), .int .u8 (hi8 : Int), .int .u8 (lo' : Int), .int .u8 (hi' : Int)] 5 (0, 0))
            have hlen5 : (layP T T.length i).length ≤ 4000000 := by
              rw [layP_len T T.length i (by omega)]
              have h1 := flat_le (T.take i) HSM.out
              rw [List.length_take] at h1
              omega
            have HM0 := Lib.hid hm0
            have HNEW := Lib.hid hnew
            have HROWA := Lib.hid (hm0.row HROW.out (by simp))
            have HNX : Hid (layP T T.length (i + 1) = layP T T.length i ++ ([lq, lo, hi8, lo', hi'] ++ bytesOf s)) := Lib.hid (by
              rw [layP, HTI.out, HLQ.out]
              unfold storedOne
              rw [bytesOf_length, hlq, hlo, hhi8, hlo', hhi']
              rfl)
            have HSN : Hid (strOf (T.take i).flatten ++ s = strOf (T.take (i + 1)).flatten) := Lib.hid (by
              rw [show s = strOf (bytesOf s) from (strOf_bytesOf s).symm, strOf_append, List.take_add_one, List.flatten_append, ← HTI.out]
              simp [List.getD, hlt])
            have HSM2 : Hid (∀ x ∈ T.take (i + 1), x.length ≤ 65535) := Lib.hid (by
              intro x hx
              rw [List.take_add_one, List.mem_append] at hx
              rcases hx with hx | hx
              · exact HSM.out x hx
              · have h1 := HTI.out
                simp only [List.getD] at h1
                have hx' : T[i]? = some x := by simpa using hx
                rw [hx'] at h1
                simp only [Option.getD_some] at h1
                rw [h1, bytesOf_length]
                omega)
            have hflen : (strOf (T.take i).flatten).size ≤ 4000000 := by
              rw [strOf_size]
              have h1 := flat_le (T.take i) HSM.out
              rw [List.length_take] at h1
              omega
            obtain ⟨i0, hi0, hz0, hz1, hz2⟩ := info_parts info_u8r
            clear hm0 hnew hlq hn hlo hhi8 hlo' hhi' hlo8 hhi88 HLB HLQ HROW
            go_wp2_with (at_builtin; (try simp only [u8sg, Bool.false_eq_true, if_false, hx1, hx2]); refine wp_app rfl (.tmp 42) (.tmp 56) 33 33 rfl 5 i0 (.int .u8 0) 1 1 Try.underlying33 hi0 hz0 hz1 hz2 rfl HROWA.out rfl (src_new (n := 5) HNEW.out rfl (by intro u hu; simp at hu; rcases hu with rfl | rfl | rfl | rfl | rfl <;> rfl)) rfl (by unfold maxLen; omega) (by omega) ?_)
            intro v' w' r1 r2 r3
            have hm1 : Mut [] w w' := (HM.out.trans' HM0.out).trans ((Mut.refl (Value.slice p3 (layP T T.length i).length c3).ownBlock.toList _).grown r2 (by intro g hg; simp [hg])) (fun y hy => .inr (HFR.out y (by simpa using hy)))
            have hfr1 : ∀ g, v'.ownBlock = some g → w.heap.size ≤ g := fun g hg => by
              rcases r3 g hg with h | h
              · exact HFR.out g h
              · have := HM.out.size
                have := HM0.out.size
                omega
            obtain ⟨p4, c4, rfl⟩ := row_form r1
            have HM1 := Lib.hid hm1
            have HFR1 := Lib.hid hfr1
            have HR1 := Lib.hid r1
            clear r1 r2 r3 hm1 hfr1 HM HM0 HFR HNEW HROWA hx1 hx2 hloI hhiI
            go_upto_region 16 with fail
            go_wp2_with (at_builtin; refine wp_app rfl (.tmp 58) (.tmp 59) 33 9 rfl 5 i0 (.int .u8 0) 1 1 Try.underlying33 hi0 hz0 hz1 hz2 rfl HR1.out rfl (Src.ofString _ Try.underlying9 s) rfl (by unfold maxLen; omega) (by omega) ?_)
            intro v2 w2 r1 r2 r3
            rw [byteCells_eq'] at r1
            obtain ⟨p5, c5, rfl⟩ := row_form r1
            have hm2 : Mut [] w w2 := HM1.out.trans ((Mut.refl (Value.slice p4 ((layP T T.length i).length + 5) c4).ownBlock.toList _).grown r2 (by intro g hg; simp [hg])) (fun y hy => .inr (HFR1.out y (by simpa using hy)))
            have HNC : Hid (StC w T (i + 1) (.slice p5 ((layP T T.length i).length + 5 + s.size) c5) w2) := Lib.hid ⟨by
              rw [HNX.out]
              have e1 : ((layP T T.length i ++ ([lq, lo, hi8, lo', hi'] ++ bytesOf s)).map fun n : Nat => Value.int .u8 (n : Int)) = ((layP T T.length i).map fun n : Nat => Value.int .u8 (n : Int)) ++ Value.int .u8 (lq : Int) :: .int .u8 (lo : Int) :: .int .u8 (hi8 : Int) :: .int .u8 (lo' : Int) :: .int .u8 (hi' : Int) :: (bytesOf s).map fun n : Nat => Value.int .u8 (n : Int) := by
                simp
              have e2 : (layP T T.length i ++ ([lq, lo, hi8, lo', hi'] ++ bytesOf s)).length = (layP T T.length i).length + 5 + s.size := by
                rw [List.length_append, List.length_append, bytesOf_length]
                show _ + (5 + s.size) = _
                omega
              rw [e1, e2]
              exact r1, fun g hg => by
                rcases r3 g hg with h | h
                · exact HFR1.out g h
                · exact Nat.le_trans HM1.out.size h, hm2, HSM2.out⟩
            clear r1 r2 r3 hm2 HM1 HFR1 HR1
            go_wp2_with fail
            exact ⟨⟨i + 1, by rw [Int.natCast_add]; rfl, by omega, by rw [HSN.out], HNC⟩, by simp only [intOf]; omega⟩

end Go.Proofs.Ytcdoamaljgjojaa
