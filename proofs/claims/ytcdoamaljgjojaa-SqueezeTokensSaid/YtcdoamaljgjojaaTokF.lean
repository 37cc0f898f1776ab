/- Walk over package ferretref04: Tokens. -/
import Derived.Test.YtcdoamaljgjojaaTokW1
import Derived.Test.YtcdoamaljgjojaaTokR
import Derived.Deep.CutBlock
import Derived.BigQuiet
namespace Go.Proofs.Ytcdoamaljgjojaa
open Go.RowKit
set_option linter.unusedVariables false

theorem info_rtok : (Try.prog.info? 43).map (fun i => (i.zero, i.size, i.bytes)) = some (some (.agg #[.int .u8 0, .int .i64 0, .int .i64 0]), 3, 24) := by kernel_rfl

/-- where the loop over the places is -/
def RtC (w0 : World) (T : List Tok) (v : Value) (w : World) : Prop := TRow 43 w v T ∧ (∀ g, v.ownBlock = some g → w0.heap.size ≤ g) ∧ Mut [] w0 w

theorem RtC.kept {w0 w w' : World} {T : List Tok} {v : Value} (h : RtC w0 T v w) (hm : Mut [] w w') : RtC w0 T v w' := ⟨h.1.mut hm (by simp), h.2.1, h.2.2.trans' hm⟩

/-- the best so far, as the document's answer keeps it -/
def rbs (D : List Nat) (p te d : Nat) : Nat × Nat := (if (bst D p te d).1 = 0 then 2 else (bst D p te d).1, (bst D p te d).2)

theorem rbs_next (D : List Nat) (p te d n L K : Nat) (h : rbs D p te d = (L, K)) (hn : alk D p te (d + 1) 258 = n) : rbs D p te (d + 1) = if L < n then (n, d + 1) else (L, K) := by
  unfold rbs at h ⊢
  rcases bst_form D p te d with hb | hb
  · rw [hb] at h
    simp at h
    obtain ⟨rfl, rfl⟩ := h
    rw [bst, hn, hb]
    by_cases h2 : 2 < n
    · have h3 : 3 ≤ n ∧ (0, 0).fst < n := ⟨h2, by show 0 < n; omega⟩
      rw [if_pos h3, if_pos h2, if_neg (by show ¬ n = 0; omega)]
    · have h3 : ¬ (3 ≤ n ∧ (0, 0).fst < n) := fun h => h2 h.1
      rw [if_neg h3, if_neg h2]
      rfl
  · rw [if_neg (by omega)] at h
    have h1 : (bst D p te d).1 = L := congrArg Prod.fst h
    have h2 : (bst D p te d).2 = K := congrArg Prod.snd h
    rw [bst, hn]
    by_cases h3 : L < n
    · have h4 : 3 ≤ n ∧ (bst D p te d).1 < n := by omega
      rw [if_pos h4, if_pos h3, if_neg (by show ¬ n = 0; omega)]
    · have h4 : ¬ (3 ≤ n ∧ (bst D p te d).1 < n) := by omega
      rw [if_neg h4, if_neg h3, if_neg (by omega), h1, h2]

theorem rbs_end (D : List Nat) (p te d L K : Nat) (h : rbs D p te d = (L, K)) (hp : p < te) :
    (K = 0 ∧ tokAt D p (bst D p te d) = (D.getD p 0, 0, 0) ∧ (bst D p te d).1 = 0) ∨ (1 ≤ K ∧ 3 ≤ L ∧ p + L ≤ te ∧ tokAt D p (bst D p te d) = (0, L, K) ∧ (bst D p te d).1 = L) := by
  unfold rbs at h
  rcases bst_form D p te d with hb | hb
  · rw [hb] at h ⊢
    simp at h
    exact .inl ⟨h.2.symm, rfl, rfl⟩
  · rw [if_neg (by omega)] at h
    have h1 : (bst D p te d).1 = L := congrArg Prod.fst h
    have h2 : (bst D p te d).2 = K := congrArg Prod.snd h
    refine .inr ⟨by omega, by omega, ?_, ?_, h1⟩
    · have h3 := alk_all D p te (bst D p te d).2 258 ((bst D p te d).1 - 1) (by omega)
      unfold alkC at h3
      omega
    · unfold tokAt
      rw [if_neg (by omega), h1, h2]

theorem rtokens_bad (data : ByteArray) (a b r : Int) (h : a < 0 ∨ b < a ∨ (data.size : Int) < b) (w : World) :
    Calls Try.prog 20 #[.string data, .int .i64 a, .int .i64 b, .int .i64 r] w fun e w' => e = .returned (.slice none 0 0) ∧ w = w' := by
  go_enter Try.func20, Try.ntmps20
  by_cases h1 : a < 0
  · go_wp2_with fail
    exact bodyPost_ret (results_tmp rfl _ _ _) rfl ⟨rfl, rfl⟩
  · by_cases h2 : b < a
    · go_wp2_with fail
      exact bodyPost_ret (results_tmp rfl _ _ _) rfl ⟨rfl, rfl⟩
    · have h3 : (data.size : Int) < b := by omega
      go_wp2_with fail
      exact bodyPost_ret (results_tmp rfl _ _ _) rfl ⟨rfl, rfl⟩

theorem RtC.app {w wr w1 : World} {T : List Tok} {x : Tok} {v v' : Value} {o : Obj} (hmm : Mut [] w wr) (hf : ∀ g, v.ownBlock = some g → w.heap.size ≤ g)
    (hr1 : w1.ownsRow 0 43 3 v' (T.length + 1) (tokCells T ++ tokCell x)) (hg1 : (wr.alloc o).grownBy w1 v.ownBlock) (hf1 : ∀ g, v'.ownBlock = some g → v.ownBlock = some g ∨ wr.heap.size + 1 ≤ g) : RtC w (T ++ [x]) v' w1 := by
  have hm1 : Mut [] w w1 := (hmm.alloc o).grown hg1 (fun k hk => .inr (hf k hk))
  refine ⟨?_, fun k hk => (hf1 k hk).elim (fun h => hf k h) (fun h => by have := hmm.size; omega), hm1⟩
  unfold TRow
  rw [List.length_append, tokCells_snoc]
  exact hr1

theorem fin2r {fr p q te R F : Nat} {T A : List Tok} {x : Tok} {D : List Nat} {w w1 : World} {v : Value} (hq : 1 ≤ q) (h1 : fr ≤ p) (h2 : p + q ≤ te) (h3 : T.length ≤ p) (h4 : RtC w (T ++ [x]) v w1) (h5 : T ++ x :: tks D te R F (p + q) = A) (c : Int) (hc : c = (p : Int) + (q : Int)) :
    (∃ (p' : Nat) (T' : List Tok), Value.int .i64 c = .int .i64 (p' : Int) ∧ fr ≤ p' ∧ p' ≤ te ∧ T'.length ≤ p' ∧ Hid (RtC w T' v w1 ∧ T' ++ tks D te R F p' = A)) ∧ te - (intOf (.int .i64 c)).toNat < te - (intOf (.int .i64 (p : Int))).toNat := by
  subst hc
  refine ⟨⟨p + q, T ++ [x], by rw [Int.natCast_add], by omega, h2, by rw [List.length_append]; simp; omega, Lib.hid ⟨h4, by rw [← h5]; simp⟩⟩, by simp only [intOf]; omega⟩

set_option maxHeartbeats 3200000 in
set_option maxRecDepth 100000 in
theorem rtokens_any (data : ByteArray) (D : List Nat) (hD : bytesOf data = D) (fr te R F : Nat) (r : Int) (hz : data.size ≤ 1073741824) (hft : fr ≤ te) (ht : te ≤ data.size) (hR : (R : Int) = min (max r 0) 32768) (hF : te - fr < F) (w : World) :
    Calls Try.prog 20 #[.string data, .int .i64 (fr : Int), .int .i64 (te : Int), .int .i64 r] w fun e w' => ∃ v, e = .returned v ∧ RtC w (tks D te R F fr) v w' := by
  obtain ⟨A, hA⟩ : ∃ A, tks D te R F fr = A := ⟨_, rfl⟩
  have HA := Lib.hid hA
  rw [hA]
  clear hA
  have hDl : D.length = data.size := by rw [← hD, bytesOf_length]
  have HD := Lib.hid hD
  clear hD
  obtain ⟨r', hr'⟩ : ∃ r', min r 32768 = r' := ⟨_, rfl⟩
  have hrR : (r' < 0 ∧ R = 0) ∨ r' = (R : Int) := by omega
  have hRl : R ≤ 32768 := by omega
  go_enter Try.func20, Try.ntmps20
  go_upto_if 30 with fail
  go_cut [3] (fun q wx => wx = w ∧ q = .int .i64 r')
  case first =>
    by_cases h1 : r ≤ 32768
    · have e : r = r' := by omega
      have E := Lib.hid e
      have h2 : ¬ (32768 : Int) < r := by omega
      clear hR e hr' hrR
      go_wp2_with fail
      go_meet
      exact ⟨rfl, congrArg _ E.out⟩
    · have e : (32768 : Int) = r' := by omega
      have E := Lib.hid e
      have h2 : (32768 : Int) < r := by omega
      clear hR e hr' hrR
      go_wp2_with fail
      go_meet
      exact ⟨rfl, congrArg _ E.out⟩
  case rest =>
    obtain ⟨hw0, rfl⟩ := hcut
    obtain rfl := hw0.symm
    have HRR := Lib.hid hrR
    clear hR hr' hrR
    have HC : Hid (RtC w [] (.slice none 0 0) w ∧ [] ++ tks D te R F fr = A) := Lib.hid ⟨⟨TRow.nil _ _, by simp [Value.ownBlock], Mut.refl _ _⟩, HA.out⟩
    go_wp2_with fail
    go_loopw [10, 9] (fun c v wx => ∃ (p : Nat) (T : List Tok), c = .int .i64 (p : Int) ∧ fr ≤ p ∧ p ≤ te ∧ T.length ≤ p ∧ Hid (RtC w T v wx ∧ T ++ tks D te R F p = A)) (fun c _ _ => te - (intOf c).toNat)
    case atStart => exact ⟨fr, [], rfl, by omega, by omega, by simp, HC⟩
    case round =>
      obtain ⟨p, T, rfl, hp1, hp2, hTl, HR⟩ := hrel
      clear HC
      by_cases hlt : p < te
      case neg =>
        have hT : T = A := by
          have := HR.out.2
          rwa [tks_end D te R F p (by omega), List.append_nil] at this
        obtain ⟨pv, cv, rfl⟩ := HR.out.1.1.form
        have HT := Lib.hid hT
        have hnI : ¬ (p : Int) < (te : Int) := by omega
        clear hT
        go_wp2_with fail
        exact bodyPost_ret (results_tmp rfl _ _ _) rfl ⟨_, rfl, by rw [← HT.out]; exact HR.out.1⟩
      case pos =>
        have hltI : (p : Int) < (te : Int) := by omega
        have hpd : p < data.size := by omega
        have hnx := tks_next D te R F p hlt (by omega)
        obtain ⟨M, hM⟩ : ∃ M, min R p = M := ⟨_, rfl⟩
        rw [hM] at hnx
        have HNX := Lib.hid hnx
        have hMp : M ≤ p ∧ M ≤ R := by omega
        have HMM := Lib.hid hM
        have HR1 := Lib.hid HR.out.1
        have HTA := Lib.hid HR.out.2
        have HBS : Hid (rbs D p te 0 = (2, 0)) := Lib.hid rfl
        clear hnx hM HR
        go_wp2_with fail
        go_loopw [13, 11, 12] (fun c l k wx => ∃ d L K : Nat, c = .int .i64 ((d + 1 : Nat) : Int) ∧ l = .int .i64 (L : Int) ∧ k = .int .i64 (K : Int) ∧ d ≤ M ∧ Hid (rbs D p te d = (L, K)) ∧ Hid (RtC w T u9 wx)) (fun c _ _ _ => M + 1 - (intOf c).toNat)
        case atStart => exact ⟨0, 2, 0, rfl, rfl, rfl, by omega, HBS, HR1⟩
        case round =>
          obtain ⟨d, L, K, rfl, rfl, rfl, hd, HB, HI⟩ := hrel
          clear HBS HR1
          obtain ⟨d1, hd1⟩ : ∃ d1, d + 1 = d1 := ⟨_, rfl⟩
          obtain ⟨lb, hlb⟩ : ∃ lb : Bool, decide (d < M) = lb := ⟨_, rfl⟩
          rw [hd1]
          go_upto_region 10 with fail
          go_cut [42] (fun q wx => wx = wr ∧ q = .bool lb)
          case first =>
            have hrR := HRR.out
            have hM := HMM.out
            by_cases hdR : d1 ≤ R
            · have hdI : (d1 : Int) ≤ r' := by omega
              by_cases hdp : d1 ≤ p
              · have hdJ : (d1 : Int) ≤ (p : Int) := by omega
                have hl : lb = true := by rw [← hlb]; exact decide_eq_true (by omega)
                subst hl
                clear hMp hd hd1 hlb hrR hM hdR hdp hDl hft ht hF hp1 hp2 hTl hlt hltI hpd hRl
                go_wp2_with fail
                go_meet
                exact ⟨rfl, rfl⟩
              · have hdJ : ¬ (d1 : Int) ≤ (p : Int) := by omega
                have hl : lb = false := by rw [← hlb]; exact decide_eq_false (by omega)
                subst hl
                clear hMp hd hd1 hlb hrR hM hdR hdp hDl hft ht hF hp1 hp2 hTl hlt hltI hpd hRl
                go_wp2_with fail
                go_meet
                exact ⟨rfl, rfl⟩
            · have hdI : ¬ (d1 : Int) ≤ r' := by omega
              have hl : lb = false := by rw [← hlb]; exact decide_eq_false (by omega)
              subst hl
              clear hMp hd hd1 hlb hrR hM hdR hDl hft ht hF hp1 hp2 hTl hlt hltI hpd hRl
              go_wp2_with fail
              go_meet
              exact ⟨rfl, rfl⟩
          case rest =>
            obtain ⟨hwc, rfl⟩ := hcut
            obtain rfl := hwc.symm
            cases lb with
            | true =>
              have hdM : d < M := of_decide_eq_true hlb
              clear hlb HRR HMM
              obtain ⟨n, hn⟩ : ∃ n, alk D p te d1 258 = n := ⟨_, rfl⟩
              have HN := Lib.hid hn
              have hn258 : n ≤ 258 := by rw [← hn]; exact alk_le _ _ _ _ _
              have hnx2 : rbs D p te d1 = if L < n then (n, d1) else (L, K) := by rw [← hd1]; exact rbs_next D p te d n L K HB.out (by rw [hd1, hn])
              have HNX2 := Lib.hid hnx2
              have HW := Lib.hid hd1
              obtain ⟨G, hG⟩ : ∃ G, te - p = G := ⟨_, rfl⟩
              have hGI : (te : Int) - (p : Int) = (G : Int) := by omega
              have hd1p : 1 ≤ d1 ∧ d1 ≤ p := by omega
              have hG2 : p + G = te := by omega
              have hM1 : d1 ≤ M := by omega
              have hwr : wrap64 ((d1 : Int) + 1) = ((d1 + 1 : Nat) : Int) := by rw [IntWalk.wrap64_in _ (by omega)]; omega
              have HWR := Lib.hid hwr
              clear hn hnx2 hd1 hG hd HB hwr hdM
              go_upto_block 4 with fail
              go_cut [14] (fun q wx => q = .int .i64 (n : Int) ∧ ∃ k, wx = wr.drewN k)
              case first =>
                go_wp2_with fail
                go_loopw [14] (fun c wx => ∃ j m : Nat, c = .int .i64 (j : Int) ∧ j ≤ 258 ∧ Hid (alk D p te d1 j = j) ∧ wx = wr.drewN m) (fun c _ => 258 - (intOf c).toNat)
                case atStart => exact ⟨0, 0, rfl, by omega, Lib.hid rfl, rfl⟩
                case round =>
                  obtain ⟨j, m, rfl, hj, HJ, rfl⟩ := hrel
                  by_cases h1 : j < 258
                  case neg =>
                    have e : j = 258 := by omega
                    have hI : decide ((j : Int) < 258) = false := decide_eq_false (by omega)
                    have hr : (j : Int) = (n : Int) := by
                      have h2 := HJ.out
                      have h3 := HN.out
                      rw [e] at h2
                      omega
                    have HE := Lib.hid hr
                    clear e hr
                    go_wp2_with fail
                    go_quiet (fail)
                    go_wp2_with fail
                    go_meet
                    exact ⟨congrArg _ HE.out, _, World.drewN_drewN _ _ _⟩
                  case pos =>
                    have h1I : (j : Int) < 258 := by omega
                    have hI1 : decide ((j : Int) < 258) = true := decide_eq_true h1I
                    by_cases h2 : j < G
                    case neg =>
                      have hI2 : decide ((j : Int) < (G : Int)) = false := decide_eq_false (by omega)
                      have hI2n : decide (j < G) = false := decide_eq_false (by omega)
                      have hr : (j : Int) = (n : Int) := by
                        have h3 := HN.out
                        have h4 := alk_stop D p te d1 j HJ.out (fun h => h2 (by have := h.1; omega)) (258 - j)
                        rw [show j + (258 - j) = 258 by omega] at h4
                        omega
                      have HE := Lib.hid hr
                      clear hr h2
                      go_wp2_with fail
                      go_quiet (fail)
                      go_wp2_with fail
                      go_meet
                      exact ⟨congrArg _ HE.out, _, World.drewN_drewN _ _ _⟩
                    case pos =>
                      obtain ⟨i, hi⟩ : ∃ i, p + j = i := ⟨_, rfl⟩
                      obtain ⟨o, ho⟩ : ∃ o, p + j - d1 = o := ⟨_, rfl⟩
                      have hI2 : decide ((j : Int) < (G : Int)) = true := decide_eq_true (by omega)
                      have hI2n : decide (j < G) = true := decide_eq_true (by omega)
                      have hiI : (p : Int) + (j : Int) = (i : Int) := by omega
                      have hoI : (i : Int) - (d1 : Int) = (o : Int) := by omega
                      have hil : i < data.size := by omega
                      have hol : o < data.size := by omega
                      have hq := u8_eq (data[o]'hol) (data[i]'hil)
                      have hC : alkC D p te d1 j ↔ (data[o]'hol).toNat = (data[i]'hil).toNat := by
                        unfold alkC
                        rw [hi, show i - d1 = o by omega, ← HD.out, bytesOf_getD data i hil, bytesOf_getD data o hol]
                        exact ⟨fun h => h.2.symm, fun h => ⟨by omega, h.symm⟩⟩
                      have HC := Lib.hid hC
                      by_cases hxy : (data[o]'hol).toNat = (data[i]'hil).toNat
                      case pos =>
                        rw [decide_eq_true hxy] at hq
                        have HN1 : Hid (alk D p te d1 (j + 1) = j + 1) := Lib.hid (by rw [alk, if_pos ⟨HJ.out, hC.2 hxy⟩])
                        clear hC hxy hi ho h2
                        go_wp2_with fail
                        go_quiet (fail)
                        go_wp2_with fail
                        exact ⟨⟨j + 1, _, by rw [Int.natCast_add]; rfl, by omega, HN1, rfl⟩, by simp only [intOf]; omega⟩
                      case neg =>
                        rw [decide_eq_false hxy] at hq
                        have hq2 : ((data[o]'hol).toNat == (data[i]'hil).toNat) = false := by rw [beq_eq_false_iff_ne]; exact hxy
                        have hq3 : (data[o]'hol == data[i]'hil) = false := by rw [beq_eq_false_iff_ne]; exact fun h => hxy (by rw [h])
                        have hr : (j : Int) = (n : Int) := by
                          have h3 := HN.out
                          have h4 := alk_stop D p te d1 j HJ.out (fun h => hxy (hC.1 h)) (258 - j)
                          rw [show j + (258 - j) = 258 by omega] at h4
                          omega
                        have HE := Lib.hid hr
                        clear hC hxy hi ho h2 hr
                        go_wp2_with fail
                        go_quiet (fail)
                        go_wp2_with fail
                        go_meet
                        exact ⟨congrArg _ HE.out, _, World.drewN_drewN _ _ _⟩
              case rest =>
                obtain ⟨rfl, k, rfl⟩ := hcut
                have HI2 : Hid (RtC w T u9 (wr.drewN k)) := Lib.hid (HI.out.kept ((Mut.refl [] wr).drewN k))
                clear HI HN
                generalize wr.drewN k = w2 at *
                by_cases hb : L < n
                case pos =>
                  have hbI : (L : Int) < (n : Int) := by omega
                  have HF : Hid (rbs D p te d1 = (n, d1)) := Lib.hid (by rw [HNX2.out, if_pos hb])
                  clear HNX2 hb
                  go_wp2_with fail
                  exact ⟨⟨d1, n, d1, by rw [Int.natCast_add]; rfl, rfl, rfl, hM1, HF, HI2⟩, by simp only [intOf]; omega⟩
                case neg =>
                  have hbI : ¬ (L : Int) < (n : Int) := by omega
                  have HF : Hid (rbs D p te d1 = (L, K)) := Lib.hid (by rw [HNX2.out, if_neg hb])
                  clear HNX2 hb
                  go_wp2_with fail
                  exact ⟨⟨d1, L, K, by rw [Int.natCast_add]; rfl, rfl, rfl, hM1, HF, HI2⟩, by simp only [intOf]; omega⟩
            | false =>
              have hdM : d = M := by have := of_decide_eq_false hlb; omega
              subst hdM
              clear hlb
              have hend := rbs_end D p te d L K HB.out hlt
              obtain ⟨x, hx⟩ : ∃ x, (data[p]'hpd).toNat = x := ⟨_, rfl⟩
              have hxD : D.getD p 0 = x := by rw [← HD.out, ← hx, bytesOf_getD data p hpd]
              obtain ⟨hr, hfr2, hmm⟩ := HI.out
              have hnx := HNX.out
              obtain ⟨i0, hi, hz0, hz1, hz2⟩ := info_parts info_rtok
              rw [hxD] at hend
              clear HNX HI HB HRR HMM hMp hd hd1 hRl hDl HD hxD
              rcases hend with ⟨hK, hX, hb1⟩ | ⟨hK, hL, hpL, hX, hb1⟩
              · subst hK
                rw [hX, hb1] at hnx
                have hap : Hid (T ++ (x, 0, 0) :: tks D te R F (p + 1) = A) := Lib.hid (by have := HTA.out; rw [hnx] at this; exact this)
                clear hX hb1 hnx HTA
                go_upto_region 18 with fail
                go_wp2_with (at_builtin; refine wp_app rfl (.tmp 78) (.tmp 83) 40 40 rfl 43 i0 (.agg #[.int .u8 0, .int .i64 0, .int .i64 0]) 3 24 Try.underlying40 hi hz0 hz1 hz2 rfl (hr.mut ((Mut.refl [] wr).alloc _) (by simp)) rfl (src1 Try.underlying40 (heap_alloc_new wr _) rfl (tok_one _ _ _)) rfl ?b1 ?b2 ?_)
                case b1 => unfold maxLen; omega
                case b2 => omega
                intro v' w1 hr1 hg1 hf1
                have HTK : Hid (RtC w (T ++ [(x, 0, 0)]) v' w1) := Lib.hid (RtC.app hmm hfr2 hr1 hg1 hf1)
                clear hr1 hg1 hf1 hr hfr2 hmm hi hz0 hz1 hz2
                go_wp2_with fail
                exact fin2r (q := 1) (Nat.le_refl 1) hp1 (by omega) hTl HTK.out hap.out _ rfl
              · rw [hX, hb1] at hnx
                have hap : Hid (T ++ (0, L, K) :: tks D te R F (p + L) = A) := Lib.hid (by have := HTA.out; rw [hnx, Nat.max_eq_left (by omega)] at this; exact this)
                have hKI : ((K : Int) == 0) = false := by rw [beq_eq_false_iff_ne]; omega
                clear hX hb1 hnx HTA
                go_upto_region 20 with fail
                go_wp2_with (at_builtin; refine wp_app rfl (.tmp 87) (.tmp 91) 40 40 rfl 43 i0 (.agg #[.int .u8 0, .int .i64 0, .int .i64 0]) 3 24 Try.underlying40 hi hz0 hz1 hz2 rfl (hr.mut ((Mut.refl [] wr).alloc _) (by simp)) rfl (src1 Try.underlying40 (heap_alloc_new wr _) rfl (tok_one _ _ _)) rfl ?b1 ?b2 ?_)
                case b1 => unfold maxLen; omega
                case b2 => omega
                intro v' w1 hr1 hg1 hf1
                have HTK : Hid (RtC w (T ++ [(0, L, K)]) v' w1) := Lib.hid (RtC.app hmm hfr2 hr1 hg1 hf1)
                clear hr1 hg1 hf1 hr hfr2 hmm hi hz0 hz1 hz2
                go_wp2_with fail
                exact fin2r (q := L) (by omega) hp1 hpL hTl HTK.out hap.out _ rfl

end Go.Proofs.Ytcdoamaljgjojaa
