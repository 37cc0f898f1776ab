/- Walks over package gz: may a part be written? What is packed: how long it is, that it is unpacked, and that no byte cut off it is missed, plain. No program. -/
import Derived.Test.YtgjcnembeebjfaaGzW5
import Derived.Test.YtgjcnembeebjfaaGSzb
import Derived.Test.YtgjcnembeebjfaaGPlain
import Derived.Test.YtgjcnembeebjfaaGInM
import Derived.Test.YtgjcnembeebjfaaGSza

namespace Go.Proofs.Ytgjcnembeebjfaa
open Go.RowKit
set_option linter.unusedVariables false

/-- may a part be written? 0: yes -/
def goodN (p : GPart) : Nat :=
  if p.time < 0 ∨ 4294967296 ≤ p.time ∨ p.more < 0 ∨ 255 < p.more ∨ p.system < 0 ∨ 255 < p.system then 1
  else if 256 < p.name.size ∨ 256 < p.comment.size ∨ 65535 < p.extra.size then 2
  else if 0 ≤ Lib.indexByte (p.name ++ p.comment).data.toList 0 then 15 else 0

set_option maxHeartbeats 1600000 in
set_option maxRecDepth 100000 in
theorem gz_good_any (p : GPart) (hn : p.name.size ≤ 1073741824) (hc : p.comment.size ≤ 1073741824) (hx : p.extra.size ≤ 1073741824) (w : World) :
    Calls Try.prog 22 #[gpV p] w fun e w' => e = .returned (.int .i64 ((goodN p : Nat) : Int)) ∧ Mut [] w w' := by
  obtain ⟨R, hR⟩ : ∃ R, goodN p = R := ⟨_, rfl⟩
  rw [hR]
  unfold goodN at hR
  have HR := Lib.hid hR
  have hpx := heap_alloc_new' w (.cells #[.string p.name, .string p.comment, .string p.extra, .bool p.text, .bool p.headSum, .int .i64 p.time, .int .i64 p.more, .int .i64 p.system, .string p.data] 37)
  have HM := Lib.hid ((Mut.refl [] w).alloc (.cells #[.string p.name, .string p.comment, .string p.extra, .bool p.text, .bool p.headSum, .int .i64 p.time, .int .i64 p.more, .int .i64 p.system, .string p.data] 37))
  have e0 := cellOf hpx 0 (x := .string p.name) rfl
  have e1 := cellOf hpx 1 (x := .string p.comment) rfl
  have e2 := cellOf hpx 2 (x := .string p.extra) rfl
  have e5 := cellOf hpx 5 (x := .int .i64 p.time) rfl
  have e6 := cellOf hpx 6 (x := .int .i64 p.more) rfl
  have e7 := cellOf hpx 7 (x := .int .i64 p.system) rfl
  rw [show gpV p = .agg #[.string p.name, .string p.comment, .string p.extra, .bool p.text, .bool p.headSum, .int .i64 p.time, .int .i64 p.more, .int .i64 p.system, .string p.data] from rfl]
  have hsz : p.name.size + p.comment.size ≤ 2147483648 := by omega
  have HI := Lib.hid fun W => gz_index_any (p.name ++ p.comment) 0 W
  rw [show (0 : Int).toNat.toUInt8 = 0 from rfl] at HI
  obtain ⟨p0, p1, p2, p3, p4, p5, p6, p7, p8⟩ := p
  dsimp only at *
  clear hpx hR
  go_enter Try.func22, Try.ntmps22
  go_upto_region 1 with fail
  generalize w.alloc (.cells #[.string p0, .string p1, .string p2, .bool p3, .bool p4, .int .i64 p5, .int .i64 p6, .int .i64 p7, .string p8] 37) = w1 at *
  go_cut [3] (fun x wx => ∃ q : Bool, x = .bool q ∧ wx = w1 ∧ Hid (q = true ↔ (p5 < 0 ∨ 4294967296 ≤ p5 ∨ p6 < 0 ∨ 255 < p6 ∨ p7 < 0 ∨ 255 < p7)))
  case first =>
    clear HR HI
    by_cases h1 : p5 < 0
    · go_wp2_with fail
      go_meet
      exact ⟨_, rfl, rfl, Lib.hid (by simp [h1])⟩
    by_cases h2 : 4294967296 ≤ p5
    · go_wp2_with fail
      go_meet
      exact ⟨_, rfl, rfl, Lib.hid (by simp [h2])⟩
    by_cases h3 : p6 < 0
    · go_wp2_with fail
      go_meet
      exact ⟨_, rfl, rfl, Lib.hid (by simp [h3])⟩
    by_cases h4 : 255 < p6
    · go_wp2_with fail
      go_meet
      exact ⟨_, rfl, rfl, Lib.hid (by simp [h4])⟩
    by_cases h5 : p7 < 0
    · go_wp2_with fail
      go_meet
      exact ⟨_, rfl, rfl, Lib.hid (by simp [h5])⟩
    by_cases h6 : 255 < p7
    · go_wp2_with fail
      go_meet
      exact ⟨_, rfl, rfl, Lib.hid (by simp [h6])⟩
    · have HN : Hid (¬ (p5 < 0 ∨ 4294967296 ≤ p5 ∨ p6 < 0 ∨ 255 < p6 ∨ p7 < 0 ∨ 255 < p7)) := Lib.hid (by omega)
      go_wp2_with fail
      go_meet
      exact ⟨false, rfl, rfl, Lib.hid (iff_of_false (by simp) HN.out)⟩
  case rest =>
  obtain ⟨q, rfl, rfl, HQ⟩ := hcut
  cases q
  case true =>
    have HE : Hid (R = 1) := Lib.hid (by rw [← HR.out, if_pos (HQ.out.1 rfl)])
    clear HR HQ
    go_wp2_with fail
    exact bodyPost_ret (results_tmp rfl _ _ _) rfl ⟨by rw [HE.out]; rfl, HM.out⟩
  case false =>
  have HR2 : Hid ((if 256 < p0.size ∨ 256 < p1.size ∨ 65535 < p2.size then 2 else if 0 ≤ Lib.indexByte (p0 ++ p1).data.toList 0 then 15 else 0) = R) := Lib.hid (by
    have h := HR.out
    rw [if_neg (fun h => by have := HQ.out.2 h; simp at this)] at h
    exact h)
  clear HR HQ
  go_upto_region 3 with fail
  go_cut [32] (fun x wx => ∃ q : Bool, x = .bool q ∧ wx = wc ∧ Hid (q = true ↔ (256 < p0.size ∨ 256 < p1.size ∨ 65535 < p2.size)))
  case first =>
    clear HR2 HI
    by_cases h1 : 256 < p0.size
    · have h1I : (256 : Int) < (p0.size : Int) := by omega
      go_wp2_with fail
      go_meet
      exact ⟨_, rfl, rfl, Lib.hid (by simp [h1])⟩
    have h1I : ¬ (256 : Int) < (p0.size : Int) := by omega
    by_cases h2 : 256 < p1.size
    · have h2I : (256 : Int) < (p1.size : Int) := by omega
      go_wp2_with fail
      go_meet
      exact ⟨_, rfl, rfl, Lib.hid (by simp [h2])⟩
    have h2I : ¬ (256 : Int) < (p1.size : Int) := by omega
    by_cases h3 : 65535 < p2.size
    · have h3I : (65535 : Int) < (p2.size : Int) := by omega
      go_wp2_with fail
      go_meet
      exact ⟨_, rfl, rfl, Lib.hid (by simp [h3])⟩
    have h3I : ¬ (65535 : Int) < (p2.size : Int) := by omega
    have HN : Hid (¬ (256 < p0.size ∨ 256 < p1.size ∨ 65535 < p2.size)) := Lib.hid (by omega)
    go_wp2_with fail
    go_meet
    exact ⟨false, rfl, rfl, Lib.hid (iff_of_false (by simp) HN.out)⟩
  case rest =>
  obtain ⟨q, rfl, rfl, HQ⟩ := hcut
  cases q
  case true =>
    have HE : Hid (R = 2) := Lib.hid (by rw [← HR2.out, if_pos (HQ.out.1 rfl)])
    clear HR2 HQ
    go_wp2_with fail
    exact bodyPost_ret (results_tmp rfl _ _ _) rfl ⟨by rw [HE.out]; rfl, HM.out⟩
  case false =>
  have HR3 : Hid ((if 0 ≤ Lib.indexByte (p0 ++ p1).data.toList 0 then 15 else 0) = R) := Lib.hid (by
    have h := HR2.out
    rw [if_neg (fun h => by have := HQ.out.2 h; simp at this)] at h
    exact h)
  clear HR2 HQ
  generalize Lib.indexByte (p0 ++ p1).data.toList 0 = i at *
  by_cases h0 : 0 ≤ i
  · have HE : Hid (R = 15) := Lib.hid (by rw [← HR3.out, if_pos h0])
    clear HR3
    go_wp2_with fail
    refine (HI.out _).mono ?_
    rintro e w2 ⟨rfl, rfl⟩
    go_wp2_with fail
    exact bodyPost_ret (results_tmp rfl _ _ _) rfl ⟨by rw [HE.out]; rfl, HM.out⟩
  · have HE : Hid (R = 0) := Lib.hid (by rw [← HR3.out, if_neg h0])
    clear HR3
    go_wp2_with fail
    refine (HI.out _).mono ?_
    rintro e w2 ⟨rfl, rfl⟩
    go_wp2_with fail
    exact bodyPost_ret (results_tmp rfl _ _ _) rfl ⟨by rw [HE.out]; rfl, HM.out⟩

end Go.Proofs.Ytgjcnembeebjfaa

namespace Go.Proofs.Ytgjcnembeebjfaa
open Go.RowKit
set_option linter.unusedVariables false

set_option maxRecDepth 100000 in
theorem packR_len (D : List Nat) (hD : ∀ x ∈ D, x < 256) (C : List Ch) : ∀ f a i L B, PInv D.length C a i L → muOf D.length C a i < f → (packR D C f a i L B).length ≤ B.length + 60 * (D.length - a) + 1400 * (muOf D.length C a i + 1)
  | 0, _, _, _, _, _, h => by omega
  | f + 1, a, i, L, B, hI, hmu => by
    obtain ⟨FIN, hFIN⟩ : ∃ FIN, packR D C (f + 1) a i L B = FIN := ⟨_, rfl⟩
    rw [hFIN]
    obtain ⟨k, hk⟩ : ∃ k, kindOf (chAt C D.length i).1 = k := ⟨_, rfl⟩
    obtain ⟨n, hn⟩ : ∃ n, cutOf k L = n := ⟨_, rfl⟩
    obtain ⟨q, hq⟩ : ∃ q, isLast C D.length a i L n = q := ⟨_, rfl⟩
    have hnL : n ≤ L := by rw [← hn]; exact cut_le k L
    have han : a + n ≤ D.length := by have := hI.le; have := hI.room; omega
    have hbl := blkB_len D hD k a n (reachOf (chAt C D.length i).2.2) (reachOf_le _) q B
    have hnx := packR_next hI hmu hFIN k n q hk hn hq
    rw [packR] at hFIN
    simp only [hk, hn, hq] at hFIN
    rcases hnx with ⟨h1, h2, _⟩ | ⟨h1, _, _, _, h5, h6⟩
    · rw [← h2]
      omega
    · subst h1
      rw [if_neg (by decide)] at hFIN
      have := packR_len D hD C f (a + n) (nextI i L n) (nextL C D.length a i L n) (blkB D k a n (reachOf (chAt C D.length i).2.2) false B) h5 (by omega)
      rw [hFIN] at this
      omega

set_option maxRecDepth 100000 in
theorem packAll_len (D : List Nat) (hD : ∀ x ∈ D, x < 256) (C : List Ch) : (packAll D C).length ≤ 1460 * D.length + 1400 * (C.length + 1) := by
  have := packR_len D hD C (D.length + C.length + 1) 0 0 (leftOf C D.length 0 0) [] (PInv.start _ _) (by unfold muOf; omega)
  unfold packAll
  unfold muOf at this
  simp only [List.length_nil] at this
  omega

set_option maxRecDepth 100000 in
theorem packAll_pos (D : List Nat) (C : List Ch) : 3 ≤ (packAll D C).length := by
  unfold packAll
  rw [packR]
  obtain ⟨r, hr⟩ := blkB_pre D (kindOf (chAt C D.length 0).1) 0 (cutOf (kindOf (chAt C D.length 0).1) (leftOf C D.length 0 0)) (reachOf (chAt C D.length 0).2.2) (isLast C D.length 0 0 (leftOf C D.length 0 0) (cutOf (kindOf (chAt C D.length 0).1) (leftOf C D.length 0 0))) []
  have h3 := congrArg List.length hr
  simp only [List.length_append, lowBits_length, List.length_nil] at h3
  split
  · omega
  · obtain ⟨r2, h2⟩ := packR_pre D C (D.length + C.length) (0 + cutOf (kindOf (chAt C D.length 0).1) (leftOf C D.length 0 0)) (nextI 0 (leftOf C D.length 0 0) (cutOf (kindOf (chAt C D.length 0).1) (leftOf C D.length 0 0))) (nextL C D.length 0 0 (leftOf C D.length 0 0) (cutOf (kindOf (chAt C D.length 0).1) (leftOf C D.length 0 0))) (blkB D (kindOf (chAt C D.length 0).1) 0 (cutOf (kindOf (chAt C D.length 0).1) (leftOf C D.length 0 0)) (reachOf (chAt C D.length 0).2.2) (isLast C D.length 0 0 (leftOf C D.length 0 0) (cutOf (kindOf (chAt C D.length 0).1) (leftOf C D.length 0 0))) [])
    have h4 := congrArg List.length h2
    rw [List.length_append] at h4
    omega

theorem packed_size (D : List Nat) (C : List Ch) : (strOf (pack (packAll D C))).size = ((packAll D C).length + 7) / 8 := by rw [strOf_size, pack_length]

/-- what is cut off its end is missed -/
theorem pack_cut (D : List Nat) (hD : ∀ x ∈ D, x < 256) (C : List Ch) (m F : Nat) (hm : D.length ≤ m) (hF : D.length + C.length + 1 ≤ F) (n : Nat) (hn : n < (strOf (pack (packAll D C))).size) : (runU F ((strOf (pack (packAll D C))).extract 0 n) m).er = 3 := by
  have h1 := pack_run D hD C ByteArray.empty m hm F hF
  rw [ByteArray.append_empty] at h1
  have hs := packed_size D C
  rcases run_cut F _ _ m (pre_extract (strOf (pack (packAll D C))) n) with h | h
  · have hi := run_inside F ((strOf (pack (packAll D C))).extract 0 n) m
    rw [h, h1] at hi
    simp only [ByteArray.size_extract] at hi
    omega
  · exact h

end Go.Proofs.Ytgjcnembeebjfaa
