/- Walks over package templ: part, Expand; the law's number. -/
import Derived.Test.YtekgoldkcmehcaaTplW4
import Derived.Deep.LoopGhost
import Derived.Deep.DeepCutAuto
namespace Go.Proofs.Ytekgoldkcmehcaa
open Go.RowKit Go.Shelf
set_option linter.unusedVariables false

set_option maxHeartbeats 1600000 in
set_option maxRecDepth 100000 in
theorem part_text (t s : ByteArray) (v : Value) (w : World) :
    Calls Try.prog 14 #[.agg #[.string t, .int .i64 (-1)], .string s, v] w fun e w' => e = .returned (.string t) ∧ Mut [] w w' := by
  have h := heap_alloc_new' w (.cells #[.string t, .int .i64 (-1)] 35)
  have c1 := cellOf h 0 (x := .string t) rfl
  have c2 := cellOf h 1 (x := .int .i64 (-1)) rfl
  have HM := Lib.hid ((Mut.refl [] w).alloc (.cells #[.string t, .int .i64 (-1)] 35))
  clear h
  go_enter Try.func14, Try.ntmps14
  go_wp2_with fail
  exact bodyPost_ret (results_tmp rfl _ _ _) rfl ⟨rfl, HM.out⟩

set_option maxHeartbeats 1600000 in
set_option maxRecDepth 100000 in
theorem part_one (g : Nat) (w : World) (hg : w.heap[g]? = some (.cells #[.int .i64 0, .int .i64 2, .int .i64 1, .int .i64 2] 3 (0, 0))) :
    Calls Try.prog 14 #[.agg #[.string .empty, .int .i64 1], .string ⟨#[97, 98]⟩, .slice (some ⟨g, 0, none⟩) 4 4] w fun e w' => e = .returned (.string ⟨#[98]⟩) ∧ Mut [] w w' := by
  have h := heap_alloc_new' w (.cells #[.string .empty, .int .i64 1] 35)
  have c1 := cellOf h 0 (x := .string .empty) rfl
  have c2 := cellOf h 1 (x := .int .i64 1) rfl
  have HM := Lib.hid ((Mut.refl [] w).alloc (.cells #[.string .empty, .int .i64 1] 35))
  have hg' := HM.out.get hg (by simp)
  have c3 := cellOf hg' 2 (x := .int .i64 1) rfl
  have c4 := cellOf hg' 3 (x := .int .i64 2) rfl
  have hs : (⟨#[97, 98]⟩ : ByteArray).size = 2 := rfl
  have hx : (⟨#[97, 98]⟩ : ByteArray).extract 1 2 = ⟨#[98]⟩ := by decide
  generalize (⟨#[97, 98]⟩ : ByteArray) = S at *
  have hs1 : (S.size : Int) = 2 := by omega
  have HX := Lib.hid hx
  clear hx
  clear h hg hg'
  go_enter Try.func14, Try.ntmps14
  go_upto_region 1 with fail
  generalize w.alloc (.cells #[.string .empty, .int .i64 1] 35) = w1 at *
  go_upto_region 5 with fail
  go_quiet (fail)
  have HM2 : Hid (Mut [] w (w1.drewN nq)) := Lib.hid (HM.out.drewN _)
  generalize w1.drewN nq = w2 at *
  clear c1 c2 c3 c4
  go_wp2_with fail
  rw [HX.out]
  exact bodyPost_ret (results_tmp rfl _ _ _) rfl ⟨rfl, HM2.out⟩

/-- the bytes that pieces become -/
def outOf (f : Pc → ByteArray) (l : List Pc) : List Nat := l.flatMap fun p => bytesOf (f p)
theorem outOf_app (f : Pc → ByteArray) (a b : List Pc) : outOf f (a ++ b) = outOf f a ++ outOf f b := List.flatMap_append
theorem outOf_one (f : Pc → ByteArray) (x : Pc) : outOf f [x] = bytesOf (f x) := by simp [outOf]

set_option maxHeartbeats 1600000 in
set_option maxRecDepth 100000 in
theorem expand_any (l : List Pc) (f : Pc → ByteArray) (pp : Option Addr) (cap : Nat) (s s2 : ByteArray) (nts : Value) (h2 : bytesOf s2 = outOf f l) (hz : s2.size ≤ 1073741824) (hn : l.length ≤ 1048576) (w : World) (hr : w.ownsRow 0 35 2 (.slice pp l.length cap) l.length (pcL l))
    (hp : ∀ p ∈ l, ∀ w', Mut [] w w' → Calls Try.prog 14 #[.agg #[.string p.1, .int .i64 p.2], .string s, nts] w' fun e w2 => e = .returned (.string (f p)) ∧ Mut [] w' w2) :
    Calls Try.prog 7 #[.slice pp l.length cap, .string s, nts] w fun e w' => e = .returned (.string s2) ∧ Mut [] w w' := by
  have HR := Lib.hid hr
  have HP := Lib.hid hp
  have H0 := Lib.hid (Bd.start w)
  have HL : Hid ((outOf f l).length = s2.size) := Lib.hid (by rw [← h2, bytesOf_length])
  have H2 := Lib.hid h2
  obtain ⟨n, hnl⟩ : ∃ n, l.length = n := ⟨_, rfl⟩
  have HN := Lib.hid hnl
  rw [hnl]
  have hn' : n ≤ 1048576 := by omega
  clear hr hp h2 hnl hn
  go_enter Try.func7, Try.ntmps7
  go_upto_region 3 with fail
  generalize w.alloc (.cells #[.pointer none, .slice none 0 0] 49) = w1 at *
  go_loopg [12] n (fun g c wr => ∃ i : Nat, g = n - i ∧ i ≤ n ∧ c = .int .i64 (i : Int) ∧ Hid (Bd w w.heap.size (outOf f (l.take i)) wr))
  case atStart => exact ⟨0, by omega, Nat.zero_le _, rfl, Lib.hid (by simpa [outOf] using H0.out)⟩
  case round =>
    obtain ⟨i, rfl, hi, rfl, HB⟩ := hrel
    clear H0
    by_cases hlt : i < n
    case pos =>
      have hI : (i : Int) < (n : Int) := by omega
      have hil : i < l.length := by rw [HN.out]; exact hlt
      obtain ⟨g, cp, e1, hg1, hg2⟩ := row_some HR.out (by omega)
      cases e1
      have hr' : wr.ownsRow 0 35 2 (.slice (some ⟨g, 0, none⟩) l.length cap) l.length (pcL l) := HB.out.kept.row HR.out (by simp)
      obtain ⟨c1, c2⟩ := rowAt2 hr' i hil
      have HPI := Lib.hid (HP.out l[i] (List.getElem_mem hil))
      have HTK : Hid (outOf f (l.take (i + 1)) = outOf f (l.take i) ++ bytesOf (f l[i])) := Lib.hid (by rw [List.take_succ_eq_append_getElem hil, outOf_app, outOf_one])
      have HLN : Hid ((outOf f (l.take i)).length + (f l[i]).size ≤ 1073741824) := Lib.hid (by
        have h1 : (outOf f (l.take (i + 1))).length ≤ (outOf f l).length := by
          conv => rhs; rw [← List.take_append_drop (i + 1) l]
          rw [outOf_app, List.length_append]
          omega
        have h2 := HTK.out
        have h3 := HL.out
        rw [h2, List.length_append, bytesOf_length] at h1
        omega)
      generalize l[i] = x at *
      obtain ⟨t, gr⟩ := x
      clear hr' hil
      have hx := heap_alloc_new' wr (.cells #[.string t, .int .i64 gr] 35)
      have d1 := cellOf hx 0 (x := .string t) rfl
      have d2 := cellOf hx 1 (x := .int .i64 gr) rfl
      have HM := Lib.hid ((Mut.refl [] wr).alloc (.cells #[.string t, .int .i64 gr] 35))
      have hb : w.heap.size ≤ wr.heap.size := HB.out.kept.size
      clear hx
      go_upto_region 5 with fail
      generalize wr.alloc (.cells #[.string t, .int .i64 gr] 35) = w2 at *
      clear c1 c2
      go_wp2_with fail
      refine (HPI.out w2 (HB.out.kept.trans' (HM.out))).mono ?_
      rintro e w3 ⟨rfl, hm⟩
      have HB3 := Lib.hid (HB.out.mut (HM.out.trans' hm))
      clear hm HM HB d1 d2
      go_wp2_with fail
      refine (bw_any w w.heap.size _ _ w3 HB3.out HLN.out).mono ?_
      rintro e w4 ⟨⟨v4, rfl⟩, hB4⟩
      rw [← HTK.out] at hB4
      have HB4 := Lib.hid hB4
      clear hB4 HB3
      go_wp2_with fail
      go_roundg (n - (i + 1))
      case measure => omega
      case rel => exact ⟨i + 1, rfl, by omega, by rw [Int.natCast_add]; rfl, HB4⟩
    case neg =>
      obtain rfl : i = n := by omega
      have hI : ¬ (i : Int) < (i : Int) := by omega
      have HB' : Hid (Bd w w.heap.size (outOf f l) wr) := Lib.hid (by
        have := HB.out
        rw [List.take_of_length_le (by rw [HN.out]; exact Nat.le_refl _)] at this
        exact this)
      clear HB
      go_wp2_with fail
      refine (bs_any w w.heap.size _ s2 H2.out wr HB'.out).mono ?_
      rintro e w4 ⟨rfl, hm⟩
      have HM := Lib.hid hm
      clear hm
      go_wp2_with fail
      exact bodyPost_ret (results_tmp rfl _ _ _) rfl ⟨rfl, HM.out⟩

end Go.Proofs.Ytekgoldkcmehcaa
