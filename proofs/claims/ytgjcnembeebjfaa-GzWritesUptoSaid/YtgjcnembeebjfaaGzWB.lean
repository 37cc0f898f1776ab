/- Walks over package gz: Write. -/
import Derived.Test.YtgjcnembeebjfaaGzWA
import Derived.Test.YtgjcnembeebjfaaGzW7
import Derived.Test.YtgjcnembeebjfaaGzK
import Derived.Test.YtgjcnembeebjfaaBld
namespace Go.Proofs.Ytgjcnembeebjfaa
open Go.RowKit Go.Shelf
set_option linter.unusedVariables false

/-- the file of parts that may all be written -/
def fileL (l : List GPart) (C : List Ch) : List Nat := l.flatMap fun p => bytesOf (partB p C)
theorem fileL_snoc (l : List GPart) (p : GPart) (C : List Ch) : fileL (l ++ [p]) C = fileL l C ++ bytesOf (partB p C) := by simp [fileL]
theorem fileL_pre (l : List GPart) (C : List Ch) (k : Nat) : (fileL (l.take k) C).length ≤ (fileL l C).length := by
  conv => rhs; rw [← List.take_append_drop k l]
  unfold fileL
  rw [List.flatMap_append, List.length_append]
  omega

set_option maxHeartbeats 3200000 in
set_option maxRecDepth 100000 in
/-- parts that may all be written -/
theorem gz_write_ok (l : List GPart) (hl0 : l ≠ []) (hl1 : l.length ≤ 1024) (hg : ∀ p ∈ l, goodN p = 0 ∧ p.data.size ≤ 1048576) (pp : Option Addr) (cc : Nat) (C : List Ch) (hCl : C.length ≤ 1048576) (hCk : ∀ c ∈ C, -9223372036854775808 ≤ c.1 ∧ c.1 ≤ 9223372036854775807) (v : Value)
    (s : ByteArray) (hs : bytesOf s = fileL l C) (hz : s.size ≤ 1099511627776) (w : World) (hr : w.ownsRow 0 37 9 (.slice pp l.length cc) l.length (gpL l)) (hv : CRow 46 w v C) :
    Calls Try.prog 16 #[.slice pp l.length cc, v] w fun e w' => e = .returned (.tuple #[.string s, .int .i64 0]) ∧ Mut [] w w' := by
  have HR := Lib.hid hr
  have HV := Lib.hid hv
  have HG := Lib.hid hg
  have HS := Lib.hid hs
  have HB0 := Lib.hid (Bd.start w)
  have HLN : Hid ((fileL l C).length ≤ 1099511627776) := Lib.hid (by rw [← hs, bytesOf_length]; exact hz)
  have hpos : 0 < l.length := List.length_pos_iff.2 hl0
  obtain ⟨n, hnl⟩ : ∃ n, l.length = n := ⟨_, rfl⟩
  rw [hnl] at hpos hl1
  have HN := Lib.hid hnl
  have hn0 : ((n : Int) == 0) = false := by rw [beq_eq_false_iff_ne]; omega
  have hn1 : ¬ (1024 : Int) < (n : Int) := by omega
  rw [hnl]
  clear hr hv hg hs hnl hl0
  go_enter Try.func16, Try.ntmps16
  go_upto_region 5 with fail
  generalize w.alloc (.cells #[.pointer none, .slice none 0 0] 68) = w1 at *
  go_loopg [20] n (fun g c wr => ∃ i : Nat, g = n - i ∧ i ≤ n ∧ c = .int .i64 (i : Int) ∧ Hid (Bd w w.heap.size (fileL (l.take i) C) wr))
  case atStart => exact ⟨0, by omega, Nat.zero_le _, rfl, HB0⟩
  case round =>
    obtain ⟨i, rfl, hi, rfl, HB⟩ := hrel
    clear HB0 hn0 hn1
    by_cases hlt : i < n
    case pos =>
      have hI : (i : Int) < (n : Int) := by omega
      have hil : i < l.length := by rw [HN.out]; exact hlt
      obtain ⟨g, cp, e1, -, -⟩ := row_some HR.out (by omega)
      cases e1
      have hr' : wr.ownsRow 0 37 9 (.slice (some ⟨g, 0, none⟩) l.length cc) l.length (gpL l) := HB.out.kept.row HR.out (by simp)
      have hat := rowAt9 hr' i hil
      have hgi := HG.out l[i] (List.getElem_mem hil)
      have HTK : Hid (fileL (l.take (i + 1)) C = fileL (l.take i) C ++ bytesOf (partB l[i] C)) := Lib.hid (by rw [List.take_succ_eq_append_getElem hil, fileL_snoc])
      have HLE : Hid ((fileL (l.take i) C).length + (partB l[i] C).size ≤ 1099511627776) := Lib.hid (by
        have h1 := fileL_pre l C (i + 1)
        have h2 := HTK.out
        have h3 := HLN.out
        rw [h2, List.length_append, bytesOf_length] at h1
        omega)
      generalize l[i] = p at *
      have d0 : wr.cell? ⟨g, i * 9, none⟩ = some (.string p.name) := hat 0 (.string p.name) (by decide) rfl
      have d1 := hat 1 (.string p.comment) (by decide) rfl
      have d2 := hat 2 (.string p.extra) (by decide) rfl
      have d3 := hat 3 (.bool p.text) (by decide) rfl
      have d4 := hat 4 (.bool p.headSum) (by decide) rfl
      have d5 := hat 5 (.int .i64 p.time) (by decide) rfl
      have d6 := hat 6 (.int .i64 p.more) (by decide) rfl
      have d7 := hat 7 (.int .i64 p.system) (by decide) rfl
      have d8 := hat 8 (.string p.data) (by decide) rfl
      clear hat hr' hil
      have hgd : p.name.size ≤ 256 ∧ p.comment.size ≤ 256 ∧ p.extra.size ≤ 65535 := by
        have h := hgi.1
        unfold goodN at h
        split at h
        · cases h
        · split at h
          · cases h
          · omega
      have HGD : Hid (∀ W, Calls Try.prog 22 #[gpV p] W fun e w' => e = .returned (.int .i64 0) ∧ Mut [] W w') := Lib.hid fun W => by
        have := gz_good_any p (by omega) (by omega) (by omega) W
        rw [hgi.1] at this
        exact this
      have HBY : Hid (∀ W, Mut [] w W → Calls Try.prog 24 #[gpV p, v] W fun e w' => e = .returned (.string (partB p C)) ∧ Mut [] W w') := Lib.hid fun W m => gz_bytes_any p hgi.1 hgi.2 C hCl hCk v W (HV.out.mut m (by simp))
      rw [show gpV p = .agg #[.string p.name, .string p.comment, .string p.extra, .bool p.text, .bool p.headSum, .int .i64 p.time, .int .i64 p.more, .int .i64 p.system, .string p.data] from rfl] at HGD HBY
      clear hgi hgd
      go_upto_region 7 with fail
      have hx := heap_alloc_new' wr (.cells #[.string p.name, .string p.comment, .string p.extra, .bool p.text, .bool p.headSum, .int .i64 p.time, .int .i64 p.more, .int .i64 p.system, .string p.data] 37)
      have k0 := cellOf hx 0 (x := .string p.name) rfl
      have k1 := cellOf hx 1 (x := .string p.comment) rfl
      have k2 := cellOf hx 2 (x := .string p.extra) rfl
      have k3 := cellOf hx 3 (x := .bool p.text) rfl
      have k4 := cellOf hx 4 (x := .bool p.headSum) rfl
      have k5 := cellOf hx 5 (x := .int .i64 p.time) rfl
      have k6 := cellOf hx 6 (x := .int .i64 p.more) rfl
      have k7 := cellOf hx 7 (x := .int .i64 p.system) rfl
      have k8 := cellOf hx 8 (x := .string p.data) rfl
      have HM := Lib.hid ((Mut.refl [] wr).alloc (.cells #[.string p.name, .string p.comment, .string p.extra, .bool p.text, .bool p.headSum, .int .i64 p.time, .int .i64 p.more, .int .i64 p.system, .string p.data] 37))
      have HX := Lib.hid hx
      clear hx d0 d1 d2 d3 d4 d5 d6 d7 d8
      generalize wr.alloc (.cells #[.string p.name, .string p.comment, .string p.extra, .bool p.text, .bool p.headSum, .int .i64 p.time, .int .i64 p.more, .int .i64 p.system, .string p.data] 37) = w2 at *
      go_wp2_with fail
      refine (HGD.out _).mono ?_
      rintro e w3 ⟨rfl, hm3⟩
      have hx3 := hm3.get HX.out (by simp)
      have HB3 := Lib.hid (HB.out.mut (HM.out.trans' hm3))
      clear k0 k1 k2 k3 k4 k5 k6 k7 k8 hm3 HB HM HX HGD
      have k0 := cellOf hx3 0 (x := .string p.name) rfl
      have k1 := cellOf hx3 1 (x := .string p.comment) rfl
      have k2 := cellOf hx3 2 (x := .string p.extra) rfl
      have k3 := cellOf hx3 3 (x := .bool p.text) rfl
      have k4 := cellOf hx3 4 (x := .bool p.headSum) rfl
      have k5 := cellOf hx3 5 (x := .int .i64 p.time) rfl
      have k6 := cellOf hx3 6 (x := .int .i64 p.more) rfl
      have k7 := cellOf hx3 7 (x := .int .i64 p.system) rfl
      have k8 := cellOf hx3 8 (x := .string p.data) rfl
      clear hx3
      go_wp2_with fail
      refine (HBY.out _ HB3.out.kept).mono ?_
      rintro e w4 ⟨rfl, hm4⟩
      have HB4 := Lib.hid (HB3.out.mut hm4)
      clear hm4 HB3 HBY k0 k1 k2 k3 k4 k5 k6 k7 k8
      go_wp2_with fail
      refine (bw_any w w.heap.size _ _ w4 HB4.out HLE.out).mono ?_
      rintro e w5 ⟨⟨v5, rfl⟩, hB5⟩
      rw [← HTK.out] at hB5
      have HB5 := Lib.hid hB5
      clear hB5 HB4
      go_wp2_with fail
      go_roundg (n - (i + 1))
      case measure => omega
      case rel => exact ⟨i + 1, rfl, by omega, by rw [Int.natCast_add]; rfl, HB5⟩
    case neg =>
      obtain rfl : i = n := by omega
      have hI : ¬ (i : Int) < (i : Int) := by omega
      have HB' : Hid (Bd w w.heap.size (fileL l C) wr) := Lib.hid (by
        have := HB.out
        rw [List.take_of_length_le (by rw [HN.out]; exact Nat.le_refl _)] at this
        exact this)
      clear HB
      go_wp2_with fail
      refine (bs_any w w.heap.size _ s HS.out wr HB'.out).mono ?_
      rintro e w4 ⟨rfl, hm⟩
      have HM := Lib.hid hm
      clear hm
      go_wp2_with fail
      exact bodyPost_ret (results_tmp2 rfl _ _ _) rfl ⟨rfl, HM.out⟩

end Go.Proofs.Ytgjcnembeebjfaa
