/- Walks over package gz: Write, any parts. What both writers answer for any parts, and what is read of it again. -/
import Derived.Test.YtgjcnembeebjfaaGzWB
import Derived.Test.YtgjcnembeebjfaaGzF2
import Derived.Test.YtgjcnembeebjfaaGzK

namespace Go.Proofs.Ytgjcnembeebjfaa
open Go.RowKit Go.Shelf
set_option linter.unusedVariables false

set_option maxRecDepth 100000 in
/-- no part, or too many of them -/
theorem gz_write_none (pp : Option Addr) (n cc : Nat) (hn : n = 0 ∨ 1024 < n) (v : Value) (w : World) :
    Calls Try.prog 16 #[.slice pp n cc, v] w fun e w' => e = .returned (.tuple #[.string .empty, .int .i64 1]) ∧ Mut [] w w' := by
  go_enter Try.func16, Try.ntmps16
  rcases hn with rfl | hn
  · go_wp2_with fail
    exact bodyPost_ret (results_tmp2 rfl _ _ _) rfl ⟨rfl, Mut.refl _ _⟩
  · have hn0 : ((n : Int) == 0) = false := by rw [beq_eq_false_iff_ne]; omega
    have hn1 : (1024 : Int) < (n : Int) := by omega
    go_wp2_with fail
    exact bodyPost_ret (results_tmp2 rfl _ _ _) rfl ⟨rfl, Mut.refl _ _⟩

set_option maxHeartbeats 3200000 in
set_option maxRecDepth 100000 in
/-- any parts -/
theorem gz_write_any (l : List GPart) (hl0 : l ≠ []) (hl1 : l.length ≤ 1024) (hd : ∀ p ∈ l, p.data.size ≤ 1048576 ∧ p.name.size ≤ 1048576 ∧ p.comment.size ≤ 1048576 ∧ p.extra.size ≤ 1048576) (pp : Option Addr) (cc : Nat) (C : List Ch) (hCl : C.length ≤ 1048576) (hCk : ∀ c ∈ C, -9223372036854775808 ≤ c.1 ∧ c.1 ≤ 9223372036854775807) (v : Value)
    (hz : ∀ k, (∀ p ∈ l.take k, goodN p = 0) → (fileL (l.take k) C).length ≤ 1099511627776) (w : World) (hr : w.ownsRow 0 37 9 (.slice pp l.length cc) l.length (gpL l)) (hv : CRow 46 w v C) :
    Calls Try.prog 16 #[.slice pp l.length cc, v] w fun e w' => e = .returned (.tuple #[.string (if bad1 l = 0 then strOf (fileL l C) else .empty), .int .i64 (bad1 l : Int)]) ∧ Mut [] w w' := by
  have HR := Lib.hid hr
  have HV := Lib.hid hv
  have HG := Lib.hid hd
  have HZ := Lib.hid hz
  obtain ⟨bd, hbd⟩ : ∃ bd, bad1 l = bd := ⟨_, rfl⟩
  have HBD : Hid (bad1 (l.drop 0) = bd ∧ ∀ p ∈ l.take 0, goodN p = 0) := Lib.hid ⟨hbd, by simp⟩
  have HB0 := Lib.hid (Bd.start w)
  have hpos : 0 < l.length := List.length_pos_iff.2 hl0
  obtain ⟨n, hnl⟩ : ∃ n, l.length = n := ⟨_, rfl⟩
  rw [hnl] at hpos hl1
  have HN := Lib.hid hnl
  have hn0 : ((n : Int) == 0) = false := by rw [beq_eq_false_iff_ne]; omega
  have hn1 : ¬ (1024 : Int) < (n : Int) := by omega
  rw [hnl, hbd]
  clear hr hv hd hz hnl hl0 hbd
  go_enter Try.func16, Try.ntmps16
  go_upto_region 5 with fail
  generalize w.alloc (.cells #[.pointer none, .slice none 0 0] 68) = w1 at *
  go_loopg [20] n (fun g c wr => ∃ i : Nat, g = n - i ∧ i ≤ n ∧ c = .int .i64 (i : Int) ∧ Hid (bad1 (l.drop i) = bd ∧ ∀ p ∈ l.take i, goodN p = 0) ∧ Hid (Bd w w.heap.size (fileL (l.take i) C) wr))
  case atStart => exact ⟨0, by omega, Nat.zero_le _, rfl, HBD, HB0⟩
  case round =>
    obtain ⟨i, rfl, hi, rfl, HBI, HB⟩ := hrel
    clear HB0 hn0 hn1 HBD
    by_cases hlt : i < n
    case pos =>
      have hI : (i : Int) < (n : Int) := by omega
      have hil : i < l.length := by rw [HN.out]; exact hlt
      obtain ⟨g, cp, e1, -, -⟩ := row_some HR.out (by omega)
      cases e1
      have hr' : wr.ownsRow 0 37 9 (.slice (some ⟨g, 0, none⟩) l.length cc) l.length (gpL l) := HB.out.kept.row HR.out (by simp)
      have hat := rowAt9 hr' i hil
      have hgi := HG.out l[i] (List.getElem_mem hil)
      have HTK : Hid (fileL (l.take (i + 1)) C = fileL (l.take i) C ++ bytesOf (partB l[i] C)) := Lib.hid (by rw [List.take_succ_eq_append_getElem hil, fileL_snoc])
      have HTK2 : Hid (l.take (i + 1) = l.take i ++ [l[i]] ∧ l.drop i = l[i] :: l.drop (i + 1)) := Lib.hid ⟨List.take_succ_eq_append_getElem hil, List.drop_eq_getElem_cons hil⟩
      generalize l[i] = p at *
      have d0 : wr.cell? ⟨g, i * 9, none⟩ = some (.string p.name) := hat 0 (.string p.name) (by decide) rfl
      have d1 := hat 1 (.string p.comment) (by decide) rfl
      have d2 := hat 2 (.string p.extra) (by decide) rfl
      have d3 := hat 3 (.bool p.text) (by decide) rfl
      have d4 := hat 4 (.bool p.headSum) (by decide) rfl
      have d5 := hat 5 (.int .i64 p.time) (by decide) rfl
      have d6 := hat 6 (.int .i64 p.more) (by decide) rfl
      have d7 := hat 7 (.int .i64 p.system) (by decide) rfl
      have d8 := hat 8 (.string p.data) (by decide) rfl
      clear hat hr' hil
      have HGD : Hid (∀ W, Calls Try.prog 22 #[gpV p] W fun e w' => e = .returned (.int .i64 ((goodN p : Nat) : Int)) ∧ Mut [] W w') := Lib.hid fun W => gz_good_any p (by omega) (by omega) (by omega) W
      have HBY : Hid (goodN p = 0 → ∀ W, Mut [] w W → Calls Try.prog 24 #[gpV p, v] W fun e w' => e = .returned (.string (partB p C)) ∧ Mut [] W w') := Lib.hid fun hgp W m => gz_bytes_any p hgp hgi.1 C hCl hCk v W (HV.out.mut m (by simp))
      rw [show gpV p = .agg #[.string p.name, .string p.comment, .string p.extra, .bool p.text, .bool p.headSum, .int .i64 p.time, .int .i64 p.more, .int .i64 p.system, .string p.data] from rfl] at HGD HBY
      have hgx := hgi.1
      clear hgi
      go_upto_region 7 with fail
      have hx := heap_alloc_new' wr (.cells #[.string p.name, .string p.comment, .string p.extra, .bool p.text, .bool p.headSum, .int .i64 p.time, .int .i64 p.more, .int .i64 p.system, .string p.data] 37)
      have k0 := cellOf hx 0 (x := .string p.name) rfl
      have k1 := cellOf hx 1 (x := .string p.comment) rfl
      have k2 := cellOf hx 2 (x := .string p.extra) rfl
      have k3 := cellOf hx 3 (x := .bool p.text) rfl
      have k4 := cellOf hx 4 (x := .bool p.headSum) rfl
      have k5 := cellOf hx 5 (x := .int .i64 p.time) rfl
      have k6 := cellOf hx 6 (x := .int .i64 p.more) rfl
      have k7 := cellOf hx 7 (x := .int .i64 p.system) rfl
      have k8 := cellOf hx 8 (x := .string p.data) rfl
      have HM := Lib.hid ((Mut.refl [] wr).alloc (.cells #[.string p.name, .string p.comment, .string p.extra, .bool p.text, .bool p.headSum, .int .i64 p.time, .int .i64 p.more, .int .i64 p.system, .string p.data] 37))
      have HX := Lib.hid hx
      clear hx d0 d1 d2 d3 d4 d5 d6 d7 d8
      generalize wr.alloc (.cells #[.string p.name, .string p.comment, .string p.extra, .bool p.text, .bool p.headSum, .int .i64 p.time, .int .i64 p.more, .int .i64 p.system, .string p.data] 37) = w2 at *
      go_wp2_with fail
      refine (HGD.out _).mono ?_
      rintro e w3 ⟨rfl, hm3⟩
      by_cases hgp : goodN p = 0
      case neg =>
        have he := bad_here HBI.out.1 HTK2.out.2 hgp
        have HK := Lib.hid ((HB.out.mut (HM.out.trans' hm3)).kept)
        subst he
        have hgI : ((goodN p : Int) == 0) = false := by rw [beq_eq_false_iff_ne]; omega
        clear hm3 HB HM HX HGD HBY HTK HTK2 HBI k0 k1 k2 k3 k4 k5 k6 k7 k8
        go_wp2_with fail
        exact bodyPost_ret (results_tmp2 rfl _ _ _) rfl ⟨rfl, HK.out⟩
      case pos =>
      rw [hgp]
      have HB2 : Hid (bad1 (l.drop (i + 1)) = bd ∧ ∀ p ∈ l.take (i + 1), goodN p = 0) := Lib.hid ⟨bad_next HBI.out.1 HTK2.out.2 hgp, by
        rw [HTK2.out.1]
        intro q hq
        rcases List.mem_append.1 hq with h | h
        · exact HBI.out.2 q h
        · rw [List.mem_singleton.1 h]; exact hgp⟩
      have HLE : Hid ((fileL (l.take i) C).length + (partB p C).size ≤ 1099511627776) := Lib.hid (by
        have h1 := HZ.out (i + 1) HB2.out.2
        rw [HTK.out, List.length_append, bytesOf_length] at h1
        exact h1)
      have HGP := Lib.hid hgp
      clear hgp HBI HTK2
      have hx3 := hm3.get HX.out (by simp)
      have HB3 := Lib.hid (HB.out.mut (HM.out.trans' hm3))
      clear k0 k1 k2 k3 k4 k5 k6 k7 k8 hm3 HB HM HX HGD
      have k0 := cellOf hx3 0 (x := .string p.name) rfl
      have k1 := cellOf hx3 1 (x := .string p.comment) rfl
      have k2 := cellOf hx3 2 (x := .string p.extra) rfl
      have k3 := cellOf hx3 3 (x := .bool p.text) rfl
      have k4 := cellOf hx3 4 (x := .bool p.headSum) rfl
      have k5 := cellOf hx3 5 (x := .int .i64 p.time) rfl
      have k6 := cellOf hx3 6 (x := .int .i64 p.more) rfl
      have k7 := cellOf hx3 7 (x := .int .i64 p.system) rfl
      have k8 := cellOf hx3 8 (x := .string p.data) rfl
      clear hx3
      go_wp2_with fail
      refine (HBY.out HGP.out _ HB3.out.kept).mono ?_
      rintro e w4 ⟨rfl, hm4⟩
      have HB4 := Lib.hid (HB3.out.mut hm4)
      clear hm4 HB3 HBY k0 k1 k2 k3 k4 k5 k6 k7 k8
      go_wp2_with fail
      refine (bw_any w w.heap.size _ _ w4 HB4.out HLE.out).mono ?_
      rintro e w5 ⟨⟨v5, rfl⟩, hB5⟩
      rw [← HTK.out] at hB5
      have HB5 := Lib.hid hB5
      clear hB5 HB4
      go_wp2_with fail
      go_roundg (n - (i + 1))
      case measure => omega
      case rel => exact ⟨i + 1, rfl, by omega, by rw [Int.natCast_add]; rfl, HB2, HB5⟩
    case neg =>
      obtain rfl : i = n := by omega
      have hI : ¬ (i : Int) < (i : Int) := by omega
      have HB' : Hid (Bd w w.heap.size (fileL l C) wr) := Lib.hid (by
        have := HB.out
        rw [List.take_of_length_le (by rw [HN.out]; exact Nat.le_refl _)] at this
        exact this)
      have h0 := HBI.out.1
      rw [List.drop_of_length_le (by rw [HN.out]; exact Nat.le_refl _)] at h0
      have hbd : bd = 0 := h0.symm
      subst hbd
      have HS : Hid (bytesOf (strOf (fileL l C)) = fileL l C) := Lib.hid (fileS_bytes l C)
      clear HB HBI h0
      go_wp2_with fail
      refine (bs_any w w.heap.size _ (strOf (fileL l C)) HS.out wr HB'.out).mono ?_
      rintro e w4 ⟨rfl, hm⟩
      have HM := Lib.hid hm
      clear hm
      go_wp2_with fail
      exact bodyPost_ret (results_tmp2 rfl _ _ _) rfl ⟨rfl, HM.out⟩

end Go.Proofs.Ytgjcnembeebjfaa

namespace Go.Proofs.Ytgjcnembeebjfaa
open Go.RowKit
set_option linter.unusedVariables false

theorem pcE_size (x : ByteArray) (h : x.size ≤ 65535) : (pcE x).size ≤ 65537 := by
  unfold pcE
  split
  · exact Nat.zero_le _
  · rw [ByteArray.size_append, strOf_size, lowL_len]
    omega
theorem pcT_size (x : ByteArray) (h : x.size ≤ 256) : (pcT x).size ≤ 257 := by
  unfold pcT
  split
  · exact Nat.zero_le _
  · rw [ByteArray.size_append]
    have : (⟨#[0]⟩ : ByteArray).size = 1 := rfl
    omega
theorem good_sizes {p : GPart} (hg : goodN p = 0) : p.name.size ≤ 256 ∧ p.comment.size ≤ 256 ∧ p.extra.size ≤ 65535 := by
  unfold goodN at hg
  split at hg
  · cases hg
  · split at hg
    · cases hg
    · omega
theorem partB_bound (p : GPart) (C : List Ch) (hg : goodN p = 0) (hd : p.data.size ≤ 1048576) (hC : C.length ≤ 1048576) : (partB p C).size ≤ 375500000 := by
  obtain ⟨h1, h2, h3⟩ := good_sizes hg
  have e1 := pcE_size p.extra h3
  have e2 := pcT_size p.name h1
  have e3 := pcT_size p.comment h2
  have e4 := (H10p_facts p hg).1
  have e5 : (hd2 p).size ≤ 66100 := by
    unfold hd2
    split
    · rw [ByteArray.size_append, strOf_size, lowL_len, hd1_eq]
      simp only [ByteArray.size_append]
      omega
    · rw [hd1_eq]
      simp only [ByteArray.size_append]
      omega
  have e6 := packAll_len (bytesOf p.data) (bytesOf_lt p.data) C
  rw [bytesOf_length] at e6
  unfold partB
  rw [ByteArray.size_append, ByteArray.size_append, ByteArray.size_append, packed_size, strOf_size, strOf_size, lowL_len, lowL_len]
  omega
theorem fileL_bound (C : List Ch) (hC : C.length ≤ 1048576) : ∀ l : List GPart, (∀ p ∈ l, goodN p = 0 ∧ p.data.size ≤ 1048576) → (fileL l C).length ≤ 375500000 * l.length
  | [], _ => Nat.zero_le _
  | p :: r, h => by
    have ih := fileL_bound C hC r (fun q hq => h q (by simp [hq]))
    obtain ⟨h1, h2⟩ := h p (by simp)
    have hb := partB_bound p C h1 h2 hC
    have e : fileL (p :: r) C = bytesOf (partB p C) ++ fileL r C := rfl
    rw [e, List.length_append, bytesOf_length, List.length_cons]
    omega

theorem bad1_zero : ∀ l : List GPart, bad1 l = 0 → ∀ p ∈ l, goodN p = 0
  | [], _, p, hp => by simp at hp
  | q :: r, h, p, hp => by
    rw [bad1] at h
    by_cases hq : goodN q = 0
    · rw [if_pos hq] at h
      rcases List.mem_cons.1 hp with rfl | hp
      · exact hq
      · exact bad1_zero r h p hp
    · rw [if_neg hq] at h
      exact absurd h hq

theorem sum_mem (f : GPart → Nat) : ∀ (l : List GPart) (p : GPart), p ∈ l → f p ≤ (l.map f).sum
  | [], p, h => by simp at h
  | q :: r, p, h => by
    rw [List.map_cons, List.sum_cons]
    rcases List.mem_cons.1 h with rfl | h
    · omega
    · have := sum_mem f r p h
      omega
theorem sum_le (f g : GPart → Nat) (h : ∀ p, f p ≤ g p) : ∀ l : List GPart, (l.map f).sum ≤ (l.map g).sum
  | [] => Nat.le_refl _
  | p :: r => by
    rw [List.map_cons, List.map_cons, List.sum_cons, List.sum_cons]
    have := sum_le f g h r
    have := h p
    omega

/-- what both writers answer -/
def WrAns (L : List GPart) (C : List Ch) (s : ByteArray) (e : Nat) : Prop :=
  (∀ (pp : Option Addr) (cc : Nat) (v : Value) (w : World), w.ownsRow 0 37 9 (.slice pp L.length cc) L.length (gpL L) → CRow 46 w v C → Calls Try.prog 16 #[.slice pp L.length cc, v] w fun r w' => r = .returned (.tuple #[.string s, .int .i64 (e : Int)]) ∧ Mut [] w w') ∧
  (∀ (pp : Option Addr) (cc : Nat) (v : Value) (w : World), w.ownsRow 0 44 9 (.slice pp L.length cc) L.length (gpL L) → CRow 48 w v C → Calls Try.prog 17 #[.slice pp L.length cc, v] w fun r w' => r = .returned (.tuple #[.string s, .int .i64 (e : Int)]) ∧ Mut [] w w')

set_option maxRecDepth 100000 in
theorem rwrite_none (pp : Option Addr) (n cc : Nat) (hn : n = 0 ∨ 1024 < n) (v : Value) (w : World) :
    Calls Try.prog 17 #[.slice pp n cc, v] w fun e w' => e = .returned (.tuple #[.string .empty, .int .i64 1]) ∧ Mut [] w w' := by
  go_enter Try.func17, Try.ntmps17
  rcases hn with rfl | hn
  · go_wp2_with fail
    exact bodyPost_ret (results_tmp2 rfl _ _ _) rfl ⟨rfl, Mut.refl _ _⟩
  · have hn0 : ¬ (n : Int) < 1 := by omega
    have hn1 : (1024 : Int) < (n : Int) := by omega
    go_wp2_with fail
    exact bodyPost_ret (results_tmp2 rfl _ _ _) rfl ⟨rfl, Mut.refl _ _⟩

theorem writes_plain (L : List GPart) (z : (L.map fun p => p.name.size + p.comment.size + p.extra.size + p.data.size + 1).sum ≤ 1048576) (C : List Ch) (hCl : C.length ≤ 1048576) (hCk : ∀ c ∈ C, -9223372036854775808 ≤ c.1 ∧ c.1 ≤ 9223372036854775807) :
    ∃ s e, WrAns L C s e ∧ (e = 0 → isM s = true ∧ RdAns s (L.map fun p => p.data.size).sum L.length 0 0 L) := by
  have hd : ∀ p ∈ L, p.data.size ≤ 1048576 ∧ p.name.size ≤ 1048576 ∧ p.comment.size ≤ 1048576 ∧ p.extra.size ≤ 1048576 := fun p hp => by
    have h : p.name.size + p.comment.size + p.extra.size + p.data.size + 1 ≤ 1048576 := Nat.le_trans (sum_mem (fun p => p.name.size + p.comment.size + p.extra.size + p.data.size + 1) L p hp) z
    omega
  by_cases hn : L.length = 0 ∨ 1024 < L.length
  · exact ⟨.empty, 1, ⟨fun pp cc v w _ _ => gz_write_none pp L.length cc hn v w, fun pp cc v w _ _ => rwrite_none pp L.length cc hn v w⟩, fun h => by cases h⟩
  have hl0 : L ≠ [] := fun h => hn (.inl (by rw [h]; rfl))
  have hl1 : L.length ≤ 1024 := by omega
  have hz : ∀ k, (∀ p ∈ L.take k, goodN p = 0) → (fileL (L.take k) C).length ≤ 1099511627776 := fun k hk => by
    have h1 := fileL_bound C hCl (L.take k) (fun p hp => ⟨hk p hp, (hd p (List.mem_of_mem_take hp)).1⟩)
    have h2 : (L.take k).length ≤ 1024 := by rw [List.length_take]; omega
    omega
  refine ⟨if bad1 L = 0 then strOf (fileL L C) else .empty, bad1 L, ⟨fun pp cc v w hr hv => gz_write_any L hl0 hl1 hd pp cc C hCl hCk v hz w hr hv, fun pp cc v w hr hv => rwrite_any L hl1 hd hl0 pp cc C hCl hCk v hz w hr hv⟩, fun h0 => ?_⟩
  rw [if_pos h0]
  have hgood := bad1_zero L h0
  obtain ⟨s, hs⟩ : ∃ s, strOf (fileL L C) = s := ⟨_, rfl⟩
  have hfs : fileS L C = s := hs
  rw [hs]
  have hsz : s.size ≤ 384512000000 := by
    have h1 := fileL_bound C hCl L (fun p hp => ⟨hgood p hp, (hd p hp).1⟩)
    rw [← hs, strOf_size]
    omega
  have hdat : (L.map fun p => p.data.size).sum ≤ 1048576 := Nat.le_trans (sum_le _ _ (fun p => by omega) L) z
  obtain ⟨fu, hfu⟩ : ∃ fu, fu = 10000000000000 := ⟨_, rfl⟩
  have hback : ∀ p ∈ L, Back fu C p := fun p hp => good_back _ C p (hgood p hp) (hd p hp).1 (by have := (hd p hp).1; omega)
  obtain ⟨e', he⟩ := file_back fu C L .empty (L.map fun p => p.data.size).sum 1026 [] hback (Nat.le_refl _) (by rw [List.length_nil]; omega) rfl (by rw [List.nil_append]; exact hl0)
  rw [empty_left, List.nil_append, hfs] at he
  constructor
  · cases L with
    | nil => exact absurd rfl hl0
    | cons p r =>
      rw [← hfs, fileS_cons]
      have h1 : partB p C = H10p p ++ ((pcE p.extra ++ pcT p.name ++ pcT p.comment) ++ ((if p.headSum = true then strOf (lowL (sumOf (bytesOf (hd1 p))).toNat 2) else .empty) ++ (strOf (pack (packAll (bytesOf p.data) C)) ++ (strOf (lowL (sumOf (bytesOf p.data)).toNat 4) ++ strOf (lowL p.data.size 4))))) := by
        unfold partB hd2
        apply bytesOf_inj
        split
        · simp only [hd1_eq, bytesOf_append, List.append_assoc]
        · have e : bytesOf ByteArray.empty = [] := rfl
          simp only [hd1_eq, bytesOf_append, List.append_assoc, e, List.nil_append]
      rw [h1]
      exact isM_more _ _ (isM_more _ _ (H10p_facts p (hgood p (by simp))).2.1)
  · have := ans_of fu s (by omega) (L.map fun p => p.data.size).sum (by omega) (by omega) _ he
    simp only [RL, RC, RF] at this
    exact this

end Go.Proofs.Ytgjcnembeebjfaa
