/- Walk over package ferretref05: Write. -/
import Derived.Test.YtgjcnembeebjfaaGzF1
import Derived.Test.YtgjcnembeebjfaaSqzF6
import Derived.Test.YtgjcnembeebjfaaRegI
import Derived.Deep.AppendSrc
import Derived.Deep.RegionWith
import Derived.Deep.LoopGhost
import Derived.Deep.DeepCutAuto
import Derived.BigQuiet
namespace Go.Proofs.Ytgjcnembeebjfaa
open Go.RowKit
set_option linter.unusedVariables false

/-- the first thing that is wrong with parts -/
def bad1 : List GPart → Nat
  | [] => 0
  | p :: r => if goodN p = 0 then bad1 r else goodN p

/-- where the loop over the parts is -/
structure RwS (w0 wx : World) (b : Nat) (p : GPart) (v : Value) (L : List Nat) : Prop where
  ob : OB w0 v L wx
  px : wx.heap[b]? = some (.cells (gpC p).toArray 44 (0, 0))
theorem RwS.mut {w0 wx wy : World} {b : Nat} {p : GPart} {v : Value} {L : List Nat} (h : RwS w0 wx b p v L) (m : Mut [] wx wy) : RwS w0 wy b p v L := ⟨h.ob.mut m, m.get h.px (by simp)⟩
theorem RwS.cells {w0 wx : World} {b : Nat} {p : GPart} {v : Value} {L : List Nat} (h : RwS w0 wx b p v L) (j : Nat) (x : Value) (hj : (gpC p)[j]? = some x) : wx.cell? ⟨b, j, none⟩ = some x := cellOf h.px j (by simpa using hj)
theorem RwS.app {w0 w wx w1 : World} {b : Nat} {p : GPart} {v v' : Value} {L M : List Nat} (h : RwS w0 w b p v L) (mx : Mut [] w wx) (hr : w1.ownsRow 0 5 1 v' (L.length + M.length) (uC L ++ uC M)) (hg : wx.grownBy w1 v.ownBlock) (hf : ∀ g, v'.ownBlock = some g → v.ownBlock = some g ∨ wx.heap.size ≤ g) : RwS w0 w1 b p v' (L ++ M) :=
  ⟨h.ob.app mx hr hg hf, ((mx.mono (by simp)).grown hg (fun k hk => .inl (by simp [hk])) : Mut v.ownBlock.toList w w1).get h.px (fun hx => row_ne h.ob.row h.px (by decide) (by simpa using hx))⟩

theorem RwS.appS {w0 w wx w1 : World} {b : Nat} {p : GPart} {v v' : Value} {L : List Nat} {n : Nat} {s : ByteArray} (h : RwS w0 w b p v L) (mx : Mut [] w wx) (hn : L.length = n) (hr : w1.ownsRow 0 5 1 v' (n + s.size) (uC L ++ byteCells s)) (hg : wx.grownBy w1 v.ownBlock) (hf : ∀ g, v'.ownBlock = some g → v.ownBlock = some g ∨ wx.heap.size ≤ g) :
    RwS w0 w1 b p v' (L ++ bytesOf s) ∧ (L ++ bytesOf s).length = n + s.size := by
  subst hn
  refine ⟨h.app mx (M := bytesOf s) ?_ hg hf, by rw [List.length_append, bytesOf_length]⟩
  rw [bytesOf_length]
  have e : uC (bytesOf s) = byteCells s := (byteCells_eq s).symm
  rw [e]
  exact hr
theorem partB_ne (p : GPart) (C : List Ch) : 8 ≤ (partB p C).size := by
  unfold partB
  rw [ByteArray.size_append, ByteArray.size_append, strOf_size, strOf_size, lowL_len, lowL_len]
  omega
theorem fileL_ne {l : List GPart} {C : List Ch} (h : l ≠ []) : fileL l C ≠ [] := by
  cases l with
  | nil => exact absurd rfl h
  | cons p r =>
    intro e
    have := congrArg List.length e
    unfold fileL at this
    rw [List.flatMap_cons, List.length_append, bytesOf_length, List.length_nil] at this
    have := partB_ne p C
    omega

/-- the lowest bytes, as the walk names them -/
def LW (x K : Int) : ByteArray := strOf (lowL x.toNat K.toNat)
theorem LW_size (x K : Int) : (LW x K).size = K.toNat := by unfold LW; rw [strOf_size, lowL_len]
theorem rlow_LW (x K : Int) (h0 : 0 ≤ x) (h1 : x < 4294967296) (k0 : 1 ≤ K) (k1 : K ≤ 4) (w : World) : Calls Try.prog 27 #[.int .i64 x, .int .i64 K] w fun e w' => e = .returned (.string (LW x K)) ∧ Mut [] w w' := by
  have h := rlow_any x.toNat K.toNat (by omega) (by omega) (by omega) w
  rw [Int.toNat_of_nonneg h0, Int.toNat_of_nonneg (by omega)] at h
  exact h

theorem zeroN_all (s : ByteArray) : 0 ≤ zeroN s 0 ↔ Lib.indexByte s.data.toList 0 ≠ -1 := by
  unfold zeroN
  have e : s.extract 0 s.size = s := by apply bytesOf_inj; rw [bytesOf_extract, List.drop_zero, List.take_of_length_le (by rw [bytesOf_length]; exact Nat.le_refl _)]
  rw [e]
  have hge := Lib.indexByte_ge s.data.toList 0
  cases h : Lib.indexByte s.data.toList 0 with
  | ofNat i =>
    refine ⟨fun _ h => ?_, fun _ => Int.natCast_nonneg _⟩
    cases h
  | negSucc i =>
    rw [h] at hge
    simp only []
    constructor
    · intro h; omega
    · intro h; omega
theorem index_both (c : UInt8) : ∀ a b : List UInt8, Lib.indexByte a c = -1 → Lib.indexByte b c = -1 → Lib.indexByte (a ++ b) c = -1
  | [], b, _, h => h
  | x :: a, b, h, h2 => by
    have ih := index_both c a b
    rw [Lib.indexByte] at h
    rw [List.cons_append, Lib.indexByte]
    by_cases e : (x == c) = true
    · rw [if_pos e] at h
      cases h
    · rw [if_neg e] at h
      by_cases e2 : (Lib.indexByte a c == -1) = true
      · rw [if_neg e, ih (by simpa using e2) h2]
        rfl
      · rw [if_neg e2] at h
        have := Lib.indexByte_ge a c
        omega
theorem zeros_iff (a b : ByteArray) : (0 ≤ zeroN a 0 ∨ 0 ≤ zeroN b 0) ↔ 0 ≤ Lib.indexByte (a ++ b).data.toList 0 := by
  have e : (a ++ b).data.toList = a.data.toList ++ b.data.toList := by simp
  rw [zeroN_all, zeroN_all, e]
  have hge := Lib.indexByte_ge (a.data.toList ++ b.data.toList) 0
  constructor
  · intro h
    by_cases h0 : Lib.indexByte (a.data.toList ++ b.data.toList) 0 = -1
    · exact absurd h0 (fun h0 => h.elim (fun h => h (index_none_left 0 _ _ h0)) (fun h => h (index_none_right 0 _ _ h0)))
    · omega
  · intro h
    by_cases h1 : Lib.indexByte a.data.toList 0 = -1
    · by_cases h2 : Lib.indexByte b.data.toList 0 = -1
      · rw [index_both 0 _ _ h1 h2] at h
        omega
      · exact .inr h2
    · exact .inl h1
theorem bad_here {p : GPart} {r m : List GPart} {bd : Nat} (h : bad1 m = bd) (e : m = p :: r) (hg : goodN p ≠ 0) : bd = goodN p := by
  rw [← h, e, bad1, if_neg hg]
theorem bad_next {p : GPart} {r m : List GPart} {bd : Nat} (h : bad1 m = bd) (e : m = p :: r) (hg : goodN p = 0) : bad1 r = bd := by
  rw [← h, e, bad1, if_pos hg]

def tF (p : GPart) : Nat := if p.text = true then 1 else 0
def tH (p : GPart) : Nat := if p.headSum = true then tF p + 2 else tF p
def tE (p : GPart) : Nat := if p.extra = .empty then tH p else tH p + 4
def tN (p : GPart) : Nat := if p.name = .empty then tE p else tE p + 8
def tC (p : GPart) : Nat := if p.comment = .empty then tN p else tN p + 16
theorem tC_eq (p : GPart) : tC p = fl5 p ∧ fl5 p < 32 := by
  refine ⟨?_, (fl_in p).2.2.2.2.2⟩
  unfold tC tN tE tH tF fl5 fl4 fl3 fl2 fl1
  by_cases h1 : p.extra = .empty <;> by_cases h2 : p.name = .empty <;> by_cases h3 : p.comment = .empty <;> cases p.headSum <;> cases p.text <;> simp [h1, h2, h3]
theorem tIn (p : GPart) : tF p ≤ 1 ∧ tH p ≤ 3 ∧ tE p ≤ 7 ∧ tN p ≤ 15 ∧ tC p ≤ 31 := by
  unfold tC tN tE tH tF
  by_cases h1 : p.extra = .empty <;> by_cases h2 : p.name = .empty <;> by_cases h3 : p.comment = .empty <;> cases p.headSum <;> cases p.text <;> simp [h1, h2, h3]

set_option maxHeartbeats 3200000 in
set_option maxRecDepth 100000 in
/-- from the flags on: one part behind the others -/
theorem rwrite_any (l : List GPart) (hl1 : l.length ≤ 1024) (hd : ∀ p ∈ l, p.data.size ≤ 1048576 ∧ p.name.size ≤ 1048576 ∧ p.comment.size ≤ 1048576 ∧ p.extra.size ≤ 1048576) (hl0 : l ≠ []) (pp : Option Addr) (cc : Nat) (C : List Ch) (hCl : C.length ≤ 1048576) (hCk : ∀ c ∈ C, -9223372036854775808 ≤ c.1 ∧ c.1 ≤ 9223372036854775807) (v : Value)
    (hz : ∀ k, (∀ p ∈ l.take k, goodN p = 0) → (fileL (l.take k) C).length ≤ 1099511627776) (w : World) (hr : w.ownsRow 0 44 9 (.slice pp l.length cc) l.length (gpL l)) (hv : CRow 48 w v C) :
    Calls Try.prog 17 #[.slice pp l.length cc, v] w fun e w' => e = .returned (.tuple #[.string (if bad1 l = 0 then strOf (fileL l C) else .empty), .int .i64 (bad1 l : Int)]) ∧ Mut [] w w' := by
  have HR := Lib.hid hr
  have HV := Lib.hid hv
  have HD := Lib.hid hd
  have HZ := Lib.hid hz
  have HCK := Lib.hid hCk
  have hpos : 0 < l.length := List.length_pos_iff.2 hl0
  obtain ⟨n, hnl⟩ : ∃ n, l.length = n := ⟨_, rfl⟩
  obtain ⟨bd, hbd⟩ : ∃ bd, bad1 l = bd := ⟨_, rfl⟩
  rw [hnl] at hpos hl1
  have HN := Lib.hid hnl
  have HBD : Hid (bad1 (l.drop 0) = bd ∧ ∀ p ∈ l.take 0, goodN p = 0) := Lib.hid ⟨hbd, by simp⟩
  have H0 : Hid (OB w (.slice none 0 0) (fileL (l.take 0) C) w) := Lib.hid (OB.start (Mut.refl [] w))
  have hn0 : ¬ (n : Int) < 1 := by omega
  have hn1 : ¬ (1024 : Int) < (n : Int) := by omega
  rw [hnl, hbd]
  clear hr hv hd hz hnl hl0 hbd hCk
  go_enter Try.func17, Try.ntmps17
  go_wp2_with fail
  go_loopg [6, 7] n (fun g o c wr => ∃ (i m : Nat) (p : Option Addr) (q : Nat), g = n - i ∧ o = .slice p m q ∧ c = .int .i64 (i : Int) ∧ i ≤ n ∧ m ≤ 1099511627776 ∧ Hid ((fileL (l.take i) C).length = m) ∧ Hid (bad1 (l.drop i) = bd ∧ ∀ p ∈ l.take i, goodN p = 0) ∧ Hid (OB w (.slice p m q) (fileL (l.take i) C) wr))
  case atStart => exact ⟨0, 0, none, 0, by omega, rfl, rfl, Nat.zero_le _, by omega, Lib.hid rfl, HBD, H0⟩
  case round =>
    obtain ⟨i, m, po, qo, rfl, rfl, rfl, hi, hm, HML, HB, HO⟩ := hrel
    clear H0 HBD hn0 hn1
    by_cases hlt : i < n
    case neg =>
      obtain rfl : i = n := by omega
      have hI : ¬ (i : Int) < (i : Int) := by omega
      have hall : l.take i = l := List.take_of_length_le (by rw [HN.out]; exact Nat.le_refl _)
      have h0 := HB.out.1
      rw [List.drop_of_length_le (by rw [HN.out]; exact Nat.le_refl _)] at h0
      have hbd : bd = 0 := h0.symm
      have HO' := HO.out
      rw [hall] at HO'
      have hlne : l ≠ [] := fun h => by have := HN.out; rw [h] at this; simp at this; omega
      have hl2 : (fileL l C).length = m := by have := HML.out; rw [hall] at this; exact this
      have hcv := HO'.conv (fileL_ne hlne)
      have HM := Lib.hid HO'.kept
      subst hbd
      clear HO HO' HB HML h0 hall hlne hl2
      go_wp2_with fail
      exact bodyPost_ret (results_tmp2 rfl _ _ _) rfl ⟨rfl, HM.out⟩
    case pos =>
      have hI : (i : Int) < (n : Int) := by omega
      have hil : i < l.length := by rw [HN.out]; exact hlt
      obtain ⟨g, cp, e1, -, -⟩ := row_some HR.out (by omega)
      cases e1
      have hr' : wr.ownsRow 0 44 9 (.slice (some ⟨g, 0, none⟩) l.length cc) l.length (gpL l) := HO.out.kept.row HR.out (by simp)
      have hat := rowAt9 hr' i hil
      obtain ⟨hdz, hnz, hcz, hxz⟩ := HD.out l[i] (List.getElem_mem hil)
      have HTK : Hid (fileL (l.take (i + 1)) C = fileL (l.take i) C ++ bytesOf (partB l[i] C) ∧ l.take (i + 1) = l.take i ++ [l[i]] ∧ l.drop i = l[i] :: l.drop (i + 1)) := Lib.hid ⟨by rw [List.take_succ_eq_append_getElem hil, fileL_snoc], List.take_succ_eq_append_getElem hil, List.drop_eq_getElem_cons hil⟩
      generalize l[i] = p at *
      have d0 : wr.cell? ⟨g, i * 9, none⟩ = some (.string p.name) := hat 0 (.string p.name) (by decide) rfl
      have d1 := hat 1 (.string p.comment) (by decide) rfl
      have d2 := hat 2 (.string p.extra) (by decide) rfl
      have d3 := hat 3 (.bool p.text) (by decide) rfl
      have d4 := hat 4 (.bool p.headSum) (by decide) rfl
      have d5 := hat 5 (.int .i64 p.time) (by decide) rfl
      have d6 := hat 6 (.int .i64 p.more) (by decide) rfl
      have d7 := hat 7 (.int .i64 p.system) (by decide) rfl
      have d8 := hat 8 (.string p.data) (by decide) rfl
      clear hat hr' hil
      have HW1 : Hid (RwS w (wr.alloc (.cells #[.string p.name, .string p.comment, .string p.extra, .bool p.text, .bool p.headSum, .int .i64 p.time, .int .i64 p.more, .int .i64 p.system, .string p.data] 44)) wr.heap.size p (.slice po m qo) (fileL (l.take i) C)) :=
        Lib.hid ⟨HO.out.mut ((Mut.refl [] wr).alloc _), heap_alloc_new' wr _⟩
      clear HO
      go_upto_region 8 with fail
      generalize wr.alloc (.cells #[.string p.name, .string p.comment, .string p.extra, .bool p.text, .bool p.headSum, .int .i64 p.time, .int .i64 p.more, .int .i64 p.system, .string p.data] 44) = w1 at *
      generalize wr.heap.size = b at *
      clear d0 d1 d2 d3 d4 d5 d6 d7 d8
      have c5 := HW1.out.cells 5 (.int .i64 p.time) rfl
      have c6 := HW1.out.cells 6 (.int .i64 p.more) rfl
      have c7 := HW1.out.cells 7 (.int .i64 p.system) rfl
      go_cut [57] (fun x wx => x = .bool (decide (p.time < 0 ∨ 4294967296 ≤ p.time ∨ p.more < 0 ∨ 255 < p.more ∨ p.system < 0 ∨ 255 < p.system)) ∧ wx = w1)
      case first =>
        as_aux_lemma =>
        by_cases h1 : p.time < 0
        · have hq := decide_eq_true (p := (p.time < 0 ∨ 4294967296 ≤ p.time ∨ p.more < 0 ∨ 255 < p.more ∨ p.system < 0 ∨ 255 < p.system)) (by omega)
          go_wp2_with fail
          go_meet
          exact ⟨congrArg Value.bool hq.symm, rfl⟩
        by_cases h2 : 4294967295 < p.time
        · have hq := decide_eq_true (p := (p.time < 0 ∨ 4294967296 ≤ p.time ∨ p.more < 0 ∨ 255 < p.more ∨ p.system < 0 ∨ 255 < p.system)) (by omega)
          go_wp2_with fail
          go_meet
          exact ⟨congrArg Value.bool hq.symm, rfl⟩
        by_cases h3 : p.more < 0
        · have hq := decide_eq_true (p := (p.time < 0 ∨ 4294967296 ≤ p.time ∨ p.more < 0 ∨ 255 < p.more ∨ p.system < 0 ∨ 255 < p.system)) (by omega)
          go_wp2_with fail
          go_meet
          exact ⟨congrArg Value.bool hq.symm, rfl⟩
        by_cases h4 : 255 < p.more
        · have hq := decide_eq_true (p := (p.time < 0 ∨ 4294967296 ≤ p.time ∨ p.more < 0 ∨ 255 < p.more ∨ p.system < 0 ∨ 255 < p.system)) (by omega)
          go_wp2_with fail
          go_meet
          exact ⟨congrArg Value.bool hq.symm, rfl⟩
        by_cases h5 : p.system < 0
        · have hq := decide_eq_true (p := (p.time < 0 ∨ 4294967296 ≤ p.time ∨ p.more < 0 ∨ 255 < p.more ∨ p.system < 0 ∨ 255 < p.system)) (by omega)
          go_wp2_with fail
          go_meet
          exact ⟨congrArg Value.bool hq.symm, rfl⟩
        by_cases h6 : 255 < p.system
        · have hq := decide_eq_true (p := (p.time < 0 ∨ 4294967296 ≤ p.time ∨ p.more < 0 ∨ 255 < p.more ∨ p.system < 0 ∨ 255 < p.system)) (by omega)
          go_wp2_with fail
          go_meet
          exact ⟨congrArg Value.bool hq.symm, rfl⟩
        · have hq := decide_eq_false (p := (p.time < 0 ∨ 4294967296 ≤ p.time ∨ p.more < 0 ∨ 255 < p.more ∨ p.system < 0 ∨ 255 < p.system)) (by omega)
          go_wp2_with fail
          go_meet
          exact ⟨congrArg Value.bool hq.symm, rfl⟩
      case rest =>
      obtain ⟨rfl, hw⟩ := hcut
      obtain rfl := hw.symm
      clear hw c5 c6 c7
      by_cases hb1 : p.time < 0 ∨ 4294967296 ≤ p.time ∨ p.more < 0 ∨ 255 < p.more ∨ p.system < 0 ∨ 255 < p.system
      case pos =>
        have hg : goodN p = 1 := by unfold goodN; rw [if_pos hb1]
        have he := bad_here HB.out.1 HTK.out.2.2 (by rw [hg]; decide)
        rw [hg] at he
        subst he
        rw [decide_eq_true hb1]
        have HM := Lib.hid HW1.out.ob.kept
        clear HW1 HB HTK hb1 hg
        go_wp2_with fail
        exact bodyPost_ret (results_tmp2 rfl _ _ _) rfl ⟨rfl, HM.out⟩
      case neg =>
      rw [decide_eq_false hb1]
      have c0 := HW1.out.cells 0 (.string p.name) rfl
      have c1 := HW1.out.cells 1 (.string p.comment) rfl
      have c2 := HW1.out.cells 2 (.string p.extra) rfl
      go_upto_region 10 with fail
      go_cut [73] (fun x wx => x = .bool (decide (256 < p.name.size ∨ 256 < p.comment.size ∨ 65535 < p.extra.size)) ∧ wx = w1)
      case first =>
        as_aux_lemma =>
        by_cases h1 : 256 < p.name.size
        · have hq := decide_eq_true (p := (256 < p.name.size ∨ 256 < p.comment.size ∨ 65535 < p.extra.size)) (by omega)
          have h1I : (256 : Int) < (p.name.size : Int) := by omega
          go_wp2_with fail
          go_meet
          exact ⟨congrArg Value.bool hq.symm, rfl⟩
        have h1I : ¬ (256 : Int) < (p.name.size : Int) := by omega
        by_cases h2 : 256 < p.comment.size
        · have hq := decide_eq_true (p := (256 < p.name.size ∨ 256 < p.comment.size ∨ 65535 < p.extra.size)) (by omega)
          have h2I : (256 : Int) < (p.comment.size : Int) := by omega
          go_wp2_with fail
          go_meet
          exact ⟨congrArg Value.bool hq.symm, rfl⟩
        have h2I : ¬ (256 : Int) < (p.comment.size : Int) := by omega
        by_cases h3 : 65535 < p.extra.size
        · have hq := decide_eq_true (p := (256 < p.name.size ∨ 256 < p.comment.size ∨ 65535 < p.extra.size)) (by omega)
          have h3I : (65535 : Int) < (p.extra.size : Int) := by omega
          go_wp2_with fail
          go_meet
          exact ⟨congrArg Value.bool hq.symm, rfl⟩
        · have hq := decide_eq_false (p := (256 < p.name.size ∨ 256 < p.comment.size ∨ 65535 < p.extra.size)) (by omega)
          have h3I : ¬ (65535 : Int) < (p.extra.size : Int) := by omega
          go_wp2_with fail
          go_meet
          exact ⟨congrArg Value.bool hq.symm, rfl⟩
      case rest =>
      obtain ⟨rfl, hw⟩ := hcut
      obtain rfl := hw.symm
      clear hw c0 c1 c2
      by_cases hb2 : 256 < p.name.size ∨ 256 < p.comment.size ∨ 65535 < p.extra.size
      case pos =>
        have hg : goodN p = 2 := by unfold goodN; rw [if_neg hb1, if_pos hb2]
        have he := bad_here HB.out.1 HTK.out.2.2 (by rw [hg]; decide)
        rw [hg] at he
        subst he
        rw [decide_eq_true hb2]
        have HM := Lib.hid HW1.out.ob.kept
        clear HW1 HB HTK hb1 hb2 hg
        go_wp2_with fail
        exact bodyPost_ret (results_tmp2 rfl _ _ _) rfl ⟨rfl, HM.out⟩
      case neg =>
      rw [decide_eq_false hb2]
      have c0 := HW1.out.cells 0 (.string p.name) rfl
      have c1 := HW1.out.cells 1 (.string p.comment) rfl
      have HZ1 := Lib.hid (fun W => rzero_any p.name (by omega) 0 W)
      have HZ2 := Lib.hid (fun W => rzero_any p.comment (by omega) 0 W)
      have HZI := Lib.hid (zeros_iff p.name p.comment)
      generalize zeroN p.name 0 = ZN at *
      generalize zeroN p.comment 0 = ZC at *
      go_upto_region 12 with fail
      go_cut [83] (fun x wx => x = .bool (decide (0 ≤ ZN ∨ 0 ≤ ZC)) ∧ wx = w1)
      case first =>
        as_aux_lemma =>
        go_wp2_with fail
        refine (HZ1.out _).mono ?_
        rintro e w2 ⟨rfl, rfl⟩
        by_cases h1 : 0 ≤ ZN
        · have hq := decide_eq_true (p := (0 ≤ ZN ∨ 0 ≤ ZC)) (by omega)
          go_wp2_with fail
          go_meet
          exact ⟨congrArg Value.bool hq.symm, rfl⟩
        · have hd1 : decide (0 ≤ ZN) = false := decide_eq_false h1
          go_wp2_with fail
          refine (HZ2.out _).mono ?_
          rintro e w2 ⟨rfl, rfl⟩
          by_cases h2 : 0 ≤ ZC
          · have hd2 : decide (0 ≤ ZC) = true := decide_eq_true h2
            go_wp2_with fail
            go_meet
            exact ⟨congrArg Value.bool (by simp [h2]), rfl⟩
          · have hd2 : decide (0 ≤ ZC) = false := decide_eq_false h2
            go_wp2_with fail
            go_meet
            exact ⟨congrArg Value.bool (by simp [h1, h2]), rfl⟩
      case rest =>
      obtain ⟨rfl, hw⟩ := hcut
      obtain rfl := hw.symm
      clear hw c0 c1 HZ1 HZ2
      by_cases hb3 : 0 ≤ ZN ∨ 0 ≤ ZC
      case pos =>
        have hg : goodN p = 15 := by unfold goodN; rw [if_neg hb1, if_neg hb2, if_pos (HZI.out.1 hb3)]
        have he := bad_here HB.out.1 HTK.out.2.2 (by rw [hg]; decide)
        rw [hg] at he
        subst he
        rw [decide_eq_true hb3]
        have HM := Lib.hid HW1.out.ob.kept
        clear HW1 HB HTK hb1 hb2 hb3 HZI hg
        go_wp2_with fail
        exact bodyPost_ret (results_tmp2 rfl _ _ _) rfl ⟨rfl, HM.out⟩
      case neg =>
      rw [decide_eq_false hb3]
      have hg : goodN p = 0 := by unfold goodN; rw [if_neg hb1, if_neg hb2, if_neg (fun h => hb3 (HZI.out.2 h))]
      have HG := Lib.hid hg
      have HB2 : Hid (bad1 (l.drop (i + 1)) = bd ∧ ∀ p ∈ l.take (i + 1), goodN p = 0) := Lib.hid ⟨bad_next HB.out.1 HTK.out.2.2 hg, by
        rw [HTK.out.2.1]
        intro q hq
        rcases List.mem_append.1 hq with h | h
        · exact HB.out.2 q h
        · rw [List.mem_singleton.1 h]; exact hg⟩
      have HBD2 : Hid ((fileL (l.take i) C).length + (partB p C).size ≤ 1099511627776) := Lib.hid (by
        have h1 := HZ.out (i + 1) HB2.out.2
        rw [HTK.out.1, List.length_append, bytesOf_length] at h1
        exact h1)
      have hn2 : p.name.size ≤ 256 ∧ p.comment.size ≤ 256 ∧ p.extra.size ≤ 65535 := by omega
      have ht1 : 0 ≤ p.time ∧ p.time < 4294967296 ∧ 0 ≤ p.more ∧ p.more ≤ 255 ∧ 0 ≤ p.system ∧ p.system ≤ 255 := by omega
      clear hb1 hb2 hb3 HZI hg HB
      obtain ⟨i1, i2, i3, i4, i5⟩ := tIn p
      have hmo := mo_size p hn2.1 hn2.2.1 hn2.2.2
      obtain ⟨m1z, m2z, m3z⟩ := hmo
      have HF0 : Hid (tF p = if p.text = true then 1 else 0) := Lib.hid rfl
      have c3 := HW1.out.cells 3 (.bool p.text) rfl
      go_upto_if 85 with fail
      go_cut [9] (fun x wx => x = .int .i64 ((tF p : Nat) : Int) ∧ wx = w1)
      case first =>
        as_aux_lemma =>
        cases htb : p.text
        · have HFL : Hid (tF p = 0) := Lib.hid (by rw [HF0.out, htb]; rfl)
          clear htb
          go_wp2_with fail
          go_meet
          exact ⟨by rw [HFL.out]; rfl, rfl⟩
        · have HFL : Hid (tF p = 1) := Lib.hid (by rw [HF0.out, htb]; rfl)
          clear htb
          go_wp2_with fail
          go_meet
          exact ⟨by rw [HFL.out]; rfl, rfl⟩
      case rest =>
      obtain ⟨rfl, hw⟩ := hcut
      obtain rfl := hw.symm
      clear hw c3 HF0
      have HF1 : Hid (tH p = if p.headSum = true then tF p + 2 else tF p) := Lib.hid rfl
      have c4 := HW1.out.cells 4 (.bool p.headSum) rfl
      generalize tF p = FA at *
      go_upto_if 89 with fail
      go_cut [9] (fun x wx => x = .int .i64 ((tH p : Nat) : Int) ∧ wx = w1)
      case first =>
        as_aux_lemma =>
        cases htb : p.headSum
        · have HFL : Hid (tH p = FA) := Lib.hid (by rw [HF1.out, htb]; rfl)
          clear htb
          go_wp2_with fail
          go_meet
          exact ⟨by rw [HFL.out], rfl⟩
        · have HFL : Hid (tH p = FA + 2) := Lib.hid (by rw [HF1.out, htb]; rfl)
          clear htb
          go_wp2_with fail
          go_meet
          exact ⟨by rw [HFL.out]; rfl, rfl⟩
      case rest =>
      obtain ⟨rfl, hw⟩ := hcut
      obtain rfl := hw.symm
      clear hw c4 HF1
      clear i1
      have HF2 : Hid (tE p = if p.extra = .empty then tH p else tH p + 4) := Lib.hid rfl
      have HO1 : Hid (mo1 p = if p.extra = .empty then ⟨#[]⟩ else ⟨#[]⟩ ++ (strOf (lowL p.extra.size 2) ++ p.extra)) := Lib.hid rfl
      have c2 := HW1.out.cells 2 (.string p.extra) rfl
      generalize tH p = FA at *
      go_upto_if 94 with fail
      go_cut [9, 10] (fun x y wx => x = .int .i64 ((tE p : Nat) : Int) ∧ y = .string (mo1 p) ∧ Hid (RwS w wx b p (.slice po m qo) (fileL (l.take i) C)))
      case first =>
        as_aux_lemma =>
        by_cases hx : p.extra = .empty
        · have h1 : p.extra.toList = [] := by rw [hx, str_toList]; rfl
          have h2 : p.extra.toList.isEmpty = true := by rw [h1]; rfl
          rw [h2]
          have HFO : Hid (tE p = FA ∧ mo1 p = ⟨#[]⟩) := Lib.hid ⟨by rw [HF2.out, if_pos hx], by rw [HO1.out, if_pos hx]⟩
          clear hx
          go_wp2_with fail
          go_meet
          exact ⟨by rw [HFO.out.1], by rw [HFO.out.2], HW1⟩
        · obtain ⟨h1, h2⟩ := ne_facts hx
          rw [h2]
          have HFO : Hid (tE p = FA + 4 ∧ mo1 p = ⟨#[]⟩ ++ (LW (p.extra.size : Int) 2 ++ p.extra)) := Lib.hid ⟨by rw [HF2.out, if_neg hx], by rw [HO1.out, if_neg hx]; rfl⟩
          have HLW := Lib.hid fun W => rlow_LW (p.extra.size : Int) 2 (by omega) (by omega) (by decide) (by decide) W
          have hls := LW_size (p.extra.size : Int) 2
          have hls : (LW (p.extra.size : Int) 2).size = 2 := hls
          have z0 : (⟨#[]⟩ : ByteArray).size = 0 := rfl
          generalize LW (p.extra.size : Int) 2 = S at *
          clear hx
          go_upto_region 22 with fail
          have hd2 : ∀ u : WIn (Mut [] w1), u.w.cell? ⟨b, 2, none⟩ = some (.string p.extra) := fun u => cellOf (u.ok.get HW1.out.px (by simp)) 2 rfl
          haveI : Nonempty (WIn (Mut [] w1)) := ⟨⟨w1, Mut.refl _ _⟩⟩
          have HCL : Hid (∀ u : WIn (Mut [] w1), Calls Try.prog 27 #[.int .i64 (p.extra.size : Int), .int .i64 2] u.w fun e w' => e = .returned (.string S) ∧ ∃ u' : WIn (Mut [] w1), w' = u'.w) :=
            Lib.hid fun u => Calls.inClass u.ok (fun w' m => u.ok.trans' m) (HLW.out u.w)
          refine wp_region_mut (Mut [] w1) (by kernel_rfl) (by kernel_rfl) ((Mut.refl _ _).drew) ?_
          repeat (go_big_quiet_step ((go_at_call 27; exact HCL.out _)))
          refine wpQuiet_nil ?_
          rintro w4 ⟨u4, hv4⟩
          have hm4 : Mut [] w1 w4 := by rw [hv4]; exact u4.ok
          have HM4 := Lib.hid hm4
          clear hd2 HCL hv4 hm4 this u4
          go_wp2_with fail
          go_meet
          exact ⟨by rw [HFO.out.1]; rfl, by rw [HFO.out.2], Lib.hid (HW1.out.mut HM4.out)⟩
      case rest =>
      clear HF2 HO1 c2 HW1 i2
      obtain ⟨rfl, rfl, HW2⟩ := hcut
      have c0 := HW2.out.cells 0 (.string p.name) rfl
      have HF3 : Hid (tN p = if p.name = .empty then tE p else tE p + 8) := Lib.hid rfl
      have HO3 : Hid (mo2 p = if p.name = .empty then mo1 p else mo1 p ++ (p.name ++ ⟨#[0]⟩)) := Lib.hid rfl
      have z0 : (⟨#[0]⟩ : ByteArray).size = 1 := rfl
      generalize tE p = FA at *
      generalize mo1 p = MA at *
      go_upto_if 108 with fail
      go_cut [9, 10] (fun x y wx => x = .int .i64 ((tN p : Nat) : Int) ∧ y = .string (mo2 p) ∧ wx = wc)
      case first =>
        as_aux_lemma =>
        by_cases hx : p.name = .empty
        · have h1 : p.name.toList = [] := by rw [hx, str_toList]; rfl
          have h2 : p.name.toList.isEmpty = true := by rw [h1]; rfl
          rw [h2]
          have HFO : Hid (tN p = FA ∧ mo2 p = MA) := Lib.hid ⟨by rw [HF3.out, if_pos hx], by rw [HO3.out, if_pos hx]⟩
          clear hx
          go_wp2_with fail
          go_meet
          exact ⟨by rw [HFO.out.1], by rw [HFO.out.2], rfl⟩
        · obtain ⟨h1, h2⟩ := ne_facts hx
          rw [h2]
          have HFO : Hid (tN p = FA + 8 ∧ mo2 p = MA ++ (p.name ++ ⟨#[0]⟩)) := Lib.hid ⟨by rw [HF3.out, if_neg hx], by rw [HO3.out, if_neg hx]⟩
          clear hx
          go_wp2_with fail
          go_meet
          exact ⟨by rw [HFO.out.1]; rfl, by rw [HFO.out.2], rfl⟩
      case rest =>
      obtain ⟨rfl, rfl, hw⟩ := hcut
      obtain rfl := hw.symm
      clear hw c0 HF3 HO3 m1z i3
      have c1 := HW2.out.cells 1 (.string p.comment) rfl
      have HF4 : Hid (tC p = if p.comment = .empty then tN p else tN p + 16) := Lib.hid rfl
      have HO4 : Hid (mo3 p = if p.comment = .empty then mo2 p else mo2 p ++ (p.comment ++ ⟨#[0]⟩)) := Lib.hid rfl
      have HTC := Lib.hid (tC_eq p)
      generalize tN p = FA at *
      generalize mo2 p = MA at *
      go_upto_if 118 with fail
      go_cut [9, 10] (fun x y wx => x = .int .i64 ((tC p : Nat) : Int) ∧ y = .string (mo3 p) ∧ wx = wc)
      case first =>
        as_aux_lemma =>
        by_cases hx : p.comment = .empty
        · have h1 : p.comment.toList = [] := by rw [hx, str_toList]; rfl
          have h2 : p.comment.toList.isEmpty = true := by rw [h1]; rfl
          rw [h2]
          have HFO : Hid (tC p = FA ∧ mo3 p = MA) := Lib.hid ⟨by rw [HF4.out, if_pos hx], by rw [HO4.out, if_pos hx]⟩
          clear hx
          go_wp2_with fail
          go_meet
          exact ⟨by rw [HFO.out.1], by rw [HFO.out.2], rfl⟩
        · obtain ⟨h1, h2⟩ := ne_facts hx
          rw [h2]
          have HFO : Hid (tC p = FA + 16 ∧ mo3 p = MA ++ (p.comment ++ ⟨#[0]⟩)) := Lib.hid ⟨by rw [HF4.out, if_neg hx], by rw [HO4.out, if_neg hx]⟩
          clear hx
          go_wp2_with fail
          go_meet
          exact ⟨by rw [HFO.out.1]; rfl, by rw [HFO.out.2], rfl⟩
      case rest =>
      obtain ⟨rfl, rfl, hw⟩ := hcut
      obtain rfl := hw.symm
      clear hw c1 HF4 HO4 m2z i4
      rw [HTC.out.1]
      have hF32 := HTC.out.2
      obtain ⟨q1, q2, q3, q4, q5, q6⟩ := ht1
      have HH1 : Hid (hd1 p = strOf [31, 139, 8, fl5 p] ++ LW p.time 4 ++ LW p.more 1 ++ LW p.system 1 ++ mo3 p) := Lib.hid (by
        unfold hd1 LW
        have e : ⟨#[31, 139]⟩ ++ strOf (lowL 8 1) ++ strOf (lowL (fl5 p) 1) = strOf [31, 139, 8, fl5 p] := by
          apply bytesOf_inj
          rw [bytesOf_append, bytesOf_append, low_bytes, low_bytes, lowL_one, lowL_one, bytesOf_strOf _ (by intro x hx; simp only [List.mem_cons, List.not_mem_nil, or_false] at hx; omega), Nat.mod_eq_of_lt (by omega : fl5 p < 256)]
          rfl
        rw [e]
        rfl)
      have HLOW : Hid (∀ (x K : Int) W, ((x = p.time ∧ K = 4) ∨ (x = p.more ∧ K = 1) ∨ (x = p.system ∧ K = 1)) → Calls Try.prog 27 #[.int .i64 x, .int .i64 K] W fun e w' => e = .returned (.string (LW x K)) ∧ Mut [] W w') := Lib.hid fun x K W h => by
        rcases h with ⟨rfl, rfl⟩ | ⟨rfl, rfl⟩ | ⟨rfl, rfl⟩
        · exact rlow_LW p.time 4 q1 q2 (by decide) (by decide) W
        · exact rlow_LW p.more 1 q3 (by omega) (by decide) (by decide) W
        · exact rlow_LW p.system 1 q5 (by omega) (by decide) (by decide) W
      have z4 : (LW p.time 4).size = 4 := LW_size _ _
      have z1a : (LW p.more 1).size = 1 := LW_size _ _
      have z1b : (LW p.system 1).size = 1 := LW_size _ _
      have zh : (strOf [31, 139, 8, fl5 p]).size = 4 := strOf_size _
      have hwr : IntKind.u8.wrap ((fl5 p : Nat) : Int) = ((fl5 p : Nat) : Int) := IntWalk.u8_in _ (by omega)
      have c5 := HW2.out.cells 5 (.int .i64 p.time) rfl
      have c6 := HW2.out.cells 6 (.int .i64 p.more) rfl
      have c7 := HW2.out.cells 7 (.int .i64 p.system) rfl
      have hmz : (mo3 p).size ≤ 66051 := m3z
      have hhz : (hd1 p).size ≤ 66100 := by
        rw [HH1.out]
        simp only [ByteArray.size_append, z4, z1a, z1b, zh]
        omega
      generalize fl5 p = FF at *
      go_upto_region 29 with fail
      go_cut [11] (fun x wx => x = .string (hd1 p) ∧ Hid (RwS w wx b p (.slice po m qo) (fileL (l.take i) C)))
      case first =>
        --R29
        obtain ⟨hs, hhs⟩ : ∃ s, strOf [31, 139, 8, FF] = s := ⟨_, rfl⟩
        rw [hhs] at zh HH1
        have hcv : ∀ (W : World) (g : Nat), W.heap[g]? = some (.cells #[.int .u8 31, .int .u8 139, .int .u8 8, .int .u8 (FF : Int)] 5 (0, 0)) → (convert 54 9 (.slice (some ⟨g, 0, none⟩) 4 4)).run Try.prog W = .ok (.string hs) W := fun W g h => by
          have ho : W.ownsRow 0 5 1 (.slice (some ⟨g, 0, none⟩) 4 4) ([31, 139, 8, FF] : List Nat).length (uC [31, 139, 8, FF]) := ⟨rfl, .inr ⟨g, 4, _, rfl, Nat.zero_le _, h, Nat.le_refl _, by decide, rfl, rfl⟩⟩
          rw [← hhs]
          exact row_conv ho (by simp)
        refine wp_region_inv (by kernel_rfl) (fun listed a w' => ∃ v, InvV _ wc [126, 127, 128, 129, 130, 131, 132, 133, 134, 135, 136, 137, 138, 139, 140, 141, 142, 143, 11]
          (fun v => [.int .i64 (FF : Int), .int .u8 (FF : Int), v, .string hs, .pointer (some ⟨b, 5, none⟩), .int .i64 p.time, .string (LW p.time 4), .string (hs ++ LW p.time 4), .pointer (some ⟨b, 6, none⟩), .int .i64 p.more, .string (LW p.more 1), .string (hs ++ LW p.time 4 ++ LW p.more 1),
            .pointer (some ⟨b, 7, none⟩), .int .i64 p.system, .string (LW p.system 1), .string (hs ++ LW p.time 4 ++ LW p.more 1 ++ LW p.system 1), .string (mo3 p), .string (hs ++ LW p.time 4 ++ LW p.more 1 ++ LW p.system 1 ++ mo3 p), .string (hs ++ LW p.time 4 ++ LW p.more 1 ++ LW p.system 1 ++ mo3 p)])
          (fun v u => ∃ g, v = .slice (some ⟨g, 0, none⟩) 4 4 ∧ u.heap[g]? = some (.cells #[.int .u8 31, .int .u8 139, .int .u8 8, .int .u8 (FF : Int)] 5 (0, 0))) 2 v listed a w') ⟨undef, InvV.start undef _ (Mut.refl _ _).drew⟩ ?st ?en
        case st =>
          as_aux_lemma =>
          intro listed a w' i o hz ⟨v, hI⟩ hun ho hdep K hK
          have hnd : ([126, 127, 128, 129, 130, 131, 132, 133, 134, 135, 136, 137, 138, 139, 140, 141, 142, 143, 11] : List Nat).Nodup := by decide
          have hlt : i < 19 := (Array.getElem?_eq_some_iff.1 ho).1
          have go : ∀ (d : Nat) (u : Value) (w'' : World), i ≠ 2 → _ → _ → Mut [] w' w'' → K (a.put (some d) u) w'' := fun d u w'' h1 h2 h3 m => hK _ _ ⟨v, hI.step hnd (by simp) (fun v w w' m ⟨g, e, h⟩ => ⟨g, e, m.get h (by simp)⟩) i d u h1 h2 h3 m⟩
          have HF := Lib.hid hI.hi
          have HO := Lib.hid hI.ho
          rcases (by omega : i = 0 ∨ i = 1 ∨ i = 2 ∨ i = 3 ∨ i = 4 ∨ i = 5 ∨ i = 6 ∨ i = 7 ∨ i = 8 ∨ i = 9 ∨ i = 10 ∨ i = 11 ∨ i = 12 ∨ i = 13 ∨ i = 14 ∨ i = 15 ∨ i = 16 ∨ i = 17 ∨ i = 18) with rfl | rfl | rfl | rfl | rfl | rfl | rfl | rfl | rfl | rfl | rfl | rfl | rfl | rfl | rfl | rfl | rfl | rfl | rfl
          all_goals simp only [List.getElem?_toArray, List.getElem?_cons_zero, List.getElem?_cons_succ, Option.some.injEq] at ho
          all_goals subst ho
          all_goals rw [if_pos (by simp [Region.wanted])]
          · have f9 := HO.out 9 (by decide)
            simp at f9
            unfold Oper.wp
            simp [execOp, Act.eval, f9]
            exact go 126 _ _ (by decide) rfl rfl (Mut.refl _ _)
          · have f126 := HF.out 0 (hdep ⟨0, .data⟩ (by simp) rfl) 126 _ rfl rfl
            simp at f126
            unfold Oper.wp
            simp [execOp, Act.eval, f126]
            go_simp
            exact go 127 _ _ (by decide) rfl rfl (Mut.refl _ _)
          · have f127 := HF.out 1 (hdep ⟨1, .data⟩ (by simp) rfl) 127 _ rfl rfl
            simp at f127
            unfold Oper.wp
            simp [execOp, Act.eval, f127]
            go_simp
            exact hK _ _ ⟨_, hI.stepK hnd (by simp) (fun j hj u => by
              rcases j with _ | _ | _ | j
              · rfl
              · rfl
              · exfalso
                rw [Array.getD_eq_getD_getElem?] at hj hun
                cases hq : listed[2]? <;> simp [hq] at hj hun
                rw [hj] at hun
                cases hun
              · rfl) 128 _ rfl rfl ((Mut.refl _ w').alloc _) ⟨_, rfl, heap_alloc_new' w' _⟩⟩
          · obtain ⟨g3, rfl, hg3⟩ := hI.hR (hdep ⟨2, .data⟩ (by simp) rfl)
            have hc3 := hcv _ g3 hg3
            have f128 := HF.out 2 (hdep ⟨2, .data⟩ (by simp) rfl) 128 _ rfl rfl
            simp at f128
            unfold Oper.wp
            simp [execOp, Act.eval, f128]
            go_simp
            exact go 129 _ _ (by decide) rfl rfl (Mut.refl _ _)
          · have f8 := HO.out 8 (by decide)
            simp at f8
            unfold Oper.wp
            simp [execOp, Act.eval, f8]
            go_simp
            exact go 130 _ _ (by decide) rfl rfl (Mut.refl _ _)
          · have f130 := HF.out 4 (hdep ⟨4, .data⟩ (by simp) rfl) 130 _ rfl rfl
            simp at f130
            have e5 := (HW2.out.mut hI.mu).cells 5 (.int .i64 p.time) rfl
            clear HF HO hI
            unfold Oper.wp
            simp [execOp, Act.eval, f130]
            go_simp
            exact go 131 _ _ (by decide) rfl rfl (Mut.refl _ _)
          · have f131 := HF.out 5 (hdep ⟨5, .data⟩ (by simp) rfl) 131 _ rfl rfl
            simp at f131
            unfold Oper.wp
            simp [execOp]
            go_simp
            refine (HLOW.out _ _ _ (by simp)).mono ?_
            rintro e w2 ⟨rfl, hm⟩
            exact go 132 _ _ (by decide) rfl rfl hm
          · have f129 := HF.out 3 (hdep ⟨3, .data⟩ (by simp) rfl) 129 _ rfl rfl
            have f132 := HF.out 6 (hdep ⟨6, .data⟩ (by simp) rfl) 132 _ rfl rfl
            simp at f129
            simp at f132
            unfold Oper.wp
            simp [execOp, Act.eval, f129, f132]
            go_simp
            exact go 133 _ _ (by decide) rfl rfl (Mut.refl _ _)
          · have f8 := HO.out 8 (by decide)
            simp at f8
            unfold Oper.wp
            simp [execOp, Act.eval, f8]
            go_simp
            exact go 134 _ _ (by decide) rfl rfl (Mut.refl _ _)
          · have f134 := HF.out 8 (hdep ⟨8, .data⟩ (by simp) rfl) 134 _ rfl rfl
            simp at f134
            have e6 := (HW2.out.mut hI.mu).cells 6 (.int .i64 p.more) rfl
            clear HF HO hI
            unfold Oper.wp
            simp [execOp, Act.eval, f134]
            go_simp
            exact go 135 _ _ (by decide) rfl rfl (Mut.refl _ _)
          · have f135 := HF.out 9 (hdep ⟨9, .data⟩ (by simp) rfl) 135 _ rfl rfl
            simp at f135
            unfold Oper.wp
            simp [execOp]
            go_simp
            refine (HLOW.out _ _ _ (by simp)).mono ?_
            rintro e w2 ⟨rfl, hm⟩
            exact go 136 _ _ (by decide) rfl rfl hm
          · have f133 := HF.out 7 (hdep ⟨7, .data⟩ (by simp) rfl) 133 _ rfl rfl
            have f136 := HF.out 10 (hdep ⟨10, .data⟩ (by simp) rfl) 136 _ rfl rfl
            simp at f133
            simp at f136
            unfold Oper.wp
            simp [execOp, Act.eval, f133, f136]
            go_simp
            exact go 137 _ _ (by decide) rfl rfl (Mut.refl _ _)
          · have f8 := HO.out 8 (by decide)
            simp at f8
            unfold Oper.wp
            simp [execOp, Act.eval, f8]
            go_simp
            exact go 138 _ _ (by decide) rfl rfl (Mut.refl _ _)
          · have f138 := HF.out 12 (hdep ⟨12, .data⟩ (by simp) rfl) 138 _ rfl rfl
            simp at f138
            have e7 := (HW2.out.mut hI.mu).cells 7 (.int .i64 p.system) rfl
            clear HF HO hI
            unfold Oper.wp
            simp [execOp, Act.eval, f138]
            go_simp
            exact go 139 _ _ (by decide) rfl rfl (Mut.refl _ _)
          · have f139 := HF.out 13 (hdep ⟨13, .data⟩ (by simp) rfl) 139 _ rfl rfl
            simp at f139
            unfold Oper.wp
            simp [execOp]
            go_simp
            refine (HLOW.out _ _ _ (by simp)).mono ?_
            rintro e w2 ⟨rfl, hm⟩
            exact go 140 _ _ (by decide) rfl rfl hm
          · have f137 := HF.out 11 (hdep ⟨11, .data⟩ (by simp) rfl) 137 _ rfl rfl
            have f140 := HF.out 14 (hdep ⟨14, .data⟩ (by simp) rfl) 140 _ rfl rfl
            simp at f137
            simp at f140
            unfold Oper.wp
            simp [execOp, Act.eval, f137, f140]
            go_simp
            exact go 141 _ _ (by decide) rfl rfl (Mut.refl _ _)
          · have f10 := HO.out 10 (by decide)
            simp at f10
            unfold Oper.wp
            simp [execOp, Act.eval, f10]
            exact go 142 _ _ (by decide) rfl rfl (Mut.refl _ _)
          · have f141 := HF.out 15 (hdep ⟨15, .data⟩ (by simp) rfl) 141 _ rfl rfl
            have f142 := HF.out 16 (hdep ⟨16, .data⟩ (by simp) rfl) 142 _ rfl rfl
            simp at f141
            simp at f142
            unfold Oper.wp
            simp [execOp, Act.eval, f141, f142]
            go_simp
            rw [if_neg (by omega)]
            exact go 143 _ _ (by decide) rfl rfl (Mut.refl _ _)
          · have f143 := HF.out 17 (hdep ⟨17, .data⟩ (by simp) rfl) 143 _ rfl rfl
            simp at f143
            unfold Oper.wp
            simp [execOp, Act.eval, f143]
            exact go 11 _ _ (by decide) rfl rfl (Mut.refl _ _)
        case en =>
          as_aux_lemma =>
          intro listed a w' hz ⟨v, hI⟩ hr
          have hall := ready_all hz hr (by kernel_rfl)
          have e := hI.done (by decide) (by simp) rfl (fun i hi => hall i hi)
          have HWE := Lib.hid (HW2.out.mut hI.mu)
          clear hI hall hr
          subst e
          simp only [fillA, Act.put, List.setIfInBounds_toArray, List.set_cons_succ, List.set_cons_zero]
          go_wp2_with fail
          go_meet
          exact ⟨congrArg Value.string HH1.out.symm, HWE⟩
      case rest =>
      obtain ⟨rfl, HW3⟩ := hcut
      clear HW2 HH1 HLOW z4 z1a z1b zh hwr c5 c6 c7
      have c4 := HW3.out.cells 4 (.bool p.headSum) rfl
      have HO2 : Hid (hd2 p = if p.headSum = true then hd1 p ++ LW (sumOf (bytesOf (hd1 p))) 2 else hd1 p) := Lib.hid rfl
      have hsin := sumOf_in (bytesOf (hd1 p))
      have HSU := Lib.hid fun W => rsum_any (hd1 p) (by omega) W
      have hls : (LW (sumOf (bytesOf (hd1 p))) 2).size = 2 := LW_size _ _
      have HL6 := Lib.hid fun W => rlow_LW (sumOf (bytesOf (hd1 p))) 2 hsin.1 (by omega) (by decide) (by decide) W
      have h2z : (hd2 p).size ≤ 66102 := by
        rw [HO2.out]
        split
        · rw [ByteArray.size_append, hls]; omega
        · omega
      generalize LW (sumOf (bytesOf (hd1 p))) 2 = S6 at *
      generalize sumOf (bytesOf (hd1 p)) = SM at *
      generalize hd1 p = H1 at *
      go_upto_if 145 with fail
      go_cut [11] (fun x wx => x = .string (hd2 p) ∧ Hid (RwS w wx b p (.slice po m qo) (fileL (l.take i) C)))
      case first =>
        as_aux_lemma =>
        cases htb : p.headSum
        · have HFL : Hid (hd2 p = H1) := Lib.hid (by rw [HO2.out, htb]; rfl)
          clear htb
          go_wp2_with fail
          go_meet
          exact ⟨by rw [HFL.out], HW3⟩
        · have HFL : Hid (hd2 p = H1 ++ S6) := Lib.hid (by rw [HO2.out, htb]; rfl)
          clear htb
          go_wp2_with fail
          refine (HSU.out _).mono ?_
          rintro e w2 ⟨rfl, rfl⟩
          go_wp2_with fail
          refine (HL6.out _).mono ?_
          rintro e w2 ⟨rfl, hm⟩
          have HM2 := Lib.hid hm
          clear hm
          go_wp2_with fail
          go_meet
          exact ⟨by rw [HFL.out], Lib.hid (HW3.out.mut HM2.out)⟩
      case rest =>
      obtain ⟨rfl, HW4⟩ := hcut
      clear HW3 c4 HO2 HSU HL6 hls
      have hsd := sumOf_in (bytesOf p.data)
      have HPB : Hid (bytesOf (partB p C) = bytesOf (hd2 p) ++ bytesOf (strOf (pack (packAll (bytesOf p.data) C))) ++ bytesOf (LW (sumOf (bytesOf p.data)) 4) ++ bytesOf (LW (p.data.size : Int) 4)) := Lib.hid (by
        unfold partB
        rw [bytesOf_append, bytesOf_append, bytesOf_append]
        rfl)
      have HPK := Lib.hid fun W h => rpack_any p.data (bytesOf p.data) rfl hdz C hCl HCK.out v W h
      have HSD := Lib.hid fun W => rsum_any p.data (by omega) W
      have HL7 := Lib.hid fun W => rlow_LW (sumOf (bytesOf p.data)) 4 hsd.1 (by omega) (by decide) (by decide) W
      have HL8 := Lib.hid fun W => rlow_LW (p.data.size : Int) 4 (by omega) (by omega) (by decide) (by decide) W
      have z7 : (LW (sumOf (bytesOf p.data)) 4).size = 4 := LW_size _ _
      have z8 : (LW (p.data.size : Int) 4).size = 4 := LW_size _ _
      have hbd : m + (hd2 p).size + (strOf (pack (packAll (bytesOf p.data) C))).size + (LW (sumOf (bytesOf p.data)) 4).size + (LW (p.data.size : Int) 4).size ≤ 1099511627776 := by
        have h1 := HBD2.out
        have h2 := congrArg List.length HPB.out
        rw [bytesOf_length, List.length_append, List.length_append, List.length_append, bytesOf_length, bytesOf_length, bytesOf_length, bytesOf_length, z7, z8] at h2
        rw [HML.out, h2] at h1
        omega
      clear z7 z8
      generalize strOf (pack (packAll (bytesOf p.data) C)) = PK at *
      generalize LW (sumOf (bytesOf p.data)) 4 = S7 at *
      generalize LW (p.data.size : Int) 4 = S8 at *
      generalize sumOf (bytesOf p.data) = SD at *
      generalize hd2 p = H2 at *
      have HX0 : Hid (RwS w wc b p (.slice po m qo) (fileL (l.take i) C) ∧ (fileL (l.take i) C).length = m) := Lib.hid ⟨HW4.out, HML.out⟩
      obtain ⟨D, hD⟩ : ∃ D, fileL (l.take i) C = D := ⟨_, rfl⟩
      rw [hD] at HX0
      have HDD := Lib.hid hD
      clear HW4 HML HBD2 hD hsd
      obtain ⟨i0, hi0, hz0, hz1, hz2⟩ := info_parts info_u8f
      -- the head
      as_aux_lemma =>
      go_upto_region 32 with fail
      have hrow := HX0.out.1.ob.row
      rw [HX0.out.2] at hrow
      go_wp2_with (at_builtin; refine wp_app rfl (.tmp 151) (.tmp 152) 54 9 rfl 5 i0 (.int .u8 0) 1 1 Try.underlying54 hi0 hz0 hz1 hz2 rfl hrow rfl (Src.ofString wc Try.underlying9 H2) rfl ?b1 ?b2 ?_)
      case b1 => unfold maxLen; omega
      case b2 => omega
      intro v1 x1 hr1 hg1 hf1
      have HX1 := Lib.hid (HX0.out.1.appS (Mut.refl [] wc) HX0.out.2 hr1 hg1 hf1)
      obtain ⟨D1, hD1⟩ : ∃ z, D ++ bytesOf H2 = z := ⟨_, rfl⟩
      rw [hD1] at HX1
      have HD1 := Lib.hid hD1
      clear hD1
      obtain ⟨n1, hn1⟩ : ∃ n1, m + H2.size = n1 := ⟨_, rfl⟩
      rw [hn1] at HX1 hr1
      obtain ⟨p1, q1, e1⟩ := HX1.out.1.ob.form
      rw [HX1.out.2] at e1
      subst e1
      clear hr1 hg1 hf1 hrow HX0
      -- the packed bytes
      have c8 := HX1.out.1.cells 8 (.string p.data) rfl
      go_wp2_with fail
      refine (HPK.out _ (HV.out.mut HX1.out.1.ob.kept (by simp))).mono ?_
      rintro e x2 ⟨rfl, hm⟩
      have HX1b := Lib.hid (And.intro (HX1.out.1.mut hm) HX1.out.2)
      clear hm c8 HX1 HPK
      have hrow := HX1b.out.1.ob.row
      rw [HX1b.out.2] at hrow
      go_wp2_with (at_builtin; refine wp_app rfl (.tmp 154) (.tmp 158) 54 9 rfl 5 i0 (.int .u8 0) 1 1 Try.underlying54 hi0 hz0 hz1 hz2 rfl hrow rfl (Src.ofString x2 Try.underlying9 PK) rfl ?b1 ?b2 ?_)
      case b1 => unfold maxLen; omega
      case b2 => omega
      intro v1 y2 hr1 hg1 hf1
      have HX2 := Lib.hid (HX1b.out.1.appS (Mut.refl [] x2) HX1b.out.2 hr1 hg1 hf1)
      obtain ⟨D2, hD2⟩ : ∃ z, D1 ++ bytesOf PK = z := ⟨_, rfl⟩
      rw [hD2] at HX2
      have HD2 := Lib.hid hD2
      clear hD2
      obtain ⟨n2, hn2⟩ : ∃ z, n1 + PK.size = z := ⟨_, rfl⟩
      rw [hn2] at HX2 hr1
      obtain ⟨p2, q2, e1⟩ := HX2.out.1.ob.form
      rw [HX2.out.2] at e1
      subst e1
      clear hr1 hg1 hf1 hrow HX1b
      -- the sum
      have c8 := HX2.out.1.cells 8 (.string p.data) rfl
      go_wp2_with fail
      refine (HSD.out _).mono ?_
      rintro e x3 ⟨rfl, rfl⟩
      go_wp2_with fail
      refine (HL7.out _).mono ?_
      rintro e x4 ⟨rfl, hm⟩
      have HX2b := Lib.hid (And.intro (HX2.out.1.mut hm) HX2.out.2)
      clear hm c8 HX2 HSD HL7
      have hrow := HX2b.out.1.ob.row
      rw [HX2b.out.2] at hrow
      go_wp2_with (at_builtin; refine wp_app rfl (.tmp 160) (.tmp 164) 54 9 rfl 5 i0 (.int .u8 0) 1 1 Try.underlying54 hi0 hz0 hz1 hz2 rfl hrow rfl (Src.ofString x4 Try.underlying9 S7) rfl ?b1 ?b2 ?_)
      case b1 => unfold maxLen; omega
      case b2 => omega
      intro v1 y3 hr1 hg1 hf1
      have HX3 := Lib.hid (HX2b.out.1.appS (Mut.refl [] x4) HX2b.out.2 hr1 hg1 hf1)
      obtain ⟨D3, hD3⟩ : ∃ z, D2 ++ bytesOf S7 = z := ⟨_, rfl⟩
      rw [hD3] at HX3
      have HD3 := Lib.hid hD3
      clear hD3
      obtain ⟨n3, hn3⟩ : ∃ z, n2 + S7.size = z := ⟨_, rfl⟩
      rw [hn3] at HX3 hr1
      obtain ⟨p3, q3, e1⟩ := HX3.out.1.ob.form
      rw [HX3.out.2] at e1
      subst e1
      clear hr1 hg1 hf1 hrow HX2b
      -- the size
      have c8 := HX3.out.1.cells 8 (.string p.data) rfl
      go_wp2_with fail
      refine (HL8.out _).mono ?_
      rintro e x5 ⟨rfl, hm⟩
      have HX3b := Lib.hid (And.intro (HX3.out.1.mut hm) HX3.out.2)
      clear hm c8 HX3 HL8
      have hrow := HX3b.out.1.ob.row
      rw [HX3b.out.2] at hrow
      go_wp2_with (at_builtin; refine wp_app rfl (.tmp 166) (.tmp 170) 54 9 rfl 5 i0 (.int .u8 0) 1 1 Try.underlying54 hi0 hz0 hz1 hz2 rfl hrow rfl (Src.ofString x5 Try.underlying9 S8) rfl ?b1 ?b2 ?_)
      case b1 => unfold maxLen; omega
      case b2 => omega
      intro v1 y4 hr1 hg1 hf1
      have HX4 := Lib.hid (HX3b.out.1.appS (Mut.refl [] x5) HX3b.out.2 hr1 hg1 hf1)
      obtain ⟨D4, hD4⟩ : ∃ z, D3 ++ bytesOf S8 = z := ⟨_, rfl⟩
      rw [hD4] at HX4
      have HD4 := Lib.hid hD4
      clear hD4
      obtain ⟨n4, hn4⟩ : ∃ z, n3 + S8.size = z := ⟨_, rfl⟩
      rw [hn4] at HX4 hr1
      obtain ⟨p4, q4, e1⟩ := HX4.out.1.ob.form
      rw [HX4.out.2] at e1
      subst e1
      clear hr1 hg1 hf1 hrow HX3b
      have HO : Hid (OB w (.slice p4 n4 q4) (fileL (l.take (i + 1)) C) y4 ∧ (fileL (l.take (i + 1)) C).length = n4) := Lib.hid (by
        have e : fileL (l.take (i + 1)) C = D4 := by
          rw [HTK.out.1, HPB.out, HDD.out, ← HD4.out, ← HD3.out, ← HD2.out, ← HD1.out]
          simp only [List.append_assoc]
        rw [e]
        exact ⟨HX4.out.1.ob, HX4.out.2⟩)
      have hn4b : n4 ≤ 1099511627776 := by omega
      clear HX4 hn1 hn2 hn3 hn4 hi0 hz0 hz1 hz2 hbd
      go_wp2_with fail
      go_roundg (n - (i + 1))
      case measure => omega
      case rel => exact ⟨i + 1, n4, p4, q4, rfl, rfl, by rw [Int.natCast_add]; rfl, hlt, hn4b, Lib.hid HO.out.2, HB2, Lib.hid HO.out.1⟩

end Go.Proofs.Ytgjcnembeebjfaa
