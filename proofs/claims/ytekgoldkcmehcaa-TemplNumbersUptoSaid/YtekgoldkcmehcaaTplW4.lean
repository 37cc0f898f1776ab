/- Walks over package templ: (*parser).group, Parse. -/
import Derived.Test.YtekgoldkcmehcaaTplW3
import Derived.Deep.LoopGhost
import Derived.Deep.DeepCutAuto
namespace Go.Proofs.Ytekgoldkcmehcaa
open Go.RowKit Go.Shelf
set_option linter.unusedVariables false

/-- a group stands ahead: how many bytes, and its number -/
def GrpIs (s : ByteArray) (k n : Nat) : Prop :=
  ((dgs (bytesOf s)).length = k ∧ 0 < k ∧ dval (dgs (bytesOf s)) = n) ∨
  ((dgs (bytesOf s)).length = 0 ∧ ∃ (i : Nat) (a t : ByteArray), Lib.indexByte s.data.toList 125 = (i : Int) ∧ s.extract 0 i = a ∧ pre1 a 123 = true ∧ 1 ≤ a.size ∧ a.extract 1 a.size = t ∧ t ≠ .empty ∧ t.size ≤ 1024 ∧
    (dgs (bytesOf t)).length = t.size ∧ dval (dgs (bytesOf t)) = n ∧ k = t.size + 2)

theorem nonempty_facts {s : ByteArray} (h : s ≠ .empty) : s.toList ≠ [] ∧ s.toList.isEmpty = false := by
  have hn0 : s.toList ≠ [] := fun e => h (ByteArray.ext (Array.ext' (by rw [← str_toList, e]; rfl)))
  refine ⟨hn0, ?_⟩
  cases h : s.toList with
  | nil => exact absurd h hn0
  | cons a r => rfl

set_option maxHeartbeats 1600000 in
set_option maxRecDepth 100000 in
theorem group_any (s : ByteArray) (k n : Nat) (h : GrpIs s k n) (hs : s.size ≤ 1024) (p : Value) (w : World) :
    Calls Try.prog 12 #[p, .string s] w fun e w' => e = .returned (.tuple #[.int .i64 (k : Int), .int .i64 (n : Int)]) ∧ ∃ m, w' = w.drewN m := by
  rcases h with ⟨h1, h2, h3⟩ | ⟨h1, i, a, t, h2, h3, h4, h5, h6, h7, h7', h8, h9, rfl⟩
  · have HD := Lib.hid fun w => digits_any s k n h1 h3 (by omega) w
    have h2I : (0 : Int) < (k : Int) := by omega
    clear h1 h3
    go_enter Try.func12, Try.ntmps12
    go_wp2_with (refine (HD.out _).mono ?_; rintro e w' ⟨rfl, rfl⟩)
    exact bodyPost_ret (results_tmp2 rfl _ _ _) rfl ⟨rfl, 0, rfl⟩
  · have HD := Lib.hid fun w => digits_any s 0 _ h1 rfl (by omega) w
    generalize dval (dgs (bytesOf s)) = n0 at HD
    have HC := Lib.hid fun w => cut_some s 125 i h2 (by omega) w
    rw [h3] at HC
    generalize s.extract (i + 1) s.size = s2 at HC
    have HP := Lib.hid fun w => cutp_some a 123 h4 h5 w
    rw [h6] at HP
    have HE := Lib.hid fun w => digits_any t _ n h8 h9 (by omega) w
    obtain ⟨hn1, hn2⟩ := nonempty_facts h7
    clear h1 h2 h3 h4 h5 h6 h7 h8 h9
    go_enter Try.func12, Try.ntmps12
    go_wp2_with fail
    refine (HD.out _).mono ?_
    rintro e w' ⟨rfl, rfl⟩
    go_wp2_with fail
    refine (HC.out _).mono ?_
    rintro e w1 ⟨rfl, m, hw⟩
    have HW := Lib.hid hw
    clear hw
    go_wp2_with fail
    refine (HP.out _).mono ?_
    rintro e w2 ⟨rfl, rfl⟩
    go_wp2_with fail
    refine (HE.out _).mono ?_
    rintro e w2 ⟨rfl, rfl⟩
    go_wp2_with fail
    exact bodyPost_ret (results_tmp2 rfl _ _ _) rfl ⟨by simp, m, HW.out⟩

def dollar : ByteArray := ⟨#[36]⟩

/-- how Parse goes on with what is left (L: how many groups there are; T: how long the template is) -/
inductive Runs (L T : Nat) : ByteArray → List Pc → Option (List Pc) → Nat → Prop
  | done (r : ByteArray) (l l1 : List Pc) : Lib.indexByte r.data.toList 36 = -1 → addText l r = l1 → Runs L T r l (some l1) 0
  | sign (r : ByteArray) (l : List Pc) (i : Nat) (h q q2 : ByteArray) (l1 l2 : List Pc) (R : Option (List Pc)) (at' : Nat) : Lib.indexByte r.data.toList 36 = (i : Int) → r.extract 0 i = h → r.extract (i + 1) r.size = q → pre1 q 36 = true → q.extract 1 q.size = q2 →
      addText l h = l1 → addText l1 dollar = l2 → Runs L T q2 l2 R at' → Runs L T r l R at'
  | num (r : ByteArray) (l : List Pc) (i : Nat) (h q q2 : ByteArray) (l1 : List Pc) (k n : Nat) (R : Option (List Pc)) (at' : Nat) : Lib.indexByte r.data.toList 36 = (i : Int) → r.extract 0 i = h → r.extract (i + 1) r.size = q → pre1 q 36 = false → GrpIs q k n → 0 < k → k ≤ q.size → n ≤ 9999 → n < L → q.extract k q.size = q2 →
      addText l h = l1 → Runs L T q2 (l1 ++ [(.empty, (n : Int))]) R at' → Runs L T r l R at'
  | bad (r : ByteArray) (l : List Pc) (i : Nat) (h q : ByteArray) (l1 : List Pc) (k n : Nat) (at' : Nat) : Lib.indexByte r.data.toList 36 = (i : Int) → r.extract 0 i = h → r.extract (i + 1) r.size = q → pre1 q 36 = false → GrpIs q k n → 0 < k → n ≤ 9999 → L ≤ n →
      addText l h = l1 → at' + q.size + 1 = T → Runs L T r l none at'

theorem pre1_size (s : ByteArray) (c : UInt8) (h : pre1 s c = true) : 1 ≤ s.size := by
  have hl := bytesOf_length s
  unfold pre1 at h
  cases hb : bytesOf s with
  | nil => rw [hb] at h; simp at h
  | cons a r => rw [hb] at hl; simp at hl; omega
theorem cut_sizes (s : ByteArray) (c : UInt8) (i : Nat) (hi : Lib.indexByte s.data.toList c = (i : Int)) (h q : ByteArray) (e1 : s.extract 0 i = h) (e2 : s.extract (i + 1) s.size = q) : h.size = i ∧ i + 1 + q.size = s.size := by
  have hlt : i < s.size := by
    have := (List.getElem?_eq_some_iff.1 (Lib.indexByte_some hi).1).1
    simpa using this
  subst e1 e2
  simp only [ByteArray.size_extract]
  omega
theorem PB.drewN {w0 w : World} {b : Nat} {r : ByteArray} {nv : Value} {l : List Pc} (h : PB w0 b r nv l w) (m : Nat) : PB w0 b r nv l (w.drewN m) := by
  obtain ⟨⟨v, h1, h2, h3⟩, h5, h6⟩ := h
  exact ⟨⟨v, h1, (Mut.refl [] w |>.drewN m).row h2 (by simp), h3⟩, h5, h6.drewN m⟩

theorem Mut.then0' {S : List Nat} {a b c : World} (h : Mut S a b) (k : Mut [] b c) : Mut S a c := h.trans k (by simp)

/-- no piece is too long, there are not too many -/
def Fit (l : List Pc) (m : Nat) : Prop := l.length + m ≤ 1024 ∧ ∀ p ∈ l, p.1.size + m ≤ 1024
theorem Fit.less {l : List Pc} {m k : Nat} (h : Fit l m) (hk : k ≤ m) : Fit l k := ⟨by have := h.1; omega, fun p hp => by have := h.2 p hp; omega⟩
theorem empty_of_size {s : ByteArray} (h : s.size = 0) : s = .empty := by
  apply bytesOf_inj
  exact List.eq_nil_of_length_eq_zero (by rw [bytesOf_length]; exact h)
theorem Fit.text {l : List Pc} {s : ByteArray} {m : Nat} (h : Fit l (s.size + m)) : Fit (addText l s) m := by
  obtain ⟨q, hq, hq1, hq0⟩ := addText_split l s
  cases q
  · rw [hq0 rfl]
    by_cases he : s = .empty
    · rw [if_pos he]
      exact h.less (by omega)
    · rw [if_neg he]
      have : s.size ≠ 0 := fun e => he (empty_of_size e)
      refine ⟨by have := h.1; simp; omega, fun p hp => ?_⟩
      rcases List.mem_append.1 hp with hp | hp
      · have := h.2 p hp; omega
      · simp at hp
        subst hp
        have := h.1
        simp only
        omega
  · obtain ⟨l', t, rfl, e⟩ := hq1 rfl
    rw [e]
    refine ⟨by have := h.1; simp at this ⊢; omega, fun p hp => ?_⟩
    rcases List.mem_append.1 hp with hp | hp
    · have := h.2 p (by simp [hp]); omega
    · simp at hp
      subst hp
      have := h.2 (t, -1) (by simp)
      simp only [ByteArray.size_append]
      simp only at this
      omega
theorem Fit.group {l : List Pc} {n : Int} {m : Nat} (h : Fit l (1 + m)) : Fit (l ++ [(.empty, n)]) m := by
  refine ⟨by have := h.1; simp; omega, fun p hp => ?_⟩
  rcases List.mem_append.1 hp with hp | hp
  · have := h.2 p hp; omega
  · simp at hp
    subst hp
    have := h.1
    simp only [ByteArray.size_empty]
    omega
theorem Fit.bounds {l : List Pc} {m : Nat} (h : Fit l m) : (∀ p ∈ l, p.1.size ≤ 1073741824) ∧ l.length ≤ 1048576 := ⟨fun p hp => by have := h.2 p hp; omega, by have := h.1; omega⟩

/-- what Parse answers -/
def parseRes (w : World) (R : Option (List Pc)) (at' : Nat) (v : Value) (w' : World) : Prop :=
  match R with
  | some l => ∃ p c, v = .tuple #[.slice p l.length c, .agg #[.int .i64 0, .int .i64 0]] ∧ w'.ownsRow 0 35 2 (.slice p l.length c) l.length (pcL l) ∧ (∀ g, (Value.slice p l.length c).ownBlock = some g → w.heap.size ≤ g)
  | none => v = .tuple #[.slice none 0 0, .agg #[.int .i64 27, .int .i64 (at' : Int)]]

theorem results_parse {tmps : Array Value} {w : World} {g : Nat} {v b0 b1 : Value} (h : w.heap[g]? = some (.cells #[b0, b1] 27 (0, 0)))
    (p1 : tmps.getD 4 undef = v) (p2 : tmps.getD 5 undef = .pointer (some ⟨g, 0, none⟩)) :
    (results Try.f6 tmps).run Try.prog w = .ok (.tuple #[v, .agg #[b0, b1]]) w := by
  have q1 : tmps[4]?.getD undef = v := by simpa using p1
  have q2 : tmps[5]?.getD undef = .pointer (some ⟨g, 0, none⟩) := by simpa using p2
  have e2 := run_loadVar_row (P := Try.prog) w g 27 27 #[b0, b1] (0, 0) _ h Try.underlying27 rfl (by kernel_rfl)
  simp [results, q1, q2, asAddr, e2]

theorem PB.rest {w0 w : World} {b : Nat} {r r2 : ByteArray} {nv : Value} {l : List Pc} (h : PB w0 b r nv l w) : PB w0 b r2 nv l (w.setCell ⟨b, 0, none⟩ (.string r2)) := by
  obtain ⟨⟨v, h1, h2, h3⟩, h5, h6⟩ := h
  refine ⟨⟨v, by simpa using heap_set h1 0 (.string r2), row_set_ne h2 (fun g hg e => ?_) _, h3⟩, h5, h6.setCell (.inr h5) _⟩
  subst e
  exact row_ne h2 h1 (by decide) hg

/-- the end: the fault's two cells are written -/
theorem parse_end {w W w2 : World} {F : Nat} (hF : W.heap[F]? = some (.cells #[.int .i64 0, .int .i64 0] 27 (0, 0))) (hFw : F = w.heap.size) (hm : Mut [] w W) (k : Mut [] W w2) (x y : Value) :
    ((w2.setCell ⟨F, 0, none⟩ x).setCell ⟨F, 1, none⟩ y).heap[F]? = some (.cells #[x, y] 27 (0, 0)) ∧ Mut [] w ((w2.setCell ⟨F, 0, none⟩ x).setCell ⟨F, 1, none⟩ y) ∧
      (∀ {v : Value} {n : Nat} {xs : List Value}, w2.ownsRow 0 35 2 v n xs → (∀ g, v.ownBlock = some g → W.heap.size ≤ g) → ((w2.setCell ⟨F, 0, none⟩ x).setCell ⟨F, 1, none⟩ y).ownsRow 0 35 2 v n xs) ∧
      w2.cell? ⟨F, 0, none⟩ = some (.int .i64 0) ∧ w2.cell? ⟨F, 1, none⟩ = some (.int .i64 0) ∧ w2.frozen? ⟨F, 0, none⟩ = false ∧ w2.frozen? ⟨F, 1, none⟩ = false := by
  have h := k.get hF (by simp)
  have hl := lt_of_heap hF
  have h1 := heap_set h 0 x
  have h2 := heap_set h1 1 y
  refine ⟨by simpa using h2, ((hm.then0' k).setCell (.inr (by simp [hFw])) _).setCell (.inr (by simp [hFw])) _, fun hr hg => row_set_ne (row_set_ne hr (fun g e => ?_) _) (fun g e => ?_) _, (cells2 h).1, (cells2 h).2.1, (cells2 h).2.2.1, (cells2 h).2.2.2⟩
  · have := hg g e; omega
  · have := hg g e; omega

set_option maxHeartbeats 3200000 in
set_option maxRecDepth 100000 in
theorem parse_any (s : ByteArray) (R : Option (List Pc)) (at' : Nat) (L : Nat) (np : Option Addr) (nc : Nat) (hL : L ≤ 1048576) (hR : Runs L s.size s [] R at') (hs : s.size ≤ 1024) (w : World) :
    Calls Try.prog 6 #[.string s, .slice np L nc] w fun e w' => ∃ v, e = .returned v ∧ parseRes w R at' v w' ∧ Mut [] w w' := by
  have hsI : ¬ (1024 : Int) < (s.size : Int) := by omega
  have HR := Lib.hid hR
  clear hR
  go_enter Try.func6, Try.ntmps6
  go_upto_region 3 with fail
  have hF := heap_alloc_new' w (.cells #[.int .i64 0, .int .i64 0] 27)
  have hFl : w.heap.size < (w.alloc (.cells #[.int .i64 0, .int .i64 0] 27)).heap.size := by simp
  have hM0 := (Mut.refl [] w).alloc (.cells #[.int .i64 0, .int .i64 0] 27)
  generalize w.alloc (.cells #[.int .i64 0, .int .i64 0] 27) = W at *
  have H0 : Hid (∃ l, Runs L s.size s l R at' ∧ Fit l s.size ∧ PB W W.heap.size s (.slice np L nc) l (W.alloc (.cells #[.string s, .slice np L nc, .slice none 0 0] 40))) :=
    Lib.hid ⟨[], HR.out, ⟨by simpa using hs, by simp⟩, ⟨_, heap_alloc_new' _ _, World.ownsRow_nil _ _ _ _, by simp [Value.ownBlock]⟩, Nat.le_refl _, (Mut.refl [] W).alloc _⟩
  have HF := Lib.hid (And.intro hF (And.intro hFl hM0))
  clear HR hF hFl hM0 hsI
  go_upto_region 4 with fail
  generalize W.alloc (.cells #[.string s, .slice np L nc, .slice none 0 0] 40) = W1 at *
  go_loopg [7] s.size (fun g h wr => ∃ rest : ByteArray, g = rest.size ∧ rest.size ≤ 1024 ∧ Hid (∃ l, Runs L s.size rest l R at' ∧ Fit l rest.size ∧ PB W W.heap.size rest (.slice np L nc) l wr))
  case atStart => exact ⟨s, rfl, hs, H0⟩
  case round =>
    obtain ⟨rest, rfl, hr, HX⟩ := hrel
    clear H0
    obtain ⟨l, hR, hf, hB⟩ := HX.out
    clear HX
    obtain ⟨⟨v, h1, h2, h3⟩, h5, h6⟩ := id hB
    have c0 := cellOf h1 0 (x := .string rest) rfl
    have HB := Lib.hid hB
    have HT := Lib.hid hf
    clear hB h1 h2 h3 h5 h6 hf
    cases hR with
    | done _ _ l1 e1 e2 =>
      have HC := Lib.hid fun w => cut_none rest 36 e1 w
      have HX := Lib.hid (text_any W W.heap.size rest (.slice np L nc) l l1 rest e2 (by omega) HT.out.bounds.1 HT.out.bounds.2 wr HB.out)
      clear e1 e2
      go_wp2_with fail
      refine (HC.out _).mono ?_
      rintro e w1 ⟨rfl, rfl⟩
      go_wp2_with fail
      refine HX.out.mono ?_
      rintro e w2 ⟨⟨v2, rfl⟩, hB2⟩
      obtain ⟨⟨v3, g1, g2, g3⟩, g5, g6⟩ := hB2
      have c2 := cellOf g1 2 (x := v3) rfl
      obtain ⟨pp, cap, rfl⟩ : ∃ p c, v3 = .slice p l1.length c := by
        rcases g2.2 with ⟨h, h'⟩ | ⟨g, cap, _, h, _⟩
        · exact ⟨none, 0, by rw [h, h']⟩
        · exact ⟨_, cap, h⟩
      obtain ⟨k1, k2, k3, k4, k5, k6, k7⟩ := parse_end HF.out.1 rfl HF.out.2.2 g6 (.int .i64 0) (.int .i64 0)
      have K1 := Lib.hid k1
      have K2 := Lib.hid k2
      have K3 := Lib.hid (k3 g2 g3)
      have K4 := Lib.hid (And.intro g3 HF.out.2.2.size)
      clear k1 k2 k3 g1 g2 g3 g5 g6 HB HX HC
      go_wp2_with fail
      refine bodyPost_ret (results_parse K1.out rfl rfl) rfl ⟨_, rfl, ⟨pp, cap, rfl, K3.out, fun g hg => ?_⟩, K2.out⟩
      have := K4.out.1 g hg
      have := K4.out.2
      omega
    | sign _ _ i h q q2 l1 l2 _ _ e1 e2 e3 e4 e5 e6 e7 e8 =>
      obtain ⟨z1, z2⟩ := cut_sizes rest 36 i e1 h q e2 e3
      have z3 : 1 ≤ q.size := pre1_size q 36 e4
      have z4 : q2.size = q.size - 1 := by rw [← e5, ByteArray.size_extract]; omega
      have HC := Lib.hid fun w => cut_some rest 36 i e1 (by omega) w
      rw [e2, e3] at HC
      have F1 : Fit l1 (1 + (q2.size + 1)) := by
        rw [← e6]
        exact Fit.text (HT.out.less (by omega))
      have F2 : Fit l2 q2.size := by
        rw [← e7]
        exact Fit.text (s := dollar) (F1.less (by have : dollar.size = 1 := rfl; omega))
      have HX := Lib.hid fun w => text_any W W.heap.size rest (.slice np L nc) l l1 h e6 (by omega) HT.out.bounds.1 HT.out.bounds.2 w
      have HY := Lib.hid fun w => text_any W W.heap.size rest (.slice np L nc) l1 l2 ⟨#[36]⟩ e7 (by decide) F1.bounds.1 F1.bounds.2 w
      have HH := Lib.hid fun w => has_any q 36 true e4 w
      have HZ := Lib.hid (And.intro e8 (And.intro F2 (And.intro z1 (And.intro z2 z4))))
      have hq1 : (1 : Int) ≤ (q.size : Int) := by omega
      have hqb : q.size ≤ 1024 := by omega
      have E5 := Lib.hid e5
      clear e1 e2 e3 e4 e5 e6 e7 e8 F1 F2 z1 z2 z3 z4
      go_wp2_with fail
      refine (HC.out _).mono ?_
      rintro e w1 ⟨rfl, m, hw⟩
      have hB1 : PB W W.heap.size rest (.slice np L nc) l w1 := by rw [hw]; exact HB.out.drewN m
      have HB1 := Lib.hid hB1
      clear hw hB1 HC HB c0
      go_wp2_with fail
      refine (HX.out _ HB1.out).mono ?_
      rintro e w2 ⟨⟨v2, rfl⟩, hB2⟩
      have HB2 := Lib.hid hB2
      clear hB2 HX HB1
      go_wp2_with fail
      refine (HH.out _).mono ?_
      rintro e w3 ⟨rfl, rfl⟩
      clear HH
      go_wp2_with fail
      refine (HY.out _ HB2.out).mono ?_
      rintro e w4 ⟨⟨v4, rfl⟩, hB4⟩
      have HB5 := Lib.hid (PB.rest (r2 := q2) hB4)
      obtain ⟨⟨v5, g1, -, -⟩, -, -⟩ := hB4
      have c0 := cellOf g1 0 (x := .string rest) rfl
      have f0 := frozenOf g1 0
      clear HY HB2 g1
      go_wp2_with fail
      rw [E5.out]
      go_roundg q2.size
      case measure => have := HZ.out.2.2; omega
      case rel => exact ⟨q2, rfl, by have := HZ.out.2.2; omega, Lib.hid ⟨l2, HZ.out.1, HZ.out.2.1, HB5.out⟩⟩
    | num _ _ i h q q2 l1 k n _ _ e1 e2 e3 e4 e5 e5a e5b e5c e6 e7 e8 e9 =>
      obtain ⟨z1, z2⟩ := cut_sizes rest 36 i e1 h q e2 e3
      have z4 : q2.size = q.size - k := by rw [← e7, ByteArray.size_extract]; omega
      have HC := Lib.hid fun w => cut_some rest 36 i e1 (by omega) w
      rw [e2, e3] at HC
      have F1 : Fit l1 (1 + (q2.size + 1)) := by
        rw [← e8]
        exact Fit.text (HT.out.less (by omega))
      have F2 : Fit (l1 ++ [(.empty, (n : Int))]) q2.size := Fit.group (F1.less (by omega))
      have HX := Lib.hid fun w => text_any W W.heap.size rest (.slice np L nc) l l1 h e8 (by omega) HT.out.bounds.1 HT.out.bounds.2 w
      have HG := Lib.hid fun w => group_any q k n e5 (by omega) (.pointer (some ⟨W.heap.size, 0, none⟩)) w
      have HH := Lib.hid fun w => has_any q 36 false e4 w
      have HZ := Lib.hid (And.intro e9 (And.intro F2 (And.intro z1 (And.intro z2 z4))))
      have hk0 : ((k : Int) == 0) = false := by rw [beq_eq_false_iff_ne]; omega
      have hk1 : (k : Int) ≤ (q.size : Int) := by omega
      have hk2 : (0 : Int) ≤ (k : Int) := by omega
      have hn0 : ¬ (n : Int) < 0 := by omega
      have hn1 : ¬ (L : Int) ≤ (n : Int) := by omega
      have hqb : q.size ≤ 1024 := by omega
      have hlb := F1.bounds.2
      have E5 := Lib.hid e7
      obtain ⟨i0, hi, hz0, hz1, hz2⟩ := info_parts info_pc
      clear e1 e2 e3 e4 e5 e6 e7 e8 F1 F2 z1 z2 z4 e9 e5a e5b
      go_wp2_with fail
      refine (HC.out _).mono ?_
      rintro e w1 ⟨rfl, m, hw⟩
      have hB1 : PB W W.heap.size rest (.slice np L nc) l w1 := by rw [hw]; exact HB.out.drewN m
      have HB1 := Lib.hid hB1
      clear hw hB1 HC HB c0
      go_wp2_with fail
      refine (HX.out _ HB1.out).mono ?_
      rintro e w2 ⟨⟨v2, rfl⟩, hB2⟩
      have HB2 := Lib.hid hB2
      clear hB2 HX HB1
      go_wp2_with fail
      refine (HH.out _).mono ?_
      rintro e w3 ⟨rfl, rfl⟩
      clear HH
      go_wp2_with fail
      refine (HG.out _).mono ?_
      rintro e w4 ⟨rfl, m, hw⟩
      have hB4 : PB W W.heap.size rest (.slice np L nc) l1 w4 := by rw [hw]; exact HB2.out.drewN m
      clear hw HG HB2
      obtain ⟨⟨v5, g1, g2, g3⟩, g5, g6⟩ := hB4
      have c2 := cellOf g1 2 (x := v5) rfl
      have G1 := Lib.hid g1
      have G2 := Lib.hid g2
      have G3 := Lib.hid (And.intro g3 (And.intro g5 g6))
      clear g1 g2 g3 g5 g6
      go_wp2_with (at_builtin; refine wp_app rfl (.tmp 77) (.tmp 80) 24 24 rfl 35 i0 (.agg #[.string .empty, .int .i64 0]) 2 24 Try.underlying24 hi hz0 hz1 hz2 rfl (G2.out.alloc _) rfl (src1 Try.underlying24 (heap_alloc_new w4 _) rfl (pc_one (.empty, (n : Int)))) rfl (by unfold maxLen; omega) (by omega) ?_)
      intro v6 w6 r1 r2 r3
      obtain ⟨HP, d1, d2⟩ := PB.put (x := (.empty, (n : Int))) G1.out G2.out G3.out.1 G3.out.2.1 G3.out.2.2 _ r1 r2 r3
      obtain ⟨G7, cp7, rfl, -, -⟩ := row_some r1 (by omega)
      have HP7 := Lib.hid (PB.rest (r2 := q2) HP)
      obtain ⟨⟨v8, g1, -, -⟩, -, -⟩ := HP
      have e0 := cellOf g1 0 (x := .string rest) rfl
      have f0 := frozenOf g1 0
      clear r1 r2 r3 hi hz0 hz1 hz2 g1
      go_wp2_with fail
      rw [E5.out]
      go_roundg q2.size
      case measure => have := HZ.out.2.2; omega
      case rel => exact ⟨q2, rfl, by have := HZ.out.2.2; omega, Lib.hid ⟨_, HZ.out.1, HZ.out.2.1, HP7.out⟩⟩
    | bad _ _ i h q l1 k n _ e1 e2 e3 e4 e5 e5a e5c e6 e7 e8 =>
      obtain ⟨z1, z2⟩ := cut_sizes rest 36 i e1 h q e2 e3
      have HC := Lib.hid fun w => cut_some rest 36 i e1 (by omega) w
      rw [e2, e3] at HC
      have HX := Lib.hid fun w => text_any W W.heap.size rest (.slice np L nc) l l1 h e7 (by omega) HT.out.bounds.1 HT.out.bounds.2 w
      have HG := Lib.hid fun w => group_any q k n e5 (by omega) (.pointer (some ⟨W.heap.size, 0, none⟩)) w
      have HH := Lib.hid fun w => has_any q 36 false e4 w
      have hk0 : ((k : Int) == 0) = false := by rw [beq_eq_false_iff_ne]; omega
      have hn0 : ¬ (n : Int) < 0 := by omega
      have hn1 : (L : Int) ≤ (n : Int) := by omega
      have hqb : q.size ≤ 1024 := by omega
      have HE : Hid ((s.size : Int) - (q.size : Int) - 1 = (at' : Int)) := Lib.hid (by omega)
      clear e1 e2 e3 e4 e5 e6 e7 e8 z1 z2 e5a
      go_wp2_with fail
      refine (HC.out _).mono ?_
      rintro e w1 ⟨rfl, m, hw⟩
      have hB1 : PB W W.heap.size rest (.slice np L nc) l w1 := by rw [hw]; exact HB.out.drewN m
      have HB1 := Lib.hid hB1
      clear hw hB1 HC HB c0
      go_wp2_with fail
      refine (HX.out _ HB1.out).mono ?_
      rintro e w2 ⟨⟨v2, rfl⟩, hB2⟩
      have HB2 := Lib.hid hB2
      clear hB2 HX HB1
      go_wp2_with fail
      refine (HH.out _).mono ?_
      rintro e w3 ⟨rfl, rfl⟩
      clear HH
      go_wp2_with fail
      refine (HG.out _).mono ?_
      rintro e w4 ⟨rfl, m, hw⟩
      have hB4 : PB W W.heap.size rest (.slice np L nc) l1 w4 := by rw [hw]; exact HB2.out.drewN m
      clear hw HG HB2
      obtain ⟨⟨v5, g1, g2, g3⟩, g5, g6⟩ := hB4
      obtain ⟨k1, k2, k3, k4, k5, k6, k7⟩ := parse_end HF.out.1 rfl HF.out.2.2 g6 (.int .i64 27) (.int .i64 (at' : Int))
      have K1 := Lib.hid k1
      have K2 := Lib.hid k2
      clear k1 k2 k3 g1 g2 g3 g5 g6
      have hsb : s.size ≤ 1024 := hs
      have hw1 : wrap64 ((s.size : Int) - (q.size : Int)) = (s.size : Int) - (q.size : Int) := IntWalk.wrap64_in _ (by omega)
      have hw2 : wrap64 ((s.size : Int) - (q.size : Int) - 1) = (s.size : Int) - (q.size : Int) - 1 := IntWalk.wrap64_in _ (by omega)
      go_wp2_with fail
      rw [HE.out]
      exact bodyPost_ret (results_parse K1.out rfl rfl) rfl ⟨_, rfl, rfl, K2.out⟩

end Go.Proofs.Ytekgoldkcmehcaa
