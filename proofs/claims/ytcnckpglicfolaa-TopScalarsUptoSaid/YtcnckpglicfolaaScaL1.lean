/- Walk over the law TopScalars. -/
import Derived.Test.YtcnckpglicfolaaCodW3
import Derived.Test.YtcnckpglicfolaaCodW5
import Derived.Test.YtcnckpglicfolaaScaW3
import Derived.BigQuiet
import Derived.Deep.DeepCutAuto
namespace Go.Proofs.Ytcnckpglicfolaa
open Go.RowKit
set_option linter.unusedVariables false

/-- a text and a fault in a caller's memory -/
def Held (w : World) (A : Nat) (a0 a1 a2 a3 b0 b1 : Value) : Prop :=
  w.heap[A]? = some (.cells #[a0, a1, a2, a3] 24 (0, 0)) ∧ w.heap[A + 1]? = some (.cells #[b0, b1] 27 (0, 0))

theorem Held.step {w w' : World} {A : Nat} {a0 a1 a2 a3 b0 b1 : Value} (h : Held w A a0 a1 a2 a3 b0 b1) (m : Mut [] w w') : Held w' A a0 a1 a2 a3 b0 b1 := ⟨m.get h.1 (by simp), m.get h.2 (by simp)⟩

theorem Held.cells {w : World} {A : Nat} {a0 a1 a2 a3 b0 b1 : Value} (h : Held w A a0 a1 a2 a3 b0 b1) :
    w.cell? ⟨A, 0, none⟩ = some a0 ∧ w.cell? ⟨A, 1, none⟩ = some a1 ∧ w.cell? ⟨A, 2, none⟩ = some a2 ∧ w.cell? ⟨A, 3, none⟩ = some a3 ∧ w.cell? ⟨A + 1, 0, none⟩ = some b0 ∧ w.cell? ⟨A + 1, 1, none⟩ = some b1 :=
  ⟨cellOf h.1 0 rfl, cellOf h.1 1 rfl, cellOf h.1 2 rfl, cellOf h.1 3 rfl, cellOf h.2 0 rfl, cellOf h.2 1 rfl⟩

theorem hold_new (w : World) (a0 a1 a2 a3 b0 b1 : Value) :
    Held ((w.alloc (.cells #[a0, a1, a2, a3] 24)).alloc (.cells #[b0, b1] 27)) w.heap.size a0 a1 a2 a3 b0 b1 ∧ Mut [] w ((w.alloc (.cells #[a0, a1, a2, a3] 24)).alloc (.cells #[b0, b1] 27)) := by
  have h0 := heap_alloc_new w (.cells #[a0, a1, a2, a3] 24)
  have h1 := heap_alloc_new (w.alloc (.cells #[a0, a1, a2, a3] 24)) (.cells #[b0, b1] 27)
  rw [World.size_alloc] at h1
  exact ⟨⟨((Mut.refl [] _).alloc _).get h0 (by simp), h1⟩, ((Mut.refl [] w).alloc _).alloc _⟩

/-- a text all of which is whole -/
theorem DecPost.whole {w : World} {k : Nat} {strict : Bool} {T : List (Int × Nat)} {size : Nat} {x : Value} {w' : World} (h : DecPost w k strict T size x w') (hb : badOf T = 0) :
    ∃ vr vp, x = .tuple #[.agg #[.int .i64 (k : Int), vr, vp, .int .i64 0], .agg #[.int .i64 0, .int .i64 0]] ∧ IRow w' vr (runesOf T) ∧ IRow w' vp (((placesOf T).map fun n : Nat => (n : Int)) ++ [(size : Int)]) := by
  rcases h with ⟨D, p, E, h1, h2, h3, _⟩ | ⟨_, vr, vp, h1, h2, h3, _⟩
  · subst h1
    exfalso
    unfold badOf at hb
    rw [List.filter_append, List.filter_cons_of_pos (by simpa using h3)] at hb
    simp at hb
  · refine ⟨vr, vp, ?_, h2, h3⟩
    rw [h1, hb]
    rfl

/-- a row of numbers, as the walk reads it -/
theorem IRow.read {w : World} {v : Value} {L : List Int} (h : IRow w v L) : ∃ p cap, v = .slice p L.length cap ∧ ∀ w', Mut [] w w' → ∀ i, i < L.length → ∃ a : Addr, p = some a ∧ w'.cell? (a.add i) = some (.int .i64 (L.getD i 0)) := by
  rcases h.2 with ⟨rfl, e⟩ | ⟨g, cap, cur, rfl, _, hh, _⟩
  · exact ⟨none, 0, by rw [e], fun w' _ i hi => by omega⟩
  · refine ⟨_, cap, rfl, fun w' hm i hi => ⟨_, rfl, ?_⟩⟩
    have := (h.mut hm (fun g _ => by simp)).cellAt i (by omega)
    rw [Addr.add_lit]
    simpa [List.getD, hi] using this

theorem decode_none (s : ByteArray) (c : Int) (strict : Bool) (hc : c < 0 ∨ 4 < c) (w : World) :
    Calls Try.prog 4 #[.string s, .int .i64 c, .bool strict] w fun e w' => e = .returned (.tuple #[.agg #[.int .i64 0, .slice none 0 0, .slice none 0 0, .int .i64 0], .agg #[.int .i64 1, .int .i64 0]]) ∧ Mut [] w w' := by
  rcases hc with h | h
  · go_enter Try.func4, Try.ntmps4
    go_wp2_with fail
    obtain ⟨⟨q1, q2⟩, m⟩ := hold_new w (.int .i64 0) (.slice none 0 0) (.slice none 0 0) (.int .i64 0) (.int .i64 1) (.int .i64 0)
    exact bodyPost_ret (results_text q1 q2 rfl rfl) rfl ⟨rfl, m⟩
  · have h' : ¬ c < 0 := by omega
    go_enter Try.func4, Try.ntmps4
    go_wp2_with fail
    obtain ⟨⟨q1, q2⟩, m⟩ := hold_new w (.int .i64 0) (.slice none 0 0) (.slice none 0 0) (.int .i64 0) (.int .i64 1) (.int .i64 0)
    exact bodyPost_ret (results_text q1 q2 rfl rfl) rfl ⟨rfl, m⟩

theorem begins_self (m t : List Nat) : begins (m ++ t) m = true := (begins_iff _ _).2 ⟨t, rfl⟩

/-- a text that begins with its mark is told as it was laid -/
theorem told_marked (c : Nat) (hc : 1 ≤ c ∧ c ≤ 4) (rs : List Int) (h : ∀ r ∈ rs, okRune r c) : runesOf (told c (markB c ++ encAll rs c)) = rs ∧ badOf (told c (markB c ++ encAll rs c)) = 0 := by
  have hst : startOf c (markB c ++ encAll rs c) = (markB c).length := by unfold startOf; rw [begins_self, if_pos rfl]
  obtain ⟨P, h1, h2⟩ := dec_encAll c hc rs h (markB c).length []
  rw [List.append_nil, decAll_nil, List.append_nil] at h2
  have e : told c (markB c ++ encAll rs c) = P := by
    unfold told
    rw [hst, List.drop_left, h2]
  rw [e]
  exact runes_of_ok P rs h1 (fun r hr => (h r hr).1)

theorem bytes_marked (c : Nat) (rs : List Int) (h : ∀ r ∈ rs, okRune r c) : bytesOf (strOf (markB c ++ encAll rs c)) = markB c ++ encAll rs c :=
  bytesOf_strOf _ (fun x hx => by
    rcases List.mem_append.1 hx with hx | hx
    · exact markB_lt c x hx
    · exact encAll_lt rs c h x hx)


/-- the six cells, written anew -/
def put6 (A : Nat) (a0 a1 a2 a3 b0 b1 : Value) (w : World) : World := (((((w.setCell ⟨A, 0, none⟩ a0).setCell ⟨A, 1, none⟩ a1).setCell ⟨A, 2, none⟩ a2).setCell ⟨A, 3, none⟩ a3).setCell ⟨A + 1, 0, none⟩ b0).setCell ⟨A + 1, 1, none⟩ b1
theorem Held.put {w : World} {A : Nat} {x0 x1 x2 x3 y0 y1 : Value} (h : Held w A x0 x1 x2 x3 y0 y1) (a0 a1 a2 a3 b0 b1 : Value) : Held (put6 A a0 a1 a2 a3 b0 b1 w) A a0 a1 a2 a3 b0 b1 := by
  have hne : A ≠ A + 1 := by omega
  unfold put6
  constructor
  · rw [heap_set_ne hne, heap_set_ne hne, heap_set (heap_set (heap_set (heap_set h.1 0 a0) 1 a1) 2 a2) 3 a3]
    rfl
  · have k : ((((w.setCell ⟨A, 0, none⟩ a0).setCell ⟨A, 1, none⟩ a1).setCell ⟨A, 2, none⟩ a2).setCell ⟨A, 3, none⟩ a3).heap[A + 1]? = some (.cells #[y0, y1] 27 (0, 0)) := by
      rw [heap_set_ne (fun e => hne e.symm), heap_set_ne (fun e => hne e.symm), heap_set_ne (fun e => hne e.symm), heap_set_ne (fun e => hne e.symm)]
      exact h.2
    rw [heap_set (heap_set k 0 b0) 1 b1]
    rfl
theorem put6_mut {w0 w : World} {A : Nat} (m : Mut [A, A + 1] w0 w) (a0 a1 a2 a3 b0 b1 : Value) : Mut [A, A + 1] w0 (put6 A a0 a1 a2 a3 b0 b1 w) :=
  (((((m.setCell (.inl (by simp)) _).setCell (.inl (by simp)) _).setCell (.inl (by simp)) _).setCell (.inl (by simp)) _).setCell (.inl (by simp)) _).setCell (.inl (by simp)) _
theorem Held.frozen {w : World} {A : Nat} {x0 x1 x2 x3 y0 y1 : Value} (h : Held w A x0 x1 x2 x3 y0 y1) : (∀ i, w.frozen? ⟨A, i, none⟩ = false) ∧ ∀ i, w.frozen? ⟨A + 1, i, none⟩ = false := ⟨fun i => frozenOf h.1 i, fun i => frozenOf h.2 i⟩

theorem told_a : runesOf (told 1 (bytesOf ⟨#[97]⟩)) = [97] ∧ badOf (told 1 (bytesOf ⟨#[97]⟩)) = 0 := by decide +kernel

/-- a text that Decode hands back -/
def DecAns (s : ByteArray) (c : Int) (strict : Bool) (k bad : Int) (rs : List Int) : Prop :=
  ∀ w, Calls Try.prog 4 #[.string s, .int .i64 c, .bool strict] w fun e w' => ∃ p cap p2 n2 c2, e = .returned (.tuple #[.agg #[.int .i64 k, .slice p rs.length cap, .slice p2 n2 c2, .int .i64 bad], .agg #[.int .i64 0, .int .i64 0]]) ∧ IRow w' (.slice p rs.length cap) rs ∧ (∀ g, (Value.slice p rs.length cap).ownBlock = some g → w.heap.size ≤ g) ∧ Mut [] w w'

theorem dec_strict (s : ByteArray) (c : Nat) (hc : c ≤ 4) (hs : s.size ≤ 16777216) (hb : badOf (told (codingOf c (bytesOf s)) (bytesOf s)) = 0) :
    DecAns s (c : Int) true ((codingOf c (bytesOf s) : Nat) : Int) 0 (runesOf (told (codingOf c (bytesOf s)) (bytesOf s))) := fun w => by
  refine (decode_go s c true hc hs w).mono ?_
  rintro e w' ⟨x, rfl, h, hm⟩
  rcases h with ⟨D, p, E, h1, h2, h3, _⟩ | ⟨_, vr, vp, h1, h2, h3, h4, _⟩
  · exfalso
    rw [h1] at hb
    unfold badOf at hb
    rw [List.filter_append, List.filter_cons_of_pos (by simpa using h3)] at hb
    simp at hb
  · obtain ⟨p, cap, rfl, -⟩ := h2.read
    obtain ⟨p2, c2, rfl, -⟩ := h3.read
    exact ⟨p, cap, p2, _, c2, by rw [h1, hb]; rfl, h2, h4, hm⟩
theorem dec_loose (s : ByteArray) (c : Nat) (hc : c ≤ 4) (hs : s.size ≤ 16777216) :
    DecAns s (c : Int) false ((codingOf c (bytesOf s) : Nat) : Int) ((badOf (told (codingOf c (bytesOf s)) (bytesOf s)) : Nat) : Int) (runesOf (told (codingOf c (bytesOf s)) (bytesOf s))) := fun w => by
  refine (decode_go s c false hc hs w).mono ?_
  rintro e w' ⟨x, rfl, h, hm⟩
  rcases h with ⟨D, p, E, h1, h2, h3, h4, _⟩ | ⟨_, vr, vp, h1, h2, h3, h4, _⟩
  · cases h4
  · obtain ⟨p, cap, rfl, -⟩ := h2.read
    obtain ⟨p2, c2, rfl, -⟩ := h3.read
    exact ⟨p, cap, p2, _, c2, by rw [h1], h2, h4, hm⟩

set_option maxHeartbeats 3200000 in
set_option maxRecDepth 100000 in
theorem lawTopScalars {w : World} (d : ByteArray) (wd : d.size ≤ maxLen) (hzd : d.size ≤ 1048576) (from_ : Int) (wf : (Lit.int .i64 from_).wf = true) (tc : Int) (wt : (Lit.int .i64 tc).wf = true) :
    Calls Try.prog 3 #[.string d, .int .i64 from_, .int .i64 tc] w fun e w' => e = .returned (.bool true) ∧ Below w.heap.size w w' := by
  clear wd wf wt
  have HA : Hid (DecAns ⟨#[97]⟩ 1 true 1 0 [97]) := Lib.hid (by
    have h := dec_strict ⟨#[97]⟩ 1 (by decide) (by decide) told_a.2
    rw [show codingOf 1 (bytesOf ⟨#[97]⟩) = 1 from rfl, told_a.1] at h
    exact h)
  go_enter Try.func3, Try.ntmps3
  go_wp2_with fail
  refine (HA.out _).mono ?_
  rintro e w1 ⟨p, cap, p2, n2, c2, rfl, hr, hf, hm⟩
  obtain ⟨g1, cap1, e1, -, hcap1⟩ := row_some hr (by decide)
  cases e1
  have x1 : w1.cell? ⟨g1, 0, none⟩ = some (.int .i64 97) := hr.cellAt 0 (by decide)
  have HM1 := Lib.hid hm
  clear hr hf hm HA
  go_upto_region 2 with fail
  obtain ⟨hh, hm2⟩ := hold_new w1 (.int .i64 1) (.slice (some ⟨g1, 0, none⟩) 1 cap) (.slice p2 n2 c2) (.int .i64 0) (.int .i64 0) (.int .i64 0)
  have x2 := hm2.cell x1 (by simp)
  have HH2 := Lib.hid hh
  have HM2 := Lib.hid (HM1.out.trans' hm2)
  have HAF : Hid (w.heap.size ≤ w1.heap.size) := Lib.hid HM1.out.size
  clear x1 hh hm2 HM1
  generalize (w1.alloc (.cells #[.int .i64 1, .slice (some ⟨g1, 0, none⟩) 1 cap, .slice p2 n2 c2, .int .i64 0] 24)).alloc (.cells #[.int .i64 0, .int .i64 0] 27) = w2 at *
  generalize w1.heap.size = A at *
  obtain ⟨a0, a1, a2, a3, b0, b1⟩ := HH2.out.cells
  have hcapI : (1 : Int) ≤ (cap : Int) := by
    have : 1 ≤ cap := hcap1
    omega
  go_wp2_with fail
  by_cases hfr : from_ < 0 ∨ 4 < from_
  case pos =>
    have HDN := Lib.hid (decode_none d from_ false hfr w2)
    clear a0 a1 a2 a3 b0 b1 x2
    refine HDN.out.mono ?_
    rintro e w3 ⟨rfl, hm3⟩
    have HH3 := Lib.hid (HH2.out.step hm3)
    have HM3 := Lib.hid (HM2.out.trans' hm3)
    obtain ⟨a0, a1, a2, a3, b0, b1⟩ := HH3.out.cells
    obtain ⟨fa, fb⟩ := HH3.out.frozen
    go_upto_region 5 with fail
    have hh4 := HH3.out.put (.int .i64 0) (.slice none 0 0) (.slice none 0 0) (.int .i64 0) (.int .i64 1) (.int .i64 0)
    have hm4 := put6_mut (A := A) (Mut.refl _ w3) (.int .i64 0) (.slice none 0 0) (.slice none 0 0) (.int .i64 0) (.int .i64 1) (.int .i64 0)
    have HM4 : Hid (Mut [] w (put6 A (.int .i64 0) (.slice none 0 0) (.slice none 0 0) (.int .i64 0) (.int .i64 1) (.int .i64 0) w3)) := Lib.hid (HM3.out.trans hm4 (fun x hx => .inr (by have := HAF.out; simp at hx; omega)))
    unfold put6 at hh4 HM4
    clear a0 a1 a2 a3 b0 b1 fa fb hm4
    generalize (((((w3.setCell ⟨A, 0, none⟩ (.int .i64 0)).setCell ⟨A, 1, none⟩ (.slice none 0 0)).setCell ⟨A, 2, none⟩ (.slice none 0 0)).setCell ⟨A, 3, none⟩ (.int .i64 0)).setCell ⟨A + 1, 0, none⟩ (.int .i64 1)).setCell ⟨A + 1, 1, none⟩ (.int .i64 0) = w4 at *
    obtain ⟨a0, a1, a2, a3, b0, b1⟩ := hh4.cells
    rcases hfr with hfr | hfr
    · have hd1 : decide (from_ < 0) = true := decide_eq_true hfr
      go_wp2_with fail
      go_ret
      exact ⟨rfl, HM4.out.nil (by simp)⟩
    · have hfr0 : ¬ from_ < 0 := by omega
      go_wp2_with fail
      go_ret
      exact ⟨rfl, HM4.out.nil (by simp)⟩
  case neg =>
    obtain ⟨c, rfl⟩ : ∃ c : Nat, from_ = (c : Int) := ⟨from_.toNat, by omega⟩
    obtain ⟨k, bad, rs, HD, hsc, hrl⟩ : ∃ (k bad : Int) (rs : List Int), Hid (DecAns d (c : Int) false k bad rs) ∧ Hid (∀ r ∈ rs, Scal r) ∧ rs.length ≤ 1048576 :=
      ⟨_, _, _, Lib.hid (dec_loose d c (by omega) (by omega)), Lib.hid (runes_scal _ _ (bytesOf_lt d)), by
        unfold runesOf
        rw [List.length_map]
        have := told_len (codingOf c (bytesOf d)) d
        omega⟩
    clear a0 a1 a2 a3 b0 b1 x2 hfr
    refine (HD.out _).mono ?_
    rintro e w3 ⟨pr, cr, p3, n3, c3, rfl, hr, hf, hm3⟩
    have HH3 := Lib.hid (HH2.out.step hm3)
    have HM3 := Lib.hid (HM2.out.trans' hm3)
    obtain ⟨a0, a1, a2, a3, b0, b1⟩ := HH3.out.cells
    obtain ⟨fa, fb⟩ := HH3.out.frozen
    have hlA : A + 1 < w2.heap.size := lt_of_heap HH2.out.2
    go_upto_region 5 with fail
    have hh4 := HH3.out.put (.int .i64 k) (.slice pr rs.length cr) (.slice p3 n3 c3) (.int .i64 bad) (.int .i64 0) (.int .i64 0)
    have hm4 := put6_mut (A := A) (Mut.refl _ w3) (.int .i64 k) (.slice pr rs.length cr) (.slice p3 n3 c3) (.int .i64 bad) (.int .i64 0) (.int .i64 0)
    have HM4 : Hid (Mut [] w (put6 A (.int .i64 k) (.slice pr rs.length cr) (.slice p3 n3 c3) (.int .i64 bad) (.int .i64 0) (.int .i64 0) w3)) := Lib.hid (HM3.out.trans hm4 (fun x hx => .inr (by have := HAF.out; simp at hx; omega)))
    have hr4 : IRow (put6 A (.int .i64 k) (.slice pr rs.length cr) (.slice p3 n3 c3) (.int .i64 bad) (.int .i64 0) (.int .i64 0) w3) (.slice pr rs.length cr) rs := hr.mut hm4 (fun g hg hx => by have := hf g hg; simp at hx; omega)
    unfold put6 at hh4 HM4 hr4
    clear a0 a1 a2 a3 b0 b1 fa fb hm4 hr hf hm3 HH2 HM2 HM3 HH3
    generalize (((((w3.setCell ⟨A, 0, none⟩ (.int .i64 k)).setCell ⟨A, 1, none⟩ (.slice pr rs.length cr)).setCell ⟨A, 2, none⟩ (.slice p3 n3 c3)).setCell ⟨A, 3, none⟩ (.int .i64 bad)).setCell ⟨A + 1, 0, none⟩ (.int .i64 0)).setCell ⟨A + 1, 1, none⟩ (.int .i64 0) = w4 at *
    obtain ⟨a0, a1, a2, a3, b0, b1⟩ := hh4.cells
    have HR4 := Lib.hid hr4
    have HH4 := Lib.hid hh4
    clear hr4 hh4
    go_wp2_with fail
    have hg0 := heap_alloc_new w4 (.cells #[.int .i64 55296, .int .i64 57343] 34)
    refine (of_one w4.heap.size _ hg0).mono ?_
    rintro e w5 ⟨g5, k5, rfl, hk5, q0, q1, hm5⟩
    have HM5 := Lib.hid (((Mut.refl [] w4).alloc (.cells #[.int .i64 55296, .int .i64 57343] 34)).trans' hm5)
    clear hg0 hm5 a0 a1 a2 a3 b0 b1
    go_wp2_with fail
    refine (not_one g5 k5 hk5 w5 q0 q1).mono ?_
    rintro e w6 ⟨G, C, rfl, hC, hrow, -, hm6⟩
    have HM6 := Lib.hid (HM5.out.trans' hm6)
    have HROW := Lib.hid hrow
    clear hm6 HM5 q0 q1 hrow
    have HRD : Hid (∀ w', Mut [] w6 w' → ∀ i, i < rs.length → ∃ a : Addr, pr = some a ∧ w'.cell? (a.add i) = some (.int .i64 (rs.getD i 0))) := Lib.hid (by
      obtain ⟨p', cap', e', hrd⟩ := HR4.out.read
      simp only [Value.slice.injEq] at e'
      obtain ⟨rfl, -, -⟩ := e'
      exact fun w' m => hrd w' (HM6.out.trans' m))
    have HH6 := Lib.hid (HH4.out.step HM6.out)
    have HMW := Lib.hid (HM4.out.trans' HM6.out)
    have HR6 := Lib.hid (HR4.out.mut HM6.out (by simp))
    clear HM4 HR4 HH4 HM6
    have HL0 : Hid (Mut [] w6 w6) := Lib.hid (Mut.refl _ _)
    go_wp2_with fail
    go_loopw [10] (fun x wx => ∃ i : Nat, x = .int .i64 (i : Int) ∧ i ≤ rs.length ∧ Hid (Mut [] w6 wx)) (fun x _ => rs.length - (intOf x).toNat)
    case atStart => exact ⟨0, rfl, Nat.zero_le _, HL0⟩
    case round =>
      clear HL0
      obtain ⟨i, rfl, hi, HL⟩ := hrel
      obtain ⟨a0, a1, a2, a3, b0, b1⟩ := (HH6.out.step HL.out).cells
      by_cases hlt : i < rs.length
      case pos =>
        have hltI : (i : Int) < (rs.length : Int) := by omega
        have hi0 : (0 : Int) ≤ (i : Int) := by omega
        obtain ⟨ad, rfl, hcell⟩ := HRD.out wr HL.out i hlt
        have hrow := HL.out.row HROW.out (by simp)
        have HHS := Lib.hid (has_scal G C hC (rs.getD i 0) (hsc.out _ (by rw [List.getD_eq_getElem?_getD, List.getElem?_eq_getElem hlt]; simp)) wr (row2 hrow 0 (by simp)) (row2 hrow 1 (by simp)) (row2 hrow 2 (by simp)) (row2 hrow 3 (by simp)))
        clear hrow
        generalize rs.getD i 0 = z at *
        go_wp2_with fail
        refine HHS.out.mono ?_
        rintro e w7 ⟨rfl, hm7⟩
        have HL7 := Lib.hid (HL.out.trans' hm7)
        clear hm7 HHS a0 a1 a2 a3 b0 b1 hcell HL
        go_wp2_with fail
        exact ⟨⟨i + 1, by rw [Int.natCast_add]; rfl, by omega, HL7⟩, by simp only [intOf]; omega⟩
      case neg =>
        obtain rfl : i = rs.length := by omega
        have hltI : ¬ (rs.length : Int) < (rs.length : Int) := by omega
        by_cases htc : tc < 1 ∨ 3 < tc
        case pos =>
          have HMR := Lib.hid (HMW.out.trans' HL.out)
          rcases htc with htc | htc
          · go_wp2_with fail
            go_ret
            exact ⟨rfl, HMR.out.nil (by simp)⟩
          · have htc0 : ¬ tc < 1 := by omega
            go_wp2_with fail
            go_ret
            exact ⟨rfl, HMR.out.nil (by simp)⟩
        case neg =>
          obtain ⟨tn, rfl⟩ : ∃ tn : Nat, tc = (tn : Int) := ⟨tc.toNat, by omega⟩
          have htn : 1 ≤ tn ∧ tn ≤ 3 := by omega
          have hok : ∀ r ∈ rs, okRune r tn := fun r hr => (hsc.out r hr).ok (by omega)
          have hbm := bytes_marked tn rs hok
          obtain ⟨tm1, tm2⟩ := told_marked tn (by omega) rs hok
          obtain ⟨S, hS⟩ : ∃ S, strOf (markB tn ++ encAll rs tn) = S := ⟨_, rfl⟩
          rw [hS] at hbm
          rw [← hbm] at tm1 tm2
          have hSz : S.size ≤ 16777216 := by
            rw [← hS, strOf_size, List.length_append]
            have := encAll_len rs tn
            have := markB_len tn
            omega
          have hcd : codingOf tn (bytesOf S) = tn := by unfold codingOf; rw [if_neg (by omega)]
          have HD2 : Hid (DecAns S (tn : Int) true (tn : Int) 0 rs) := Lib.hid (by
            have h := dec_strict S tn (by omega) hSz (by rw [hcd]; exact tm2)
            rw [hcd, tm1] at h
            exact h)
          have HEN := Lib.hid (encode_go rs tn true (by omega) (by omega) (.slice pr rs.length cr) wr (HR6.out.mut HL.out (by simp)))
          rw [encRes_ok hok, if_pos rfl, hS] at HEN
          have ht1 : ¬ (tn : Int) < 1 := by omega
          have ht3 : ¬ (3 : Int) < (tn : Int) := by omega
          clear hok hbm tm1 tm2 hS hcd htc
          go_wp2_with fail
          refine HEN.out.mono ?_
          rintro e w7 ⟨rfl, hm7⟩
          have HL7 := Lib.hid (HL.out.trans' hm7)
          clear hm7 HEN HL a0 a1 a2 a3 b0 b1
          go_wp2_with fail
          refine (HD2.out _).mono ?_
          rintro e w8 ⟨pu, cu, p4, n4, c4, rfl, hu, -, hm8⟩
          have HL8 := Lib.hid (HL7.out.trans' hm8)
          clear hm8 HL7 HD2
          go_upto_region 17 with fail
          obtain ⟨hh9, hm9⟩ := hold_new w8 (.int .i64 (tn : Int)) (.slice pu rs.length cu) (.slice p4 n4 c4) (.int .i64 0) (.int .i64 0) (.int .i64 0)
          have HH9 := Lib.hid hh9
          have HU9 := Lib.hid (hu.mut hm9 (by simp))
          have HL9 := Lib.hid (HL8.out.trans' hm9)
          clear hh9 hm9 hu HL8
          generalize (w8.alloc (.cells #[.int .i64 (tn : Int), .slice pu rs.length cu, .slice p4 n4 c4, .int .i64 0] 24)).alloc (.cells #[.int .i64 0, .int .i64 0] 27) = w9 at *
          generalize w8.heap.size = U at *
          obtain ⟨a0, a1, a2, a3, b0, b1⟩ := (HH6.out.step HL9.out).cells
          obtain ⟨u0, u1, u2, u3, v0, v1⟩ := HH9.out.cells
          have hnn : ((rs.length : Int) != (rs.length : Int)) = false := by simp
          go_wp2_with fail
          have HUD : Hid (∀ w', Mut [] w9 w' → ∀ i, i < rs.length → ∃ a : Addr, pu = some a ∧ w'.cell? (a.add i) = some (.int .i64 (rs.getD i 0))) := Lib.hid (by
            obtain ⟨p', cap', e', hrd⟩ := HU9.out.read
            simp only [Value.slice.injEq] at e'
            obtain ⟨rfl, -, -⟩ := e'
            exact hrd)
          have HK0 : Hid (Mut [] w9 w9) := Lib.hid (Mut.refl _ _)
          clear a0 a1 a2 a3 b0 b1 u0 u1 u2 u3 v0 v1
          go_loopw [15] (fun x wx => ∃ i : Nat, x = .int .i64 (i : Int) ∧ i ≤ rs.length ∧ Hid (Mut [] w9 wx)) (fun x _ => rs.length - (intOf x).toNat)
          case atStart => exact ⟨0, rfl, Nat.zero_le _, HK0⟩
          case round =>
            clear HK0
            obtain ⟨j, rfl, hj, HK⟩ := hrel
            obtain ⟨a0, a1, a2, a3, b0, b1⟩ := (HH6.out.step (HL9.out.trans' HK.out)).cells
            obtain ⟨u0, u1, u2, u3, v0, v1⟩ := (HH9.out.step HK.out).cells
            by_cases hjt : j < rs.length
            case pos =>
              have hjI : (j : Int) < (rs.length : Int) := by omega
              have hj0 : (0 : Int) ≤ (j : Int) := by omega
              obtain ⟨ad, rfl, hcell⟩ := HRD.out wr (HL9.out.trans' HK.out) j hjt
              obtain ⟨au, rfl, hcell2⟩ := HUD.out wr HK.out j hjt
              generalize rs.getD j 0 = z at *
              have hzz : (z != z) = false := by simp
              go_wp2_with fail
              go_quiet (fail)
              have HKN := Lib.hid (HK.out.drewN nq)
              clear a0 a1 a2 a3 b0 b1 u0 u1 u2 u3 v0 v1 hcell hcell2 HK
              go_wp2_with fail
              exact ⟨⟨j + 1, by rw [Int.natCast_add]; rfl, by omega, HKN⟩, by simp only [intOf]; omega⟩
            case neg =>
              obtain rfl : j = rs.length := by omega
              have hjI : ¬ (rs.length : Int) < (rs.length : Int) := by omega
              have HMR := Lib.hid (HMW.out.trans' (HL9.out.trans' HK.out))
              go_wp2_with fail
              go_ret
              exact ⟨rfl, HMR.out.nil (by simp)⟩

end Go.Proofs.Ytcnckpglicfolaa
