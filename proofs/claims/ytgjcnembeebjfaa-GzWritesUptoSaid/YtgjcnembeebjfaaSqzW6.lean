/- Walk over package squeeze: the lengths that a block tells. -/
import Derived.Test.YtgjcnembeebjfaaGSzb
import Derived.Test.YtgjcnembeebjfaaSqzW5
import Derived.Test.YtgjcnembeebjfaaGBo
import Derived.Deep.DeepCutAuto
namespace Go.Proofs.Ytgjcnembeebjfaa
open Go.RowKit
set_option linter.unusedVariables false

theorem evenI_toI (U : List Bool) : evenI U = toI (evenOf U) := rfl

theorem even_row (U : List Bool) (hl : U.length ≤ 1048576) (v : Value) (w : World) (hv : BoRow w v U) :
    Calls Try.prog 87 #[v] w fun e w' => ∃ v, e = .returned v ∧ IRow w' v (toI (evenOf U)) ∧ Mut [] w w' := by
  obtain ⟨p, cap, rfl, hr⟩ := hv.read
  exact (even_any U hl p cap w hr).mono fun e w' ⟨v, h1, h2, h3, _⟩ => ⟨v, h1, h2, h3⟩

theorem even16 : toI (evenOf (List.replicate 16 true)) = toI (List.replicate 16 4) := by decide +kernel
theorem new16 : newErr (toI (List.replicate 16 4)) = 0 := by decide +kernel
theorem codes16 : ∀ k, k < 16 → hb (List.replicate 16 4) k = highBits (k : Int) 4 := by
  intro k hk
  have := List.all_eq_true.1 (show (List.range 16).all (fun c => decide (codeOf (List.replicate 16 4) c = c) && decide (lenAt (List.replicate 16 4) c = 4)) = true by decide +kernel) k (List.mem_range.2 hk)
  simp only [Bool.and_eq_true, decide_eq_true_eq] at this
  unfold hb
  rw [this.1, this.2]

/-- the writer, and what is kept beside it -/
structure TdS (w0 : World) (r0 : Option Nat) (w : World) (b : Nat) (l : List Bool) (vx vy : Value) (x y : List Nat) (g4 g5 : Nat) : Prop where
  wr : ∃ r, WrIs w b r l ∧ (∀ g, r = some g → r0 = some g ∨ w0.heap.size ≤ g) ∧ Mut (b :: r0.toList) w0 w
  x : IRow w vx (toI x)
  y : IRow w vy (toI y)
  b4 : w.heap[g4]? = some (.cells #[.slice none 0 0, .slice none 0 0] 118 (0, 0))
  b5 : w.heap[g5]? = some (.cells #[.slice none 0 0, .slice none 0 0] 118 (0, 0))

theorem TdS.mut {w0 w w' : World} {r0 : Option Nat} {b : Nat} {l : List Bool} {vx vy : Value} {x y : List Nat} {g4 g5 : Nat} (h : TdS w0 r0 w b l vx vy x y g4 g5) (m : Mut [] w w') : TdS w0 r0 w' b l vx vy x y g4 g5 := by
  obtain ⟨⟨r, h1, h2, h3⟩, h4, h5, h6, h7⟩ := h
  exact ⟨⟨r, h1.mut m (by simp) (by simp), h2, h3.trans m (by simp)⟩, h4.mut m (by simp), h5.mut m (by simp), m.get h6 (by simp), m.get h7 (by simp)⟩

/-- a call on the writer -/
theorem TdS.call {w0 w : World} {r0 : Option Nat} {b : Nat} {l l' : List Bool} {vx vy : Value} {x y : List Nat} {g4 g5 : Nat} (h : TdS w0 r0 w b l vx vy x y g4 g5) {f : FuncId} {args : Array Value} {K : World → Prop}
    (hc : ∀ r, WrIs w b r l → Calls Try.prog f args w fun e w' => e = .returned (.tuple #[]) ∧ WrTo w b r l' w') (hK : ∀ r w', WrIs w b r l → WrTo w b r l' w' → K w') :
    Calls Try.prog f args w fun e w' => e = .returned (.tuple #[]) ∧ TdS w0 r0 w' b l' vx vy x y g4 g5 ∧ K w' := by
  obtain ⟨⟨r, h1, h2, h3⟩, h4, h5, h6, h7⟩ := h
  refine (hc r h1).mono fun e w' ⟨he, k⟩ => ⟨he, ⟨?_, h4.wr h1 k, h5.wr h1 k, k.blk h1 h6 (by decide) (by decide), k.blk h1 h7 (by decide) (by decide)⟩, hK r w' h1 k⟩
  obtain ⟨r', k1, k2, k3⟩ := k
  refine ⟨r', k1, fun g hg => ?_, h3.trans k3 fun x hx => ?_⟩
  · rcases k2 g hg with h | h
    · exact h2 g h
    · have := h3.size
      exact .inr (by omega)
  · rcases List.mem_cons.1 hx with rfl | hx
    · exact .inl (by simp)
    · rcases h2 x (by simpa using hx) with h | h
      · exact .inl (by simp [h])
      · exact .inr h

theorem TdS.put {w0 w : World} {r0 : Option Nat} {b : Nat} {l : List Bool} {vx vy : Value} {x y : List Nat} {g4 g5 : Nat} (h : TdS w0 r0 w b l vx vy x y g4 g5) (v m : Int) (n : Nat) (hm : m = n) (hn : n ≤ 32) (hl : l.length ≤ 1125899906841000) {K : World → Prop} (hK : ∀ r w', WrIs w b r l → WrTo w b r (l ++ lowBits v n) w' → K w') :
    Calls Try.prog 57 #[.pointer (some ⟨b, 0, none⟩), .int .i64 v, .int .i64 m] w fun e w' => e = .returned (.tuple #[]) ∧ TdS w0 r0 w' b (l ++ lowBits v n) vx vy x y g4 g5 ∧ K w' :=
  h.call (fun r hr => put_to (WrTo.refl hr) v m n hm hl hn) hK

theorem order_cell : ∀ i, i < 19 → (#[.int .i64 16, .int .i64 17, .int .i64 18, .int .i64 0, .int .i64 8, .int .i64 7, .int .i64 9, .int .i64 6, .int .i64 10, .int .i64 5, .int .i64 11, .int .i64 4, .int .i64 12, .int .i64 3, .int .i64 13, .int .i64 2, .int .i64 14, .int .i64 1, .int .i64 15] : Array Value)[i]? = some (.int .i64 ((orderU.getD i 0 : Nat) : Int)) := by
  intro i hi
  rcases (show i = 0 ∨ i = 1 ∨ i = 2 ∨ i = 3 ∨ i = 4 ∨ i = 5 ∨ i = 6 ∨ i = 7 ∨ i = 8 ∨ i = 9 ∨ i = 10 ∨ i = 11 ∨ i = 12 ∨ i = 13 ∨ i = 14 ∨ i = 15 ∨ i = 16 ∨ i = 17 ∨ i = 18 by omega) with rfl | rfl | rfl | rfl | rfl | rfl | rfl | rfl | rfl | rfl | rfl | rfl | rfl | rfl | rfl | rfl | rfl | rfl | rfl <;> rfl

theorem order_v19 : ∀ i, i < 19 → orderU.getD i 0 < 19 ∧ v19.getD i 0 = if orderU.getD i 0 < 16 then 4 else 0 := by decide +kernel

/-- the coder of the lengths' lengths, in its box -/
structure ShS (w : World) (gS : Nat) (v1 v2 : Value) : Prop where
  box : w.heap[gS]? = some (.cells #[v1, v2] 118 (0, 0))
  cd : CdIs w (.agg #[v1, v2]) (List.replicate 16 4)

theorem ShS.mut {w w' : World} {gS : Nat} {v1 v2 : Value} (h : ShS w gS v1 v2) (m : Mut [] w w') : ShS w' gS v1 v2 := ⟨m.get h.box (by simp), h.cd.mut m⟩
theorem ShS.wr {w w' : World} {gS : Nat} {v1 v2 : Value} {b : Nat} {r : Option Nat} {l l0 : List Bool} (h : ShS w gS v1 v2) (h0 : WrIs w b r l0) (k : WrTo w b r l w') : ShS w' gS v1 v2 := ⟨k.blk h0 h.box (by decide) (by decide), h.cd.wr h0 k⟩

theorem fm3 (i : Nat) (hi : i < 19) (l : List Bool) : l ++ (v19.take (i + 1)).flatMap (fun n : Nat => lowBits (n : Int) 3) = (l ++ (v19.take i).flatMap (fun n : Nat => lowBits (n : Int) 3)) ++ lowBits ((v19.getD i 0 : Nat) : Int) 3 := by
  rw [take_snoc' v19 i (by show i < 19; omega), List.flatMap_append, List.append_assoc]
  simp
theorem fm3_len (i : Nat) : ((v19.take i).flatMap (fun n : Nat => lowBits (n : Int) 3)).length ≤ 57 := by
  have : ∀ l : List Nat, (l.flatMap fun n : Nat => lowBits (n : Int) 3).length = 3 * l.length := by
    intro l
    induction l with
    | nil => rfl
    | cons a r ih => simp only [List.flatMap_cons, List.length_append, ih, lowBits_length, List.length_cons]; omega
  rw [this, List.length_take]
  have e : v19.length = 19 := rfl
  omega
theorem fm4 (z : List Nat) (i : Nat) (hi : i < z.length) (l : List Bool) : l ++ (z.take (i + 1)).flatMap (fun n : Nat => highBits (n : Int) 4) = (l ++ (z.take i).flatMap (fun n : Nat => highBits (n : Int) 4)) ++ highBits ((z.getD i 0 : Nat) : Int) 4 := by
  rw [take_snoc' z i hi, List.flatMap_append, List.append_assoc]
  simp
theorem fm4_len (z : List Nat) (i : Nat) : ((z.take i).flatMap (fun n : Nat => highBits (n : Int) 4)).length ≤ 4 * z.length := by
  have : ∀ l : List Nat, (l.flatMap fun n : Nat => highBits (n : Int) 4).length = 4 * l.length := by
    intro l
    induction l with
    | nil => rfl
    | cons a r ih => simp only [List.flatMap_cons, List.length_append, ih, highBits_length, List.length_cons]; omega
  rw [this, List.length_take]
  omega

theorem ShS.len {w : World} {gS q1 : Nat} {p1 : Option Addr} {v2 : Value} (h : ShS w gS (.slice p1 16 q1) v2) : ∃ g, p1 = some ⟨g, 0, none⟩ ∧ ∀ k, k < 16 → w.cell? ⟨g, k, none⟩ = some (.int .i64 4) := by
  obtain ⟨x1, x2, e, h1, h2⟩ := h.cd
  simp only [Value.agg.injEq] at e
  have e1 : x1 = .slice p1 16 q1 := by
    have := congrArg (fun a : Array Value => a[0]?) e
    simp at this
    exact this.symm
  subst e1
  obtain ⟨g, c, e2, hc⟩ := h1.at (by decide)
  simp only [Value.slice.injEq] at e2
  obtain ⟨rfl, -, -⟩ := e2
  refine ⟨g, rfl, fun k hk => ?_⟩
  rw [hc w (Mut.refl _ _) k (by simpa [toI] using hk), toI_get]
  have : ∀ k, k < 16 → lenAt (List.replicate 16 4) k = 4 := by decide +kernel
  rw [this k hk]
  rfl

def trueTo (k : Nat) : List Bool := List.replicate k true ++ List.replicate (16 - k) false
theorem trueTo_set (k : Nat) (h : k < 16) : (trueTo k).set k true = trueTo (k + 1) := by
  unfold trueTo
  rw [List.set_append_right _ _ (by simp), List.length_replicate, Nat.sub_self, show 16 - k = (16 - (k + 1)) + 1 by omega, List.replicate_succ, List.set_cons_zero, List.replicate_succ', List.append_assoc, List.singleton_append]

theorem results_coders {tmps : Array Value} {w : World} {g h : Nat} {a0 a1 b0 b1 : Value} (h1 : w.heap[g]? = some (.cells #[a0, a1] 118 (0, 0))) (h2 : w.heap[h]? = some (.cells #[b0, b1] 118 (0, 0)))
    (p1 : tmps.getD 4 undef = .pointer (some ⟨g, 0, none⟩)) (p2 : tmps.getD 5 undef = .pointer (some ⟨h, 0, none⟩)) : (results Try.f62 tmps).run Try.prog w = .ok (.tuple #[.agg #[a0, a1], .agg #[b0, b1]]) w := by
  have q1 : tmps[4]?.getD undef = .pointer (some ⟨g, 0, none⟩) := by simpa using p1
  have q2 : tmps[5]?.getD undef = .pointer (some ⟨h, 0, none⟩) := by simpa using p2
  have e1 := run_loadVar_row (P := Try.prog) w g 118 118 #[a0, a1] (0, 0) _ h1 Try.underlying118 rfl (by kernel_rfl)
  have e2 := run_loadVar_row (P := Try.prog) w h 118 118 #[b0, b1] (0, 0) _ h2 Try.underlying118 rfl (by kernel_rfl)
  simp [results, q1, q2, asAddr, e1, e2]

set_option maxHeartbeats 3200000 in
set_option maxRecDepth 100000 in
theorem told_to (T : List Tok) {R : Nat} (hR : R ≤ 32768) (hT : ∀ x ∈ T, ∃ o, tokOk R o x) (hTl : T.length ≤ 1073741824) {w : World} {b : Nat} {r : Option Nat} {l : List Bool} (hl : l.length ≤ 562949953421312) (hw : WrIs w b r l) {v : Value} (hv : TRow 146 w v T) :
    Calls Try.prog 62 #[.pointer (some ⟨b, 0, none⟩), v] w fun e w' => ∃ ca cb, e = .returned (.tuple #[ca, cb]) ∧ WrTo w b r (l ++ told4 (xOf T) (yOf T)) w' ∧ CdIs w' ca (xOf T) ∧ CdIs w' cb (yOf T) := by
  have HT := Lib.hid (fun w hv => used_any (w := w) T hR hT hTl (v := v) hv)
  have HV := Lib.hid hv
  have HW := Lib.hid hw
  obtain ⟨pv, cv, rfl⟩ := hv.form
  have hw1 : Mut [] w ((w.alloc (.cells #[.slice none 0 0, .slice none 0 0] 118)).alloc (.cells #[.slice none 0 0, .slice none 0 0] 118)) := ((Mut.refl [] w).alloc _).alloc _
  have hb4 : ((w.alloc (.cells #[.slice none 0 0, .slice none 0 0] 118)).alloc (.cells #[.slice none 0 0, .slice none 0 0] 118)).heap[w.heap.size]? = some (.cells #[.slice none 0 0, .slice none 0 0] 118 (0, 0)) := ((Mut.refl [] (w.alloc (.cells #[.slice none 0 0, .slice none 0 0] 118))).alloc _).get (heap_alloc_new w _) (by simp)
  have hb5 : ((w.alloc (.cells #[.slice none 0 0, .slice none 0 0] 118)).alloc (.cells #[.slice none 0 0, .slice none 0 0] 118)).heap[w.heap.size + 1]? = some (.cells #[.slice none 0 0, .slice none 0 0] 118 (0, 0)) := by
    have := heap_alloc_new (w.alloc (.cells #[.slice none 0 0, .slice none 0 0] 118)) (.cells #[.slice none 0 0, .slice none 0 0] 118)
    simpa using this
  have HM := Lib.hid hw1
  have H45 := Lib.hid (And.intro hb4 hb5)
  have HU := Lib.hid (HT.out _ (HV.out.mut hw1 (by simp)))
  clear hT hv hw hw1 hb4 hb5 HT
  go_enter Try.func62, Try.ntmps62
  go_upto_region 1 with fail
  generalize (w.alloc (.cells #[.slice none 0 0, .slice none 0 0] 118)).alloc (.cells #[.slice none 0 0, .slice none 0 0] 118) = w1 at *
  generalize hgs : w.heap.size = g4 at *
  have HGS := Lib.hid hgs
  clear hgs
  generalize hg5 : g4 + 1 = g5 at *
  have HG5 := Lib.hid hg5
  clear hg5
  go_wp2_with fail
  refine HU.out.mono ?_
  rintro e w2 ⟨va, vb, rfl, hra, hrb, hm2⟩
  have HA := Lib.hid (even_row (useL T) (by rw [useL_len]; decide) va w2 hra)
  have HRB := Lib.hid hrb
  obtain ⟨pa, qa, rfl, -⟩ := hra.read
  obtain ⟨pb, qb, rfl, -⟩ := hrb.read
  have HM2 := Lib.hid hm2
  clear hra hrb hm2 HU
  go_wp2_with fail
  refine HA.out.mono ?_
  rintro e w3 ⟨vx, rfl, hx, hm3⟩
  have HX := Lib.hid hx
  have HM3 := Lib.hid hm3
  obtain ⟨px, lx, qx, rfl⟩ := hx.form
  have HB := Lib.hid (even_row (useE (useD T)) (by rw [useE_len, useD_len]; decide) _ w3 (hm3.row HRB.out (by simp)))
  clear hx hm3 HA
  go_wp2_with fail
  refine HB.out.mono ?_
  rintro e w4 ⟨vy, rfl, hy, hm4⟩
  obtain ⟨py, ly, qy, rfl⟩ := hy.form
  have hm14 := (HM2.out.trans' HM3.out).trans' hm4
  have hS : TdS w r w4 b l (.slice px lx qx) (.slice py ly qy) (xOf T) (yOf T) g4 g5 :=
    ⟨⟨r, HW.out.mut (HM.out.trans' hm14) (by simp) (by simp), fun g hg => .inl hg, (HM.out.trans' hm14).mono (by simp)⟩, HX.out.mut hm4 (by simp), hy, hm14.get H45.out.1 (by simp), hm14.get H45.out.2 (by simp)⟩
  clear hy hm4 hm14 HB HRB HX HM2 HM3 HM H45 HW HV
  have HP1 := Lib.hid (hS.put 29 5 5 rfl (by decide) (by omega) (K := fun _ => True) (fun _ _ _ _ => trivial))
  clear hS
  go_wp2_with fail
  refine HP1.out.mono ?_
  rintro e w5 ⟨rfl, hS, -⟩
  have HP2 := Lib.hid (hS.put 29 5 5 rfl (by decide) (by rw [List.length_append, lowBits_length]; omega) (K := fun _ => True) (fun _ _ _ _ => trivial))
  clear hS HP1
  go_wp2_with fail
  refine HP2.out.mono ?_
  rintro e w6 ⟨rfl, hS, -⟩
  have HP3 := Lib.hid (hS.put 15 4 4 rfl (by decide) (by simp only [List.length_append, lowBits_length]; omega) (K := fun _ => True) (fun _ _ _ _ => trivial))
  clear hS HP2
  go_wp2_with fail
  refine HP3.out.mono ?_
  rintro e w7 ⟨rfl, hS, -⟩
  have HS := Lib.hid hS
  clear hS HP3
  obtain ⟨L0, hL0⟩ : ∃ L, l ++ lowBits 29 5 ++ lowBits 29 5 ++ lowBits 15 4 = L := ⟨_, rfl⟩
  have hL0l : L0.length = l.length + 14 := by rw [← hL0]; simp only [List.length_append, lowBits_length]
  rw [hL0] at HS
  have HL0 := Lib.hid (And.intro hL0 hL0l)
  have hL0b : L0.length ≤ 562949953421400 := by omega
  clear hL0 hL0l hl
  obtain ⟨Z1, hZ1⟩ : ∃ Z, madeCells (Value.bool false).cells 16 = Z := ⟨_, rfl⟩
  have hmk1 := run_make_bool 16 (by decide) Z1 hZ1 16 rfl
  have HA := Lib.hid (BoAt.start w7 w7 16 (by decide) (Mut.refl _ _) Z1 hZ1)
  clear hZ1
  go_upto_region 7 with fail
  clear hmk1
  generalize w7.alloc (.cells Z1 4) = w8 at *
  generalize w7.heap.size = gT at *
  go_wp2_with fail
  go_loopw [35] (fun c wx => ∃ i : Nat, c = .int .i64 (i : Int) ∧ i ≤ 16 ∧ Hid (BoAt w7 wx gT 16 (trueTo i))) (fun c _ => 16 - (intOf c).toNat)
  case atStart => exact ⟨0, rfl, by omega, HA⟩
  case round =>
    obtain ⟨i, rfl, hi, HR⟩ := hrel
    clear HA
    by_cases hlt : i < 16
    case pos =>
      have hltI : (i : Int) < 16 := by omega
      have hst := HR.out.set i true
      rw [trueTo_set i hlt] at hst
      obtain ⟨hc, hfz⟩ := HR.out.cell i hlt
      have HS2 := Lib.hid hst
      clear hst HR
      go_wp2_with fail
      exact ⟨⟨i + 1, by rw [Int.natCast_add]; rfl, hlt, HS2⟩, by simp only [intOf]; omega⟩
    case neg =>
      obtain rfl : i = 16 := by omega
      rw [show ((16 : Nat) : Int) = 16 from rfl]
      have hbo : BoRow wr (.slice (some ⟨gT, 0, none⟩) 16 16) (List.replicate 16 true) := HR.out.row'
      have HE := Lib.hid (even_row (List.replicate 16 true) (by decide) _ wr hbo)
      have HS2 := Lib.hid (HS.out.mut HR.out.kept)
      clear HR HS hbo
      go_upto_region 12 with fail
      go_wp2_with fail
      refine HE.out.mono ?_
      rintro e w9 ⟨vs, rfl, hr, hm⟩
      rw [even16] at hr
      have HC := Lib.hid (coderOf_any (List.replicate 16 4) new16 vs w9 hr)
      have HS3 := Lib.hid (HS2.out.mut hm)
      obtain ⟨ps, ls, qs, rfl⟩ := hr.form
      clear hr hm HE HS2
      go_wp2_with fail
      refine HC.out.mono ?_
      rintro e wa ⟨cs, rfl, hcs, hm⟩
      have HS4 := Lib.hid (HS3.out.mut hm)
      obtain ⟨v1, v2, rfl, hv1, hv2⟩ := hcs
      obtain ⟨p1, l1, q1, rfl⟩ := hv1.form
      obtain ⟨p2, l2, q2, rfl⟩ := hv2.form
      have el1 : l1 = 16 := by
        obtain ⟨p, c, e, -⟩ := hv1.read
        simp only [Value.slice.injEq] at e
        exact e.2.1
      subst el1
      have HCD := Lib.hid (show CdIs wa (.agg #[.slice p1 16 q1, .slice p2 l2 q2]) (List.replicate 16 4) from ⟨_, _, rfl, hv1, hv2⟩)
      clear hv1 hv2 hm HC HS3
      go_upto_region 14 with fail
      have m2 : Mut [] (wa.alloc (.cells #[.slice p1 16 q1, .slice p2 l2 q2] 118)) ((wa.alloc (.cells #[.slice p1 16 q1, .slice p2 l2 q2] 118)).alloc (.cells #[.int .i64 16, .int .i64 17, .int .i64 18, .int .i64 0, .int .i64 8, .int .i64 7, .int .i64 9, .int .i64 6, .int .i64 10, .int .i64 5, .int .i64 11, .int .i64 4, .int .i64 12, .int .i64 3, .int .i64 13, .int .i64 2, .int .i64 14, .int .i64 1, .int .i64 15] 3)) := (Mut.refl [] _).alloc _
      have m1 : Mut [] wa (wa.alloc (.cells #[.slice p1 16 q1, .slice p2 l2 q2] 118)) := (Mut.refl [] _).alloc _
      have hbox := m2.get (heap_alloc_new wa (.cells #[.slice p1 16 q1, .slice p2 l2 q2] 118)) (by simp)
      have hord := heap_alloc_new (wa.alloc (.cells #[.slice p1 16 q1, .slice p2 l2 q2] 118)) (.cells #[.int .i64 16, .int .i64 17, .int .i64 18, .int .i64 0, .int .i64 8, .int .i64 7, .int .i64 9, .int .i64 6, .int .i64 10, .int .i64 5, .int .i64 11, .int .i64 4, .int .i64 12, .int .i64 3, .int .i64 13, .int .i64 2, .int .i64 14, .int .i64 1, .int .i64 15] 3)
      rw [show (wa.alloc (.cells #[.slice p1 16 q1, .slice p2 l2 q2] 118)).heap.size = wa.heap.size + 1 by simp] at hord
      have HK : Hid (ShS ((wa.alloc (.cells #[.slice p1 16 q1, .slice p2 l2 q2] 118)).alloc (.cells #[.int .i64 16, .int .i64 17, .int .i64 18, .int .i64 0, .int .i64 8, .int .i64 7, .int .i64 9, .int .i64 6, .int .i64 10, .int .i64 5, .int .i64 11, .int .i64 4, .int .i64 12, .int .i64 3, .int .i64 13, .int .i64 2, .int .i64 14, .int .i64 1, .int .i64 15] 3)) wa.heap.size (.slice p1 16 q1) (.slice p2 l2 q2)) := Lib.hid ⟨hbox, HCD.out.mut (m1.trans' m2)⟩
      have HOD := Lib.hid hord
      have HS5 := Lib.hid (HS4.out.mut (m1.trans' m2))
      clear m1 m2 hbox hord HCD HS4
      generalize (wa.alloc (.cells #[.slice p1 16 q1, .slice p2 l2 q2] 118)).alloc (.cells #[.int .i64 16, .int .i64 17, .int .i64 18, .int .i64 0, .int .i64 8, .int .i64 7, .int .i64 9, .int .i64 6, .int .i64 10, .int .i64 5, .int .i64 11, .int .i64 4, .int .i64 12, .int .i64 3, .int .i64 13, .int .i64 2, .int .i64 14, .int .i64 1, .int .i64 15] 3) = wb at *
      generalize wa.heap.size = gS at *
      generalize gS + 1 = gO at *
      go_wp2_with fail
      go_loopw [47] (fun c wx => ∃ i : Nat, c = .int .i64 (i : Int) ∧ i ≤ 19 ∧ Hid (TdS w r wx b (L0 ++ (v19.take i).flatMap (fun n : Nat => lowBits (n : Int) 3)) (.slice px lx qx) (.slice py ly qy) (xOf T) (yOf T) g4 g5 ∧ ShS wx gS (.slice p1 16 q1) (.slice p2 l2 q2) ∧ wx.heap[gO]? = some (.cells #[.int .i64 16, .int .i64 17, .int .i64 18, .int .i64 0, .int .i64 8, .int .i64 7, .int .i64 9, .int .i64 6, .int .i64 10, .int .i64 5, .int .i64 11, .int .i64 4, .int .i64 12, .int .i64 3, .int .i64 13, .int .i64 2, .int .i64 14, .int .i64 1, .int .i64 15] 3 (0, 0)))) (fun c _ => 19 - (intOf c).toNat)
      case atStart => exact ⟨0, rfl, by omega, Lib.hid ⟨by simpa using HS5.out, HK.out, HOD.out⟩⟩
      case round =>
        obtain ⟨i, rfl, hi, HR⟩ := hrel
        clear HS5 HK HOD
        have hfl := fm3_len i
        obtain ⟨L1, hL1⟩ : ∃ L, L0 ++ (v19.take i).flatMap (fun n : Nat => lowBits (n : Int) 3) = L := ⟨_, rfl⟩
        have hL1b : L1.length ≤ 562949953421500 := by rw [← hL1, List.length_append]; omega
        rw [hL1] at HR
        by_cases hlt : i < 19
        case pos =>
          have hltI : (i : Int) < 19 := by omega
          have hnx := fm3 i hlt L0
          rw [hL1] at hnx
          obtain ⟨o1, o2⟩ := order_v19 i hlt
          have co := cellOf HR.out.2.2 i (order_cell i hlt)
          obtain ⟨s0, s1, -, -⟩ := cells2 HR.out.2.1.box
          obtain ⟨gz, rfl, cz⟩ := HR.out.2.1.len
          generalize orderU.getD i 0 = o at *
          rw [o2] at hnx
          have HNX := Lib.hid hnx
          have HKP : Hid (∀ (l' : List Bool) r' w', WrIs wr b r' L1 → WrTo wr b r' l' w' → ShS w' gS (.slice (some ⟨gz, 0, none⟩) 16 q1) (.slice p2 l2 q2) ∧ w'.heap[gO]? = some (.cells #[.int .i64 16, .int .i64 17, .int .i64 18, .int .i64 0, .int .i64 8, .int .i64 7, .int .i64 9, .int .i64 6, .int .i64 10, .int .i64 5, .int .i64 11, .int .i64 4, .int .i64 12, .int .i64 3, .int .i64 13, .int .i64 2, .int .i64 14, .int .i64 1, .int .i64 15] 3 (0, 0))) := Lib.hid fun l' r' w' h0 k => ⟨HR.out.2.1.wr h0 k, k.blk h0 HR.out.2.2 (by decide) (by decide)⟩
          clear hnx o2 hfl
          by_cases ho : o < 16
          · have hoI : (o : Int) < 16 := by omega
            have HP := Lib.hid (HR.out.1.put 4 3 3 rfl (by decide) (by omega) (HKP.out _))
            have cc := cz o ho
            have HN2 : Hid (L1 ++ lowBits 4 3 = L0 ++ (v19.take (i + 1)).flatMap (fun n : Nat => lowBits (n : Int) 3)) := Lib.hid (by rw [HNX.out, if_pos ho]; rfl)
            clear cz HR HNX HKP ho
            go_wp2_with fail
            refine HP.out.mono ?_
            rintro e wc ⟨rfl, hS, hK⟩
            rw [HN2.out] at hS
            have HQ := Lib.hid (And.intro hS hK)
            clear hS hK HP
            go_wp2_with fail
            exact ⟨⟨i + 1, by rw [Int.natCast_add]; rfl, hlt, HQ⟩, by simp only [intOf]; omega⟩
          · have hoI : ¬ (o : Int) < 16 := by omega
            have HP := Lib.hid (HR.out.1.put 0 3 3 rfl (by decide) (by omega) (HKP.out _))
            have HN2 : Hid (L1 ++ lowBits 0 3 = L0 ++ (v19.take (i + 1)).flatMap (fun n : Nat => lowBits (n : Int) 3)) := Lib.hid (by rw [HNX.out, if_neg ho]; rfl)
            clear cz HR HNX HKP ho
            go_wp2_with fail
            refine HP.out.mono ?_
            rintro e wc ⟨rfl, hS, hK⟩
            rw [HN2.out] at hS
            have HQ := Lib.hid (And.intro hS hK)
            clear hS hK HP
            go_wp2_with fail
            exact ⟨⟨i + 1, by rw [Int.natCast_add]; rfl, hlt, HQ⟩, by simp only [intOf]; omega⟩
        case neg =>
          obtain rfl : i = 19 := by omega
          rw [show ((19 : Nat) : Int) = 19 from rfl]
          have HL1 := Lib.hid (show l ++ lowBits 29 5 ++ lowBits 29 5 ++ lowBits 15 4 ++ (lowBits 0 3 ++ lowBits 0 3 ++ lowBits 0 3 ++ (List.replicate 16 (lowBits 4 3)).flatten) = L1 by
            rw [HL0.out.1, ← hL1]
            congr 1)
          have HS6 := Lib.hid (And.intro HR.out.1 HR.out.2.1)
          clear HR hfl hL1 hlt hi hL0b HL0
          have lX : (xOf T).length = 286 := by unfold xOf; rw [evenOf_length, useL_len]
          have lY : (yOf T).length = 30 := by unfold yOf; rw [evenOf_length, useE_len, useD_len]
          have c16x := even_16 (useL T) (by rw [useL_len]; decide)
          have c16y := even_16 (useE (useD T)) (by rw [useE_len, useD_len]; decide)
          change ∀ c ∈ xOf T, c < 16 at c16x
          change ∀ c ∈ yOf T, c < 16 at c16y
          have nx := (good_even (useL T) (by rw [useL_len]; decide)).2
          have ny := (good_even (useE (useD T)) (by rw [useE_len, useD_len]; decide)).2
          change newErr (toI (xOf T)) = 0 at nx
          change newErr (toI (yOf T)) = 0 at ny
          have HN := Lib.hid (And.intro nx ny)
          have H16 := Lib.hid (And.intro c16x c16y)
          have hll : l.length ≤ 562949953421500 := by
            have := congrArg List.length HL1.out
            simp only [List.length_append, lowBits_length] at this
            omega
          clear nx ny c16x c16y
          generalize hXX : xOf T = X at *
          generalize hYY : yOf T = Y at *
          have HXY := Lib.hid (And.intro hXX hYY)
          clear hXX hYY
          have HLX := Lib.hid (And.intro lX lY)
          clear lX lY
          go_upto_region 20 with fail
          go_wp2_with (at_builtin; (refine wp_appI rfl (.const (.slice none 0 0)) (.tmp 66) rfl (IRow.nil _) rfl (HS6.out.1.x.src (Mut.refl _ _)) rfl (by have := HLX.out; rw [toI_len]; simp; omega) ?_))
          intro va1 wa1 ra1 ma1 fa1
          have hma : Mut [] wr wa1 := ma1.mono (by simp [Value.ownBlock])
          have RA := Lib.hid ra1
          have MA := Lib.hid hma
          obtain ⟨pa1, la1, qa1, rfl⟩ := ra1.form
          have FA := Lib.hid fa1
          clear ra1 ma1 fa1 hma
          go_wp2_with (at_builtin; (refine wp_appI rfl (.tmp 67) (.tmp 68) rfl RA.out rfl ((HS6.out.1.y.mut MA.out (by simp)).src (Mut.refl _ _)) rfl (by have := HLX.out; rw [toI_len, toI_len]; omega) ?_))
          intro vz wz rz mz fz
          have hmz : Mut [] wr wz := MA.out.trans mz (fun x hx => by
            rcases FA.out x (by simpa using hx) with h | h
            · simp [Value.ownBlock] at h
            · exact .inr h)
          have hzz : IRow wz vz (toI (X ++ Y)) := by
            have e : toI X ++ toI Y = toI (X ++ Y) := by simp [toI]
            rw [← e]
            exact rz
          have HS7 : Hid (TdS w r wz b (L1 ++ ((X ++ Y).take 0).flatMap (fun n : Nat => highBits (n : Int) 4)) (.slice px lx qx) (.slice py ly qy) X Y g4 g5 ∧ ShS wz gS (.slice p1 16 q1) (.slice p2 l2 q2) ∧ IRow wz vz (toI (X ++ Y))) := Lib.hid ⟨by simpa using HS6.out.1.mut hmz, HS6.out.2.mut hmz, hzz⟩
          have hZl : (X ++ Y).length = 316 := by have := HLX.out; rw [List.length_append]; omega
          have hZ16 : ∀ c ∈ X ++ Y, c < 16 := fun c hc => (List.mem_append.1 hc).elim (H16.out.1 c) (H16.out.2 c)
          have HZE : Hid (X ++ Y = X ++ Y) := Lib.hid rfl
          obtain ⟨Zz, hZz⟩ : ∃ Z, X ++ Y = Z := ⟨_, rfl⟩
          rw [hZz] at HS7 hZl hZ16 hzz
          obtain ⟨gz, qz, ez, -⟩ := hzz.at (by rw [toI_len]; omega)
          rw [toI_len, hZl] at ez
          subst ez
          have HZZ := Lib.hid hZz
          have HZ16 := Lib.hid hZ16
          clear hZz hZ16 hzz hmz rz mz fz RA MA FA HS6 H16 HZE
          go_wp2_with fail
          go_loopw [71] (fun c wx => ∃ i : Nat, c = .int .i64 (i : Int) ∧ i ≤ 316 ∧ Hid (TdS w r wx b (L1 ++ (Zz.take i).flatMap (fun n : Nat => highBits (n : Int) 4)) (.slice px lx qx) (.slice py ly qy) X Y g4 g5 ∧ ShS wx gS (.slice p1 16 q1) (.slice p2 l2 q2) ∧ IRow wx (.slice (some ⟨gz, 0, none⟩) 316 qz) (toI Zz))) (fun c _ => 316 - (intOf c).toNat)
          case atStart => exact ⟨0, rfl, by omega, HS7⟩
          case round =>
            obtain ⟨i, rfl, hi, HR⟩ := hrel
            clear HS7
            have hfl := fm4_len Zz i
            obtain ⟨L2, hL2⟩ : ∃ L, L1 ++ (Zz.take i).flatMap (fun n : Nat => highBits (n : Int) 4) = L := ⟨_, rfl⟩
            have hL2b : L2.length ≤ 562949953430000 := by rw [← hL2, List.length_append]; omega
            rw [hL2] at HR
            by_cases hlt : i < 316
            case pos =>
              have hltI : (i : Int) < 316 := by omega
              have hnx := fm4 Zz i (by omega) L1
              rw [hL2] at hnx
              obtain ⟨gq, cq, eq, hcq⟩ := HR.out.2.2.at (by rw [toI_len]; omega)
              simp only [Value.slice.injEq, Option.some.injEq, Addr.mk.injEq] at eq
              obtain ⟨⟨rfl, -⟩, -, -⟩ := eq
              have hci := hcq _ (Mut.refl _ _) i (by rw [toI_len]; omega)
              rw [toI_get] at hci
              have hc16 : lenAt Zz i < 16 := HZ16.out _ (lenAt_mem Zz i (by omega))
              change L1 ++ (Zz.take (i + 1)).flatMap (fun n : Nat => highBits (n : Int) 4) = L2 ++ highBits ((lenAt Zz i : Nat) : Int) 4 at hnx
              generalize lenAt Zz i = k at *
              obtain ⟨s0, s1, -, -⟩ := cells2 HR.out.2.1.box
              have hb4 := codes16 k hc16
              have HP : Hid (Calls Try.prog 82 #[.agg #[.slice p1 16 q1, .slice p2 l2 q2], .pointer (some ⟨b, 0, none⟩), .int .i64 (k : Int)] wr fun e w' => e = .returned (.tuple #[]) ∧ TdS w r w' b (L2 ++ highBits (k : Int) 4) (.slice px lx qx) (.slice py ly qy) X Y g4 g5 ∧ (ShS w' gS (.slice p1 16 q1) (.slice p2 l2 q2) ∧ IRow w' (.slice (some ⟨gz, 0, none⟩) 316 qz) (toI Zz))) := by
                rw [← hb4]
                refine Lib.hid (HR.out.1.call (fun r' hr' => cput_to (WrTo.refl hr') HR.out.2.1.cd k (by simpa using hc16) (lenAt_15 _ (by intro n hn; rw [List.eq_of_mem_replicate hn]; decide) k) (by omega)) (fun r' w' h0 kk => ⟨HR.out.2.1.wr h0 kk, HR.out.2.2.wr h0 kk⟩))
              have HN2 := Lib.hid hnx
              clear hnx hcq HR hb4 hc16 hfl hL2
              go_wp2_with fail
              refine HP.out.mono ?_
              rintro e wc ⟨rfl, hS, hK⟩
              rw [← HN2.out] at hS
              have HQ := Lib.hid (And.intro hS hK)
              clear hS hK HP
              go_wp2_with fail
              exact ⟨⟨i + 1, by rw [Int.natCast_add]; rfl, hlt, HQ⟩, by simp only [intOf]; omega⟩
            case neg =>
              obtain rfl : i = 316 := by omega
              rw [show ((316 : Nat) : Int) = 316 from rfl]
              have hfin : L2 = l ++ told4 X Y := by
                rw [← hL2, ← HL1.out, List.take_of_length_le (by omega), ← HZZ.out]
                unfold told4
                simp only [List.append_assoc]
              rw [hfin] at HR
              have HS8 := Lib.hid HR.out.1
              have HCX := Lib.hid (coderOf_any X HN.out.1 _ wr HR.out.1.x)
              clear HR hfl hL2 hL2b hlt hi hfin
              go_upto_region 25 with fail
              go_wp2_with fail
              refine HCX.out.mono ?_
              rintro e wc ⟨cx, rfl, hcx, hm⟩
              have HS9 := Lib.hid (HS8.out.mut hm)
              have HCY := Lib.hid (coderOf_any Y HN.out.2 _ wc (HS8.out.y.mut hm (by simp)))
              obtain ⟨x1, x2, rfl, hx1, hx2⟩ := hcx
              obtain ⟨px1, lx1, qx1, rfl⟩ := hx1.form
              obtain ⟨px2, lx2, qx2, rfl⟩ := hx2.form
              have HX1 := Lib.hid (And.intro hx1 hx2)
              clear hx1 hx2 hm HCX HS8
              go_wp2_with fail
              refine HCY.out.mono ?_
              rintro e wd ⟨cy, rfl, hcy, hm⟩
              have HS10 := Lib.hid (HS9.out.mut hm)
              obtain ⟨y1, y2, rfl, hy1, hy2⟩ := hcy
              obtain ⟨py1, ly1, qy1, rfl⟩ := hy1.form
              obtain ⟨py2, ly2, qy2, rfl⟩ := hy2.form
              have HF := Lib.hid (show IRow wd _ _ ∧ IRow wd _ _ ∧ IRow wd _ _ ∧ IRow wd _ _ from ⟨HX1.out.1.mut hm (by simp), HX1.out.2.mut hm (by simp), hy1, hy2⟩)
              have h4 := HS10.out.b4
              have h5 := HS10.out.b5
              have H4 := Lib.hid h4
              have H5 := Lib.hid h5
              have h45 : g4 ≠ g5 := by have := HG5.out; omega
              have H45 := Lib.hid h45
              obtain ⟨a0, a1, a2, a3⟩ := cells2 h4
              obtain ⟨b0, b1, b2, b3⟩ := cells2 h5
              clear hy1 hy2 hm HCY HS9 HX1 h4 h5
              go_wp2_with fail
              obtain ⟨⟨rr, k1, k2, k3⟩, -, -, -, -⟩ := HS10.out
              have hs : Mut [g4, g5] wd ((((wd.setCell ⟨g4, 0, none⟩ (.slice px1 lx1 qx1)).setCell ⟨g4, 1, none⟩ (.slice px2 lx2 qx2)).setCell ⟨g5, 0, none⟩ (.slice py1 ly1 qy1)).setCell ⟨g5, 1, none⟩ (.slice py2 ly2 qy2)) :=
                ((((Mut.refl _ wd).setCell (by simp) _).setCell (by simp) _).setCell (by simp) _).setCell (by simp) _
              have hne : ∀ {v : Value} {xs : List Int}, IRow wd v xs → ∀ g, v.ownBlock = some g → g ∉ [g4, g5] := fun hv g hg e => by
                rcases (show g = g4 ∨ g = g5 by simpa using e) with rfl | rfl
                · exact row_ne hv H4.out (by decide) hg
                · exact row_ne hv H5.out (by decide) hg
              have hbw : b ∉ [g4, g5] := fun e => by
                obtain ⟨c, hc⟩ := k1.heap
                rcases (show b = g4 ∨ b = g5 by simpa using e) with rfl | rfl
                · have := H4.out; rw [hc] at this; simp at this
                · have := H5.out; rw [hc] at this; simp at this
              have hrw : ∀ g, rr = some g → g ∉ [g4, g5] := fun g hg e => by
                rcases (show g = g4 ∨ g = g5 by simpa using e) with rfl | rfl
                · exact k1.row_ne H4.out (by decide) g hg rfl
                · exact k1.row_ne H5.out (by decide) g hg rfl
              have hb4 : ((((wd.setCell ⟨g4, 0, none⟩ (.slice px1 lx1 qx1)).setCell ⟨g4, 1, none⟩ (.slice px2 lx2 qx2)).setCell ⟨g5, 0, none⟩ (.slice py1 ly1 qy1)).setCell ⟨g5, 1, none⟩ (.slice py2 ly2 qy2)).heap[g4]? = some (.cells #[.slice px1 lx1 qx1, .slice px2 lx2 qx2] 118 (0, 0)) := by
                rw [heap_set_ne H45.out, heap_set_ne H45.out]
                exact heap_set (heap_set H4.out 0 _) 1 _
              have hb5 : ((((wd.setCell ⟨g4, 0, none⟩ (.slice px1 lx1 qx1)).setCell ⟨g4, 1, none⟩ (.slice px2 lx2 qx2)).setCell ⟨g5, 0, none⟩ (.slice py1 ly1 qy1)).setCell ⟨g5, 1, none⟩ (.slice py2 ly2 qy2)).heap[g5]? = some (.cells #[.slice py1 ly1 qy1, .slice py2 ly2 qy2] 118 (0, 0)) := by
                have h5 : ((wd.setCell ⟨g4, 0, none⟩ (.slice px1 lx1 qx1)).setCell ⟨g4, 1, none⟩ (.slice px2 lx2 qx2)).heap[g5]? = some (.cells #[.slice none 0 0, .slice none 0 0] 118 (0, 0)) := by
                  rw [heap_set_ne (Ne.symm H45.out), heap_set_ne (Ne.symm H45.out)]
                  exact H5.out
                exact heap_set (heap_set h5 0 _) 1 _
              refine bodyPost_ret (results_coders hb4 hb5 rfl rfl) rfl ⟨_, _, rfl, ?_, ?_, ?_⟩
              · rw [HXY.out.1, HXY.out.2]
                refine ⟨rr, k1.mut hs hbw hrw, k2, k3.trans hs (fun x hx => .inr ?_)⟩
                have h1 := HGS.out
                have h2 := HG5.out
                rcases (show x = g4 ∨ x = g5 by simpa using hx) with rfl | rfl <;> omega
              · rw [HXY.out.1]
                exact ⟨_, _, rfl, HF.out.1.mut hs (hne HF.out.1), HF.out.2.1.mut hs (hne HF.out.2.1)⟩
              · rw [HXY.out.2]
                exact ⟨_, _, rfl, HF.out.2.2.1.mut hs (hne HF.out.2.2.1), HF.out.2.2.2.mut hs (hne HF.out.2.2.2)⟩

end Go.Proofs.Ytgjcnembeebjfaa
