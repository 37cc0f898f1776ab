/- Plain: a file behind another one, and ahead of another one. No program. -/
import Derived.Test.YtgjcnembeebjfaaGzW7
namespace Go.Proofs.Ytgjcnembeebjfaa
open Go
set_option linter.unusedVariables false

/-- further behind by so many bytes -/
def RR.sh {α : Type} (r : RR α) (k : Nat) : RR α :=
  match r with
  | .ok x a => .ok x (k + a)
  | .bad c f => .bad c (k + f)
theorem RR.sh_bind {α β : Type} (r : RR α) (k : Nat) (g g' : α → Nat → RR β) (h : ∀ x a, r = .ok x a → g' x (k + a) = (g x a).sh k) : (r.sh k).bind g' = (r.bind g).sh k := by
  cases r with
  | ok x a => exact h x a rfl
  | bad c f => rfl

theorem ext_sh (x D : ByteArray) (a b : Nat) : (x ++ D).extract (x.size + a) (x.size + b) = D.extract a b := by
  apply bytesOf_inj
  rw [bytesOf_extract, bytesOf_extract, bytesOf_append, ← bytesOf_length x, List.take_length_add_append, List.drop_length_add_append]
theorem ext_sh_all (x D : ByteArray) (a : Nat) : (x ++ D).extract (x.size + a) (x ++ D).size = D.extract a D.size := by
  rw [ByteArray.size_append, ext_sh]
theorem takeM_sh (x D : ByteArray) (n a : Nat) : takeM (x ++ D) n (x.size + a) = (takeM D n a).sh x.size := by
  unfold takeM
  rw [ByteArray.size_append]
  by_cases h : a + n ≤ D.size
  · rw [if_pos h, if_pos (by omega), Nat.add_assoc, ext_sh]
    rfl
  · rw [if_neg h, if_neg (by omega)]
    rfl
theorem textM_sh (x D : ByteArray) (a : Nat) : textM (x ++ D) (x.size + a) = (textM D a).sh x.size := by
  unfold textM
  rw [ext_sh_all]
  cases Lib.indexByte (D.extract a D.size).data.toList 0 with
  | ofNat i =>
    simp only []
    by_cases h : 256 < i
    · rw [if_pos h, if_pos h]
      rfl
    · rw [if_neg h, if_neg h, Nat.add_assoc, ext_sh]
      rfl
  | negSucc i => rfl
theorem extraM_sh (x D : ByteArray) (a : Nat) : extraM (x ++ D) (x.size + a) = (extraM D a).sh x.size := by
  unfold extraM
  rw [takeM_sh]
  refine RR.sh_bind _ _ _ _ fun y a1 _ => ?_
  generalize numL (bytesOf y) = n
  rw [ByteArray.size_append]
  by_cases h : a1 + n ≤ D.size
  · rw [if_pos h, if_pos (by omega), Nat.add_assoc, ext_sh]
    rfl
  · rw [if_neg h, if_neg (by omega)]
    rfl
theorem sumM_sh (x D : ByteArray) (a : Nat) (p : GPart) (b : Bool) (a4 : Nat) : sumM (x ++ D) (x.size + a) p b (x.size + a4) = (sumM D a p b a4).sh x.size := by
  unfold sumM
  cases b
  · rfl
  · rw [if_pos rfl, if_pos rfl, takeM_sh]
    refine RR.sh_bind _ _ _ _ fun y a5 _ => ?_
    rw [ext_sh]
    by_cases h : (numL (bytesOf y) : Int) = bits .and .i64 (sumOf (bytesOf (D.extract a a4))) 65535
    · rw [if_pos h, if_pos h]
      rfl
    · rw [if_neg h, if_neg h]
      rfl
theorem optE_sh (x D : ByteArray) (b : Bool) (a : Nat) : (if b = true then extraM (x ++ D) (x.size + a) else .ok .empty (x.size + a)) = (if b = true then extraM D a else .ok .empty a).sh x.size := by
  cases b
  · rfl
  · exact extraM_sh x D a
theorem optT_sh (x D : ByteArray) (b : Bool) (a : Nat) : (if b = true then textM (x ++ D) (x.size + a) else .ok .empty (x.size + a)) = (if b = true then textM D a else .ok .empty a).sh x.size := by
  cases b
  · rfl
  · exact textM_sh x D a
theorem restM_sh (x D : ByteArray) (a : Nat) (h : ByteArray) (a1 : Nat) : restM (x ++ D) (x.size + a) h (x.size + a1) = (restM D a h a1).sh x.size := by
  unfold restM
  rw [optE_sh]
  refine RR.sh_bind _ _ _ _ fun y a2 _ => ?_
  rw [optT_sh]
  refine RR.sh_bind _ _ _ _ fun y a3 _ => ?_
  rw [optT_sh]
  refine RR.sh_bind _ _ _ _ fun y a4 _ => ?_
  exact sumM_sh x D a _ _ a4
theorem headM_sh (x D : ByteArray) (a : Nat) : headM (x ++ D) (x.size + a) = (headM D a).sh x.size := by
  unfold headM
  rw [ext_sh_all]
  by_cases h : isM (D.extract a D.size) = false
  · rw [if_pos h, if_pos h]
    rfl
  rw [if_neg h, if_neg h, takeM_sh]
  refine RR.sh_bind _ _ _ _ fun y a1 _ => ?_
  by_cases h2 : gB y 2 ≠ 8
  · rw [if_pos h2, if_pos h2]
    rfl
  rw [if_neg h2, if_neg h2]
  by_cases h3 : flag y 224 = true
  · rw [if_pos h3, if_pos h3]
    rfl
  rw [if_neg h3, if_neg h3]
  exact restM_sh x D a y a1
theorem tailN_sh (x D : ByteArray) (p : GPart) (st : US) (a1 : Nat) : tailN (x ++ D) p st (x.size + a1) = (tailN D p st a1).sh x.size := by
  unfold tailN
  by_cases h : st.er ≠ 0
  · rw [if_pos h, if_pos h]
    simp only [RR.sh]
    congr 1
    omega
  rw [if_neg h, if_neg h, show x.size + a1 + (st.t + 7) / 8 = x.size + (a1 + (st.t + 7) / 8) by omega, takeM_sh]
  refine RR.sh_bind _ _ _ _ fun t a2 _ => ?_
  generalize (numL (bytesOf (t.extract 0 4)) : Int) = x1
  generalize sumOf (bytesOf (strOf st.out)) = x2
  generalize numL (bytesOf (t.extract 4 t.size)) = x3
  by_cases e1 : x1 = x2
  · rw [if_pos e1, if_pos e1]
    by_cases e2 : x3 = (strOf st.out).size
    · rw [if_pos e2, if_pos e2]
      rfl
    · rw [if_neg e2, if_neg e2]
      rfl
  · rw [if_neg e1, if_neg e1]
    rfl
theorem unpN_sh (fu : Nat) (x D : ByteArray) (a1 m : Nat) : unpN fu (x ++ D) (x.size + a1) m = unpN fu D a1 m := by
  unfold unpN
  rw [ext_sh_all]
theorem partN_sh (fu : Nat) (x D : ByteArray) (m a : Nat) : partN fu (x ++ D) m (x.size + a) = (partN fu D m a).sh x.size := by
  unfold partN
  rw [headM_sh]
  refine RR.sh_bind _ _ _ _ fun p a1 _ => ?_
  rw [unpN_sh, tailN_sh]

/-! more behind -/
/-- what is answered is answered -/
def RR.Le {α : Type} (r r' : RR α) : Prop := ∀ x a, r = .ok x a → r' = .ok x a
theorem RR.Le.refl {α : Type} (r : RR α) : r.Le r := fun _ _ h => h
theorem RR.Le.of_bad {α : Type} {c f : Nat} {r : RR α} : (RR.bad c f : RR α).Le r := fun _ _ h => by cases h
theorem RR.Le.bind {α β : Type} {r r' : RR α} {g g' : α → Nat → RR β} (h : r.Le r') (k : ∀ x a, r = .ok x a → (g x a).Le (g' x a)) : (r.bind g).Le (r'.bind g') := by
  cases e : r with
  | ok x a =>
    rw [h x a e]
    exact k x a e
  | bad c f => exact RR.Le.of_bad

theorem ext_pre (D y : ByteArray) (a b : Nat) (h : b ≤ D.size) : (D ++ y).extract a b = D.extract a b := by
  apply bytesOf_inj
  rw [bytesOf_extract, bytesOf_extract, bytesOf_append, List.take_append_of_le_length (by rw [bytesOf_length]; exact h)]
theorem ext_more (D y : ByteArray) (a : Nat) (h : a ≤ D.size) : (D ++ y).extract a (D ++ y).size = D.extract a D.size ++ y := by
  apply bytesOf_inj
  rw [bytesOf_append, bytesOf_extract, bytesOf_extract, bytesOf_append, ← bytesOf_length D, List.take_length, ← bytesOf_length (D ++ y), bytesOf_append, List.take_length, List.drop_append_of_le_length (by rw [bytesOf_length]; exact h)]
theorem takeM_le (D y : ByteArray) (n a : Nat) : (takeM D n a).Le (takeM (D ++ y) n a) := by
  unfold takeM
  by_cases h : a + n ≤ D.size
  · rw [if_pos h, if_pos (by rw [ByteArray.size_append]; omega), ext_pre D y a (a + n) h]
    exact RR.Le.refl _
  · rw [if_neg h]
    exact RR.Le.of_bad
theorem index_more' (c : UInt8) (m : List UInt8) : ∀ l : List UInt8, Lib.indexByte l c ≠ -1 → Lib.indexByte (l ++ m) c = Lib.indexByte l c
  | [], h => absurd rfl h
  | x :: l, h => by
    have ih := index_more' c m l
    rw [List.cons_append]
    rw [Lib.indexByte] at h ⊢
    rw [Lib.indexByte]
    by_cases e : (x == c) = true
    · rw [if_pos e, if_pos e]
    · rw [if_neg e] at h
      by_cases e2 : (Lib.indexByte l c == -1) = true
      · rw [if_pos e2] at h
        exact absurd rfl h
      · rw [if_neg e, if_neg e, ih (by simpa using e2)]
theorem index_more (c : UInt8) (m : List UInt8) (l : List UInt8) (i : Nat) (h : Lib.indexByte l c = .ofNat i) : Lib.indexByte (l ++ m) c = .ofNat i := by
  rw [index_more' c m l (by rw [h]; intro h; cases h), h]
theorem textM_le (D y : ByteArray) (a : Nat) (ha : a ≤ D.size) : (textM D a).Le (textM (D ++ y) a) := by
  unfold textM
  rw [ext_more D y a ha]
  cases e : Lib.indexByte (D.extract a D.size).data.toList 0 with
  | ofNat i =>
    have e2 := index_more 0 y.data.toList _ i e
    have e3 : (D.extract a D.size ++ y).data.toList = (D.extract a D.size).data.toList ++ y.data.toList := by simp
    have hl := (List.getElem?_eq_some_iff.1 (Lib.indexByte_some (l := (D.extract a D.size).data.toList) (c := 0) (o := i) e).1).1
    have hl2 : (D.extract a D.size).data.toList.length = D.size - a := by
      have := ByteArray.size_extract (a := D) (b := a) (e := D.size)
      simp only [Array.length_toList]
      change (D.extract a D.size).size = _
      omega
    rw [e3, e2]
    simp only []
    rw [ext_pre D y a (a + i) (by omega)]
    exact RR.Le.refl _
  | negSucc i => exact RR.Le.of_bad
theorem extraM_le (D y : ByteArray) (a : Nat) : (extraM D a).Le (extraM (D ++ y) a) := by
  unfold extraM
  refine RR.Le.bind (takeM_le D y 2 a) fun x a1 _ => ?_
  generalize numL (bytesOf x) = n
  by_cases h : a1 + n ≤ D.size
  · rw [if_pos h, if_pos (by rw [ByteArray.size_append]; omega), ext_pre D y a1 (a1 + n) h]
    exact RR.Le.refl _
  · rw [if_neg h]
    exact RR.Le.of_bad
theorem bind_le {α β : Type} {r r' : RR α} (h : r.Le r') (F : α → Nat → RR β) : (r.bind F).Le (r'.bind F) := RR.Le.bind h fun _ _ _ => RR.Le.refl _
theorem sumM_le (D y : ByteArray) (a : Nat) (p : GPart) (b : Bool) (a4 : Nat) (h4 : a4 ≤ D.size) : (sumM D a p b a4).Le (sumM (D ++ y) a p b a4) := by
  unfold sumM
  rw [ext_pre D y a a4 h4]
  generalize bits .and .i64 (sumOf (bytesOf (D.extract a a4))) 65535 = z
  cases b
  · exact RR.Le.refl _
  · rw [if_pos rfl, if_pos rfl]
    exact bind_le (takeM_le D y 2 a4) _
theorem optE_in (D : ByteArray) (b : Bool) (a : Nat) (h : a ≤ D.size) : (if b = true then extraM D a else .ok .empty a).In a D.size := by
  cases b
  · exact ⟨Nat.le_refl _, h⟩
  · exact extraM_in D a
theorem optT_in (D : ByteArray) (b : Bool) (a : Nat) (h : a ≤ D.size) : (if b = true then textM D a else .ok .empty a).In a D.size := by
  cases b
  · exact ⟨Nat.le_refl _, h⟩
  · exact textM_in D a h
theorem optE_le (D y : ByteArray) (b : Bool) (a : Nat) : (if b = true then extraM D a else .ok .empty a).Le (if b = true then extraM (D ++ y) a else .ok .empty a) := by
  cases b
  · exact RR.Le.refl _
  · exact extraM_le D y a
theorem optT_le (D y : ByteArray) (b : Bool) (a : Nat) (h : a ≤ D.size) : (if b = true then textM D a else .ok .empty a).Le (if b = true then textM (D ++ y) a else .ok .empty a) := by
  cases b
  · exact RR.Le.refl _
  · exact textM_le D y a h
theorem RR.In.top {α : Type} {r : RR α} {lo hi : Nat} (h : r.In lo hi) {x : α} {a : Nat} (e : r = .ok x a) : a ≤ hi := by
  rw [e] at h
  exact h.2
theorem restM_le (D y : ByteArray) (a : Nat) (h : ByteArray) (a1 : Nat) (h1 : a1 ≤ D.size) : (restM D a h a1).Le (restM (D ++ y) a h a1) := by
  unfold restM
  refine RR.Le.bind (optE_le D y _ a1) fun x a2 e2 => ?_
  have h2 := (optE_in D _ a1 h1).top e2
  refine RR.Le.bind (optT_le D y _ a2 h2) fun n a3 e3 => ?_
  have h3 := (optT_in D _ a2 h2).top e3
  refine RR.Le.bind (optT_le D y _ a3 h3) fun k a4 e4 => ?_
  have h4 := (optT_in D _ a3 h3).top e4
  exact sumM_le D y a _ _ a4 h4
theorem isM_more (s y : ByteArray) (h : isM s = true) : isM (s ++ y) = true := by
  unfold isM at *
  rw [decide_eq_true_eq] at *
  have hl : 2 ≤ (bytesOf s).length := by
    have := congrArg List.length h
    rw [List.length_take] at this
    simp at this
    omega
  rw [bytesOf_append, List.take_append_of_le_length hl, h]
theorem headM_le (D y : ByteArray) (a : Nat) (ha : a ≤ D.size) : (headM D a).Le (headM (D ++ y) a) := by
  unfold headM
  rw [ext_more D y a ha]
  by_cases h : isM (D.extract a D.size) = false
  · rw [if_pos h]
    exact RR.Le.of_bad
  rw [if_neg h, if_neg (by rw [isM_more _ y (by simpa using h)]; simp)]
  refine RR.Le.bind (takeM_le D y 10 a) fun z a1 e1 => ?_
  have h1 := (takeM_in D 10 a).top e1
  by_cases h2 : gB z 2 ≠ 8
  · rw [if_pos h2]
    exact RR.Le.of_bad
  rw [if_neg h2, if_neg h2]
  by_cases h3 : flag z 224 = true
  · rw [if_pos h3]
    exact RR.Le.of_bad
  rw [if_neg h3, if_neg h3]
  exact restM_le D y a z a1 h1
theorem tailN_le (D y : ByteArray) (p : GPart) (st : US) (a1 : Nat) : (tailN D p st a1).Le (tailN (D ++ y) p st a1) := by
  unfold tailN
  by_cases h : st.er ≠ 0
  · rw [if_pos h]
    exact RR.Le.of_bad
  rw [if_neg h, if_neg h]
  exact RR.Le.bind (takeM_le D y 8 _) fun t a2 _ => RR.Le.refl _
theorem tailN_er {D : ByteArray} {p q : GPart} {st : US} {a1 a2 : Nat} (h : tailN D p st a1 = .ok q a2) : st.er = 0 := by
  by_cases h0 : st.er = 0
  · exact h0
  · unfold tailN at h
    rw [if_pos h0] at h
    cases h
theorem unpN_more (fu : Nat) (D y : ByteArray) (a1 m : Nat) (h1 : a1 ≤ D.size) (h : (unpN fu D a1 m).er = 0) : unpN fu (D ++ y) a1 m = unpN fu D a1 m := by
  unfold unpN at *
  rw [ext_more D y a1 h1]
  exact run_more fu _ _ m ⟨bytesOf y, bytesOf_append _ _⟩ h
theorem unpN_bound (fu : Nat) (D : ByteArray) (a1 m M : Nat) (hM : m ≤ M) (h : (unpN fu D a1 m).er ≠ 2) : unpN fu D a1 M = unpN fu D a1 m := by
  unfold unpN at *
  rcases (unpack_nice fu fu).bound (D.extract a1 D.size) m M st0 hM with e | ⟨e, -⟩
  · unfold runU
    rw [e]
  · exact absurd e h
theorem partN_more (fu : Nat) (D y : ByteArray) (m a : Nat) (ha : a ≤ D.size) : (partN fu D m a).Le (partN fu (D ++ y) m a) := by
  unfold partN
  refine RR.Le.bind (headM_le D y a ha) fun p a1 e1 => ?_
  have h1 := (headM_in D a).top e1
  intro q a2 e
  have her := tailN_er e
  rw [unpN_more fu D y a1 m h1 her]
  exact tailN_le D y p _ a1 q a2 e
theorem partN_bound (fu : Nat) (D : ByteArray) (m M a : Nat) (hM : m ≤ M) (h : ∀ f, partN fu D m a ≠ .bad 2 f) : partN fu D M a = partN fu D m a := by
  cases e : headM D a with
  | bad c f => rw [partN_bad e, partN_bad e]
  | ok p a1 =>
    rw [partN_ok e, partN_ok e]
    rw [partN_ok e] at h
    by_cases h2 : (unpN fu D a1 m).er = 2
    · exfalso
      apply h (a1 + (unpN fu D a1 m).t / 8)
      unfold tailN
      rw [if_pos (by rw [h2]; decide), h2]
    · rw [unpN_bound fu D a1 m M hM h2]

theorem part_on {fu : Nat} {D : ByteArray} {m a a1 : Nat} {p : GPart} (x y : ByteArray) (ha : a ≤ D.size) (M : Nat) (hM : m ≤ M) (h : partN fu D m a = .ok p a1) : partN fu (x ++ D ++ y) M (x.size + a) = .ok p (x.size + a1) := by
  have h1 := partN_more fu D y m a ha p a1 h
  have h2 := partN_bound fu (D ++ y) m M a hM (by rw [h1]; intro f h; cases h)
  have e : x ++ D ++ y = x ++ (D ++ y) := by apply bytesOf_inj; simp only [bytesOf_append, List.append_assoc]
  rw [e, partN_sh, h2, h1]
  rfl

/-- parts that are read go on being read -/
theorem readN_on (fu : Nat) (x D y : ByteArray) : ∀ (g m a : Nat) (acc out : List GPart) (e : Nat), readN fu D g m a acc = .ok out e → g + acc.length = 1026 → acc.length ≤ 1024 → a ≤ D.size →
    ∃ ps, out = acc ++ ps ∧ out.length ≤ 1024 ∧ (acc = [] → ps ≠ []) ∧ ∀ (M : Nat) (acc' : List GPart) (g' : Nat), m ≤ M → g' + acc'.length = 1026 → acc'.length ≤ 1024 → (acc = [] → acc' = [] ∨ a < D.size + y.size) →
      (acc'.length + ps.length ≤ 1024 → ∃ g2 M2, g2 + (acc' ++ ps).length = 1026 ∧ M ≤ M2 + m ∧ readN fu (x ++ D ++ y) g' M (x.size + a) acc' = readN fu (x ++ D ++ y) g2 M2 (x.size + D.size) (acc' ++ ps)) ∧
      (1024 < acc'.length + ps.length → ∃ f, readN fu (x ++ D ++ y) g' M (x.size + a) acc' = .bad 16 f)
  | 0, m, a, acc, out, e, h, hg, hl, ha => by omega
  | g + 1, m, a, acc, out, e, h, hg, hl, ha => by
    rw [readN] at h
    by_cases hgo : acc.length = 0 ∨ a < D.size
    · rw [if_pos hgo] at h
      by_cases h4 : acc.length = 1024
      · rw [if_pos h4] at h
        cases h
      rw [if_neg h4] at h
      cases hp : partN fu D m a with
      | bad c f =>
        rw [hp] at h
        cases h
      | ok p a1 =>
        rw [hp, RR.bind] at h
        have ha1 := (partN_in fu D m a).top hp
        have hd := partN_data hp
        obtain ⟨ps, rfl, h6, -, hk⟩ := readN_on fu x D y g (m - p.data.size) a1 (acc ++ [p]) out e h (by rw [List.length_append, List.length_singleton]; omega) (by rw [List.length_append, List.length_singleton]; omega) ha1
        refine ⟨p :: ps, by simp, h6, by simp, ?_⟩
        intro M acc' g' hM hg' hl' hc
        obtain ⟨g'', rfl⟩ : ∃ g'', g' = g'' + 1 := ⟨g' - 1, by omega⟩
        have hc' : acc'.length = 0 ∨ x.size + a < (x ++ D ++ y).size := by
          simp only [ByteArray.size_append]
          rcases hgo with h0 | h0
          · rcases hc (List.eq_nil_of_length_eq_zero h0) with h | h
            · left; rw [h]; rfl
            · right; omega
          · right; omega
        rw [readN, if_pos hc']
        by_cases h4' : acc'.length = 1024
        · rw [if_pos h4']
          refine ⟨fun h => ?_, fun _ => ⟨_, rfl⟩⟩
          rw [List.length_cons] at h
          omega
        rw [if_neg h4', part_on x y ha M hM hp, RR.bind]
        have hk2 := hk (M - p.data.size) (acc' ++ [p]) g'' (by omega) (by rw [List.length_append, List.length_singleton]; omega) (by rw [List.length_append, List.length_singleton]; omega) (by simp)
        rw [List.length_append, List.length_singleton] at hk2
        rw [List.length_cons]
        refine ⟨fun h => ?_, fun h => hk2.2 (by omega)⟩
        obtain ⟨g2, M2, e1, e2, e3⟩ := hk2.1 (by omega)
        have e4 : acc' ++ [p] ++ ps = acc' ++ p :: ps := by simp
        rw [e4] at e1 e3
        exact ⟨g2, M2, e1, by omega, e3⟩
    · rw [if_neg hgo] at h
      simp only [RR.ok.injEq] at h
      obtain ⟨rfl, rfl⟩ := h
      have had : a = D.size := by omega
      refine ⟨[], by simp, hl, fun h => absurd (.inl (by rw [h]; rfl)) hgo, ?_⟩
      intro M acc' g' hM hg' hl' hc
      subst had
      refine ⟨fun _ => ⟨g', M, by simpa using hg', by omega, by rw [List.append_nil]⟩, fun h => ?_⟩
      rw [List.length_nil] at h
      omega

/-- what is wrong stays wrong behind other parts -/
theorem readN_ill (fu : Nat) (x D : ByteArray) : ∀ (g m a : Nat) (acc : List GPart) (c f : Nat), readN fu D g m a acc = .bad c f → c ≠ 2 → a ≤ D.size →
    ∀ (M : Nat) (acc' : List GPart) (g' : Nat), m ≤ M → g' + acc'.length = 1026 → acc'.length ≤ 1024 → acc.length ≤ acc'.length → (acc = [] → acc' = [] ∨ a < D.size) → ∃ c' f', c' ≠ 0 ∧ readN fu (x ++ D) g' M (x.size + a) acc' = .bad c' f'
  | 0, m, a, acc, c, f, h, hc, ha => by rw [readN] at h; cases h
  | g + 1, m, a, acc, c, f, h, hc, ha => by
    intro M acc' g' hM hg' hl' hle hcc
    obtain ⟨g'', rfl⟩ : ∃ g'', g' = g'' + 1 := ⟨g' - 1, by omega⟩
    rw [readN] at h
    by_cases hgo : acc.length = 0 ∨ a < D.size
    case neg =>
      rw [if_neg hgo] at h
      cases h
    rw [if_pos hgo] at h
    have hc' : acc'.length = 0 ∨ x.size + a < (x ++ D).size := by
      simp only [ByteArray.size_append]
      rcases hgo with h0 | h0
      · rcases hcc (List.eq_nil_of_length_eq_zero h0) with h | h
        · left; rw [h]; rfl
        · right; omega
      · right; omega
    rw [readN, if_pos hc']
    by_cases h4' : acc'.length = 1024
    · rw [if_pos h4']
      exact ⟨16, _, by decide, rfl⟩
    rw [if_neg h4']
    rw [if_neg (by omega)] at h
    cases hp : partN fu D m a with
    | bad c1 f1 =>
      rw [hp, RR.bind] at h
      simp only [RR.bad.injEq] at h
      obtain ⟨rfl, rfl⟩ := h
      have h0 := partN_in fu D m a
      rw [hp] at h0
      refine ⟨c1, x.size + f1, RR.In.of_bad h0, ?_⟩
      rw [partN_sh, partN_bound fu D m M a hM (by rw [hp]; intro f' h'; simp only [RR.bad.injEq] at h'; exact hc h'.1), hp]
      rfl
    | ok p a1 =>
      rw [hp, RR.bind] at h
      have ha1 := (partN_in fu D m a).top hp
      have hd := partN_data hp
      rw [partN_sh, partN_bound fu D m M a hM (by rw [hp]; intro f' h'; cases h'), hp]
      exact readN_ill fu x D g (m - p.data.size) a1 (acc ++ [p]) c f h hc ha1 (M - p.data.size) (acc' ++ [p]) g'' (by omega) (by rw [List.length_append, List.length_singleton]; omega) (by rw [List.length_append, List.length_singleton]; omega) (by simp only [List.length_append, List.length_singleton]; omega) (by simp)

theorem nil_left (s : ByteArray) : ByteArray.empty ++ s = s := by apply bytesOf_inj; rw [bytesOf_append]; rfl
theorem nil_right (s : ByteArray) : s ++ ByteArray.empty = s := by apply bytesOf_inj; rw [bytesOf_append]; exact List.append_nil _
theorem readN_end {fu : Nat} {D : ByteArray} {g m a : Nat} {l : List GPart} (hl : l ≠ []) (ha : D.size ≤ a) : readN fu D g m a l = .ok l a := by
  cases g with
  | zero => rw [readN]
  | succ g => rw [readN, if_neg (by have : l.length ≠ 0 := fun h => hl (List.eq_nil_of_length_eq_zero h); omega)]

/-- two files behind one another -/
theorem joined_plain (fu : Nat) (a b : ByteArray) (k K : Nat) (hK : 2 * k ≤ K) (l : List GPart) (e : Nat) (h : readN fu a 1026 k 0 [] = .ok l e) :
    l.length ≤ 1024 ∧ l ≠ [] ∧ (b.size = 0 → ∃ e', readN fu (a ++ b) 1026 K 0 [] = .ok l e') ∧
    (∀ c f, readN fu b 1026 k 0 [] = .bad c f → c ≠ 2 → b.size ≠ 0 → ∃ c' f', c' ≠ 0 ∧ readN fu (a ++ b) 1026 K 0 [] = .bad c' f') ∧
    (∀ m e', readN fu b 1026 k 0 [] = .ok m e' → b.size ≠ 0 → m.length ≤ 1024 ∧ (l.length + m.length ≤ 1024 → ∃ e2, readN fu (a ++ b) 1026 K 0 [] = .ok (l ++ m) e2) ∧ (1024 < l.length + m.length → ∃ f, readN fu (a ++ b) 1026 K 0 [] = .bad 16 f)) := by
  obtain ⟨ps, h1, h2, h3, h4⟩ := readN_on fu .empty a b 1026 k 0 [] l e h rfl (by decide) (Nat.zero_le _)
  rw [List.nil_append] at h1
  subst h1
  obtain ⟨g2, M2, e1, e2, e3⟩ := (h4 K [] 1026 (by omega) rfl (by decide) (fun _ => .inl rfl)).1 (by simpa using h2)
  rw [nil_left, List.nil_append, show ByteArray.empty.size = 0 from rfl, Nat.zero_add, Nat.zero_add] at e3
  rw [List.nil_append] at e1
  refine ⟨h2, h3 rfl, ?_, ?_, ?_⟩
  · intro hb
    rw [e3]
    exact ⟨_, readN_end (h3 rfl) (by rw [ByteArray.size_append]; omega)⟩
  · intro c f hb hc hb0
    rw [e3]
    have := readN_ill fu a b 1026 k 0 [] c f hb hc (Nat.zero_le _) M2 l g2 (by omega) e1 h2 (by simp) (fun _ => .inr (by omega))
    rw [Nat.add_zero] at this
    exact this
  · intro m e' hb hb0
    obtain ⟨qs, k1, k2, k3, k4⟩ := readN_on fu a b .empty 1026 k 0 [] m e' hb rfl (by decide) (Nat.zero_le _)
    rw [List.nil_append] at k1
    subst k1
    obtain ⟨k5, k6⟩ := k4 M2 l g2 (by omega) e1 h2 (fun _ => .inr (by omega))
    rw [nil_right, Nat.add_zero] at k5 k6
    rw [e3]
    refine ⟨k2, fun hle => ?_, k6⟩
    obtain ⟨g3, M3, -, -, e6⟩ := k5 hle
    rw [e6]
    exact ⟨_, readN_end (by simp [k3 rfl]) (by rw [ByteArray.size_append]; exact Nat.le_refl _)⟩

end Go.Proofs.Ytgjcnembeebjfaa
