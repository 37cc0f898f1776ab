/- Plain laws of templates: how Parse goes on, told by bytes; doubled signs. -/
import Derived.Test.YtekgoldkcmehcaaTplW4
namespace Go.Proofs.Ytekgoldkcmehcaa
set_option linter.unusedVariables false

theorem ibl_none : ∀ (l : List UInt8) (c : UInt8), c ∉ l → Lib.indexByte l c = -1
  | [], _, _ => rfl
  | b :: r, c, h => by
    have h1 : b ≠ c := fun e => h (by simp [e])
    have h2 := ibl_none r c (fun e => h (by simp [e]))
    have h3 : (b == c) = false := by rw [beq_eq_false_iff_ne]; exact h1
    rw [Lib.indexByte, h3, h2]
    rfl
theorem ibl_at : ∀ (H R : List UInt8) (c : UInt8), c ∉ H → Lib.indexByte (H ++ c :: R) c = (H.length : Int)
  | [], R, c, _ => by
    have h3 : (c == c) = true := by simp
    rw [List.nil_append, Lib.indexByte, h3]
    rfl
  | b :: r, R, c, h => by
    have h1 : b ≠ c := fun e => h (by simp [e])
    have h2 := ibl_at r R c (fun e => h (by simp [e]))
    have h3 : (b == c) = false := by rw [beq_eq_false_iff_ne]; exact h1
    have h4 : ((r.length : Int) == -1) = false := by rw [beq_eq_false_iff_ne]; omega
    rw [List.cons_append, Lib.indexByte, h3, h2, h4]
    simp
theorem ib_none (s : ByteArray) (c : UInt8) (h : c.toNat ∉ bytesOf s) : Lib.indexByte s.data.toList c = -1 :=
  ibl_none _ _ fun e => h (List.mem_map.2 ⟨c, e, rfl⟩)
theorem ib_at (s : ByteArray) (c : UInt8) (H R : List Nat) (hs : bytesOf s = H ++ c.toNat :: R) (hn : c.toNat ∉ H) : Lib.indexByte s.data.toList c = (H.length : Int) := by
  unfold bytesOf at hs
  obtain ⟨l1, l2, e, e1, e2⟩ := List.map_eq_append_iff.1 hs
  obtain ⟨b, l3, rfl, e3, e4⟩ := List.map_eq_cons_iff.1 e2
  have hb : b = c := UInt8.toNat_inj.1 e3
  subst hb
  rw [e, ibl_at l1 l3 b (fun hm => hn (by rw [← e1]; exact List.mem_map.2 ⟨b, hm, rfl⟩)), ← e1, List.length_map]

theorem pre1_true (s : ByteArray) (c : UInt8) (R : List Nat) (h : bytesOf s = c.toNat :: R) : pre1 s c = true := by simp [pre1, h]
theorem pre1_false (s : ByteArray) (c : UInt8) (h : (bytesOf s).head? ≠ some c.toNat) : pre1 s c = false := by
  rw [pre1, beq_eq_false_iff_ne]
  exact h

theorem Runs.sign' {L T : Nat} (r h q2 : ByteArray) (l : List Pc) (R : Option (List Pc)) (at' : Nat) (hr : bytesOf r = bytesOf h ++ 36 :: 36 :: bytesOf q2) (hn : 36 ∉ bytesOf h)
    (k : Runs L T q2 (addText (addText l h) dollar) R at') : Runs L T r l R at' := by
  have hl := congrArg List.length hr
  rw [List.length_append, List.length_cons, List.length_cons, bytesOf_length, bytesOf_length, bytesOf_length] at hl
  have hhl := bytesOf_length h
  have hq : bytesOf (r.extract (h.size + 1) r.size) = 36 :: bytesOf q2 := by
    rw [bytesOf_extract, List.take_of_length_le (by rw [bytesOf_length]; exact Nat.le_refl _), hr, List.drop_append, List.drop_of_length_le (by omega), hhl, show h.size + 1 - h.size = 1 by omega]
    rfl
  refine Runs.sign r l h.size h _ q2 _ _ R at' ?_ ?_ rfl (pre1_true _ _ _ hq) ?_ rfl rfl k
  · have := ib_at r 36 (bytesOf h) (36 :: bytesOf q2) hr hn
    rw [hhl] at this
    exact this
  · apply bytesOf_inj
    rw [bytesOf_extract, hr, List.drop_zero, List.take_append_of_le_length (by omega), List.take_of_length_le (by omega)]
  · apply bytesOf_inj
    rw [bytesOf_extract, List.take_of_length_le (by rw [bytesOf_length]; exact Nat.le_refl _), hq]
    rfl

theorem split_num {r h q : ByteArray} (hr : bytesOf r = bytesOf h ++ 36 :: bytesOf q) (hn : 36 ∉ bytesOf h) : Lib.indexByte r.data.toList 36 = (h.size : Int) ∧ r.extract 0 h.size = h ∧ r.extract (h.size + 1) r.size = q := by
  have hhl := bytesOf_length h
  refine ⟨?_, ?_, ?_⟩
  · have := ib_at r 36 (bytesOf h) (bytesOf q) hr hn
    rw [hhl] at this
    exact this
  · apply bytesOf_inj
    rw [bytesOf_extract, hr, List.drop_zero, List.take_append_of_le_length (by omega), List.take_of_length_le (by omega)]
  · apply bytesOf_inj
    rw [bytesOf_extract, List.take_of_length_le (by rw [bytesOf_length]; exact Nat.le_refl _), hr, List.drop_append, List.drop_of_length_le (by omega), hhl, show h.size + 1 - h.size = 1 by omega]
    rfl

/-- each sign twice -/
def dbl (D : List Nat) : List Nat := D.flatMap fun c => if c = 36 then [36, 36] else [c]
theorem dbl_app (a b : List Nat) : dbl (a ++ b) = dbl a ++ dbl b := List.flatMap_append
theorem dbl_lt (D : List Nat) (h : ∀ x ∈ D, x < 256) : ∀ x ∈ dbl D, x < 256 := by
  intro x hx
  obtain ⟨c, hc, hx⟩ := List.mem_flatMap.1 hx
  split at hx
  · simp at hx; omega
  · simp at hx; subst hx; exact h _ hc
theorem dbl_none : ∀ (D : List Nat), 36 ∉ D → dbl D = D
  | [], _ => rfl
  | c :: r, h => by
    have h1 : c ≠ 36 := fun e => h (by simp [e])
    have h2 := dbl_none r (fun e => h (by simp [e]))
    show (if c = 36 then [36, 36] else [c]) ++ dbl r = c :: r
    rw [if_neg h1, h2]
    rfl
theorem dbl_len (D : List Nat) : (dbl D).length ≤ 2 * D.length := by
  induction D with
  | nil => simp [dbl]
  | cons c r ih =>
    show ((if c = 36 then [36, 36] else [c]) ++ dbl r).length ≤ _
    rw [List.length_append, List.length_cons]
    split <;> simp <;> omega
theorem dbl_take (D : List Nat) (i : Nat) : (dbl (D.take i)).length ≤ (dbl D).length := by
  conv => rhs; rw [← List.take_append_drop i D]
  rw [dbl_app, List.length_append]
  omega

/-- one text, or none -/
def oneP (a : ByteArray) : List Pc := if a = .empty then [] else [(a, -1)]
theorem empty_app (a : ByteArray) : ByteArray.empty ++ a = a := by
  apply bytesOf_inj; rw [bytesOf_append]; rfl
theorem app_empty (a : ByteArray) : a ++ ByteArray.empty = a := by
  apply bytesOf_inj; rw [bytesOf_append]; simp [bytesOf]
theorem app_ne {a b : ByteArray} (h : a ≠ .empty) : a ++ b ≠ .empty := by
  intro e
  have := congrArg ByteArray.size e
  rw [ByteArray.size_append, ByteArray.size_empty] at this
  exact h (empty_of_size (by omega))
theorem addText_oneP (a s : ByteArray) : addText (oneP a) s = oneP (a ++ s) := by
  by_cases ha : a = .empty
  · subst ha
    rw [empty_app]
    by_cases hs : s = .empty
    · subst hs
      simp [oneP, addText]
    · simp [oneP, addText, hs]
  · have := addText_on [] a s
    simp only [List.nil_append] at this
    rw [oneP, if_neg ha, oneP, if_neg (app_ne ha), this]

theorem split36 : ∀ (D : List Nat), 36 ∈ D → ∃ H R, D = H ++ 36 :: R ∧ 36 ∉ H
  | [], h => by simp at h
  | c :: r, h => by
    by_cases hc : c = 36
    · exact ⟨[], r, by simp [hc], by simp⟩
    · obtain ⟨H, R, e, hn⟩ := split36 r (by simpa [show ¬ 36 = c from fun e => hc e.symm] using h)
      exact ⟨c :: H, R, by simp [e], by simp [hn, show ¬ 36 = c from fun e => hc e.symm]⟩

theorem plain_runs (L T : Nat) : ∀ (n : Nat) (D : List Nat), D.length ≤ n → (∀ x ∈ D, x < 256) → ∀ acc : ByteArray, Runs L T (strOf (dbl D)) (oneP acc) (some (oneP (acc ++ strOf D))) 0
  | 0, D, hl, hx, acc => by
    have : D = [] := List.eq_nil_of_length_eq_zero (by omega)
    subst this
    exact Runs.done _ _ _ (ib_none _ _ (by simp [dbl, strOf, bytesOf])) (addText_oneP _ _)
  | n + 1, D, hl, hx, acc => by
    by_cases h : 36 ∈ D
    · obtain ⟨H, R, rfl, hn⟩ := split36 D h
      have hH : ∀ x ∈ H, x < 256 := fun x h => hx x (by simp [h])
      have hR : ∀ x ∈ R, x < 256 := fun x h => hx x (by simp [h])
      have ih := plain_runs L T n R (by simp at hl; omega) hR (acc ++ strOf H ++ dollar)
      have e1 : bytesOf (strOf H) = H := bytesOf_strOf H hH
      have e2 : bytesOf (strOf (dbl R)) = dbl R := bytesOf_strOf _ (dbl_lt R hR)
      have e3 : bytesOf (strOf (dbl (H ++ 36 :: R))) = bytesOf (strOf H) ++ 36 :: 36 :: bytesOf (strOf (dbl R)) := by
        rw [bytesOf_strOf _ (dbl_lt _ hx), e1, e2, dbl_app, dbl_none H hn]
        rfl
      refine Runs.sign' _ (strOf H) (strOf (dbl R)) _ _ _ e3 (by rw [e1]; exact hn) ?_
      rw [addText_oneP, addText_oneP]
      have e4 : acc ++ strOf H ++ dollar ++ strOf R = acc ++ strOf (H ++ 36 :: R) := by
        apply bytesOf_inj
        simp only [bytesOf_append, e1, bytesOf_strOf R hR, bytesOf_strOf _ hx, show bytesOf dollar = [36] from rfl, List.append_assoc, List.cons_append, List.nil_append]
      rw [e4] at ih
      exact ih
    · rw [dbl_none D h]
      exact Runs.done _ _ _ (ib_none _ _ (by rw [bytesOf_strOf D hx]; exact h)) (addText_oneP _ _)

theorem plain_runs0 (s : ByteArray) (T : Nat) : Runs 0 T (strOf (dbl (bytesOf s))) [] (some (oneP s)) 0 := by
  have := plain_runs 0 T _ (bytesOf s) (Nat.le_refl _) (bytesOf_lt s) .empty
  rw [empty_app, strOf_bytesOf] at this
  exact this

end Go.Proofs.Ytekgoldkcmehcaa
