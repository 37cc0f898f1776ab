/- Plain laws of templates: a group's number, in brackets or not. -/
import Derived.Test.YtekgoldkcmehcaaTplQ
import Derived.Test.YtekgoldkcmehcaaTplW6
namespace Go.Proofs.Ytekgoldkcmehcaa
set_option linter.unusedVariables false

theorem decs_dig (n : Nat) : ∀ x ∈ decs n, isDg x = true := by
  induction n using Nat.strongRecOn with
  | _ n ih =>
  intro x hx
  rw [decs] at hx
  split at hx
  · simp at hx
    subst hx
    simp [isDg]
    omega
  · rcases List.mem_append.1 hx with h | h
    · exact ih _ (by omega) x h
    · simp at h
      subst h
      simp [isDg]
      omega
theorem decs_val (n : Nat) : dval (decs n) = n := by
  induction n using Nat.strongRecOn with
  | _ n ih =>
  rw [decs]
  split
  · simp [dval]
  · have h1 := ih (n / 10) (by omega)
    unfold dval at h1 ⊢
    rw [List.foldl_append, h1]
    simp
    omega
theorem decs_lenk (k : Nat) : ∀ n, n < 10 ^ (k + 1) → (decs n).length ≤ k + 1 := by
  induction k with
  | zero => intro n h; rw [decs, if_pos (by simpa using h)]; simp
  | succ k ih =>
    intro n h
    rw [decs]
    split
    · simp
    · have := ih (n / 10) (by rw [Nat.pow_succ] at h; omega)
      rw [List.length_append]
      simp
      omega
theorem decs_len4 (n : Nat) (h : n ≤ 1023) : (decs n).length ≤ 4 := decs_lenk 3 n (by omega)
theorem decs_ne (n : Nat) : 0 < (decs n).length := by
  rw [decs]
  split <;> simp

theorem tw_all {p : Nat → Bool} : ∀ (X B : List Nat), (∀ x ∈ X, p x = true) → (∀ b, B.head? = some b → p b = false) → (X ++ B).takeWhile p = X
  | [], [], _, _ => rfl
  | [], b :: r, _, h => by
    have := h b rfl
    simp [this]
  | x :: r, B, h, hb => by
    have h1 := h x (by simp)
    rw [List.cons_append, List.takeWhile_cons, if_pos h1, tw_all r B (fun y hy => h y (by simp [hy])) hb]
theorem dgs_app (X B : List Nat) (hx : ∀ x ∈ X, isDg x = true) (hl : X.length ≤ 4) (hb : ∀ b, B.head? = some b → isDg b = false) : dgs (X ++ B) = X := by
  unfold dgs
  rw [List.take_append, List.take_of_length_le hl]
  refine tw_all X _ hx (fun b h => ?_)
  refine hb b ?_
  cases B with
  | nil => simp at h
  | cons c r =>
    cases hk : 4 - X.length with
    | zero => rw [hk] at h; simp at h
    | succ k => rw [hk] at h; simpa using h

/-- what comes behind a group -/
theorem bytes_dec (n : Nat) : bytesOf (strOf (decs n)) = decs n := bytesOf_strOf _ fun x hx => by
  have := decs_dig n x hx
  simp [isDg] at this
  omega

def numP (n : Nat) (b : ByteArray) : List Pc := addText [(.empty, (n : Int))] b

theorem dec_head (n : Nat) (B : List Nat) : (decs n ++ B).head? ≠ some 36 := by
  have h1 := decs_ne n
  have h2 := decs_dig n
  cases h : decs n with
  | nil => rw [h] at h1; simp at h1
  | cons c r =>
    have := h2 c (by rw [h]; simp)
    intro e
    simp at e
    subst e
    simp [isDg] at this

theorem grp1 (n : Nat) (hn : n ≤ 1023) (q b : ByteArray) (hq : bytesOf q = decs n ++ bytesOf b) (hb : ∀ c, (bytesOf b).head? = some c → isDg c = false) : GrpIs q (decs n).length n := by
  have e : dgs (bytesOf q) = decs n := by rw [hq]; exact dgs_app _ _ (decs_dig n) (decs_len4 n hn) hb
  exact .inl ⟨by rw [e], decs_ne n, by rw [e]; exact decs_val n⟩

theorem grp2 (n : Nat) (hn : n ≤ 1023) (q b : ByteArray) (hq : bytesOf q = 123 :: (decs n ++ 125 :: bytesOf b)) : GrpIs q ((decs n).length + 2) n := by
  have hd := decs_dig n
  have h4 := decs_len4 n hn
  have hsz : (strOf (decs n)).size = (decs n).length := strOf_size _
  have e : dgs (bytesOf q) = [] := by rw [hq]; exact dgs_app [] _ (by simp) (by simp) (by simp [isDg])
  have hn125 : 125 ∉ (123 :: decs n) := by
    intro h
    rcases List.mem_cons.1 h with h | h
    · simp at h
    · have := hd _ h; simp [isDg] at this
  have hi := ib_at q 125 (123 :: decs n) (bytesOf b) (by rw [hq]; rfl) hn125
  have ha : bytesOf (q.extract 0 (123 :: decs n).length) = 123 :: decs n := by
    rw [bytesOf_extract, hq, List.drop_zero, show (123 :: (decs n ++ 125 :: bytesOf b)) = (123 :: decs n) ++ 125 :: bytesOf b from rfl, List.take_append_of_le_length (Nat.le_refl _), List.take_of_length_le (Nat.le_refl _)]
  have hal : (q.extract 0 (123 :: decs n).length).size = (decs n).length + 1 := by rw [← bytesOf_length, ha]; rfl
  have ht : (q.extract 0 (123 :: decs n).length).extract 1 (q.extract 0 (123 :: decs n).length).size = strOf (decs n) := by
    apply bytesOf_inj
    rw [bytesOf_extract, ha, bytes_dec, List.take_of_length_le (by rw [hal]; simp)]
    rfl
  have e2 : dgs (bytesOf (strOf (decs n))) = decs n := by
    have := dgs_app (decs n) [] hd h4 (by simp)
    rw [List.append_nil] at this
    rw [bytes_dec, this]
  refine .inr ⟨by rw [e]; rfl, (123 :: decs n).length, _, strOf (decs n), hi, rfl, pre1_true _ 123 (decs n) ha, by rw [hal]; omega, ht, ?_, by rw [hsz]; omega, by rw [e2, hsz], by rw [e2]; exact decs_val n, by rw [hsz]⟩
  intro h
  have := congrArg ByteArray.size h
  rw [hsz, ByteArray.size_empty] at this
  have := decs_ne n
  omega

/-- both ways to name a group run alike -/
theorem num_runs (L n : Nat) (hn : n ≤ 1023) (s q b : ByteArray) (k : Nat) (hs : bytesOf s = 36 :: bytesOf q) (hq : ∃ X, bytesOf q = X ++ bytesOf b ∧ X.length = k) (hp : (bytesOf q).head? ≠ some 36) (hg : GrpIs q k n) (hk : 0 < k) (hb : 36 ∉ bytesOf b) :
    (n < L → Runs L s.size s [] (some (numP n b)) 0) ∧ (L ≤ n → Runs L s.size s [] none 0) := by
  obtain ⟨X, hX, hXl⟩ := hq
  obtain ⟨e1, e2, e3⟩ := split_num (r := s) (h := .empty) (q := q) hs (by simp [bytesOf])
  have hl := congrArg List.length hX
  rw [List.length_append, bytesOf_length, bytesOf_length] at hl
  have hsl := congrArg List.length hs
  rw [List.length_cons, bytesOf_length, bytesOf_length] at hsl
  have hq2 : q.extract k q.size = b := by
    apply bytesOf_inj
    rw [bytesOf_extract, List.take_of_length_le (by rw [bytesOf_length]; exact Nat.le_refl _), hX, List.drop_append, List.drop_of_length_le (by omega), hXl, Nat.sub_self]
    rfl
  refine ⟨fun h => ?_, fun h => ?_⟩
  · exact Runs.num _ _ _ .empty q b [] k n _ _ e1 e2 e3 (pre1_false _ _ hp) hg hk (by omega) (by omega) h hq2 addText_nil0 (Runs.done _ _ _ (ib_none _ _ hb) rfl)
  · exact Runs.bad _ _ _ .empty q [] k n _ e1 e2 e3 (pre1_false _ _ hp) hg hk (by omega) h addText_nil0 (by omega)

theorem text1 (n : Nat) (b : ByteArray) : ∃ q, bytesOf ((⟨#[36]⟩ : ByteArray) ++ strOf (decs n) ++ b) = 36 :: bytesOf q ∧ bytesOf q = decs n ++ bytesOf b := by
  refine ⟨strOf (decs n) ++ b, ?_, ?_⟩
  · simp only [bytesOf_append, List.append_assoc]
    rfl
  · rw [bytesOf_append, bytes_dec]
theorem text2 (n : Nat) (b : ByteArray) : ∃ q, bytesOf ((⟨#[36, 123]⟩ : ByteArray) ++ strOf (decs n) ++ (⟨#[125]⟩ : ByteArray) ++ b) = 36 :: bytesOf q ∧ bytesOf q = 123 :: (decs n ++ 125 :: bytesOf b) := by
  refine ⟨(⟨#[123]⟩ : ByteArray) ++ strOf (decs n) ++ (⟨#[125]⟩ : ByteArray) ++ b, ?_, ?_⟩
  · simp only [bytesOf_append, List.append_assoc]
    rfl
  · simp only [bytesOf_append, bytes_dec, List.append_assoc]
    rfl

theorem runs1 (L n : Nat) (hn : n ≤ 1023) (b s : ByteArray) (hs : (⟨#[36]⟩ : ByteArray) ++ strOf (decs n) ++ b = s) (hb : 36 ∉ bytesOf b) (hd : ∀ c, (bytesOf b).head? = some c → isDg c = false) :
    (n < L → Runs L s.size s [] (some (numP n b)) 0) ∧ (L ≤ n → Runs L s.size s [] none 0) := by
  subst hs
  obtain ⟨q, h1, h2⟩ := text1 n b
  exact num_runs L n hn _ q b _ h1 ⟨_, h2, rfl⟩ (by rw [h2]; exact dec_head n _) (grp1 n hn q b h2 hd) (decs_ne n) hb
theorem runs2 (L n : Nat) (hn : n ≤ 1023) (b s : ByteArray) (hs : (⟨#[36, 123]⟩ : ByteArray) ++ strOf (decs n) ++ (⟨#[125]⟩ : ByteArray) ++ b = s) (hb : 36 ∉ bytesOf b) :
    (n < L → Runs L s.size s [] (some (numP n b)) 0) ∧ (L ≤ n → Runs L s.size s [] none 0) := by
  subst hs
  obtain ⟨q, h1, h2⟩ := text2 n b
  exact num_runs L n hn _ q b _ h1 ⟨123 :: (decs n ++ [125]), by rw [h2]; simp, by simp⟩ (by rw [h2]; simp) (grp2 n hn q b h2) (by omega) hb

end Go.Proofs.Ytekgoldkcmehcaa
