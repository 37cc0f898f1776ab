/- Plain: a file of parts of data alone is read back, and with a lower bound it is not. No program. -/
import Derived.Test.YtgjcnembeebjfaaGzQ
import Derived.Test.YtgjcnembeebjfaaGzJ
namespace Go.Proofs.Ytgjcnembeebjfaa
open Go
set_option linter.unusedVariables false

theorem partN_less {fu : Nat} {D : ByteArray} {M a a1 : Nat} {p : GPart} (h : partN fu D M a = .ok p a1) (m : Nat) (hm : m < p.data.size) : ∃ f, partN fu D m a = .bad 2 f := by
  cases e : headM D a with
  | bad c f =>
    rw [partN_bad e] at h
    cases h
  | ok q b =>
    rw [partN_ok e] at h ⊢
    have hd : p.data.size = (unpN fu D b M).out.length := by
      unfold tailN at h
      split at h
      · cases h
      · cases ht : takeM D 8 (b + ((unpN fu D b M).t + 7) / 8) with
        | bad c f =>
          rw [ht] at h
          cases h
        | ok t a2 =>
          rw [ht] at h
          simp only [RR.bind] at h
          split at h
          · split at h
            · simp only [RR.ok.injEq] at h
              rw [← h.1]
              exact strOf_size _
            · cases h
          · cases h
    have h2 : (unpN fu D b m).er = 2 := run_less fu _ m M (by rw [hd] at hm; exact hm)
    refine ⟨b + (unpN fu D b m).t / 8, ?_⟩
    unfold tailN
    rw [if_pos (by rw [h2]; decide), h2]

/-- parts of data alone -/
def dataP (ts : List ByteArray) : List GPart := ts.map fun d => { data := d }
def fileS (l : List GPart) (C : List Ch) : ByteArray := strOf (fileL l C)
theorem fileL_lt (l : List GPart) (C : List Ch) : ∀ x ∈ fileL l C, x < 256 := by
  intro x hx
  unfold fileL at hx
  rw [List.mem_flatMap] at hx
  obtain ⟨p, -, h⟩ := hx
  exact bytesOf_lt _ x h
theorem fileS_bytes (l : List GPart) (C : List Ch) : bytesOf (fileS l C) = fileL l C := bytesOf_strOf _ (fileL_lt l C)
theorem fileS_cons (p : GPart) (l : List GPart) (C : List Ch) : fileS (p :: l) C = partB p C ++ fileS l C := by
  apply bytesOf_inj
  rw [bytesOf_append, fileS_bytes, fileS_bytes]
  rfl
theorem fileS_nil (C : List Ch) : fileS [] C = .empty := rfl

/-- a part that is read anywhere as it is written -/
def Back (fu : Nat) (C : List Ch) (p : GPart) : Prop := 18 ≤ (partB p C).size ∧ ∀ x y m, p.data.size ≤ m → partN fu (x ++ partB p C ++ y) m x.size = .ok p (x.size + (partB p C).size)

theorem file_back (fu : Nat) (C : List Ch) : ∀ (l : List GPart) (x : ByteArray) (m g : Nat) (acc : List GPart), (∀ p ∈ l, Back fu C p) → (l.map fun p => p.data.size).sum ≤ m → acc.length + l.length ≤ 1024 → g + acc.length = 1026 → acc ++ l ≠ [] →
    ∃ e, readN fu (x ++ fileS l C) g m x.size acc = .ok (acc ++ l) e
  | [], x, m, g, acc, hb, hm, hl, hg, hne => by
    rw [List.append_nil] at *
    exact ⟨_, readN_end hne (by rw [fileS_nil, ByteArray.size_append]; exact Nat.le_refl _)⟩
  | p :: r, x, m, g, acc, hb, hm, hl, hg, hne => by
    obtain ⟨g', rfl⟩ : ∃ g', g = g' + 1 := ⟨g - 1, by omega⟩
    obtain ⟨h1, h2⟩ := hb p (by simp)
    rw [List.map_cons, List.sum_cons] at hm
    rw [List.length_cons] at hl
    have e : x ++ fileS (p :: r) C = x ++ partB p C ++ fileS r C := by rw [fileS_cons]; apply bytesOf_inj; simp only [bytesOf_append, List.append_assoc]
    obtain ⟨e', he⟩ := file_back fu C r (x ++ partB p C) (m - p.data.size) g' (acc ++ [p]) (fun q hq => hb q (by simp [hq])) (by omega) (by rw [List.length_append, List.length_singleton]; omega) (by rw [List.length_append, List.length_singleton]; omega) (by simp)
    refine ⟨e', ?_⟩
    rw [readN, if_pos (.inr (by rw [e]; simp only [ByteArray.size_append]; omega)), if_neg (by omega), e, h2 x (fileS r C) m (by omega), RR.bind]
    rw [ByteArray.size_append] at he
    rw [he]
    simp

theorem file_less (fu : Nat) (C : List Ch) : ∀ (l : List GPart) (x : ByteArray) (m g : Nat) (acc : List GPart), (∀ p ∈ l, Back fu C p) → m < (l.map fun p => p.data.size).sum → acc.length + l.length ≤ 1024 → g + acc.length = 1026 →
    ∃ f, readN fu (x ++ fileS l C) g m x.size acc = .bad 2 f
  | [], x, m, g, acc, hb, hm, hl, hg => by simp at hm
  | p :: r, x, m, g, acc, hb, hm, hl, hg => by
    obtain ⟨g', rfl⟩ : ∃ g', g = g' + 1 := ⟨g - 1, by omega⟩
    obtain ⟨h1, h2⟩ := hb p (by simp)
    rw [List.map_cons, List.sum_cons] at hm
    rw [List.length_cons] at hl
    have e : x ++ fileS (p :: r) C = x ++ partB p C ++ fileS r C := by rw [fileS_cons]; apply bytesOf_inj; simp only [bytesOf_append, List.append_assoc]
    by_cases hd : p.data.size ≤ m
    · obtain ⟨f, he⟩ := file_less fu C r (x ++ partB p C) (m - p.data.size) g' (acc ++ [p]) (fun q hq => hb q (by simp [hq])) (by omega) (by rw [List.length_append, List.length_singleton]; omega) (by rw [List.length_append, List.length_singleton]; omega)
      refine ⟨f, ?_⟩
      rw [readN, if_pos (.inr (by rw [e]; simp only [ByteArray.size_append]; omega)), if_neg (by omega), e, h2 x (fileS r C) m hd, RR.bind]
      rw [ByteArray.size_append] at he
      exact he
    · obtain ⟨f, he⟩ := partN_less (h2 x (fileS r C) p.data.size (Nat.le_refl _)) m (by omega)
      refine ⟨f, ?_⟩
      rw [readN, if_pos (.inr (by rw [e]; simp only [ByteArray.size_append]; omega)), if_neg (by omega), e, he]
      rfl

theorem partB_size (d : ByteArray) (C : List Ch) : (partB { data := d } C).size = 10 + ((packAll (bytesOf d) C).length + 7) / 8 + 8 := by
  unfold partB
  rw [hd2_data]
  rw [ByteArray.size_append, ByteArray.size_append, ByteArray.size_append, packed_size, strOf_size, strOf_size, lowL_len, lowL_len, H10_facts.1]
theorem data_back (fu : Nat) (C : List Ch) (d : ByteArray) (hd : d.size ≤ 1048576) (hfu : d.size + C.length + 1 ≤ fu) : Back fu C { data := d } :=
  ⟨by rw [partB_size]; omega, fun x y m hm => part_data fu x y d C m hm hd hfu⟩

theorem fileS_size (C : List Ch) : ∀ ts : List ByteArray, (fileS (dataP ts) C).size ≤ 183 * (ts.map ByteArray.size).sum + (200 + 175 * C.length) * ts.length
  | [] => Nat.zero_le _
  | d :: r => by
    have ih := fileS_size C r
    have h := packAll_len (bytesOf d) (bytesOf_lt d) C
    rw [bytesOf_length] at h
    have e : dataP (d :: r) = { data := d } :: dataP r := rfl
    rw [e, fileS_cons, ByteArray.size_append, partB_size, List.map_cons, List.sum_cons, List.length_cons]
    have e2 : (200 + 175 * C.length) * (r.length + 1) = (200 + 175 * C.length) * r.length + (200 + 175 * C.length) := by rw [Nat.mul_add, Nat.mul_one]
    rw [e2]
    omega

/-- what the law asks of the file -/
theorem bounds_plain (ts : List ByteArray) (hne : ts ≠ []) (hl : ts.length ≤ 20) (hz : (ts.map ByteArray.size).sum ≤ 1048576) :
    (fileS (dataP ts) []).size ≤ 200000000 ∧ ∃ fu, 8 * (fileS (dataP ts) []).size < fu ∧ (∃ e, readN fu (fileS (dataP ts) []) 1026 (ts.map ByteArray.size).sum 0 [] = .ok (dataP ts) e) ∧
      ∀ k, k < (ts.map ByteArray.size).sum → ∃ f, readN fu (fileS (dataP ts) []) 1026 k 0 [] = .bad 2 f := by
  have h1 := fileS_size [] ts
  rw [List.length_nil] at h1
  refine ⟨by omega, 2000000000, by omega, ?_⟩
  have hsum : ((dataP ts).map fun p => p.data.size).sum = (ts.map ByteArray.size).sum := by
    unfold dataP
    rw [List.map_map]
    rfl
  have hle : ∀ (l : List ByteArray) d, d ∈ l → d.size ≤ (l.map ByteArray.size).sum := by
    intro l
    induction l with
    | nil => simp
    | cons x r ih =>
      intro d hd
      rw [List.map_cons, List.sum_cons]
      rcases List.mem_cons.1 hd with rfl | h
      · omega
      · have := ih d h
        omega
  have hb : ∀ p ∈ dataP ts, Back 2000000000 [] p := by
    intro p hp
    unfold dataP at hp
    rw [List.mem_map] at hp
    obtain ⟨d, hd, rfl⟩ := hp
    have := hle ts d hd
    exact data_back _ _ d (by omega) (by rw [List.length_nil]; omega)
  have hlen : (dataP ts).length = ts.length := by unfold dataP; rw [List.length_map]
  constructor
  · have := file_back 2000000000 [] (dataP ts) .empty (ts.map ByteArray.size).sum 1026 [] hb (by omega) (by rw [hlen, List.length_nil]; omega) rfl (by rw [List.nil_append]; intro h; rw [h] at hlen; exact hne (List.eq_nil_of_length_eq_zero (by simpa using hlen.symm)))
    rw [empty_left, List.nil_append] at this
    exact this
  · intro k hk
    have := file_less 2000000000 [] (dataP ts) .empty k 1026 [] hb (by omega) (by rw [hlen, List.length_nil]; omega) rfl
    rw [empty_left] at this
    exact this

end Go.Proofs.Ytgjcnembeebjfaa
