/- Plain laws: strings as lists of bytes. No program. -/
import Derived.WalkKit
import Derived.Laws.DeepStrings4
namespace Go.Proofs.Ytekgoldkcmehcaa

def bytesOf (s : ByteArray) : List Nat := s.data.toList.map UInt8.toNat
def strOf (l : List Nat) : ByteArray := ⟨(l.map UInt8.ofNat).toArray⟩

theorem bytesOf_length (s : ByteArray) : (bytesOf s).length = s.size := by simp [bytesOf]
theorem strOf_size (l : List Nat) : (strOf l).size = l.length := by simp [strOf, ByteArray.size]
theorem bytesOf_lt (s : ByteArray) : ∀ x ∈ bytesOf s, x < 256 := by
  intro x hx
  obtain ⟨c, _, rfl⟩ := List.mem_map.1 hx
  exact c.toNat_lt
theorem bytesOf_strOf (l : List Nat) (h : ∀ x ∈ l, x < 256) : bytesOf (strOf l) = l := by
  simp only [bytesOf, strOf, List.map_map]
  conv => rhs; rw [← List.map_id l]
  apply List.map_congr_left
  intro x hx
  have := h x hx
  simp only [Function.comp, id, UInt8.toNat_ofNat']
  omega
theorem strOf_bytesOf (s : ByteArray) : strOf (bytesOf s) = s := by
  simp only [bytesOf, strOf, List.map_map]
  have : (UInt8.ofNat ∘ UInt8.toNat) = id := by funext c; simp
  rw [this]; simp
theorem bytesOf_inj {s t : ByteArray} (h : bytesOf s = bytesOf t) : s = t := by rw [← strOf_bytesOf s, h, strOf_bytesOf]
theorem bytesOf_extract (s : ByteArray) (a b : Nat) : bytesOf (s.extract a b) = ((bytesOf s).take b).drop a := by
  simp only [bytesOf, ByteArray.data_extract, Array.toList_extract, List.extract_eq_take_drop, List.map_take, List.map_drop]
  rw [List.drop_take]
theorem bytesOf_append (s t : ByteArray) : bytesOf (s ++ t) = bytesOf s ++ bytesOf t := by simp [bytesOf]
theorem bytesOf_get (s : ByteArray) (i : Nat) (h : i < s.size) : (s[i]'h).toNat = (bytesOf s)[i]'(by rw [bytesOf_length]; exact h) := by
  simp only [bytesOf, List.getElem_map, Array.getElem_toList]; rfl
theorem bytesOf_getD (s : ByteArray) (i : Nat) (h : i < s.size) : (s[i]'h).toNat = (bytesOf s).getD i 0 := by
  rw [bytesOf_get]
  simp [List.getD, bytesOf_length, h]
theorem str_toList (s : ByteArray) : s.toList = s.data.toList := by
  obtain ⟨⟨l⟩⟩ := s
  exact ByteArray.toList_mk l
theorem str_eq (a b : ByteArray) : (a.toList == b.toList) = decide (a = b) := by
  rw [str_toList, str_toList]
  by_cases h : a = b
  · subst h; simp
  · have : ¬ a.data.toList = b.data.toList := by
      intro e
      apply h
      obtain ⟨⟨l⟩⟩ := a
      obtain ⟨⟨m⟩⟩ := b
      simp only at e
      rw [e]
    rw [decide_eq_false h, beq_eq_false_iff_ne]
    exact this
theorem str_eq_bytes (a b : ByteArray) : (a.toList == b.toList) = decide (bytesOf a = bytesOf b) := by
  rw [str_eq]
  by_cases h : a = b
  · subst h; simp
  · have : ¬ bytesOf a = bytesOf b := fun e => h (bytesOf_inj e)
    rw [decide_eq_false h, decide_eq_false this]

end Go.Proofs.Ytekgoldkcmehcaa
