/- What an unpacker does with bytes laid out as they are, plain. -/
import Derived.Test.YtgjcnembeebjfaaGInM
import Derived.Test.YtgjcnembeebjfaaInfW3
namespace Go.Proofs.Ytgjcnembeebjfaa
open Go.RowKit
set_option linter.unusedVariables false

theorem getD_at {pre l : List Nat} {s : ByteArray} (h : bytesOf s = pre ++ l) (i : Nat) : (bytesOf s).getD (pre.length + i) 0 = l.getD i 0 := by
  rw [h]
  simp only [List.getD]
  rw [List.getElem?_append_right (by omega)]
  congr 2
  omega

theorem block_stored (F : Nat) (s : ByteArray) (m p : Nat) (pre x rest out : List Nat) (last : Bool) (lo hi : Nat) (hs : bytesOf s = pre ++ (last.toNat :: lo :: hi :: (255 - lo) :: (255 - hi) :: (x ++ rest))) (hp : pre.length = p)
    (hlo : lo < 256) (hhi : hi < 256) (hx : x.length = lo + 256 * hi) (hm : out.length + x.length ≤ m) :
    blockU F s m ⟨8 * p, out, 0⟩ = (last, ⟨8 * (p + 5 + x.length), out ++ x, 0⟩) := by
  have hsz : s.size = p + 5 + x.length + rest.length := by
    have := congrArg List.length hs
    rw [bytesOf_length] at this
    simp at this
    omega
  have hd : (strBits s).drop (8 * p) = bits8 last.toNat ++ bytesBits (lo :: hi :: (255 - lo) :: (255 - hi) :: (x ++ rest)) := by
    rw [strBits_drop8, hs, List.drop_append_of_le_length (by omega), List.drop_of_length_le (by omega)]
    rfl
  have e1 : peekNum s (8 * p) 1 = last.toNat := by
    unfold peekNum
    rw [hd]
    cases last <;> rfl
  have e2 : peekNum s (8 * p + 1) 2 = 0 := by
    unfold peekNum
    rw [← List.drop_drop, hd]
    cases last <;> rfl
  have t1 : takeU 1 s m ⟨8 * p, out, 0⟩ = (last.toNat, ⟨8 * p + 1, out, 0⟩) := by
    unfold takeU
    rw [if_neg (by simp), if_pos (by show 8 * p + 1 ≤ _; omega), e1]
  have t2 : takeU 2 s m ⟨8 * p + 1, out, 0⟩ = (0, ⟨8 * p + 3, out, 0⟩) := by
    unfold takeU
    rw [if_neg (by simp), if_pos (by show 8 * p + 1 + 2 ≤ _; omega), e2]
  have t3 : storedU s m ⟨8 * p + 3, out, 0⟩ = ((), ⟨8 * (p + 5 + x.length), out ++ x, 0⟩) := by
    have g := getD_at hs
    rw [hp] at g
    have g1 := g 1
    have g2 := g 2
    have g3 := g 3
    have g4 := g 4
    have h := stored_eq s m ⟨8 * p + 3, out, 0⟩ rfl
    have ha : (8 * p + 3 + 7) / 8 = p + 1 := by omega
    simp only [ha] at h
    rw [if_pos (by omega), if_pos (by omega), g1, show p + 1 + 1 = p + 2 from rfl, g2, show p + 1 + 2 = p + 3 from rfl, g3, show p + 1 + 3 = p + 4 from rfl, g4] at h
    simp only [List.getD_cons_succ, List.getD_cons_zero] at h
    rw [← hx, show 255 - lo + 256 * (255 - hi) = 65535 - x.length by omega] at h
    unfold storedEnd at h
    rw [if_neg (by rw [xor_ones _ (by omega)]; simp), if_neg (by omega), if_pos (by omega)] at h
    have hdr : ((bytesOf s).drop (p + 1 + 4)).take x.length = x := by
      rw [hs, show p + 1 + 4 = pre.length + 5 by omega, ← List.drop_drop, List.drop_left]
      show (x ++ rest).take x.length = x
      exact List.take_left
    rw [hdr] at h
    exact Prod.ext rfl (by rw [h])
  have t4 : (storedU.bind fun _ => errU.bind fun e => UM.ret (decide (last.toNat = 1) || e)) s m ⟨8 * p + 3, out, 0⟩ = (last, ⟨8 * (p + 5 + x.length), out ++ x, 0⟩) := by
    simp only [UM.bind, t3, errU, UM.ret]
    cases last <;> rfl
  unfold blockU
  simp only [UM.bind, t1, t2, errU]
  exact t4

/-- a block of bytes as they are -/
def storedOne (last : Bool) (x : List Nat) : List Nat := last.toNat :: (x.length % 256) :: (x.length / 256) :: (255 - x.length % 256) :: (255 - x.length / 256) :: x

/-- blocks, the last one marked -/
def layS : List (List Nat) → List Nat
  | [] => []
  | x :: r => storedOne (decide (r = [])) x ++ layS r

theorem unpack_stored (F : Nat) (s : ByteArray) (m : Nat) : ∀ (L : List (List Nat)), L ≠ [] → (∀ x ∈ L, x.length ≤ 65535) → ∀ (pre rest out : List Nat) (k : Nat), bytesOf s = pre ++ (layS L ++ rest) → out.length + L.flatten.length ≤ m → L.length ≤ k →
    unpackU F k s m ⟨8 * pre.length, out, 0⟩ = ((), ⟨8 * (pre.length + (layS L).length), out ++ L.flatten, 0⟩)
  | [], h, _, _, _, _, _, _, _, _ => absurd rfl h
  | x :: r, _, hl, pre, rest, out, k, hs, hm, hk => by
    obtain ⟨k, rfl⟩ : ∃ k', k = k' + 1 := ⟨k - 1, by simp at hk; omega⟩
    have hx := hl x (by simp)
    rw [List.flatten_cons, List.length_append] at hm
    have hb := block_stored F s m pre.length pre x (layS r ++ rest) out (decide (r = [])) (x.length % 256) (x.length / 256) (by rw [hs]; simp [layS, storedOne]) rfl (by omega) (by omega) (by omega) (by omega)
    rw [unpackU]
    simp only [UM.bind, hb]
    by_cases hr : r = []
    · subst hr
      rw [if_pos (by simp)]
      simp [UM.ret, layS, storedOne]
      omega
    · rw [if_neg (by simpa using hr)]
      have hlen : pre.length + 5 + x.length = (pre ++ storedOne (decide (r = [])) x).length := by simp [storedOne]; omega
      rw [hlen, unpack_stored F s m r hr (fun y hy => hl y (by simp [hy])) (pre ++ storedOne (decide (r = [])) x) rest (out ++ x) k (by rw [hs]; simp [layS]) (by rw [List.length_append]; omega) (by simp at hk; omega)]
      rw [List.append_assoc, List.flatten_cons]
      congr 2
      simp [layS]
      omega

theorem run_stored (F : Nat) (s : ByteArray) (m : Nat) (L : List (List Nat)) (h0 : L ≠ []) (hl : ∀ x ∈ L, x.length ≤ 65535) (hs : bytesOf s = layS L) (hm : L.flatten.length ≤ m) (hF : L.length ≤ F) : runU F s m = ⟨8 * s.size, L.flatten, 0⟩ := by
  have := unpack_stored F s m L h0 hl [] [] [] F (by simpa using hs) (by simpa using hm) hF
  show (unpackU F F s m ⟨8 * ([] : List Nat).length, [], 0⟩).2 = _
  rw [this, ← hs, bytesOf_length]
  simp

theorem layS_len : ∀ L : List (List Nat), (layS L).length = 5 * L.length + L.flatten.length
  | [] => rfl
  | x :: r => by
    rw [layS, List.length_append, layS_len r]
    simp [storedOne]
    omega

end Go.Proofs.Ytgjcnembeebjfaa
