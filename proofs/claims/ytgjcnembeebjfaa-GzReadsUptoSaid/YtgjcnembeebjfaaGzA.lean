/- Walks over package gz: Sum. Walks over package gz: number. Plain: files of packed parts, as the code reads them. No program. Walks over package gz: the reader's methods. Walks over package gz: the reader's text and extra. Walks over package gz: low. -/
import Derived.Test.YtgjcnembeebjfaaBase
import Derived.Test.YtgjcnembeebjfaaGFa
import Derived.Deep.DeepCutAuto
import Derived.Laws.Closers25b
import Derived.Test.YtgjcnembeebjfaaGInM
import Derived.Lib.Bytealg
import Derived.Lib.IndexLaws
import Derived.Lib.Walk
import Derived.BigQuiet
import Derived.StillTailTactics

namespace Go.Proofs.Ytgjcnembeebjfaa
open Go.RowKit
set_option linter.unusedVariables false

/-- one step of the sum, as the code takes it -/
def crc1 (v : Int) : Int := bits .xor .u32 (v / 2) (bits .and .u32 3988292384 (-bits .and .u32 v 1 % 4294967296))
def crcK : Nat → Int → Int
  | 0, v => v
  | k + 1, v => crc1 (crcK k v)
def crcTo (D : List Nat) : Int := D.foldl (fun (v : Int) (b : Nat) => crcK 8 (bits .xor .u32 v (b : Int))) 4294967295
/-- what Sum answers -/
def sumOf (D : List Nat) : Int := bits .xor .u32 IntKind.u32.max (crcTo D)

theorem sumOf_in (D : List Nat) : 0 ≤ sumOf D ∧ sumOf D ≤ 4294967295 := ⟨bits_lo_u32 _ _ _, bits_hi_u32 _ _ _⟩
theorem crcTo_snoc (D : List Nat) (b : Nat) : crcTo (D ++ [b]) = crcK 8 (bits .xor .u32 (crcTo D) (b : Int)) := by simp [crcTo]

set_option maxHeartbeats 1600000 in
set_option maxRecDepth 100000 in
theorem sum_any (s : ByteArray) (hs : s.size ≤ 1099511627776) (w : World) :
    Calls Try.prog 14 #[.string s] w fun e w' => e = .returned (.int .i64 (sumOf (bytesOf s))) ∧ w' = w := by
  have H0 : Hid ((4294967295 : Int) = crcTo ((bytesOf s).take 0)) := Lib.hid rfl
  go_enter Try.func14, Try.ntmps14
  go_wp2_with fail
  go_loopw [7, 3] (fun c x wx => ∃ (i : Nat) (v : Int), c = .int .i64 (i : Int) ∧ x = .int .u32 v ∧ i ≤ s.size ∧ 0 ≤ v ∧ v ≤ 4294967295 ∧ Hid (v = crcTo ((bytesOf s).take i)) ∧ wx = w) (fun c _ _ => s.size - (intOf c).toNat)
  case atStart => exact ⟨0, 4294967295, rfl, rfl, Nat.zero_le _, by decide, by decide, H0, rfl⟩
  case round =>
    obtain ⟨i, v, rfl, rfl, hi, hv0, hv1, HV, rfl⟩ := hrel
    clear H0
    by_cases h1 : i < s.size
    case pos =>
      have h1I : (i : Int) < (s.size : Int) := by omega
      have hx1 : IntKind.u32.wrap ((s[i]'h1).toNat : Int) = ((s[i]'h1).toNat : Int) := IntWalk.u32_in _ (by have := UInt8.toNat_lt (s[i]'h1); omega)
      have hl : i < (bytesOf s).length := by rw [bytesOf_length]; exact h1
      have HN : Hid (crcTo ((bytesOf s).take (i + 1)) = crcK 8 (bits .xor .u32 v ((s[i]'h1).toNat : Int))) := Lib.hid (by
        rw [List.take_succ_eq_append_getElem hl, crcTo_snoc, ← HV.out, bytesOf_getD s i h1]
        simp [List.getD, hl])
      go_upto_region 6 with fail
      have hb0 := bits_lo_u32 .xor v ((s[i]'h1).toNat : Int)
      have hb1 := bits_hi_u32 .xor v ((s[i]'h1).toNat : Int)
      generalize bits .xor .u32 v ((s[i]'h1).toNat : Int) = c0 at *
      clear hx1 hv0 hv1 HV hl
      have HC0 : Hid (c0 = crcK 0 c0) := Lib.hid rfl
      go_wp2_with fail
      go_loopw [16, 3] (fun c x wx => ∃ (j : Nat) (v : Int), c = .int .i64 (j : Int) ∧ x = .int .u32 v ∧ j ≤ 8 ∧ 0 ≤ v ∧ v ≤ 4294967295 ∧ Hid (v = crcK j c0) ∧ wx = wr) (fun c _ _ => 8 - (intOf c).toNat)
      case atStart => exact ⟨0, c0, rfl, rfl, Nat.zero_le _, hb0, hb1, HC0, rfl⟩
      case round =>
        obtain ⟨j, v, rfl, rfl, hj, hv0, hv1, HV, rfl⟩ := hrel
        clear HC0
        by_cases h2 : j < 8
        case pos =>
          have h2I : (j : Int) < 8 := by omega
          have HM : Hid (crc1 v = crcK (j + 1) c0) := Lib.hid (by rw [HV.out]; rfl)
          have h9a := bits_lo_u32 .xor (v / 2) (bits .and .u32 3988292384 (-bits .and .u32 v 1 % 4294967296))
          have h9b := bits_hi_u32 .xor (v / 2) (bits .and .u32 3988292384 (-bits .and .u32 v 1 % 4294967296))
          have H9 := Lib.hid (And.intro h9a h9b)
          clear HV h9a h9b
          go_upto_region 9 with fail
          have HE : Hid (bits .xor .u32 (v / 2) (bits .and .u32 3988292384 (-bits .and .u32 v 1 % 4294967296)) = crc1 v) := Lib.hid rfl
          generalize bits .xor .u32 (v / 2) (bits .and .u32 3988292384 (-bits .and .u32 v 1 % 4294967296)) = c1 at *
          go_wp2_with fail
          exact ⟨⟨j + 1, c1, by rw [Int.natCast_add]; rfl, rfl, h2, H9.out.1, H9.out.2, Lib.hid (by rw [HE.out, HM.out]), trivial⟩, by simp only [intOf]; omega⟩
        case neg =>
          obtain rfl : j = 8 := by omega
          have HZ : Hid (v = crcTo ((bytesOf s).take (i + 1))) := Lib.hid (by rw [HN.out]; exact HV.out)
          clear HV HN
          go_wp2_with fail
          exact ⟨⟨i + 1, v, by rw [Int.natCast_add]; rfl, rfl, h1, hv0, hv1, HZ, trivial⟩, by simp only [intOf]; omega⟩
    case neg =>
      have hnI : ¬ (i : Int) < (s.size : Int) := by omega
      have HF : Hid (bits .xor .u32 IntKind.u32.max v = sumOf (bytesOf s)) := Lib.hid (by
        have := HV.out
        rw [List.take_of_length_le (by rw [bytesOf_length]; omega)] at this
        rw [this]
        rfl)
      have h9a := bits_lo_u32 .xor IntKind.u32.max v
      have h9b := bits_hi_u32 .xor IntKind.u32.max v
      have hw : wrap64 (bits .xor .u32 IntKind.u32.max v) = bits .xor .u32 IntKind.u32.max v := IntWalk.wrap64_in _ (by omega)
      go_upto_region 11 with fail
      clear hw
      go_wp2_with fail
      exact bodyPost_ret (results_tmp rfl _ _ _) rfl ⟨by
        rw [← HF.out]
        exact congrArg _ (congrArg _ (IntWalk.wrap64_in _ (by omega))), rfl⟩

end Go.Proofs.Ytgjcnembeebjfaa

namespace Go.Proofs.Ytgjcnembeebjfaa
open Go.RowKit
set_option linter.unusedVariables false

/-- a number, its low byte first -/
def numL : List Nat → Nat
  | [] => 0
  | b :: r => b + numL r * 256

theorem numL_lt : ∀ l : List Nat, (∀ x ∈ l, x < 256) → numL l < 256 ^ l.length
  | [], _ => by simp [numL]
  | b :: r, h => by
    have h1 := numL_lt r (fun x hx => h x (by simp [hx]))
    have h2 := h b (by simp)
    rw [numL, List.length_cons, Nat.pow_succ]
    omega

theorem numL_drop (D : List Nat) (m : Nat) (h : m < D.length) : numL (D.drop m) = D.getD m 0 + numL (D.drop (m + 1)) * 256 := by
  rw [List.drop_eq_getElem_cons h, numL]
  simp [List.getD, h]

set_option maxHeartbeats 1600000 in
set_option maxRecDepth 100000 in
theorem number_any (s : ByteArray) (hs : s.size ≤ 7) (w : World) :
    Calls Try.prog 32 #[.string s] w fun e w' => e = .returned (.int .i64 ((numL (bytesOf s) : Nat) : Int)) ∧ w' = w := by
  have hD := bytesOf_length s
  have hlt := bytesOf_lt s
  have HB : Hid (∀ k, k ≤ s.size → numL ((bytesOf s).drop k) < 256 ^ (7 - k) ∧ numL ((bytesOf s).drop k) < 72057594037927936) := Lib.hid fun k hk => by
    have h1 := numL_lt ((bytesOf s).drop k) (fun x hx => hlt x (List.mem_of_mem_drop hx))
    rw [List.length_drop, hD] at h1
    have h2 : 256 ^ (s.size - k) ≤ 256 ^ (7 - k) := Nat.pow_le_pow_right (by decide) (by omega)
    have h3 : 256 ^ (7 - k) ≤ 256 ^ 7 := Nat.pow_le_pow_right (by decide) (by omega)
    have h4 : (256 : Nat) ^ 7 = 72057594037927936 := by decide
    omega
  have H0 : Hid (0 = numL ((bytesOf s).drop s.size)) := Lib.hid (by rw [← hD, List.drop_length]; rfl)
  clear hD hlt
  go_enter Try.func32, Try.ntmps32
  go_wp2_with fail
  go_loopw [4, 3] (fun c x wx => ∃ (k V : Nat) (iv : Int), c = .int .i64 iv ∧ iv = (k : Int) - 1 ∧ x = .int .i64 (V : Int) ∧ k ≤ s.size ∧ Hid (V = numL ((bytesOf s).drop k)) ∧ wx = w) (fun c _ _ => (intOf c + 1).toNat)
  case atStart => exact ⟨s.size, 0, (s.size : Int) - 1, rfl, rfl, rfl, Nat.le_refl _, H0, rfl⟩
  case round =>
    obtain ⟨k, V, iv, rfl, hiv, rfl, hk, HV, rfl⟩ := hrel
    clear H0
    cases k with
    | zero =>
      have hI : ¬ (0 : Int) ≤ iv := by omega
      obtain rfl : V = numL (bytesOf s) := by rw [HV.out, List.drop_zero]
      clear hiv HV
      go_wp2_with fail
      exact bodyPost_ret (results_tmp rfl _ _ _) rfl ⟨rfl, rfl⟩
    | succ m =>
      obtain rfl : iv = (m : Int) := by omega
      have hm : m < s.size := by omega
      have hVb : V < 72057594037927936 := by rw [HV.out]; exact (HB.out _ hk).2
      have hV2 : Hid (numL ((bytesOf s).drop m) = (s[m]'hm).toNat + V * 256) := Lib.hid (by rw [numL_drop _ m (by rw [bytesOf_length]; exact hm), bytesOf_getD s m hm, HV.out])
      have hV3 : numL ((bytesOf s).drop m) < 72057594037927936 := (HB.out m (by omega)).2
      have hx8 := UInt8.toNat_lt (s[m]'hm)
      have hj := or_i64_join' 8 (s[m]'hm).toNat V (by omega) (by have := hV2.out; omega)
      rw [← hV2.out] at hj
      have hsh : ((V * 2 ^ 8 : Nat) : Int) = (V : Int) * 256 := by omega
      have hw1 : wrap64 ((V : Int) * 256) = (V : Int) * 256 := IntWalk.wrap64_in _ (by have := hV2.out; omega)
      have hw2 : IntKind.i64.wrap ((s[m]'hm).toNat : Int) = ((s[m]'hm).toNat : Int) := IntWalk.i64_in _ (by omega)
      rw [hsh] at hj
      clear hsh hiv HV
      go_upto_region 4 with fail
      clear hw1 hw2 hj hV3 hV2 hVb hx8
      generalize hV' : numL ((bytesOf s).drop m) = V2 at *
      have HV2 := Lib.hid hV'.symm
      clear hV'
      go_wp2_with fail
      exact ⟨⟨m, V2, (m : Int) - 1, rfl, rfl, rfl, by omega, HV2, trivial⟩, by simp only [intOf]; omega⟩

end Go.Proofs.Ytgjcnembeebjfaa

namespace Go.Proofs.Ytgjcnembeebjfaa
open Go
set_option linter.unusedVariables false

/-- a part -/
structure GPart where
  name : ByteArray := .empty
  comment : ByteArray := .empty
  extra : ByteArray := .empty
  text : Bool := false
  headSum : Bool := false
  time : Int := 0
  more : Int := 0
  system : Int := 0
  data : ByteArray := .empty

def gpC (p : GPart) : List Value := [.string p.name, .string p.comment, .string p.extra, .bool p.text, .bool p.headSum, .int .i64 p.time, .int .i64 p.more, .int .i64 p.system, .string p.data]
def gpV (p : GPart) : Value := .agg (gpC p).toArray

/-- an answer and how far the reader has come, or what is wrong and where -/
inductive RR (α : Type) where
  | ok (x : α) (a : Nat)
  | bad (c f : Nat)
def RR.bind {α β : Type} (r : RR α) (g : α → Nat → RR β) : RR β :=
  match r with
  | .ok x a => g x a
  | .bad c f => .bad c f

def takeM (D : ByteArray) (n a : Nat) : RR ByteArray := if a + n ≤ D.size then .ok (D.extract a (a + n)) (a + n) else .bad 3 a
def textM (D : ByteArray) (a : Nat) : RR ByteArray :=
  match Lib.indexByte (D.extract a D.size).data.toList 0 with
  | .ofNat i => if 256 < i then .bad 2 a else .ok (D.extract a (a + i)) (a + i + 1)
  | .negSucc _ => .bad 3 a
def extraM (D : ByteArray) (a : Nat) : RR ByteArray :=
  (takeM D 2 a).bind fun x a1 => if a1 + numL (bytesOf x) ≤ D.size then .ok (D.extract a1 (a1 + numL (bytesOf x))) (a1 + numL (bytesOf x)) else .bad 3 a

def isM (s : ByteArray) : Bool := decide ((bytesOf s).take 2 = [31, 139])
def gB (s : ByteArray) (i : Nat) : Nat := (bytesOf s).getD i 0
def flag (s : ByteArray) (m : Int) : Bool := !(bits .and .u8 (gB s 3 : Int) m == 0)

def sumM (D : ByteArray) (a : Nat) (p : GPart) (b : Bool) (a4 : Nat) : RR GPart :=
  if b = true then (takeM D 2 a4).bind fun y a5 => if (numL (bytesOf y) : Int) = bits .and .i64 (sumOf (bytesOf (D.extract a a4))) 65535 then .ok p a5 else .bad 10 a4
  else .ok p a4
def restM (D : ByteArray) (a : Nat) (h : ByteArray) (a1 : Nat) : RR GPart :=
  (if flag h 4 = true then extraM D a1 else .ok .empty a1).bind fun x a2 =>
  (if flag h 8 = true then textM D a2 else .ok .empty a2).bind fun n a3 =>
  (if flag h 16 = true then textM D a3 else .ok .empty a3).bind fun k a4 =>
  sumM D a { name := n, comment := k, extra := x, text := flag h 1, headSum := flag h 2, time := numL (bytesOf (h.extract 4 8)), more := gB h 8, system := gB h 9 } (flag h 2) a4
def headM (D : ByteArray) (a : Nat) : RR GPart :=
  if isM (D.extract a D.size) = false then .bad 12 a else
  (takeM D 10 a).bind fun h a1 =>
  if gB h 2 ≠ 8 then .bad 13 (a + 2) else if flag h 224 = true then .bad 4 (a + 3) else restM D a h a1

def tailM (D : ByteArray) (p : GPart) (st : US) (a1 : Nat) : RR GPart :=
  if st.er ≠ 0 then .bad st.er (a1 + st.t / 8) else
  (takeM D 8 (a1 + (st.t + 7) / 8)).bind fun t a2 =>
  if (numL (bytesOf (t.extract 0 4)) : Int) ≠ sumOf st.out then .bad 10 (a1 + (st.t + 7) / 8)
  else if numL (bytesOf (t.extract 4 t.size)) ≠ st.out.length then .bad 11 (a1 + (st.t + 7) / 8 + 4)
  else .ok { p with data := strOf st.out } a2
def unpM (D : ByteArray) (a1 most : Nat) : US := runU (8 * D.size + 1) (D.extract a1 D.size) most
def partM (D : ByteArray) (most a : Nat) : RR GPart := (headM D a).bind fun p a1 => tailM D p (unpM D a1 most) a1

def readM (D : ByteArray) : Nat → Nat → Nat → List GPart → RR (List GPart)
  | 0, _, a, l => .ok l a
  | n + 1, most, a, l =>
    if l.length = 0 ∨ a < D.size then
      if l.length = 1024 then .bad 16 a
      else (partM D most a).bind fun p a' => readM D n (most - p.data.size) a' (l ++ [p])
    else .ok l a

/-! where the reader stands is inside -/
def RR.In {α : Type} (r : RR α) (lo hi : Nat) : Prop :=
  match r with
  | .ok _ a => lo ≤ a ∧ a ≤ hi
  | .bad c _ => c ≠ 0
theorem RR.In.bind {α β : Type} {r : RR α} {g : α → Nat → RR β} {lo hi : Nat} (h : r.In lo hi) (k : ∀ x a, r = .ok x a → lo ≤ a → a ≤ hi → (g x a).In lo hi) : (r.bind g).In lo hi := by
  cases r with
  | ok x a => exact k x a rfl h.1 h.2
  | bad c f => exact h
theorem RR.In.of_ok {α : Type} {x : α} {a lo hi : Nat} (h : (RR.ok x a).In lo hi) : lo ≤ a ∧ a ≤ hi := h
theorem RR.In.of_bad {α : Type} {c f lo hi : Nat} (h : (RR.bad c f : RR α).In lo hi) : c ≠ 0 := h
theorem RR.In.up {α : Type} {r : RR α} {lo lo' hi : Nat} (h : r.In lo hi) (hl : lo' ≤ lo) : r.In lo' hi := by
  cases r with
  | ok x a => exact ⟨Nat.le_trans hl h.1, h.2⟩
  | bad c f => exact h

theorem takeM_in (D : ByteArray) (n a : Nat) : (takeM D n a).In a D.size := by
  unfold takeM
  split
  · exact ⟨by omega, by omega⟩
  · exact (by decide : (3 : Nat) ≠ 0)
theorem takeM_ok {D : ByteArray} {n a a1 : Nat} {x : ByteArray} (h : takeM D n a = .ok x a1) : a + n ≤ D.size ∧ a1 = a + n ∧ x = D.extract a (a + n) ∧ x.size = n := by
  unfold takeM at h
  split at h
  · cases h
    refine ⟨by assumption, rfl, rfl, ?_⟩
    rw [ByteArray.size_extract]
    omega
  · cases h
theorem textM_in (D : ByteArray) (a : Nat) (ha : a ≤ D.size) : (textM D a).In a D.size := by
  unfold textM
  split
  · rename_i i hi
    split
    · exact (by decide : (2 : Nat) ≠ 0)
    · have := (List.getElem?_eq_some_iff.1 (Lib.indexByte_some (l := (D.extract a D.size).data.toList) (c := 0) (o := i) hi).1).1
      have h2 : (D.extract a D.size).data.toList.length = D.size - a := by
        simp
      exact ⟨by omega, by omega⟩
  · exact (by decide : (3 : Nat) ≠ 0)
theorem extraM_in (D : ByteArray) (a : Nat) : (extraM D a).In a D.size := by
  refine (takeM_in D 2 a).bind fun x a1 _ h1 h2 => ?_
  split
  · exact ⟨by omega, by omega⟩
  · exact (by decide : (3 : Nat) ≠ 0)
theorem sumM_in (D : ByteArray) (a : Nat) (p : GPart) (b : Bool) (a4 : Nat) (h : a4 ≤ D.size) : (sumM D a p b a4).In a4 D.size := by
  unfold sumM
  split
  · refine (takeM_in D 2 a4).bind fun y a5 _ h1 h2 => ?_
    split
    · exact ⟨h1, h2⟩
    · exact (by decide : (10 : Nat) ≠ 0)
  · exact ⟨Nat.le_refl _, h⟩
theorem restM_in (D : ByteArray) (a : Nat) (h : ByteArray) (a1 : Nat) (h1 : a1 ≤ D.size) : (restM D a h a1).In a1 D.size := by
  unfold restM
  have e1 : (if flag h 4 = true then extraM D a1 else .ok .empty a1).In a1 D.size := by
    split
    · exact extraM_in D a1
    · exact ⟨Nat.le_refl _, h1⟩
  refine e1.bind fun x a2 _ h2 h2' => ?_
  have e2 : (if flag h 8 = true then textM D a2 else .ok .empty a2).In a2 D.size := by
    split
    · exact textM_in D a2 h2'
    · exact ⟨Nat.le_refl _, h2'⟩
  refine (e2.up h2).bind fun n a3 _ h3 h3' => ?_
  have e3 : (if flag h 16 = true then textM D a3 else .ok .empty a3).In a3 D.size := by
    split
    · exact textM_in D a3 h3'
    · exact ⟨Nat.le_refl _, h3'⟩
  refine (e3.up h3).bind fun k a4 _ h4 h4' => ?_
  exact (sumM_in D a _ _ a4 h4').up h4
theorem headM_in (D : ByteArray) (a : Nat) : (headM D a).In (a + 10) D.size := by
  unfold headM
  split
  · exact (by decide : (12 : Nat) ≠ 0)
  · cases e : takeM D 10 a with
    | bad c f =>
      have := takeM_in D 10 a
      rw [e] at this
      exact this
    | ok h a1 =>
      obtain ⟨h1, rfl, -, -⟩ := takeM_ok e
      show RR.In (if gB h 2 ≠ 8 then _ else _) _ _
      split
      · exact (by decide : (13 : Nat) ≠ 0)
      · split
        · exact (by decide : (4 : Nat) ≠ 0)
        · exact restM_in D a h (a + 10) h1
theorem tailM_in (D : ByteArray) (p : GPart) (st : US) (a1 : Nat) : (tailM D p st a1).In (a1 + 8) D.size := by
  unfold tailM
  split
  · assumption
  · cases e : takeM D 8 (a1 + (st.t + 7) / 8) with
    | bad c f =>
      have := takeM_in D 8 (a1 + (st.t + 7) / 8)
      rw [e] at this
      exact this
    | ok h a2 =>
      obtain ⟨h1, rfl, -, -⟩ := takeM_ok e
      simp only [RR.bind]
      generalize (numL (bytesOf (h.extract 0 4)) : Int) = x1
      generalize sumOf st.out = x2
      generalize numL (bytesOf (h.extract 4 h.size)) = x3
      by_cases e1 : x1 = x2
      · rw [if_neg (by simpa using e1)]
        by_cases e2 : x3 = st.out.length
        · rw [if_neg (by simpa using e2)]
          exact ⟨by omega, by omega⟩
        · rw [if_pos e2]
          exact (by decide : (11 : Nat) ≠ 0)
      · rw [if_pos e1]
        exact (by decide : (10 : Nat) ≠ 0)
theorem partM_in (D : ByteArray) (most a : Nat) : (partM D most a).In (a + 18) D.size := by
  unfold partM
  cases e : headM D a with
  | bad c f =>
    have := headM_in D a
    rw [e] at this
    exact this
  | ok p a1 =>
    have h1 := headM_in D a
    rw [e] at h1
    have h2 := (RR.In.of_ok h1).1
    simp only [RR.bind]
    generalize unpM D a1 most = st
    exact (tailM_in D p st a1).up (by omega)

end Go.Proofs.Ytgjcnembeebjfaa

namespace Go.Proofs.Ytgjcnembeebjfaa
open Go.RowKit
set_option linter.unusedVariables false

/-- the reader's box -/
def RX (b : Nat) (D : ByteArray) (a c f : Nat) (w : World) : Prop := w.heap[b]? = some (.cells #[.string D, .int .i64 (a : Int), .int .i64 (c : Int), .int .i64 (f : Int)] 59 (0, 0))

theorem RX.cells {b : Nat} {D : ByteArray} {a c f : Nat} {w : World} (h : RX b D a c f w) :
    w.cell? ⟨b, 0, none⟩ = some (.string D) ∧ w.cell? ⟨b, 1, none⟩ = some (.int .i64 (a : Int)) ∧ w.cell? ⟨b, 2, none⟩ = some (.int .i64 (c : Int)) ∧ w.cell? ⟨b, 3, none⟩ = some (.int .i64 (f : Int)) ∧
      w.frozen? ⟨b, 1, none⟩ = false ∧ w.frozen? ⟨b, 2, none⟩ = false ∧ w.frozen? ⟨b, 3, none⟩ = false :=
  ⟨cellOf h 0 rfl, cellOf h 1 rfl, cellOf h 2 rfl, cellOf h 3 rfl, frozenOf h 1, frozenOf h 2, frozenOf h 3⟩
theorem RX.mut {b : Nat} {D : ByteArray} {a c f : Nat} {w w' : World} {S : List Nat} (h : RX b D a c f w) (m : Mut S w w') (hb : b ∉ S) : RX b D a c f w' := m.get h hb
theorem RX.drewN {b : Nat} {D : ByteArray} {a c f : Nat} {w : World} (h : RX b D a c f w) (n : Nat) : RX b D a c f (w.drewN n) := h
theorem RX.at {b : Nat} {D : ByteArray} {a a' c f : Nat} {w : World} (h : RX b D a c f w) : RX b D a' c f (w.setCell ⟨b, 1, none⟩ (.int .i64 (a' : Int))) := by
  exact (heap_set h 1 (.int .i64 (a' : Int))).trans rfl
theorem RX.fault {b : Nat} {D : ByteArray} {a c f c' f' : Nat} {w : World} (h : RX b D a c f w) : RX b D a c' f' ((w.setCell ⟨b, 2, none⟩ (.int .i64 (c' : Int))).setCell ⟨b, 3, none⟩ (.int .i64 (f' : Int))) := by
  exact (heap_set (heap_set h 2 (.int .i64 (c' : Int))) 3 (.int .i64 (f' : Int))).trans rfl
theorem RX.lt {b : Nat} {D : ByteArray} {a c f : Nat} {w : World} (h : RX b D a c f w) : b < w.heap.size := lt_of_heap h

set_option maxRecDepth 100000 in
theorem gz_index2_any (s : ByteArray) (c : Int) (w : World) :
    Calls Try.prog 55 #[.string s, .int .u8 c] w fun e w' => e = .returned (.int .i64 (Lib.indexByte s.data.toList c.toNat.toUInt8)) ∧ w' = w := by
  go_enter Try.func55, Try.ntmps55
  go_wp2
  rw [run_callFunc_extern Try.func79 (by kernel_rfl) (by kernel_rfl) (by kernel_rfl) (e := Extern.BytealgIndexByte.indexByte) (by kernel_rfl), Lib.run_indexByteString]
  simp only [Result.andThen]
  rw [Oper.upon_value]
  go_wp2
  go_ret
  exact ⟨rfl, rfl⟩

set_option maxRecDepth 100000 in
theorem gz_index_any (s : ByteArray) (c : Int) (w : World) :
    Calls Try.prog 36 #[.string s, .int .u8 c] w fun e w' => e = .returned (.int .i64 (Lib.indexByte s.data.toList c.toNat.toUInt8)) ∧ w' = w := by
  go_enter Try.func36, Try.ntmps36
  go_wp2_with (refine (gz_index2_any _ _ _).mono ?_; rintro e w' ⟨rfl, rfl⟩)
  go_ret
  exact ⟨rfl, rfl⟩

theorem isM_eq (s : ByteArray) (h : 2 ≤ s.size) : ((s.extract 0 2).toList == (⟨#[31, 139]⟩ : ByteArray).toList) = isM s := by
  rw [str_eq_bytes, bytesOf_extract, List.drop_zero]
  rfl

set_option maxRecDepth 100000 in
theorem gz_is_any (s : ByteArray) (q : Bool) (hq : isM s = q) (w : World) :
    Calls Try.prog 13 #[.string s] w fun e w' => e = .returned (.bool q) ∧ w' = w := by
  have H2 : Hid (∀ w, Calls Try.prog 35 #[.string s, .string ⟨#[31, 139]⟩] w fun e w' => e = .returned (.bool q) ∧ w' = w) := Lib.hid fun w => by
    by_cases h : 2 ≤ s.size
    · have h1 : (2 : Int) ≤ (s.size : Int) := by omega
      have hp := isM_eq s h
      rw [hq] at hp
      clear hq
      go_enter Try.func35, Try.ntmps35
      go_wp2
      all_goals (go_ret; exact ⟨by simp_all, rfl⟩)
    · have h1 : ¬ (2 : Int) ≤ (s.size : Int) := by omega
      have : q = false := by
        rw [← hq, isM, decide_eq_false_iff_not]
        intro e
        have := congrArg List.length e
        rw [List.length_take, bytesOf_length] at this
        simp at this
        omega
      subst this
      clear hq
      go_enter Try.func35, Try.ntmps35
      go_wp2
      go_ret
      exact ⟨rfl, rfl⟩
  have H1 : Hid (∀ w, Calls Try.prog 21 #[.string s, .string ⟨#[31, 139]⟩] w fun e w' => e = .returned (.bool q) ∧ w' = w) := Lib.hid fun w => by
    clear hq
    go_enter Try.func21, Try.ntmps21
    go_wp2_with (refine (H2.out _).mono ?_; rintro e w' ⟨rfl, rfl⟩)
    go_ret
    exact ⟨rfl, rfl⟩
  clear hq H2
  go_enter Try.func13, Try.ntmps13
  go_wp2_with (refine (H1.out _).mono ?_; rintro e w' ⟨rfl, rfl⟩)
  go_ret
  exact ⟨rfl, rfl⟩

set_option maxRecDepth 100000 in
theorem gz_fail_no (b : Nat) (D : ByteArray) (a f : Nat) (e p : Int) (w : World) (h : RX b D a 0 f w) :
    Calls Try.prog 18 #[.pointer (some ⟨b, 0, none⟩), .bool false, .int .i64 e, .int .i64 p] w fun e w' => e = .returned (.bool false) ∧ w' = w := by
  obtain ⟨c0, c1, c2, c3, -, -, -⟩ := h.cells
  go_enter Try.func18, Try.ntmps18
  go_wp2_with fail
  exact bodyPost_ret (results_tmp rfl _ _ _) rfl ⟨rfl, rfl⟩
set_option maxRecDepth 100000 in
theorem gz_fail_old (b : Nat) (D : ByteArray) (a c f : Nat) (hc : c ≠ 0) (bad : Bool) (e p : Int) (w : World) (h : RX b D a c f w) :
    Calls Try.prog 18 #[.pointer (some ⟨b, 0, none⟩), .bool bad, .int .i64 e, .int .i64 p] w fun e w' => e = .returned (.bool true) ∧ w' = w := by
  obtain ⟨c0, c1, c2, c3, -, -, -⟩ := h.cells
  have hc' : ((c : Int) == 0) = false := by rw [beq_eq_false_iff_ne]; omega
  cases bad
  · go_enter Try.func18, Try.ntmps18
    go_wp2_with fail
    exact bodyPost_ret (results_tmp rfl _ _ _) rfl ⟨by simp [hc], rfl⟩
  · go_enter Try.func18, Try.ntmps18
    go_wp2_with fail
    exact bodyPost_ret (results_tmp rfl _ _ _) rfl ⟨by simp [hc], rfl⟩
set_option maxRecDepth 100000 in
theorem gz_fail_new (b : Nat) (D : ByteArray) (a f : Nat) (c' f' : Nat) (hc : c' ≠ 0) (w : World) (h : RX b D a 0 f w) :
    Calls Try.prog 18 #[.pointer (some ⟨b, 0, none⟩), .bool true, .int .i64 (c' : Int), .int .i64 (f' : Int)] w fun e w' => e = .returned (.bool true) ∧ RX b D a c' f' w' ∧ Mut [b] w w' := by
  obtain ⟨c0, c1, c2, c3, d1, d2, d3⟩ := h.cells
  have HR := Lib.hid (h.fault (c' := c') (f' := f'))
  have HM := Lib.hid (((Mut.refl [b] w).setCell (p := ⟨b, 2, none⟩) (.inl (by simp)) (.int .i64 (c' : Int))).setCell (p := ⟨b, 3, none⟩) (.inl (by simp)) (.int .i64 (f' : Int)))
  clear h
  go_enter Try.func18, Try.ntmps18
  go_upto_region 3 with fail
  have c2' : ((w.setCell ⟨b, 2, none⟩ (.int .i64 (c' : Int))).setCell ⟨b, 3, none⟩ (.int .i64 (f' : Int))).cell? ⟨b, 2, none⟩ = some (.int .i64 (c' : Int)) := HR.out.cells.2.2.1
  generalize (w.setCell ⟨b, 2, none⟩ (.int .i64 (c' : Int))).setCell ⟨b, 3, none⟩ (.int .i64 (f' : Int)) = w2 at *
  have hc' : ((c' : Int) == 0) = false := by rw [beq_eq_false_iff_ne]; omega
  go_wp2_with fail
  exact bodyPost_ret (results_tmp rfl _ _ _) rfl ⟨by simp [hc], HR.out, HM.out⟩

/-! take -/
set_option maxHeartbeats 800000 in
set_option maxRecDepth 100000 in
theorem gz_take_old (b : Nat) (D : ByteArray) (a c f : Nat) (hc : c ≠ 0) (n : Nat) (hn : n ≤ 1099511627776) (ha : a ≤ D.size) (hD : D.size ≤ 1099511627776) (w : World) (h : RX b D a c f w) :
    Calls Try.prog 31 #[.pointer (some ⟨b, 0, none⟩), .int .i64 (n : Int)] w fun e w' => e = .returned (.string .empty) ∧ ∃ m, w' = w.drewN m := by
  obtain ⟨c0, c1, c2, c3, d1, d2, d3⟩ := h.cells
  have HF : Hid (∀ bad k, Calls Try.prog 18 #[.pointer (some ⟨b, 0, none⟩), .bool bad, .int .i64 3, .int .i64 (a : Int)] (w.drewN k) fun e w' => e = .returned (.bool true) ∧ w' = w.drewN k) := Lib.hid fun bad k => gz_fail_old b D a c f hc bad 3 a _ h
  clear h hc
  go_enter Try.func31, Try.ntmps31
  go_upto_region 1 with fail
  go_quiet ((go_at_call 18; exact (HF.out _ _).mono fun e w'' ⟨he, hw⟩ => ⟨he, _, hw⟩))
  go_wp2_with fail
  exact bodyPost_ret (results_tmp rfl _ _ _) rfl ⟨rfl, _, rfl⟩

set_option maxHeartbeats 800000 in
set_option maxRecDepth 100000 in
theorem gz_take_end (b : Nat) (D : ByteArray) (a f : Nat) (n : Nat) (hn : n ≤ 1099511627776) (ha : a ≤ D.size) (hD : D.size ≤ 1099511627776) (he : D.size < a + n) (w : World) (h : RX b D a 0 f w) :
    Calls Try.prog 31 #[.pointer (some ⟨b, 0, none⟩), .int .i64 (n : Int)] w fun e w' => e = .returned (.string .empty) ∧ RX b D a 3 a w' ∧ Mut [b] w w' := by
  obtain ⟨c0, c1, c2, c3, d1, d2, d3⟩ := h.cells
  have HF : Hid (Calls Try.prog 18 #[.pointer (some ⟨b, 0, none⟩), .bool true, .int .i64 3, .int .i64 (a : Int)] w.drew fun e w' => e = .returned (.bool true) ∧ RX b D a 3 a w' ∧ Mut [b] w.drew w') := Lib.hid (gz_fail_new b D a f 3 a (by decide) w.drew h)
  have hwr : IntKind.i64.wrap ((D.size : Int) - (a : Int)) = (D.size : Int) - (a : Int) := IntWalk.i64_in _ (by omega)
  have hI : (D.size : Int) - (a : Int) < (n : Int) := by omega
  have hD1 : decide ((D.size : Int) - (a : Int) < (n : Int)) = true := decide_eq_true hI
  clear h he
  go_enter Try.func31, Try.ntmps31
  go_upto_region 1 with fail
  go_still_tail 17, (by kernel_rfl)
  change wpList _ _ _ _ _ w.drew
  go_wp2_with (go_at_call 18; refine HF.out.mono ?_; rintro e w2 ⟨rfl, hr, hm⟩; have HR := Lib.hid hr; have HM := Lib.hid hm; clear hr hm)
  exact bodyPost_ret (results_tmp rfl _ _ _) rfl ⟨rfl, HR.out, ((Mut.refl [b] w).drew).trans' HM.out⟩

set_option maxHeartbeats 800000 in
set_option maxRecDepth 100000 in
theorem gz_take_ok (b : Nat) (D : ByteArray) (a f : Nat) (n : Nat) (hD : D.size ≤ 1099511627776) (he : a + n ≤ D.size) (w : World) (h : RX b D a 0 f w) :
    Calls Try.prog 31 #[.pointer (some ⟨b, 0, none⟩), .int .i64 (n : Int)] w fun e w' => e = .returned (.string (D.extract a (a + n))) ∧ RX b D (a + n) 0 f w' ∧ Mut [b] w w' := by
  obtain ⟨c0, c1, c2, c3, d1, d2, d3⟩ := h.cells
  have HF : Hid (∀ k, Calls Try.prog 18 #[.pointer (some ⟨b, 0, none⟩), .bool false, .int .i64 3, .int .i64 (a : Int)] (w.drewN k) fun e w' => e = .returned (.bool false) ∧ w' = w.drewN k) := Lib.hid fun k => gz_fail_no b D a f 3 a _ h
  have hI : ¬ (D.size : Int) - (a : Int) < (n : Int) := by omega
  have hD1 : decide ((D.size : Int) - (a : Int) < (n : Int)) = false := decide_eq_false hI
  have HX := Lib.hid h
  have k1 : (0 : Int) ≤ (a : Int) := by omega
  have k2 : (a : Int) ≤ ((a + n : Nat) : Int) := by omega
  have k3 : ((a + n : Nat) : Int) ≤ (D.size : Int) := by omega
  have k4 : (a : Int) ≤ (a : Int) + (n : Int) := by omega
  have k5 : (a : Int) + (n : Int) ≤ (D.size : Int) := by omega
  clear h
  go_enter Try.func31, Try.ntmps31
  go_upto_region 1 with fail
  go_quiet ((go_at_call 18; exact (HF.out _).mono fun e w'' ⟨he, hw⟩ => ⟨he, _, hw⟩))
  go_upto_region 3 with fail
  have e0 : (w.drewN nq).cell? ⟨b, 0, none⟩ = some (.string D) := c0
  have e1 : (w.drewN nq).cell? ⟨b, 1, none⟩ = some (.int .i64 (a : Int)) := c1
  have HX1 := Lib.hid (HX.out.drewN nq)
  have HM1 := Lib.hid ((Mut.refl [b] w).drewN nq)
  generalize w.drewN nq = w1 at *
  clear c0 c1 c2 c3 d1 d2 d3 HX HF
  go_quiet (fail)
  have HX2 := Lib.hid (HX1.out.drewN nq)
  have HM2 := Lib.hid (HM1.out.drewN nq)
  generalize w1.drewN nq = w2 at *
  obtain ⟨c0, c1, c2, c3, d1, d2, d3⟩ := HX2.out.cells
  clear e0 e1 HX1 HM1
  go_wp2_with fail
  exact bodyPost_ret (results_tmp rfl _ _ _) rfl ⟨rfl, HX2.out.at (a' := a + n), HM2.out.setCell (.inl (by simp)) _⟩

end Go.Proofs.Ytgjcnembeebjfaa

namespace Go.Proofs.Ytgjcnembeebjfaa
open Go.RowKit
set_option linter.unusedVariables false

/-- what a method of the reader that hands back bytes leaves -/
def RP (b : Nat) (D : ByteArray) (r : RR ByteArray) (e : Ending) (w w' : World) : Prop :=
  Mut [b] w w' ∧ match r with
  | .ok x a => e = .returned (.string x) ∧ RX b D a 0 0 w'
  | .bad c f => e = .returned (.string .empty) ∧ ∃ a, a ≤ D.size ∧ RX b D a c f w'

theorem gz_take_any (b : Nat) (D : ByteArray) (a : Nat) (n : Nat) (hn : n ≤ 1099511627776) (ha : a ≤ D.size) (hD : D.size ≤ 1099511627776) (w : World) (h : RX b D a 0 0 w) :
    Calls Try.prog 31 #[.pointer (some ⟨b, 0, none⟩), .int .i64 (n : Int)] w fun e w' => RP b D (takeM D n a) e w w' := by
  unfold takeM
  by_cases he : a + n ≤ D.size
  · rw [if_pos he]
    exact (gz_take_ok b D a 0 n hD he w h).mono fun e w' ⟨h1, h2, h3⟩ => ⟨h3, h1, h2⟩
  · rw [if_neg he]
    exact (gz_take_end b D a 0 n hn ha hD (by omega) w h).mono fun e w' ⟨h1, h2, h3⟩ => ⟨h3, h1, a, ha, h2⟩

set_option maxHeartbeats 800000 in
set_option maxRecDepth 100000 in
theorem gz_text_old (b : Nat) (D : ByteArray) (a c f : Nat) (hc : c ≠ 0) (w : World) (h : RX b D a c f w) :
    Calls Try.prog 47 #[.pointer (some ⟨b, 0, none⟩)] w fun e w' => e = .returned (.string .empty) ∧ w' = w := by
  obtain ⟨c0, c1, c2, c3, d1, d2, d3⟩ := h.cells
  have hc' : ((c : Int) == 0) = false := by rw [beq_eq_false_iff_ne]; omega
  go_enter Try.func47, Try.ntmps47
  go_wp2_with fail
  exact bodyPost_ret (results_tmp rfl _ _ _) rfl ⟨rfl, rfl⟩

set_option maxHeartbeats 1600000 in
set_option maxRecDepth 100000 in
theorem gz_text_any (b : Nat) (D : ByteArray) (a : Nat) (ha : a ≤ D.size) (hD : D.size ≤ 1099511627776) (w : World) (h : RX b D a 0 0 w) :
    Calls Try.prog 47 #[.pointer (some ⟨b, 0, none⟩)] w fun e w' => RP b D (textM D a) e w w' := by
  obtain ⟨c0, c1, c2, c3, d1, d2, d3⟩ := h.cells
  have HX := Lib.hid h
  have HI : Hid (∀ W, Calls Try.prog 36 #[.string (D.extract a D.size), .int .u8 0] W fun e w' => e = .returned (.int .i64 (Lib.indexByte (D.extract a D.size).data.toList 0)) ∧ w' = W) := Lib.hid fun W => gz_index_any _ 0 W
  have hex : (D.extract a D.size).size = D.size - a := by rw [ByteArray.size_extract]; omega
  have hT : textM D a = textM D a := rfl
  have k1 : (0 : Int) ≤ (a : Int) := by omega
  have k2 : (a : Int) ≤ (D.size : Int) := by omega
  conv at hT => lhs; rw [textM]
  cases hi : Lib.indexByte (D.extract a D.size).data.toList 0 with
  | negSucc j =>
    rw [hi] at hT HI
    dsimp only at hT
    rw [← hT]
    clear hT h hi hex
    obtain ⟨i, hij⟩ : ∃ i : Int, Int.negSucc j = i := ⟨_, rfl⟩
    have hineg : i < 0 := by rw [← hij]; exact Int.negSucc_lt_zero j
    rw [hij] at HI
    clear hij
    go_enter Try.func47, Try.ntmps47
    go_upto_region 3 with fail
    go_quiet ((go_at_call 36; exact (HI.out _).mono fun e w'' ⟨he, hw⟩ => ⟨he, _, hw⟩))
    have HX1 := Lib.hid (HX.out.drewN nq)
    have HM1 := Lib.hid ((Mut.refl [b] w).drewN nq)
    generalize w.drewN nq = w1 at *
    clear c0 c1 c2 c3 d1 d2 d3 HX HI
    obtain ⟨c0, c1, c2, c3, d1, d2, d3⟩ := HX1.out.cells
    have HF : Hid (Calls Try.prog 18 #[.pointer (some ⟨b, 0, none⟩), .bool true, .int .i64 3, .int .i64 (a : Int)] w1 fun e w' => e = .returned (.bool true) ∧ RX b D a 3 a w' ∧ Mut [b] w1 w') := Lib.hid (gz_fail_new b D a 0 3 a (by decide) w1 HX1.out)
    go_wp2_with (go_at_call 18; refine HF.out.mono ?_; rintro e w2 ⟨rfl, hr, hm⟩; have HR := Lib.hid hr; have HM := Lib.hid hm; clear hr hm)
    exact bodyPost_ret (results_tmp rfl _ _ _) rfl ⟨HM1.out.trans' HM.out, rfl, a, ha, HR.out⟩
  | ofNat i =>
    rw [hi] at hT HI
    dsimp only at hT
    rw [← hT]
    have hlt : a + i < D.size := by
      have h1 := (List.getElem?_eq_some_iff.1 (Lib.indexByte_some (l := (D.extract a D.size).data.toList) (c := 0) (o := i) hi).1).1
      have h2 : (D.extract a D.size).data.toList.length = D.size - a := by simp
      omega
    have hi0 : ¬ (i : Int) < 0 := by omega
    rw [show Int.ofNat i = (i : Int) from rfl] at HI
    clear hT h hi hex
    by_cases hlong : 256 < i
    · rw [if_pos hlong]
      have hlI : (256 : Int) < (i : Int) := by omega
      go_enter Try.func47, Try.ntmps47
      go_upto_region 3 with fail
      go_quiet ((go_at_call 36; exact (HI.out _).mono fun e w'' ⟨he, hw⟩ => ⟨he, _, hw⟩))
      have HX1 := Lib.hid (HX.out.drewN nq)
      have HM1 := Lib.hid ((Mut.refl [b] w).drewN nq)
      generalize w.drewN nq = w1 at *
      clear c0 c1 c2 c3 d1 d2 d3 HX HI
      obtain ⟨c0, c1, c2, c3, d1, d2, d3⟩ := HX1.out.cells
      have HN : Hid (Calls Try.prog 18 #[.pointer (some ⟨b, 0, none⟩), .bool false, .int .i64 3, .int .i64 (a : Int)] w1 fun e w' => e = .returned (.bool false) ∧ w' = w1) := Lib.hid (gz_fail_no b D a 0 3 a w1 HX1.out)
      have HF : Hid (Calls Try.prog 18 #[.pointer (some ⟨b, 0, none⟩), .bool true, .int .i64 2, .int .i64 (a : Int)] w1 fun e w' => e = .returned (.bool true) ∧ RX b D a 2 a w' ∧ Mut [b] w1 w') := Lib.hid (gz_fail_new b D a 0 2 a (by decide) w1 HX1.out)
      go_wp2_with fail
      refine HN.out.mono ?_
      rintro e w2 ⟨rfl, rfl⟩
      go_wp2_with fail
      refine HF.out.mono ?_
      rintro e w3 ⟨rfl, hr, hm⟩
      have HR := Lib.hid hr
      have HM := Lib.hid hm
      clear hr hm c0 c1 c2 c3 d1 d2 d3
      go_wp2_with fail
      exact bodyPost_ret (results_tmp rfl _ _ _) rfl ⟨HM1.out.trans' HM.out, rfl, a, ha, HR.out⟩
    · rw [if_neg hlong]
      have hlI : ¬ (256 : Int) < (i : Int) := by omega
      have hlD : decide ((256 : Int) < (i : Int)) = false := decide_eq_false hlI
      go_enter Try.func47, Try.ntmps47
      go_upto_region 3 with fail
      go_quiet ((go_at_call 36; exact (HI.out _).mono fun e w'' ⟨he, hw⟩ => ⟨he, _, hw⟩))
      have HX1 := Lib.hid (HX.out.drewN nq)
      have HM1 := Lib.hid ((Mut.refl [b] w).drewN nq)
      generalize w.drewN nq = w1 at *
      clear c0 c1 c2 c3 d1 d2 d3 HX HI
      obtain ⟨c0, c1, c2, c3, d1, d2, d3⟩ := HX1.out.cells
      have HN : Hid (∀ k, Calls Try.prog 18 #[.pointer (some ⟨b, 0, none⟩), .bool false, .int .i64 k, .int .i64 (a : Int)] w1 fun e w' => e = .returned (.bool false) ∧ w' = w1) := Lib.hid fun k => gz_fail_no b D a 0 k a w1 HX1.out
      have HTK := Lib.hid (gz_take_ok b D a 0 i hD (by omega) w1 HX1.out)
      go_wp2_with fail
      refine (HN.out _).mono ?_
      rintro e w2 ⟨rfl, rfl⟩
      go_wp2_with fail
      refine (HN.out 2).mono ?_
      rintro e w3 ⟨rfl, rfl⟩
      go_wp2_with fail
      refine HTK.out.mono ?_
      rintro e w3 ⟨rfl, hr, hm⟩
      have HR := Lib.hid (hr.at (a' := a + i + 1))
      have HM := Lib.hid (hm.setCell (p := ⟨b, 1, none⟩) (.inl (by simp)) (.int .i64 ((a + i + 1 : Nat) : Int)))
      clear c0 c1 c2 c3 d1 d2 d3
      obtain ⟨c0, c1, c2, c3, d1, d2, d3⟩ := hr.cells
      clear hr hm
      go_wp2_with fail
      exact bodyPost_ret (results_tmp rfl _ _ _) rfl ⟨HM1.out.trans' HM.out, rfl, HR.out⟩

set_option maxHeartbeats 1600000 in
set_option maxRecDepth 100000 in
theorem gz_extra_any (b : Nat) (D : ByteArray) (a : Nat) (ha : a ≤ D.size) (hD : D.size ≤ 1099511627776) (w : World) (h : RX b D a 0 0 w) :
    Calls Try.prog 46 #[.pointer (some ⟨b, 0, none⟩)] w fun e w' => RP b D (extraM D a) e w w' := by
  obtain ⟨c0, c1, c2, c3, d1, d2, d3⟩ := h.cells
  have HTK := gz_take_any b D a 2 (by decide) ha hD w h
  have hE : extraM D a = extraM D a := rfl
  conv at hE => lhs; rw [extraM]
  cases ht : takeM D 2 a with
  | bad c f =>
    have hc : c ≠ 0 := by
      have := takeM_in D 2 a
      rw [ht] at this
      exact this
    rw [ht] at hE HTK
    rw [← hE]
    have HT : Hid (Calls Try.prog 31 #[.pointer (some ⟨b, 0, none⟩), .int .i64 2] w fun e w' => RP b D (.bad c f) e w w') := Lib.hid HTK
    have HNU := Lib.hid fun W => number_any .empty (by decide) W
    have hc' : ((c : Int) == 0) = false := by rw [beq_eq_false_iff_ne]; omega
    have HC := Lib.hid hc
    clear hE HTK ht h hc
    go_enter Try.func46, Try.ntmps46
    go_wp2_with fail
    refine HT.out.mono ?_
    rintro e w1 ⟨hm, rfl, a1, ha1, hr⟩
    have HR := Lib.hid hr
    have HM := Lib.hid hm
    clear hm c0 c1 c2 c3 d1 d2 d3
    obtain ⟨c0, c1, c2, c3, d1, d2, d3⟩ := hr.cells
    clear hr
    go_wp2_with fail
    refine (HNU.out _).mono ?_
    rintro e w2 ⟨rfl, rfl⟩
    have HF : Hid (∀ bad k q, Calls Try.prog 18 #[.pointer (some ⟨b, 0, none⟩), .bool bad, .int .i64 3, .int .i64 q] (w2.drewN k) fun e w' => e = .returned (.bool true) ∧ w' = w2.drewN k) := Lib.hid fun bad k q => gz_fail_old b D a1 c f HC.out bad 3 q _ HR.out
    go_upto_region 3 with fail
    go_quiet ((go_at_call 18; exact (HF.out _ _ _).mono fun e w'' ⟨he, hw⟩ => ⟨he, _, hw⟩))
    have HR2 := Lib.hid (HR.out.drewN nq)
    have HM2 := Lib.hid (HM.out.drewN nq)
    generalize w2.drewN nq = w3 at *
    go_wp2_with fail
    exact bodyPost_ret (results_tmp rfl _ _ _) rfl ⟨HM2.out, rfl, a1, ha1, HR2.out⟩
  | ok x a1 =>
    obtain ⟨h1, rfl, hx, hxs⟩ := takeM_ok ht
    rw [ht] at hE HTK
    rw [← hE]
    have HT : Hid (Calls Try.prog 31 #[.pointer (some ⟨b, 0, none⟩), .int .i64 2] w fun e w' => RP b D (.ok x (a + 2)) e w w') := Lib.hid HTK
    have HNU := Lib.hid fun W => number_any x (by omega) W
    have hnl : numL (bytesOf x) ≤ 65535 := by
      have := numL_lt (bytesOf x) (bytesOf_lt x)
      rw [bytesOf_length, hxs] at this
      omega
    clear hE HTK ht h hx hxs
    simp only [RR.bind]
    generalize numL (bytesOf x) = n at *
    obtain ⟨p, hp⟩ : ∃ p, a + 2 = p := ⟨_, rfl⟩
    rw [hp] at h1 HT ⊢
    clear hp
    by_cases hfit : p + n ≤ D.size
    · rw [if_pos hfit]
      have hI : ¬ (D.size : Int) - (p : Int) < (n : Int) := by omega
      have hD1 : decide ((D.size : Int) - (p : Int) < (n : Int)) = false := decide_eq_false hI
      go_enter Try.func46, Try.ntmps46
      go_wp2_with fail
      refine HT.out.mono ?_
      rintro e w1 ⟨hm, rfl, hr⟩
      have HR := Lib.hid hr
      have HM := Lib.hid hm
      clear hm c0 c1 c2 c3 d1 d2 d3
      obtain ⟨c0, c1, c2, c3, d1, d2, d3⟩ := hr.cells
      clear hr
      go_wp2_with fail
      refine (HNU.out _).mono ?_
      rintro e w2 ⟨rfl, rfl⟩
      have HF : Hid (∀ k q, Calls Try.prog 18 #[.pointer (some ⟨b, 0, none⟩), .bool false, .int .i64 3, .int .i64 q] (w2.drewN k) fun e w' => e = .returned (.bool false) ∧ w' = w2.drewN k) := Lib.hid fun k q => gz_fail_no b D p 0 3 q _ HR.out
      go_upto_region 3 with fail
      go_quiet ((go_at_call 18; exact (HF.out _ _).mono fun e w'' ⟨he, hw⟩ => ⟨he, _, hw⟩))
      have HTK := Lib.hid (gz_take_ok b D p 0 n hD hfit _ (HR.out.drewN nq))
      have HM2 := Lib.hid (HM.out.drewN nq)
      generalize w2.drewN nq = w3 at *
      go_wp2_with fail
      refine HTK.out.mono ?_
      rintro e w4 ⟨rfl, hr, hm⟩
      have HR4 := Lib.hid hr
      have HM4 := Lib.hid (HM2.out.trans' hm)
      clear hr hm c0 c1 c2 c3 d1 d2 d3
      go_wp2_with fail
      exact bodyPost_ret (results_tmp rfl _ _ _) rfl ⟨HM4.out, rfl, HR4.out⟩
    · rw [if_neg hfit]
      have hI : (D.size : Int) - (p : Int) < (n : Int) := by omega
      have hD1 : decide ((D.size : Int) - (p : Int) < (n : Int)) = true := decide_eq_true hI
      have hwr : IntKind.i64.wrap ((D.size : Int) - (p : Int)) = (D.size : Int) - (p : Int) := IntWalk.i64_in _ (by omega)
      go_enter Try.func46, Try.ntmps46
      go_wp2_with fail
      refine HT.out.mono ?_
      rintro e w1 ⟨hm, rfl, hr⟩
      have HR := Lib.hid hr
      have HM := Lib.hid hm
      clear hm c0 c1 c2 c3 d1 d2 d3
      obtain ⟨c0, c1, c2, c3, d1, d2, d3⟩ := hr.cells
      clear hr
      go_wp2_with fail
      refine (HNU.out _).mono ?_
      rintro e w2 ⟨rfl, rfl⟩
      have HF : Hid (Calls Try.prog 18 #[.pointer (some ⟨b, 0, none⟩), .bool true, .int .i64 3, .int .i64 (a : Int)] w2.drew fun e w' => e = .returned (.bool true) ∧ RX b D p 3 a w' ∧ Mut [b] w2.drew w') := Lib.hid (gz_fail_new b D p 0 3 a (by decide) w2.drew HR.out)
      go_upto_region 3 with fail
      go_still_tail 22, (by kernel_rfl)
      change wpList _ _ _ _ _ w2.drew
      go_wp2_with (go_at_call 18; refine HF.out.mono ?_; rintro e w3 ⟨rfl, hr, hm⟩; have HR3 := Lib.hid hr; have HM3 := Lib.hid hm; clear hr hm)
      exact bodyPost_ret (results_tmp rfl _ _ _) rfl ⟨(HM.out.drew).trans' HM3.out, rfl, p, by omega, HR3.out⟩

end Go.Proofs.Ytgjcnembeebjfaa

namespace Go.Proofs.Ytgjcnembeebjfaa
open Go.RowKit
set_option linter.unusedVariables false

theorem info_u8low : (Try.prog.info? 5).map (fun i => (i.zero, i.size, i.bytes)) = some (some (.int .u8 0), 1, 1) := by kernel_rfl
def lb (n j : Nat) : Nat := n / 2 ^ (8 * j) % 256
/-- the lowest k bytes, of which i are laid -/
def lowT (n k i : Nat) : List Nat := (List.range k).map fun j => if j < i then lb n j else 0
def lowL (n k : Nat) : List Nat := (List.range k).map fun j => lb n j
theorem lowT_len (n k i : Nat) : (lowT n k i).length = k := by simp [lowT]
theorem lowT_zero (n k : Nat) : lowT n k 0 = List.replicate k 0 := by
  apply List.ext_getElem
  · simp [lowT]
  · intro j h1 h2; simp [lowT]
theorem lowT_set (n k i : Nat) (h : i < k) : (lowT n k i).set i (lb n i) = lowT n k (i + 1) := by
  apply List.ext_getElem
  · simp [lowT]
  · intro j h1 h2
    rw [List.getElem_set]
    by_cases e : i = j
    · subst e; simp [lowT]
    · rw [if_neg e]
      have h3 : (j < i) = (j < i + 1) := by simp; omega
      simp [lowT, h3]
theorem lowT_all (n k : Nat) : lowT n k k = lowL n k := by
  apply List.map_congr_left
  intro j hj
  rw [if_pos (List.mem_range.1 hj)]
theorem lowL_lt (n k : Nat) : ∀ x ∈ lowL n k, x < 256 := by
  intro x hx
  obtain ⟨j, _, rfl⟩ := List.mem_map.1 hx
  exact Nat.mod_lt _ (by decide)

/-- a made row of bytes -/
def BRow (w : World) (g : Nat) (k : Nat) (T : List Nat) : Prop := w.ownsRow 0 5 1 (.slice (some ⟨g, 0, none⟩) k k) k (T.map fun x : Nat => Value.int .u8 (x : Int))
theorem BRow.set {w : World} {g k : Nat} {T : List Nat} (h : BRow w g k T) (i x : Nat) : BRow (w.setCell ⟨g, i, none⟩ (.int .u8 (x : Int))) g k (T.set i x) := by
  unfold BRow
  rw [List.map_set]
  refine ⟨by rw [List.length_set]; exact h.1, ?_⟩
  rcases h.2 with ⟨h1, h0⟩ | ⟨g', cap, cur, h1, hb, hh, r1, r2, r3, r4⟩
  · cases h1
  · cases h1
    refine .inr ⟨_, _, _, rfl, hb, heap_set hh i _, r1, r2, by simpa using r3, ?_⟩
    rw [Array.toList_setIfInBounds, List.take_set, r4]
theorem BRow.cell {w : World} {g k : Nat} {T : List Nat} (h : BRow w g k T) (i : Nat) (hi : i < T.length) : w.cell? ⟨g, i, none⟩ = some (.int .u8 ((T[i]'hi : Nat) : Int)) ∧ w.frozen? ⟨g, i, none⟩ = false := by
  have hk : T.length = k := by have := h.1; simpa using this
  refine ⟨?_, ?_⟩
  · rw [h.cellAt i (by omega)]
    simp [hi]
  · rcases h.2 with ⟨h1, _⟩ | ⟨g', cap, cur, h1, _, hh, _⟩
    · cases h1
    · cases h1
      exact frozenOf hh i
theorem BRow.conv {w : World} {g k : Nat} {T : List Nat} (h : BRow w g k T) : (convert 54 9 (.slice (some ⟨g, 0, none⟩) k k)).run Try.prog w = .ok (.string (strOf T)) w := by
  have h : w.ownsRow 0 5 1 (.slice (some ⟨g, 0, none⟩) k k) k ((T.map fun n : Nat => (n : Int)).map (Value.int .u8)) := by rw [List.map_map]; exact h
  rw [conv_row Try.underlying54 Try.underlying5 Try.underlying9 h]
  simp only [List.map_map]
  rfl
theorem run_make_low (n : Nat) (hn : n ≤ 1024) (W : World) :
    ∃ Z, (Instr.makeSlice 54 (.int .i64 (n : Int)) (.int .i64 (n : Int))).run Try.prog W = .ok (.slice (some ⟨W.heap.size, 0, none⟩) n n) (W.alloc (.cells Z 5)) ∧ BRow (W.alloc (.cells Z 5)) W.heap.size n (List.replicate n 0) := by
  obtain ⟨i0, hi, hz0, hz1, hz2⟩ := info_parts info_u8low
  have hbn : (i0.bytes : Int) * (n : Int) ≤ 281474976710656 := by rw [hz2]; omega
  have := run_make (P := Try.prog) W 54 5 i0 _ Try.underlying54 hi hz0 .i64 .i64 (n : Int) (n : Int) (by omega) (by omega) hbn (by omega)
  rw [show (Value.int .u8 0).cells = #[.int .u8 0] from rfl, Int.toNat_natCast, hz1, Nat.mul_one] at this
  refine ⟨_, this, ?_⟩
  have e : (madeCells #[Value.int .u8 0] n).toList = List.replicate n (.int .u8 0) := toList_madeCells_one _ n
  unfold BRow
  refine ⟨by simp, .inr ⟨W.heap.size, n, _, rfl, Nat.zero_le _, heap_alloc_new W _, Nat.le_refl _, by unfold maxLen; omega, by rw [size_madeCells, Nat.mul_one], ?_⟩⟩
  rw [e, List.take_of_length_le (by simp)]
  simp

set_option maxHeartbeats 1600000 in
set_option maxRecDepth 100000 in
theorem gz_low_any (n k : Nat) (hn : n < 4294967296) (hk : k ≤ 4) (w : World) :
    Calls Try.prog 38 #[.int .i64 (n : Int), .int .i64 (k : Int)] w fun e w' => e = .returned (.string (strOf (lowL n k))) ∧ Mut [] w w' := by
  obtain ⟨Z, hmk, hrow⟩ := run_make_low k (by omega) w
  have HM0 := Lib.hid ((Mut.refl [] w).alloc (.cells Z 5))
  have HR0 : Hid (BRow (w.alloc (.cells Z 5)) w.heap.size k (lowT n k 0)) := Lib.hid (by rw [lowT_zero]; exact hrow)
  clear hrow
  go_enter Try.func38, Try.ntmps38
  go_upto_region 3 with fail
  clear hmk
  generalize w.alloc (.cells Z 5) = w1 at *
  go_loopw [11, 6] (fun c _ wx => ∃ i : Nat, c = .int .i64 (i : Int) ∧ i ≤ k ∧ Hid (BRow wx w.heap.size k (lowT n k i)) ∧ Hid (Mut [] w wx)) (fun c _ _ => k - (intOf c).toNat)
  case atStart => exact ⟨0, rfl, Nat.zero_le _, HR0, HM0⟩
  case round =>
    obtain ⟨i, rfl, hi, HR, HM⟩ := hrel
    clear HR0 HM0
    by_cases hlt : i < k
    case pos =>
      have hI : (i : Int) < (k : Int) := by omega
      obtain ⟨c0, f0⟩ := HR.out.cell i (by rw [lowT_len]; exact hlt)
      generalize (lowT n k i)[i]'(by rw [lowT_len]; exact hlt) = old at c0
      go_wp2_with fail
      have e : (n : Int) / 2 ^ (8 * i) % 256 = ((lb n i : Nat) : Int) := by
        unfold lb
        push_cast
        rfl
      rw [e]
      refine ⟨⟨i + 1, by rw [Int.natCast_add]; rfl, hlt, Lib.hid ?_, Lib.hid (HM.out.setCell (.inr (Nat.le_refl _)) _)⟩, by simp only [intOf]; omega⟩
      rw [← lowT_set n k i hlt]
      exact HR.out.set i (lb n i)
    case neg =>
      obtain rfl : i = k := by omega
      have hI : ¬ (i : Int) < (i : Int) := by omega
      have hcv := HR.out.conv
      rw [lowT_all] at hcv
      obtain ⟨S, hS⟩ : ∃ S, strOf (lowL n i) = S := ⟨_, rfl⟩
      rw [hS] at hcv
      have HS := Lib.hid hS
      clear hS
      go_wp2_with fail
      exact bodyPost_ret (results_tmp rfl _ _ _) rfl ⟨by rw [HS.out]; rfl, HM.out⟩

end Go.Proofs.Ytgjcnembeebjfaa
