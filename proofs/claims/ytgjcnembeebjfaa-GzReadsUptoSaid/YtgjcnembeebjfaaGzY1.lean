/- The sum on natural numbers; rows of bytes that grow; walks over package ferretref05: Sum, zero (GzX0's and GzF1's own, without what stands on squeeze). -/
import Derived.Test.YtgjcnembeebjfaaGzA
import Derived.Deep.AppendSrc
import Derived.Deep.RegionWith
import Derived.Deep.LoopGhost
import Derived.Deep.DeepCutAuto
namespace Go.Proofs.Ytgjcnembeebjfaa
open Go.RowKit
set_option linter.unusedVariables false

theorem ofInt_nat32 (a : Nat) (h : a < 2 ^ 32) : (BitVec.ofInt 32 (a : Int)).toNat = a := by
  rw [BitVec.toNat_ofInt]
  omega
theorem xor_u32_nat (a b : Nat) (ha : a < 2 ^ 32) (hb : b < 2 ^ 32) : Go.bits .xor .u32 (a : Int) (b : Int) = ((a ^^^ b : Nat) : Int) := by
  have h : a ^^^ b < 2 ^ 32 := Nat.xor_lt_two_pow ha hb
  show IntKind.u32.wrap ((BitVec.ofInt 32 (a : Int) ^^^ BitVec.ofInt 32 (b : Int)).toNat : Nat) = _
  rw [BitVec.toNat_xor, ofInt_nat32 a ha, ofInt_nat32 b hb]
  generalize a ^^^ b = c at *
  exact IntWalk.u32_in _ (by omega)
theorem and_u32_one (a : Nat) (ha : a < 2 ^ 32) : Go.bits .and .u32 (a : Int) 1 = ((a % 2 : Nat) : Int) := by
  show IntKind.u32.wrap ((BitVec.ofInt 32 (a : Int) &&& BitVec.ofInt 32 ((1 : Nat) : Int)).toNat : Nat) = _
  rw [BitVec.toNat_and, ofInt_nat32 a ha, ofInt_nat32 1 (by decide), Nat.and_one_is_mod]
  exact IntWalk.u32_in _ (by omega)

theorem xor_r {a b c : Nat} (h : a ^^^ c = b ^^^ c) : a = b := by
  have := congrArg (fun z => z ^^^ c) h
  simpa [Nat.xor_assoc] using this
theorem xor_l {a b c : Nat} (h : c ^^^ a = c ^^^ b) : a = b := by
  rw [Nat.xor_comm c a, Nat.xor_comm c b] at h
  exact xor_r h
theorem mid_lt {P S : List Nat} {x : Nat} (hP : ∀ z ∈ P, z < 256) (hS : ∀ z ∈ S, z < 256) (hx : x < 256) : ∀ z ∈ P ++ x :: S, z < 256 := by
  intro z hz
  rw [List.mem_append, List.mem_cons] at hz
  rcases hz with h | h | h
  · exact hP z h
  · rw [h]; exact hx
  · exact hS z h

/-! the sum's steps on natural numbers -/
def crc1N (n : Nat) : Nat := n / 2 ^^^ (if n % 2 = 1 then 3988292384 else 0)
def crcKN : Nat → Nat → Nat
  | 0, n => n
  | k + 1, n => crc1N (crcKN k n)
theorem crc1N_lt (n : Nat) (h : n < 2 ^ 32) : crc1N n < 2 ^ 32 := by
  unfold crc1N
  refine Nat.xor_lt_two_pow (by omega) ?_
  split <;> decide
theorem crc1_nat (n : Nat) (h : n < 2 ^ 32) : crc1 (n : Int) = ((crc1N n : Nat) : Int) := by
  unfold crc1 crc1N
  rw [and_u32_one n h]
  have e2 : ((n : Int) / 2) = ((n / 2 : Nat) : Int) := by omega
  rw [e2]
  rcases Nat.mod_two_eq_zero_or_one n with e | e
  · rw [e, if_neg (by decide)]
    have : Go.bits .and .u32 3988292384 (-((0 : Nat) : Int) % 4294967296) = ((0 : Nat) : Int) := by decide +kernel
    rw [this, xor_u32_nat _ _ (by omega) (by decide)]
  · rw [e, if_pos rfl]
    have : Go.bits .and .u32 3988292384 (-((1 : Nat) : Int) % 4294967296) = ((3988292384 : Nat) : Int) := by decide +kernel
    rw [this, xor_u32_nat _ _ (by omega) (by decide)]
theorem crcKN_lt (k n : Nat) (h : n < 2 ^ 32) : crcKN k n < 2 ^ 32 := by
  induction k with
  | zero => exact h
  | succ k ih => exact crc1N_lt _ ih
theorem crcK_nat (k n : Nat) (h : n < 2 ^ 32) : crcK k (n : Int) = ((crcKN k n : Nat) : Int) := by
  induction k with
  | zero => rfl
  | succ k ih => rw [crcK, ih, crc1_nat _ (crcKN_lt k n h)]; rfl
theorem crc1N_inj (a b : Nat) (ha : a < 2 ^ 32) (hb : b < 2 ^ 32) (h : crc1N a = crc1N b) : a = b := by
  have mixed : ∀ x y : Nat, x < 2 ^ 31 → y < 2 ^ 31 → x ^^^ 3988292384 = y → False := by
    intro x y hx hy e
    have t := congrArg (fun z => Nat.testBit z 31) e
    simp only [Nat.testBit_xor, Nat.testBit_lt_two_pow hx, Nat.testBit_lt_two_pow hy] at t
    revert t
    decide
  unfold crc1N at h
  rcases Nat.mod_two_eq_zero_or_one a with ea | ea <;> rcases Nat.mod_two_eq_zero_or_one b with eb | eb
  · rw [if_neg (by omega), if_neg (by omega), Nat.xor_zero, Nat.xor_zero] at h
    omega
  · rw [if_neg (by omega), if_pos eb, Nat.xor_zero] at h
    exact (mixed (b / 2) (a / 2) (by omega) (by omega) h.symm).elim
  · rw [if_pos ea, if_neg (by omega), Nat.xor_zero] at h
    exact (mixed (a / 2) (b / 2) (by omega) (by omega) h).elim
  · rw [if_pos ea, if_pos eb] at h
    have := xor_r h
    omega
theorem crcKN_inj (k a b : Nat) (ha : a < 2 ^ 32) (hb : b < 2 ^ 32) (h : crcKN k a = crcKN k b) : a = b := by
  induction k with
  | zero => exact h
  | succ k ih => exact ih (crc1N_inj _ _ (crcKN_lt k a ha) (crcKN_lt k b hb) h)

def crcN (v : Nat) (D : List Nat) : Nat := D.foldl (fun v b => crcKN 8 (v ^^^ b)) v
theorem crcN_lt (D : List Nat) : ∀ v, v < 2 ^ 32 → (∀ x ∈ D, x < 256) → crcN v D < 2 ^ 32 := by
  induction D with
  | nil => intro v hv _; exact hv
  | cons x r ih =>
    intro v hv hD
    exact ih _ (crcKN_lt 8 _ (Nat.xor_lt_two_pow hv (Nat.lt_trans (hD x (by simp)) (by decide)))) fun y hy => hD y (by simp [hy])
theorem crc_nat (D : List Nat) : ∀ v : Nat, v < 2 ^ 32 → (∀ x ∈ D, x < 256) → D.foldl (fun (v : Int) (b : Nat) => crcK 8 (bits .xor .u32 v (b : Int))) (v : Int) = ((crcN v D : Nat) : Int) := by
  induction D with
  | nil => intro v hv _; rfl
  | cons x r ih =>
    intro v hv hD
    have hx : x < 2 ^ 32 := Nat.lt_trans (hD x (by simp)) (by decide)
    have hvx : v ^^^ x < 2 ^ 32 := Nat.xor_lt_two_pow hv hx
    rw [List.foldl_cons, xor_u32_nat v x hv hx, crcK_nat 8 _ hvx, ih _ (crcKN_lt 8 _ hvx) fun y hy => hD y (by simp [hy])]
    rfl
theorem crcN_inj (D : List Nat) : ∀ v u, v < 2 ^ 32 → u < 2 ^ 32 → (∀ x ∈ D, x < 256) → crcN v D = crcN u D → v = u := by
  induction D with
  | nil => intro v u _ _ _ h; exact h
  | cons x r ih =>
    intro v u hv hu hD h
    have hx : x < 2 ^ 32 := Nat.lt_trans (hD x (by simp)) (by decide)
    have h1 : v ^^^ x < 2 ^ 32 := Nat.xor_lt_two_pow hv hx
    have h2 : u ^^^ x < 2 ^ 32 := Nat.xor_lt_two_pow hu hx
    exact xor_r (crcKN_inj 8 _ _ h1 h2 (ih _ _ (crcKN_lt 8 _ h1) (crcKN_lt 8 _ h2) (fun y hy => hD y (by simp [hy])) h))
theorem sumOf_nat (D : List Nat) (hD : ∀ x ∈ D, x < 256) : sumOf D = ((4294967295 ^^^ crcN 4294967295 D : Nat) : Int) := by
  unfold sumOf crcTo
  have e : (4294967295 : Int) = ((4294967295 : Nat) : Int) := rfl
  rw [e, crc_nat D _ (by decide) hD]
  exact xor_u32_nat 4294967295 _ (by decide) (crcN_lt D _ (by decide) hD)



def uC (L : List Nat) : List Value := L.map fun n : Nat => Value.int .u8 (n : Int)
theorem uC_len (L : List Nat) : (uC L).length = L.length := by simp [uC]
theorem uC_app (L M : List Nat) : uC (L ++ M) = uC L ++ uC M := by simp [uC]
theorem info_u8f : (Try.prog.info? 5).map (fun i => (i.zero, i.size, i.bytes)) = some (some (.int .u8 0), 1, 1) := by kernel_rfl

/-- a row of bytes that a call has grown -/
structure OB (w0 : World) (v : Value) (L : List Nat) (w : World) : Prop where
  row : w.ownsRow 0 5 1 v L.length (uC L)
  fresh : ∀ g, v.ownBlock = some g → w0.heap.size ≤ g
  kept : Mut [] w0 w
theorem OB.start {w0 w : World} (m : Mut [] w0 w) : OB w0 (.slice none 0 0) [] w := ⟨World.ownsRow_nil _ _ _ _, by simp [Value.ownBlock], m⟩
theorem OB.mut {w0 w w' : World} {v : Value} {L : List Nat} (h : OB w0 v L w) (m : Mut [] w w') : OB w0 v L w' := ⟨m.row h.row (by simp), h.fresh, h.kept.trans' m⟩
theorem OB.form {w0 w : World} {v : Value} {L : List Nat} (h : OB w0 v L w) : ∃ p c, v = .slice p L.length c := by
  rcases h.row.2 with ⟨h1, h2⟩ | ⟨g, cap, cur, h1, -⟩
  · exact ⟨none, 0, by rw [h1, h2]⟩
  · exact ⟨_, _, h1⟩
/-- behind an append; the world has laid blocks in between -/
theorem OB.app {w0 w wx w1 : World} {v v' : Value} {L M : List Nat} (h : OB w0 v L w) (mx : Mut [] w wx) (hr : w1.ownsRow 0 5 1 v' (L.length + M.length) (uC L ++ uC M)) (hg : wx.grownBy w1 v.ownBlock) (hf : ∀ g, v'.ownBlock = some g → v.ownBlock = some g ∨ wx.heap.size ≤ g) : OB w0 v' (L ++ M) w1 := by
  have hm : Mut v.ownBlock.toList w w1 := (mx.mono (by simp)).grown hg (fun k hk => .inl (by simp [hk]))
  refine ⟨?_, fun g hg => (hf g hg).elim (fun h' => h.fresh g h') (fun h' => by have := h.kept.size; have := mx.size; omega), h.kept.trans hm (fun y hy => .inr (h.fresh y (by simpa using hy)))⟩
  rw [List.length_append, uC_app]
  exact hr
theorem uC_one (L : List Nat) : ∀ u ∈ uC L, u.oneCell' = true := by
  intro u hu
  unfold uC at hu
  rw [List.mem_map] at hu
  obtain ⟨n, -, rfl⟩ := hu
  rfl
theorem byteCells_uC (s : ByteArray) : byteCells s = uC (bytesOf s) := by
  unfold uC bytesOf
  rw [List.map_map]
  rfl
theorem row_conv {w : World} {v : Value} {L : List Nat} (h : w.ownsRow 0 5 1 v L.length (uC L)) (hL : L ≠ []) : (convert 54 9 v).run Try.prog w = .ok (.string (strOf L)) w := by
  rcases h.2 with ⟨-, h1⟩ | ⟨g, cap, cur, rfl, -, h1, h2, h3, h4, h5⟩
  · exact absurd (List.eq_nil_of_length_eq_zero h1) hL
  · have hcell : ∀ j, j < L.length → w.cell? ⟨g, j, none⟩ = some (.int .u8 ((L.getD j 0 : Nat) : Int)) := by
      intro j hj
      refine cellOf h1 j ?_
      have h6 : (cur.toList.take (L.length * 1))[j]? = (uC L)[j]? := by rw [h5]
      rw [List.getElem?_take_of_lt (by omega)] at h6
      rw [← Array.getElem?_toList, h6]
      simp [uC, List.getD, hj]
    rw [run_convert_bytes_arg w 54 5 Try.underlying54 Try.underlying5 g 0 L.length cap (L.map fun n : Nat => (n : Int)) (by simp) (fun i hi => by
      rw [Nat.zero_add, hcell i hi]
      simp [List.getD, hi]) 9 Try.underlying9]
    have e : strOfNums (L.map fun n : Nat => (n : Int)) = strOf L := by
      unfold strOfNums strOf
      rw [List.map_map]
      rfl
    rw [e]

theorem OB.conv {w0 w : World} {v : Value} {L : List Nat} (h : OB w0 v L w) (hL : L ≠ []) : (convert 54 9 v).run Try.prog w = .ok (.string (strOf L)) w := row_conv h.row hL


theorem xor_max (n : Nat) (h : n < 4294967296) : 4294967295 ^^^ n = 4294967295 - n := by
  have e : (BitVec.ofNat 32 4294967295 ^^^ BitVec.ofNat 32 n).toNat = 4294967295 - n := by
    have h1 : BitVec.ofNat 32 4294967295 ^^^ BitVec.ofNat 32 n = ~~~ BitVec.ofNat 32 n := by
      have : BitVec.ofNat 32 4294967295 = BitVec.allOnes 32 := rfl
      rw [this]
      ext i hi
      rw [BitVec.getElem_xor, BitVec.getElem_allOnes, BitVec.getElem_not]
      cases (BitVec.ofNat 32 n)[i] <;> rfl
    rw [h1, BitVec.toNat_not, BitVec.toNat_ofNat, Nat.mod_eq_of_lt h]
  rw [BitVec.toNat_xor, BitVec.toNat_ofNat, BitVec.toNat_ofNat, Nat.mod_eq_of_lt h, Nat.mod_eq_of_lt (by decide)] at e
  exact e

set_option maxHeartbeats 1600000 in
set_option maxRecDepth 100000 in
theorem rsum_any (s : ByteArray) (hs : s.size ≤ 1099511627776) (w : World) :
    Calls Try.prog 15 #[.string s] w fun e w' => e = .returned (.int .i64 (sumOf (bytesOf s))) ∧ w' = w := by
  have H0 : Hid ((4294967295 : Nat) = crcN 4294967295 ((bytesOf s).take 0)) := Lib.hid rfl
  go_enter Try.func15, Try.ntmps15
  go_wp2_with fail
  go_loopw [4, 3] (fun c x wx => ∃ (i v : Nat), c = .int .i64 (i : Int) ∧ x = .int .u32 (v : Int) ∧ i ≤ s.size ∧ v < 4294967296 ∧ Hid (v = crcN 4294967295 ((bytesOf s).take i)) ∧ wx = w) (fun c _ _ => s.size - (intOf c).toNat)
  case atStart => exact ⟨0, 4294967295, rfl, rfl, Nat.zero_le _, by decide, H0, rfl⟩
  case round =>
    obtain ⟨i, v, rfl, rfl, hi, hv, HV, rfl⟩ := hrel
    clear H0
    by_cases h1 : i < s.size
    case pos =>
      have h1I : (i : Int) < (s.size : Int) := by omega
      have hxb : (s[i]'h1).toNat < 256 := UInt8.toNat_lt (s[i]'h1)
      have hx1 : IntKind.u32.wrap ((s[i]'h1).toNat : Int) = ((s[i]'h1).toNat : Int) := IntWalk.u32_in _ (by omega)
      have hl : i < (bytesOf s).length := by rw [bytesOf_length]; exact h1
      have HN : Hid (crcN 4294967295 ((bytesOf s).take (i + 1)) = crcKN 8 (v ^^^ (s[i]'h1).toNat)) := Lib.hid (by
        rw [List.take_succ_eq_append_getElem hl, bytesOf_get s i h1, HV.out]
        unfold crcN
        rw [List.foldl_append]
        rfl)
      have hxr := xor_u32_nat v (s[i]'h1).toNat hv (Nat.lt_trans hxb (by decide))
      have hc0 : v ^^^ (s[i]'h1).toNat < 4294967296 := Nat.xor_lt_two_pow (n := 32) hv (Nat.lt_trans hxb (by decide))
      generalize (v ^^^ (s[i]'h1).toNat) = c0 at *
      clear HV hl hv
      have HC0 : Hid (c0 = crcKN 0 c0) := Lib.hid rfl
      go_wp2_with fail
      go_loopw [5, 3] (fun c x wx => ∃ (j v : Nat), c = .int .i64 (j : Int) ∧ x = .int .u32 (v : Int) ∧ j ≤ 8 ∧ v < 4294967296 ∧ Hid (v = crcKN j c0) ∧ wx = wr) (fun c _ _ => 8 - (intOf c).toNat)
      case atStart => exact ⟨0, c0, rfl, rfl, Nat.zero_le _, hc0, HC0, rfl⟩
      case round =>
        obtain ⟨j, v, rfl, rfl, hj, hv, HV, rfl⟩ := hrel
        clear HC0 hxr
        by_cases h2 : j < 8
        case pos =>
          have h2I : (j : Int) < 8 := by omega
          have HM : Hid (crc1N v = crcKN (j + 1) c0) := Lib.hid (by rw [HV.out]; rfl)
          have hlt := crc1N_lt v hv
          have htm : (v : Int).tmod 2 = ((v % 2 : Nat) : Int) := by rw [Int.tmod_eq_emod_of_nonneg (by omega)]; omega
          have htd : (v : Int).tdiv 2 = ((v / 2 : Nat) : Int) := by rw [Int.tdiv_eq_ediv_of_nonneg (by omega)]; omega
          have hxr := xor_u32_nat (v / 2) 3988292384 (by omega) (by decide)
          rcases Nat.mod_two_eq_zero_or_one v with e | e
          · have he : crc1N v = v / 2 := by unfold crc1N; rw [e, if_neg (by decide), Nat.xor_zero]
            rw [e] at htm
            rw [he] at HM hlt
            have hq2 : v / 2 < 4294967296 := by omega
            obtain ⟨q, hq⟩ : ∃ q, v / 2 = q := ⟨_, rfl⟩
            rw [hq] at htd HM hq2
            clear hxr he hq HV e hlt
            go_wp2_with fail
            exact ⟨⟨j + 1, q, by rw [Int.natCast_add]; rfl, rfl, h2, hq2, HM, trivial⟩, by simp only [intOf]; omega⟩
          · have he : crc1N v = v / 2 ^^^ 3988292384 := by unfold crc1N; rw [e, if_pos rfl]
            rw [e] at htm
            rw [he] at HM hlt
            have hq2 : v / 2 < 4294967296 := by omega
            obtain ⟨q, hq⟩ : ∃ q, v / 2 = q := ⟨_, rfl⟩
            obtain ⟨z, hz⟩ : ∃ z, v / 2 ^^^ 3988292384 = z := ⟨_, rfl⟩
            rw [hz] at hxr HM hlt
            rw [hq] at htd hxr hq2
            have hxr : Go.bits .xor .u32 (q : Int) 3988292384 = (z : Int) := hxr
            clear he hq hz HV e
            go_wp2_with fail
            exact ⟨⟨j + 1, z, by rw [Int.natCast_add]; rfl, rfl, h2, hlt, HM, trivial⟩, by simp only [intOf]; omega⟩
        case neg =>
          obtain rfl : j = 8 := by omega
          have HZ : Hid (v = crcN 4294967295 ((bytesOf s).take (i + 1))) := Lib.hid (by rw [HN.out]; exact HV.out)
          clear HV HN
          go_wp2_with fail
          exact ⟨⟨i + 1, v, by rw [Int.natCast_add]; rfl, rfl, h1, hv, HZ, trivial⟩, by simp only [intOf]; omega⟩
    case neg =>
      have hnI : ¬ (i : Int) < (s.size : Int) := by omega
      have HF : Hid (((4294967295 - v : Nat) : Int) = sumOf (bytesOf s)) := Lib.hid (by
        have := HV.out
        rw [List.take_of_length_le (by rw [bytesOf_length]; omega)] at this
        rw [sumOf_nat _ (bytesOf_lt s), ← this, xor_max v hv])
      obtain ⟨z, hz⟩ : ∃ z, 4294967295 - v = z := ⟨_, rfl⟩
      rw [hz] at HF
      have hzI : (4294967295 : Int) - (v : Int) = (z : Int) := by omega
      have hzb : z < 4294967296 := by omega
      clear HV hz
      go_wp2_with fail
      exact bodyPost_ret (results_tmp rfl _ _ _) rfl ⟨by rw [← HF.out]; rfl, rfl⟩

/-- where the next byte 00 is -/
def zeroN (s : ByteArray) (a : Nat) : Int :=
  match Lib.indexByte (s.extract a s.size).data.toList 0 with
  | .ofNat i => ((a + i : Nat) : Int)
  | .negSucc _ => -1
theorem tail_cons (s : ByteArray) (a : Nat) (h : a < s.size) : (s.extract a s.size).data.toList = s[a] :: (s.extract (a + 1) s.size).data.toList := by
  have e : ∀ b, (s.extract b s.size).data.toList = s.data.toList.drop b := fun b => by
    simp only [ByteArray.data_extract, Array.toList_extract]
    show (s.data.toList.drop b).take (s.size - b) = _
    rw [List.take_of_length_le (by rw [List.length_drop]; exact Nat.le_refl _)]
  rw [e, e, List.drop_eq_getElem_cons (by simpa using h)]
  rfl
theorem zeroN_end (s : ByteArray) (a : Nat) (h : s.size ≤ a) : zeroN s a = -1 := by
  unfold zeroN
  have e : (s.extract a s.size).data.toList = [] := by
    simp only [ByteArray.data_extract, Array.toList_extract]
    show (s.data.toList.drop a).take (s.size - a) = _
    rw [show s.size - a = 0 by omega, List.take_zero]
  rw [e]
  rfl
theorem zeroN_here (s : ByteArray) (a : Nat) (h : a < s.size) (h0 : s[a].toNat = 0) : zeroN s a = (a : Int) := by
  unfold zeroN
  have hb : (s[a] == (0 : UInt8)) = true := by rw [beq_iff_eq]; exact UInt8.toNat_inj.1 h0
  rw [tail_cons s a h, Lib.indexByte, if_pos hb]
  rfl
theorem zeroN_next (s : ByteArray) (a : Nat) (h : a < s.size) (h0 : s[a].toNat ≠ 0) : zeroN s a = zeroN s (a + 1) := by
  unfold zeroN
  have hb : (s[a] == (0 : UInt8)) = false := by rw [beq_eq_false_iff_ne]; intro e; rw [e] at h0; exact h0 rfl
  rw [tail_cons s a h, Lib.indexByte, hb]
  have hge := Lib.indexByte_ge (s.extract (a + 1) s.size).data.toList 0
  cases e : Lib.indexByte (s.extract (a + 1) s.size).data.toList 0 with
  | ofNat i =>
    have : ((Int.ofNat i : Int) == -1) = false := by rw [beq_eq_false_iff_ne]; intro h; cases h
    rw [this]
    show ((a + (i + 1) : Nat) : Int) = ((a + 1 + i : Nat) : Int)
    congr 1
    omega
  | negSucc i =>
    rw [e] at hge
    have : i = 0 := by omega
    subst this
    rfl

set_option maxHeartbeats 1600000 in
set_option maxRecDepth 100000 in
theorem rzero_any (s : ByteArray) (hs : s.size ≤ 1099511627776) (a : Nat) (w : World) :
    Calls Try.prog 26 #[.string s, .int .i64 (a : Int)] w fun e w' => e = .returned (.int .i64 (zeroN s a)) ∧ w' = w := by
  obtain ⟨Z, hZ⟩ : ∃ Z, zeroN s a = Z := ⟨_, rfl⟩
  have H0 := Lib.hid hZ
  rw [hZ]
  clear hZ
  by_cases hbig : s.size < a
  · have hZ : Z = -1 := by rw [← H0.out, zeroN_end s a (by omega)]
    have hI : ¬ (a : Int) < (s.size : Int) := by omega
    subst hZ
    go_enter Try.func26, Try.ntmps26
    go_wp2_with fail
    go_loopw [5] (fun c wx => c = .int .i64 (a : Int) ∧ wx = w) (fun c _ => 0)
    case atStart => exact ⟨rfl, rfl⟩
    case round =>
      obtain ⟨rfl, rfl⟩ := hrel
      go_wp2_with fail
      exact bodyPost_ret (results_tmp rfl _ _ _) rfl ⟨rfl, rfl⟩
  · have ha : a ≤ s.size := by omega
    clear hbig
    go_enter Try.func26, Try.ntmps26
    go_wp2_with fail
    go_loopw [5] (fun c wx => ∃ i : Nat, c = .int .i64 (i : Int) ∧ i ≤ s.size ∧ Hid (zeroN s i = Z) ∧ wx = w) (fun c _ => s.size - (intOf c).toNat)
    case atStart => exact ⟨a, rfl, ha, H0, rfl⟩
    case round =>
      obtain ⟨i, rfl, hi, HZ, rfl⟩ := hrel
      clear H0
      by_cases h1 : i < s.size
      case neg =>
        have hI : ¬ (i : Int) < (s.size : Int) := by omega
        have hZ : Z = -1 := by rw [← HZ.out, zeroN_end s i (by omega)]
        subst hZ
        go_wp2_with fail
        exact bodyPost_ret (results_tmp rfl _ _ _) rfl ⟨rfl, rfl⟩
      case pos =>
        have h1I : (i : Int) < (s.size : Int) := by omega
        obtain ⟨x, hx⟩ : ∃ x, (s[i]'h1).toNat = x := ⟨_, rfl⟩
        by_cases h0 : (s[i]'h1).toNat = 0
        · have hZ : Z = (i : Int) := by rw [← HZ.out, zeroN_here s i h1 h0]
          subst hZ
          go_wp2_with fail
          exact bodyPost_ret (results_tmp rfl _ _ _) rfl ⟨rfl, rfl⟩
        · have HZ2 : Hid (zeroN s (i + 1) = Z) := Lib.hid (by rw [← zeroN_next s i h1 h0]; exact HZ.out)
          have h0I : ¬ ((s[i]'h1).toNat : Int) = 0 := by omega
          have h0b : (((s[i]'h1).toNat : Int) == 0) = false := by rw [beq_eq_false_iff_ne]; omega
          clear hx HZ
          go_wp2_with fail
          exact ⟨⟨i + 1, by rw [Int.natCast_add]; rfl, h1, HZ2, trivial⟩, by simp only [intOf]; omega⟩

end Go.Proofs.Ytgjcnembeebjfaa
