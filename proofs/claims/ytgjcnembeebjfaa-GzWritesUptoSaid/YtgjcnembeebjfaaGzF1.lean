/- Walks over package ferretref05: low, Sum, zero. -/
import Derived.Test.YtgjcnembeebjfaaGzX0
import Derived.Test.YtgjcnembeebjfaaGzE
import Derived.Deep.AppendSrc
import Derived.Deep.RegionWith
import Derived.Deep.LoopGhost
import Derived.Deep.DeepCutAuto
namespace Go.Proofs.Ytgjcnembeebjfaa
open Go.RowKit
set_option linter.unusedVariables false

def uC (L : List Nat) : List Value := L.map fun n : Nat => Value.int .u8 (n : Int)
theorem uC_len (L : List Nat) : (uC L).length = L.length := by simp [uC]
theorem uC_app (L M : List Nat) : uC (L ++ M) = uC L ++ uC M := by simp [uC]
theorem info_u8f : (Try.prog.info? 5).map (fun i => (i.zero, i.size, i.bytes)) = some (some (.int .u8 0), 1, 1) := by kernel_rfl

/-- a row of bytes that a call has grown -/
structure OB (w0 : World) (v : Value) (L : List Nat) (w : World) : Prop where
  row : w.ownsRow 0 5 1 v L.length (uC L)
  fresh : ∀ g, v.ownBlock = some g → w0.heap.size ≤ g
  kept : Mut [] w0 w
theorem OB.start {w0 w : World} (m : Mut [] w0 w) : OB w0 (.slice none 0 0) [] w := ⟨World.ownsRow_nil _ _ _ _, by simp [Value.ownBlock], m⟩
theorem OB.mut {w0 w w' : World} {v : Value} {L : List Nat} (h : OB w0 v L w) (m : Mut [] w w') : OB w0 v L w' := ⟨m.row h.row (by simp), h.fresh, h.kept.trans' m⟩
theorem OB.form {w0 w : World} {v : Value} {L : List Nat} (h : OB w0 v L w) : ∃ p c, v = .slice p L.length c := by
  rcases h.row.2 with ⟨h1, h2⟩ | ⟨g, cap, cur, h1, -⟩
  · exact ⟨none, 0, by rw [h1, h2]⟩
  · exact ⟨_, _, h1⟩
/-- behind an append; the world has laid blocks in between -/
theorem OB.app {w0 w wx w1 : World} {v v' : Value} {L M : List Nat} (h : OB w0 v L w) (mx : Mut [] w wx) (hr : w1.ownsRow 0 5 1 v' (L.length + M.length) (uC L ++ uC M)) (hg : wx.grownBy w1 v.ownBlock) (hf : ∀ g, v'.ownBlock = some g → v.ownBlock = some g ∨ wx.heap.size ≤ g) : OB w0 v' (L ++ M) w1 := by
  have hm : Mut v.ownBlock.toList w w1 := (mx.mono (by simp)).grown hg (fun k hk => .inl (by simp [hk]))
  refine ⟨?_, fun g hg => (hf g hg).elim (fun h' => h.fresh g h') (fun h' => by have := h.kept.size; have := mx.size; omega), h.kept.trans hm (fun y hy => .inr (h.fresh y (by simpa using hy)))⟩
  rw [List.length_append, uC_app]
  exact hr
theorem uC_one (L : List Nat) : ∀ u ∈ uC L, u.oneCell' = true := by
  intro u hu
  unfold uC at hu
  rw [List.mem_map] at hu
  obtain ⟨n, -, rfl⟩ := hu
  rfl
theorem byteCells_uC (s : ByteArray) : byteCells s = uC (bytesOf s) := by
  unfold uC bytesOf
  rw [List.map_map]
  rfl
theorem row_conv {w : World} {v : Value} {L : List Nat} (h : w.ownsRow 0 5 1 v L.length (uC L)) (hL : L ≠ []) : (convert 54 9 v).run Try.prog w = .ok (.string (strOf L)) w := by
  rcases h.2 with ⟨-, h1⟩ | ⟨g, cap, cur, rfl, -, h1, h2, h3, h4, h5⟩
  · exact absurd (List.eq_nil_of_length_eq_zero h1) hL
  · have hcell : ∀ j, j < L.length → w.cell? ⟨g, j, none⟩ = some (.int .u8 ((L.getD j 0 : Nat) : Int)) := by
      intro j hj
      refine cellOf h1 j ?_
      have h6 : (cur.toList.take (L.length * 1))[j]? = (uC L)[j]? := by rw [h5]
      rw [List.getElem?_take_of_lt (by omega)] at h6
      rw [← Array.getElem?_toList, h6]
      simp [uC, List.getD, hj]
    rw [run_convert_bytes_arg w 54 5 Try.underlying54 Try.underlying5 g 0 L.length cap (L.map fun n : Nat => (n : Int)) (by simp) (fun i hi => by
      rw [Nat.zero_add, hcell i hi]
      simp [List.getD, hi]) 9 Try.underlying9]
    have e : strOfNums (L.map fun n : Nat => (n : Int)) = strOf L := by
      unfold strOfNums strOf
      rw [List.map_map]
      rfl
    rw [e]

theorem OB.conv {w0 w : World} {v : Value} {L : List Nat} (h : OB w0 v L w) (hL : L ≠ []) : (convert 54 9 v).run Try.prog w = .ok (.string (strOf L)) w := row_conv h.row hL

theorem lowL_snoc (n k : Nat) : lowL n (k + 1) = lowL n k ++ [lb n k] := by
  unfold lowL
  rw [List.range_succ, List.map_append]
  rfl

set_option maxHeartbeats 1600000 in
set_option maxRecDepth 100000 in
theorem rlow_any (n k : Nat) (hn : n < 4294967296) (hk0 : 1 ≤ k) (hk : k ≤ 4) (w : World) :
    Calls Try.prog 27 #[.int .i64 (n : Int), .int .i64 (k : Int)] w fun e w' => e = .returned (.string (strOf (lowL n k))) ∧ Mut [] w w' := by
  have H0 : Hid (OB w (.slice none 0 0) (lowL n 0) w) := Lib.hid (OB.start (Mut.refl [] w))
  go_enter Try.func27, Try.ntmps27
  go_wp2_with fail
  go_loopg [0, 5, 6] k (fun g a v c wr => ∃ (i m : Nat) (p : Option Addr) (q : Nat), g = k - i ∧ a = .int .i64 (m : Int) ∧ v = .slice p i q ∧ c = .int .i64 (i : Int) ∧ i ≤ k ∧ m < 4294967296 ∧ Hid (m = n / 256 ^ i) ∧ Hid (OB w (.slice p i q) (lowL n i) wr))
  case atStart => exact ⟨0, n, none, 0, rfl, rfl, rfl, rfl, Nat.zero_le _, hn, Lib.hid (by simp), H0⟩
  case round =>
    obtain ⟨i, m, p, q, rfl, rfl, rfl, rfl, hi, hm, HMN, HR⟩ := hrel
    clear H0
    by_cases hlt : i < k
    case neg =>
      obtain rfl : i = k := by omega
      have hI : ¬ (i : Int) < (i : Int) := by omega
      have hcv0 := HR.out.conv (fun h => by have := congrArg List.length h; rw [lowL_len] at this; simp at this; omega)
      have HM := Lib.hid HR.out.kept
      clear HR
      go_wp2_with fail
      exact bodyPost_ret (results_tmp rfl _ _ _) rfl ⟨rfl, HM.out⟩
    case pos =>
      have hI : (i : Int) < (k : Int) := by omega
      have hwr : IntKind.u8.wrap (m : Int) = ((m % 256 : Nat) : Int) := by simp [IntKind.wrap, IntKind.signed, IntKind.bits]
      have HLB : Hid (m % 256 = lb n i) := Lib.hid (by rw [HMN.out]; unfold lb; rw [show (256 : Nat) = 2 ^ 8 from rfl, ← Nat.pow_mul])
      have hdv : (m : Int).tdiv 256 = ((m / 256 : Nat) : Int) := by rw [Int.tdiv_eq_ediv_of_nonneg (by omega)]; omega
      have HMN2 : Hid (m / 256 = n / 256 ^ (i + 1)) := Lib.hid (by rw [HMN.out, Nat.div_div_eq_div_mul, Nat.pow_succ])
      have hm2 : m / 256 < 4294967296 := by omega
      obtain ⟨M, hM⟩ : ∃ M, m / 256 = M := ⟨_, rfl⟩
      obtain ⟨B, hB⟩ : ∃ B, m % 256 = B := ⟨_, rfl⟩
      rw [hM] at hdv HMN2 hm2
      rw [hB] at hwr HLB
      clear hM hB HMN
      obtain ⟨i0, hi0, hz0, hz1, hz2⟩ := info_parts info_u8f
      have hlen := lowL_len n i
      have hrow := HR.out.row
      rw [hlen] at hrow
      have hrow2 := hrow.mut' ((Mut.refl [] wr).alloc (.cells (uC [B]).toArray 5)) (by simp)
      have HLN := Lib.hid hlen
      clear hrow hlen
      go_upto_region 5 with fail
      go_wp2_with (at_builtin; refine wp_app rfl (.tmp 12) (.tmp 15) 54 54 rfl 5 i0 (.int .u8 0) 1 1 Try.underlying54 hi0 hz0 hz1 hz2 rfl hrow2 rfl (src1 Try.underlying54 (heap_alloc_new wr _) rfl (uC_one [B])) rfl ?b1 ?b2 ?_)
      case b1 => unfold maxLen; omega
      case b2 => omega
      intro v' w5 hr5 hg5 hf5
      have hS := HR.out.app (M := [B]) ((Mut.refl [] wr).alloc _) (by rw [HLN.out]; exact hr5) hg5 (fun g hg => (hf5 g hg).imp id (fun h => by simpa using h))
      rw [HLB.out, ← lowL_snoc] at hS
      obtain ⟨G5, c5, e5, -, -⟩ := row_some hr5 (by omega)
      subst e5
      have HS := Lib.hid hS
      clear hS hr5 hg5 hf5 hrow2 HR hi0 hz0 hz1 hz2 hwr
      go_wp2_with fail
      go_roundg (k - (i + 1))
      case measure => omega
      case rel => exact ⟨i + 1, M, _, _, rfl, rfl, rfl, by rw [Int.natCast_add]; rfl, hlt, hm2, HMN2, HS⟩

theorem xor_max (n : Nat) (h : n < 4294967296) : 4294967295 ^^^ n = 4294967295 - n := by
  have e : (BitVec.ofNat 32 4294967295 ^^^ BitVec.ofNat 32 n).toNat = 4294967295 - n := by
    have h1 : BitVec.ofNat 32 4294967295 ^^^ BitVec.ofNat 32 n = ~~~ BitVec.ofNat 32 n := by
      have : BitVec.ofNat 32 4294967295 = BitVec.allOnes 32 := rfl
      rw [this]
      ext i hi
      rw [BitVec.getElem_xor, BitVec.getElem_allOnes, BitVec.getElem_not]
      cases (BitVec.ofNat 32 n)[i] <;> rfl
    rw [h1, BitVec.toNat_not, BitVec.toNat_ofNat, Nat.mod_eq_of_lt h]
  rw [BitVec.toNat_xor, BitVec.toNat_ofNat, BitVec.toNat_ofNat, Nat.mod_eq_of_lt h, Nat.mod_eq_of_lt (by decide)] at e
  exact e

set_option maxHeartbeats 1600000 in
set_option maxRecDepth 100000 in
theorem rsum_any (s : ByteArray) (hs : s.size ≤ 1099511627776) (w : World) :
    Calls Try.prog 15 #[.string s] w fun e w' => e = .returned (.int .i64 (sumOf (bytesOf s))) ∧ w' = w := by
  have H0 : Hid ((4294967295 : Nat) = crcN 4294967295 ((bytesOf s).take 0)) := Lib.hid rfl
  go_enter Try.func15, Try.ntmps15
  go_wp2_with fail
  go_loopw [4, 3] (fun c x wx => ∃ (i v : Nat), c = .int .i64 (i : Int) ∧ x = .int .u32 (v : Int) ∧ i ≤ s.size ∧ v < 4294967296 ∧ Hid (v = crcN 4294967295 ((bytesOf s).take i)) ∧ wx = w) (fun c _ _ => s.size - (intOf c).toNat)
  case atStart => exact ⟨0, 4294967295, rfl, rfl, Nat.zero_le _, by decide, H0, rfl⟩
  case round =>
    obtain ⟨i, v, rfl, rfl, hi, hv, HV, rfl⟩ := hrel
    clear H0
    by_cases h1 : i < s.size
    case pos =>
      have h1I : (i : Int) < (s.size : Int) := by omega
      have hxb : (s[i]'h1).toNat < 256 := UInt8.toNat_lt (s[i]'h1)
      have hx1 : IntKind.u32.wrap ((s[i]'h1).toNat : Int) = ((s[i]'h1).toNat : Int) := IntWalk.u32_in _ (by omega)
      have hl : i < (bytesOf s).length := by rw [bytesOf_length]; exact h1
      have HN : Hid (crcN 4294967295 ((bytesOf s).take (i + 1)) = crcKN 8 (v ^^^ (s[i]'h1).toNat)) := Lib.hid (by
        rw [List.take_succ_eq_append_getElem hl, bytesOf_get s i h1, HV.out]
        unfold crcN
        rw [List.foldl_append]
        rfl)
      have hxr := xor_u32_nat v (s[i]'h1).toNat hv (Nat.lt_trans hxb (by decide))
      have hc0 : v ^^^ (s[i]'h1).toNat < 4294967296 := Nat.xor_lt_two_pow (n := 32) hv (Nat.lt_trans hxb (by decide))
      generalize (v ^^^ (s[i]'h1).toNat) = c0 at *
      clear HV hl hv
      have HC0 : Hid (c0 = crcKN 0 c0) := Lib.hid rfl
      go_wp2_with fail
      go_loopw [5, 3] (fun c x wx => ∃ (j v : Nat), c = .int .i64 (j : Int) ∧ x = .int .u32 (v : Int) ∧ j ≤ 8 ∧ v < 4294967296 ∧ Hid (v = crcKN j c0) ∧ wx = wr) (fun c _ _ => 8 - (intOf c).toNat)
      case atStart => exact ⟨0, c0, rfl, rfl, Nat.zero_le _, hc0, HC0, rfl⟩
      case round =>
        obtain ⟨j, v, rfl, rfl, hj, hv, HV, rfl⟩ := hrel
        clear HC0 hxr
        by_cases h2 : j < 8
        case pos =>
          have h2I : (j : Int) < 8 := by omega
          have HM : Hid (crc1N v = crcKN (j + 1) c0) := Lib.hid (by rw [HV.out]; rfl)
          have hlt := crc1N_lt v hv
          have htm : (v : Int).tmod 2 = ((v % 2 : Nat) : Int) := by rw [Int.tmod_eq_emod_of_nonneg (by omega)]; omega
          have htd : (v : Int).tdiv 2 = ((v / 2 : Nat) : Int) := by rw [Int.tdiv_eq_ediv_of_nonneg (by omega)]; omega
          have hxr := xor_u32_nat (v / 2) 3988292384 (by omega) (by decide)
          rcases Nat.mod_two_eq_zero_or_one v with e | e
          · have he : crc1N v = v / 2 := by unfold crc1N; rw [e, if_neg (by decide), Nat.xor_zero]
            rw [e] at htm
            rw [he] at HM hlt
            have hq2 : v / 2 < 4294967296 := by omega
            obtain ⟨q, hq⟩ : ∃ q, v / 2 = q := ⟨_, rfl⟩
            rw [hq] at htd HM hq2
            clear hxr he hq HV e hlt
            go_wp2_with fail
            exact ⟨⟨j + 1, q, by rw [Int.natCast_add]; rfl, rfl, h2, hq2, HM, trivial⟩, by simp only [intOf]; omega⟩
          · have he : crc1N v = v / 2 ^^^ 3988292384 := by unfold crc1N; rw [e, if_pos rfl]
            rw [e] at htm
            rw [he] at HM hlt
            have hq2 : v / 2 < 4294967296 := by omega
            obtain ⟨q, hq⟩ : ∃ q, v / 2 = q := ⟨_, rfl⟩
            obtain ⟨z, hz⟩ : ∃ z, v / 2 ^^^ 3988292384 = z := ⟨_, rfl⟩
            rw [hz] at hxr HM hlt
            rw [hq] at htd hxr hq2
            have hxr : Go.bits .xor .u32 (q : Int) 3988292384 = (z : Int) := hxr
            clear he hq hz HV e
            go_wp2_with fail
            exact ⟨⟨j + 1, z, by rw [Int.natCast_add]; rfl, rfl, h2, hlt, HM, trivial⟩, by simp only [intOf]; omega⟩
        case neg =>
          obtain rfl : j = 8 := by omega
          have HZ : Hid (v = crcN 4294967295 ((bytesOf s).take (i + 1))) := Lib.hid (by rw [HN.out]; exact HV.out)
          clear HV HN
          go_wp2_with fail
          exact ⟨⟨i + 1, v, by rw [Int.natCast_add]; rfl, rfl, h1, hv, HZ, trivial⟩, by simp only [intOf]; omega⟩
    case neg =>
      have hnI : ¬ (i : Int) < (s.size : Int) := by omega
      have HF : Hid (((4294967295 - v : Nat) : Int) = sumOf (bytesOf s)) := Lib.hid (by
        have := HV.out
        rw [List.take_of_length_le (by rw [bytesOf_length]; omega)] at this
        rw [sumOf_nat _ (bytesOf_lt s), ← this, xor_max v hv])
      obtain ⟨z, hz⟩ : ∃ z, 4294967295 - v = z := ⟨_, rfl⟩
      rw [hz] at HF
      have hzI : (4294967295 : Int) - (v : Int) = (z : Int) := by omega
      have hzb : z < 4294967296 := by omega
      clear HV hz
      go_wp2_with fail
      exact bodyPost_ret (results_tmp rfl _ _ _) rfl ⟨by rw [← HF.out]; rfl, rfl⟩

/-- where the next byte 00 is -/
def zeroN (s : ByteArray) (a : Nat) : Int :=
  match Lib.indexByte (s.extract a s.size).data.toList 0 with
  | .ofNat i => ((a + i : Nat) : Int)
  | .negSucc _ => -1
theorem tail_cons (s : ByteArray) (a : Nat) (h : a < s.size) : (s.extract a s.size).data.toList = s[a] :: (s.extract (a + 1) s.size).data.toList := by
  have e : ∀ b, (s.extract b s.size).data.toList = s.data.toList.drop b := fun b => by
    simp only [ByteArray.data_extract, Array.toList_extract]
    show (s.data.toList.drop b).take (s.size - b) = _
    rw [List.take_of_length_le (by rw [List.length_drop]; exact Nat.le_refl _)]
  rw [e, e, List.drop_eq_getElem_cons (by simpa using h)]
  rfl
theorem zeroN_end (s : ByteArray) (a : Nat) (h : s.size ≤ a) : zeroN s a = -1 := by
  unfold zeroN
  have e : (s.extract a s.size).data.toList = [] := by
    simp only [ByteArray.data_extract, Array.toList_extract]
    show (s.data.toList.drop a).take (s.size - a) = _
    rw [show s.size - a = 0 by omega, List.take_zero]
  rw [e]
  rfl
theorem zeroN_here (s : ByteArray) (a : Nat) (h : a < s.size) (h0 : s[a].toNat = 0) : zeroN s a = (a : Int) := by
  unfold zeroN
  have hb : (s[a] == (0 : UInt8)) = true := by rw [beq_iff_eq]; exact UInt8.toNat_inj.1 h0
  rw [tail_cons s a h, Lib.indexByte, if_pos hb]
  rfl
theorem zeroN_next (s : ByteArray) (a : Nat) (h : a < s.size) (h0 : s[a].toNat ≠ 0) : zeroN s a = zeroN s (a + 1) := by
  unfold zeroN
  have hb : (s[a] == (0 : UInt8)) = false := by rw [beq_eq_false_iff_ne]; intro e; rw [e] at h0; exact h0 rfl
  rw [tail_cons s a h, Lib.indexByte, hb]
  have hge := Lib.indexByte_ge (s.extract (a + 1) s.size).data.toList 0
  cases e : Lib.indexByte (s.extract (a + 1) s.size).data.toList 0 with
  | ofNat i =>
    have : ((Int.ofNat i : Int) == -1) = false := by rw [beq_eq_false_iff_ne]; intro h; cases h
    rw [this]
    show ((a + (i + 1) : Nat) : Int) = ((a + 1 + i : Nat) : Int)
    congr 1
    omega
  | negSucc i =>
    rw [e] at hge
    have : i = 0 := by omega
    subst this
    rfl

set_option maxHeartbeats 1600000 in
set_option maxRecDepth 100000 in
theorem rzero_any (s : ByteArray) (hs : s.size ≤ 1099511627776) (a : Nat) (w : World) :
    Calls Try.prog 26 #[.string s, .int .i64 (a : Int)] w fun e w' => e = .returned (.int .i64 (zeroN s a)) ∧ w' = w := by
  obtain ⟨Z, hZ⟩ : ∃ Z, zeroN s a = Z := ⟨_, rfl⟩
  have H0 := Lib.hid hZ
  rw [hZ]
  clear hZ
  by_cases hbig : s.size < a
  · have hZ : Z = -1 := by rw [← H0.out, zeroN_end s a (by omega)]
    have hI : ¬ (a : Int) < (s.size : Int) := by omega
    subst hZ
    go_enter Try.func26, Try.ntmps26
    go_wp2_with fail
    go_loopw [5] (fun c wx => c = .int .i64 (a : Int) ∧ wx = w) (fun c _ => 0)
    case atStart => exact ⟨rfl, rfl⟩
    case round =>
      obtain ⟨rfl, rfl⟩ := hrel
      go_wp2_with fail
      exact bodyPost_ret (results_tmp rfl _ _ _) rfl ⟨rfl, rfl⟩
  · have ha : a ≤ s.size := by omega
    clear hbig
    go_enter Try.func26, Try.ntmps26
    go_wp2_with fail
    go_loopw [5] (fun c wx => ∃ i : Nat, c = .int .i64 (i : Int) ∧ i ≤ s.size ∧ Hid (zeroN s i = Z) ∧ wx = w) (fun c _ => s.size - (intOf c).toNat)
    case atStart => exact ⟨a, rfl, ha, H0, rfl⟩
    case round =>
      obtain ⟨i, rfl, hi, HZ, rfl⟩ := hrel
      clear H0
      by_cases h1 : i < s.size
      case neg =>
        have hI : ¬ (i : Int) < (s.size : Int) := by omega
        have hZ : Z = -1 := by rw [← HZ.out, zeroN_end s i (by omega)]
        subst hZ
        go_wp2_with fail
        exact bodyPost_ret (results_tmp rfl _ _ _) rfl ⟨rfl, rfl⟩
      case pos =>
        have h1I : (i : Int) < (s.size : Int) := by omega
        obtain ⟨x, hx⟩ : ∃ x, (s[i]'h1).toNat = x := ⟨_, rfl⟩
        by_cases h0 : (s[i]'h1).toNat = 0
        · have hZ : Z = (i : Int) := by rw [← HZ.out, zeroN_here s i h1 h0]
          subst hZ
          go_wp2_with fail
          exact bodyPost_ret (results_tmp rfl _ _ _) rfl ⟨rfl, rfl⟩
        · have HZ2 : Hid (zeroN s (i + 1) = Z) := Lib.hid (by rw [← zeroN_next s i h1 h0]; exact HZ.out)
          have h0I : ¬ ((s[i]'h1).toNat : Int) = 0 := by omega
          have h0b : (((s[i]'h1).toNat : Int) == 0) = false := by rw [beq_eq_false_iff_ne]; omega
          clear hx HZ
          go_wp2_with fail
          exact ⟨⟨i + 1, by rw [Int.natCast_add]; rfl, h1, HZ2, trivial⟩, by simp only [intOf]; omega⟩

end Go.Proofs.Ytgjcnembeebjfaa
