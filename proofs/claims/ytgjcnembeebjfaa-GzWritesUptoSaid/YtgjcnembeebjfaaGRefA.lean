/- Walks over package ferretref04: bits, code. Walks over package ferretref04: length, distance. Walk over package ferretref03: Fixed. Walk over package ferretref04: Tokens. Walks over package ferretref02: Even. Walks over the document's answer for bits: Pack. -/
import Derived.Test.YtgjcnembeebjfaaGLaw
import Derived.Test.YtgjcnembeebjfaaGBw
import Derived.Deep.DeepCutAuto
import Derived.Test.YtgjcnembeebjfaaGPlain
import Derived.Test.YtgjcnembeebjfaaGIn1
import Derived.Test.YtgjcnembeebjfaaInfW7
import Derived.Test.YtgjcnembeebjfaaGTok
import Derived.Deep.CutBlock
import Derived.BigQuiet
import Derived.Test.YtgjcnembeebjfaaGBo
import Derived.Test.YtgjcnembeebjfaaGFb
import Derived.Deep.LoopGhost

namespace Go.Proofs.Ytgjcnembeebjfaa
open Go.RowKit
set_option linter.unusedVariables false

/-- bits as integers -/
def bI (L : List Bool) : List Int := L.map fun c => (c.toNat : Int)
theorem bI_len (L : List Bool) : (bI L).length = L.length := by simp [bI]
theorem bI_snoc (L : List Bool) (c : Bool) : bI (L ++ [c]) = bI L ++ [(c.toNat : Int)] := by simp [bI]

/-- a row of bits that grows -/
structure RbS (w0 : World) (r0 : Option Nat) (wx : World) (v : Value) (L : List Bool) : Prop where
  row : IRow wx v (bI L)
  mu : Mut r0.toList w0 wx
  fr : ∀ g, v.ownBlock = some g → r0 = some g ∨ w0.heap.size ≤ g

theorem RbS.start {w : World} {v : Value} {L : List Bool} (h : IRow w v (bI L)) : RbS w v.ownBlock w v L := ⟨h, Mut.refl _ _, fun g hg => .inl hg⟩
theorem RbS.form {w0 wx : World} {r0 : Option Nat} {v : Value} {L : List Bool} (h : RbS w0 r0 wx v L) : ∃ p c, v = .slice p L.length c := by
  obtain ⟨p, c, e, -⟩ := h.row.read
  rw [bI_len] at e
  exact ⟨p, c, e⟩
theorem RbS.app {w0 wx w1 : World} {r0 : Option Nat} {v v' : Value} {L : List Bool} {o : Obj} {c : Bool} (h : RbS w0 r0 wx v L) (hr : IRow w1 v' (bI L ++ [(c.toNat : Int)])) (m : Mut v.ownBlock.toList (wx.alloc o) w1)
    (f : ∀ g, v'.ownBlock = some g → v.ownBlock = some g ∨ wx.heap.size + 1 ≤ g) : RbS w0 r0 w1 v' (L ++ [c]) := by
  have m1 : Mut v.ownBlock.toList wx w1 := ((Mut.refl _ wx).alloc o).trans' m
  refine ⟨by rw [bI_snoc]; exact hr, h.mu.trans m1 (fun x hx => ?_), fun g hg => ?_⟩
  · rcases h.fr x (by simpa using hx) with h1 | h1
    · exact .inl (by simp [h1])
    · exact .inr h1
  · rcases f g hg with h1 | h1
    · exact h.fr g h1
    · have := h.mu.size
      exact .inr (by omega)

set_option maxHeartbeats 800000 in
set_option maxRecDepth 100000 in
theorem rbits_any (x n : Nat) (hx : x ≤ 1073741824) (hn : n ≤ 32) {w0 w : World} {r0 : Option Nat} {v : Value} {L : List Bool} (h : RbS w0 r0 w v L) (hL : L.length ≤ 549755813888) :
    Calls Try.prog 40 #[v, .int .i64 (x : Int), .int .i64 (n : Int)] w fun e w' => ∃ v', e = .returned v' ∧ RbS w0 r0 w' v' (L ++ lowBits (x : Int) n) := by
  obtain ⟨p, c, rfl⟩ := h.form
  have HS : Hid (RbS w0 r0 w (.slice p L.length c) (L ++ lowBits (x : Int) 0)) := Lib.hid (by simpa [lowBits] using h)
  clear h
  go_enter Try.func40, Try.ntmps40
  go_wp2_with fail
  go_loopw [7, 0] (fun i v wx => ∃ (k : Nat) (p : Option Addr) (c : Nat), i = .int .i64 (k : Int) ∧ v = .slice p (L.length + k) c ∧ k ≤ n ∧ Hid (RbS w0 r0 wx (.slice p (L.length + k) c) (L ++ lowBits (x : Int) k))) (fun i _ _ => n - (intOf i).toNat)
  case atStart => exact ⟨0, p, c, rfl, rfl, Nat.zero_le _, HS⟩
  case round =>
    obtain ⟨k, p, c, rfl, rfl, hk, HR⟩ := hrel
    clear HS
    by_cases hlt : k < n
    case neg =>
      obtain rfl : k = n := by omega
      go_wp2_with fail
      exact bodyPost_ret (results_tmp rfl _ _ _) rfl ⟨.slice p (L.length + k) c, rfl, HR.out⟩
    case pos =>
      have hltI : (k : Int) < (n : Int) := by omega
      obtain ⟨bt, hbt⟩ : ∃ b, bitOf (x : Int) k = b := ⟨_, rfl⟩
      have hb : Go.bits .and .i64 ((x : Int) / 2 ^ k) 1 = ((bt.toNat : Nat) : Int) := by
        rw [and1_i64, ← hbt]
        exact int_bit _
      have HSN : Hid (L ++ lowBits (x : Int) (k + 1) = (L ++ lowBits (x : Int) k) ++ [bt]) := Lib.hid (by rw [lowBits_succ, ← hbt, List.append_assoc]; rfl)
      have hlen : (L ++ lowBits (x : Int) k).length = L.length + k := by rw [List.length_append, lowBits_length]
      have hrow := HR.out.row.mut ((Mut.refl [] wr).alloc (.cells #[.int .i64 ((bt.toNat : Nat) : Int)] 3)) (by simp)
      have HLN := Lib.hid hlen
      clear hbt hlen
      go_upto_region 4 with fail
      go_wp2_with (at_builtin; (refine wp_appI rfl (.tmp 13) (.tmp 18) rfl hrow rfl (src_one (heap_alloc_new wr _)) rfl ?b1 ?_))
      case b1 => rw [bI_len, HLN.out]; simp; omega
      intro v' w' r1 m1 f1
      have hS := HR.out.app r1 m1 (fun g hg => by
        rcases f1 g hg with h1 | h1
        · exact .inl h1
        · exact .inr (by simpa using h1))
      rw [← HSN.out] at hS
      obtain ⟨p', c', e⟩ := hS.form
      rw [List.length_append, lowBits_length] at e
      subst e
      have HS2 := Lib.hid hS
      clear hS r1 m1 f1 hrow HR
      go_wp2_with fail
      exact ⟨⟨k + 1, p', c', by rw [Int.natCast_add]; rfl, rfl, hlt, HS2⟩, by simp only [intOf]; omega⟩

set_option maxHeartbeats 800000 in
set_option maxRecDepth 100000 in
theorem rcode_any (x n : Nat) (hx : x ≤ 1073741824) (hn : n ≤ 32) {w0 w : World} {r0 : Option Nat} {v : Value} {L : List Bool} (h : RbS w0 r0 w v L) (hL : L.length ≤ 549755813888) :
    Calls Try.prog 65 #[v, .int .i64 (x : Int), .int .i64 (n : Int)] w fun e w' => ∃ v', e = .returned v' ∧ RbS w0 r0 w' v' (L ++ highBits (x : Int) n) := by
  obtain ⟨p, c, rfl⟩ := h.form
  have HS : Hid (RbS w0 r0 w (.slice p L.length c) (L ++ highTo (x : Int) n 0)) := Lib.hid (by simpa [highTo] using h)
  have HE : Hid (highTo (x : Int) n n = highBits (x : Int) n) := Lib.hid rfl
  clear h
  go_enter Try.func65, Try.ntmps65
  go_wp2_with fail
  go_loopw [7, 0] (fun i v wx => ∃ (k : Nat) (iv : Int) (p : Option Addr) (c : Nat), i = .int .i64 iv ∧ iv = (n : Int) - 1 - (k : Int) ∧ v = .slice p (L.length + k) c ∧ k ≤ n ∧ Hid (RbS w0 r0 wx (.slice p (L.length + k) c) (L ++ highTo (x : Int) n k))) (fun i _ _ => (intOf i + 1).toNat)
  case atStart => exact ⟨0, (n : Int) - 1, p, c, rfl, by omega, rfl, Nat.zero_le _, HS⟩
  case round =>
    obtain ⟨k, iv, p, c, rfl, hiv, rfl, hk, HR⟩ := hrel
    clear HS
    by_cases hlt : k < n
    case neg =>
      obtain rfl : k = n := by omega
      have hI : ¬ (0 : Int) ≤ iv := by omega
      have HR2 : Hid (RbS w0 r0 wr (.slice p (L.length + k) c) (L ++ highBits (x : Int) k)) := Lib.hid (by rw [← HE.out]; exact HR.out)
      clear hiv
      go_wp2_with fail
      exact bodyPost_ret (results_tmp rfl _ _ _) rfl ⟨.slice p (L.length + k) c, rfl, HR2.out⟩
    case pos =>
      obtain ⟨m, hm⟩ : ∃ m : Nat, n - 1 - k = m := ⟨_, rfl⟩
      obtain rfl : iv = (m : Int) := by omega
      obtain ⟨bt, hbt⟩ : ∃ b, bitOf (x : Int) m = b := ⟨_, rfl⟩
      have hb : Go.bits .and .i64 ((x : Int) / 2 ^ m) 1 = ((bt.toNat : Nat) : Int) := by
        rw [and1_i64, ← hbt]
        exact int_bit _
      have HSN : Hid (L ++ highTo (x : Int) n (k + 1) = (L ++ highTo (x : Int) n k) ++ [bt]) := Lib.hid (by rw [highTo_succ, hm, ← hbt, List.append_assoc]; rfl)
      have hlen : (L ++ highTo (x : Int) n k).length = L.length + k := by rw [List.length_append, highTo_length]
      have hrow := HR.out.row.mut ((Mut.refl [] wr).alloc (.cells #[.int .i64 ((bt.toNat : Nat) : Int)] 3)) (by simp)
      have HLN := Lib.hid hlen
      have HIV := Lib.hid hiv
      have hm32 : m ≤ 32 := by omega
      have hm0 : (0 : Int) ≤ (m : Int) := by omega
      clear hbt hlen hm hiv
      go_upto_region 4 with fail
      go_wp2_with (at_builtin; (refine wp_appI rfl (.tmp 14) (.tmp 19) rfl hrow rfl (src_one (heap_alloc_new wr _)) rfl ?b1 ?_))
      case b1 => rw [bI_len, HLN.out]; simp; omega
      intro v' w' r1 m1 f1
      have hS := HR.out.app r1 m1 (fun g hg => by
        rcases f1 g hg with h1 | h1
        · exact .inl h1
        · exact .inr (by simpa using h1))
      rw [← HSN.out] at hS
      obtain ⟨p', c', e⟩ := hS.form
      rw [List.length_append, highTo_length] at e
      subst e
      have HS2 := Lib.hid hS
      clear hS r1 m1 f1 hrow HR
      go_wp2_with fail
      exact ⟨⟨k + 1, (m : Int) - 1, p', c', rfl, by have := HIV.out; omega, rfl, hlt, HS2⟩, by simp only [intOf]; omega⟩

end Go.Proofs.Ytgjcnembeebjfaa

namespace Go.Proofs.Ytgjcnembeebjfaa
open Go.RowKit
set_option linter.unusedVariables false

theorem len_steps : (List.range 255).all (fun i => decide (lenSym (i + 3) ≤ 284) && (List.range 29).all (fun j => !decide (j + 257 < lenSym (i + 3)) || decide ((lenR (j + 257)).1 + 2 ^ (lenR (j + 257)).2 ≤ i + 3))) = true := by decide +kernel
theorem dist_mono : (List.range 30).all (fun i => (List.range (i + 1)).all (fun j => decide ((distR j).1 ≤ (distR i).1))) = true := by decide +kernel

theorem len_step (n : Nat) (h3 : 3 ≤ n) (h : n ≤ 257) : (∀ s, 257 ≤ s → s < lenSym n → (lenR s).1 + 2 ^ (lenR s).2 ≤ n) ∧ 257 ≤ lenSym n ∧ lenSym n < 285 ∧ (lenR (lenSym n)).1 ≤ n ∧ n - (lenR (lenSym n)).1 < 2 ^ (lenR (lenSym n)).2 := by
  have h1 := List.all_eq_true.1 len_steps (n - 3) (List.mem_range.2 (by omega))
  simp only [Bool.and_eq_true, decide_eq_true_eq, show n - 3 + 3 = n by omega] at h1
  obtain ⟨a1, a2, a3, a4⟩ := lenSym_spec n h3 (by omega)
  refine ⟨fun s hs hl => ?_, a1, by omega, a3, a4⟩
  have h2 := List.all_eq_true.1 h1.2 (s - 257) (List.mem_range.2 (by omega))
  rw [show s - 257 + 257 = s by omega] at h2
  simpa [hl] using h2
theorem dist_step (n : Nat) (h1 : 1 ≤ n) (h : n ≤ 32768) : (∀ s, 0 ≤ s → s < distSym n → (distR s).1 + 2 ^ (distR s).2 ≤ n) ∧ 0 ≤ distSym n ∧ distSym n < 30 ∧ (distR (distSym n)).1 ≤ n ∧ n - (distR (distSym n)).1 < 2 ^ (distR (distSym n)).2 := by
  obtain ⟨a1, a2, a3⟩ := distSym_spec n h1 h
  refine ⟨fun s _ hl => ?_, Nat.zero_le _, by omega, a2, a3⟩
  rw [← distR_succ s (by omega)]
  have h2 := List.all_eq_true.1 (List.all_eq_true.1 dist_mono (distSym n) (List.mem_range.2 (by omega))) (s + 1) (List.mem_range.2 (by omega))
  have := of_decide_eq_true h2
  omega

theorem pow_two (B P : Nat) (h : B ≤ 14) (hP : 2 ^ B = P) : wrap64 (2 ^ B) = (P : Int) ∧ wrap64 (2 ^ min B 64) = (P : Int) := by
  have h1 := (one_pow B h).1
  rw [hP] at h1
  exact ⟨h1, by rw [Nat.min_eq_left (by omega)]; exact h1⟩

set_option maxHeartbeats 1600000 in
set_option maxRecDepth 100000 in
theorem rlength_any (n : Nat) (h0 : 3 ≤ n) (h1 : n ≤ 258) (w : World) :
    Calls Try.prog 66 #[.int .i64 (n : Int)] w fun e w' => e = .returned (.tuple #[.int .i64 (lenSym n : Nat), .int .i64 ((lenR (lenSym n)).1 : Nat), .int .i64 ((lenR (lenSym n)).2 : Nat)]) ∧ w = w' := by
  by_cases h258 : n = 258
  · subst h258
    have e1 : lenSym 258 = 285 := by decide +kernel
    have e2 : lenR 285 = (258, 0) := by decide +kernel
    rw [e1, e2]
    go_enter Try.func66, Try.ntmps66
    go_wp2_with fail
    refine bodyPost_ret (results_tmp3 rfl _ _ _) rfl ⟨rfl, rfl⟩
  have hn258 : ((n : Int) == 258) = false := by rw [beq_eq_false_iff_ne]; omega
  have hst := len_step n h0 (by omega)
  obtain ⟨S, hS⟩ : ∃ S, lenSym n = S := ⟨_, rfl⟩
  rw [hS] at hst ⊢
  have HST := Lib.hid hst.1
  obtain ⟨-, hS1, hS2, hS3, hS4⟩ := hst
  have HSP := Lib.hid (And.intro hS3 hS4)
  clear hS hS3 hS4
  go_enter Try.func66, Try.ntmps66
  go_wp2_with fail
  go_loop [5] (fun c => ∃ s : Nat, c = .int .i64 (s : Int) ∧ 257 ≤ s ∧ s ≤ S) (fun c => 300 - (intOf c).toNat)
  case atStart => exact ⟨257, rfl, Nat.le_refl _, hS1⟩
  case round =>
    obtain ⟨s, rfl, hs1, hs2⟩ := hrel
    have hsI : (s : Int) < 285 := by omega
    obtain ⟨A, hA⟩ : ∃ A, (lenR s).1 = A := ⟨_, rfl⟩
    obtain ⟨B, hB⟩ : ∃ B, (lenR s).2 = B := ⟨_, rfl⟩
    have HG := Lib.hid (rlength_good s w (by omega) (by omega))
    rw [hA, hB] at HG
    have hB14 : B ≤ 14 := by rw [← hB]; exact (by have := (lenR_small s (by omega) hs1).2; omega)
    have hp2 := (one_pow B hB14).2
    obtain ⟨P, hP⟩ : ∃ P, 2 ^ B = P := ⟨_, rfl⟩
    have HPW := Lib.hid (pow_two B P hB14 hP)
    rw [hP] at hp2
    by_cases hse : s = S
    case pos =>
      subst hse
      have h3 := HSP.out
      rw [hA, hB, hP] at h3
      have hAI : (A : Int) ≤ (n : Int) := by omega
      have hnA : (n : Int) - (A : Int) < (P : Int) := by omega
      have HA := Lib.hid (And.intro hA hB)
      clear h3 hA hB hP HSP hB14
      obtain ⟨hp, hpm⟩ := HPW.out
      go_wp2_with (first | (refine HG.out.mono ?_; rintro e w1 ⟨rfl, rfl⟩))
      refine bodyPost_ret (results_tmp3 rfl _ _ _) rfl ⟨?_, rfl⟩
      rw [HA.out.1, HA.out.2]
      rfl
    case neg =>
      have h3 := HST.out s hs1 (by omega)
      rw [hA, hB, hP] at h3
      have hAI : (A : Int) ≤ (n : Int) := by omega
      have hnA : ¬ (n : Int) - (A : Int) < (P : Int) := by omega
      have hs3 : s + 1 ≤ S := by omega
      have hms : 300 - (s + 1) < 300 - s := by omega
      have hs1' : 257 ≤ s + 1 := by omega
      clear h3 hA hB hP hse hB14
      obtain ⟨hp, hpm⟩ := HPW.out
      go_wp2_with (first | (refine HG.out.mono ?_; rintro e w1 ⟨rfl, rfl⟩))
      clear hp hpm
      exact ⟨⟨s + 1, by rw [Int.natCast_add]; rfl, hs1', hs3⟩, by simp only [intOf]; omega⟩

set_option maxHeartbeats 1600000 in
set_option maxRecDepth 100000 in
theorem rdistance_any (n : Nat) (h0 : 1 ≤ n) (h1 : n ≤ 32768) (w : World) :
    Calls Try.prog 67 #[.int .i64 (n : Int)] w fun e w' => e = .returned (.tuple #[.int .i64 (distSym n : Nat), .int .i64 ((distR (distSym n)).1 : Nat), .int .i64 ((distR (distSym n)).2 : Nat)]) ∧ w = w' := by
  skip
  have hst := dist_step n h0 h1
  obtain ⟨S, hS⟩ : ∃ S, distSym n = S := ⟨_, rfl⟩
  rw [hS] at hst ⊢
  have HST := Lib.hid hst.1
  obtain ⟨-, hS1, hS2, hS3, hS4⟩ := hst
  have HSP := Lib.hid (And.intro hS3 hS4)
  clear hS hS3 hS4
  go_enter Try.func67, Try.ntmps67
  go_wp2_with fail
  go_loop [5] (fun c => ∃ s : Nat, c = .int .i64 (s : Int) ∧ 0 ≤ s ∧ s ≤ S) (fun c => 300 - (intOf c).toNat)
  case atStart => exact ⟨0, rfl, Nat.le_refl _, hS1⟩
  case round =>
    obtain ⟨s, rfl, hs1, hs2⟩ := hrel
    have hsI : (s : Int) < 30 := by omega
    obtain ⟨A, hA⟩ : ∃ A, (distR s).1 = A := ⟨_, rfl⟩
    obtain ⟨B, hB⟩ : ∃ B, (distR s).2 = B := ⟨_, rfl⟩
    have HG := Lib.hid (rdistance_good s w (by omega))
    rw [hA, hB] at HG
    have hB14 : B ≤ 14 := by rw [← hB]; exact (by have := (distR_small s (by omega)).2; omega)
    have hp2 := (one_pow B hB14).2
    obtain ⟨P, hP⟩ : ∃ P, 2 ^ B = P := ⟨_, rfl⟩
    have HPW := Lib.hid (pow_two B P hB14 hP)
    rw [hP] at hp2
    by_cases hse : s = S
    case pos =>
      subst hse
      have h3 := HSP.out
      rw [hA, hB, hP] at h3
      have hAI : (A : Int) ≤ (n : Int) := by omega
      have hnA : (n : Int) - (A : Int) < (P : Int) := by omega
      have HA := Lib.hid (And.intro hA hB)
      clear h3 hA hB hP HSP hB14
      obtain ⟨hp, hpm⟩ := HPW.out
      go_wp2_with (first | (refine HG.out.mono ?_; rintro e w1 ⟨rfl, rfl⟩))
      refine bodyPost_ret (results_tmp3 rfl _ _ _) rfl ⟨?_, rfl⟩
      rw [HA.out.1, HA.out.2]
      rfl
    case neg =>
      have h3 := HST.out s hs1 (by omega)
      rw [hA, hB, hP] at h3
      have hAI : (A : Int) ≤ (n : Int) := by omega
      have hnA : ¬ (n : Int) - (A : Int) < (P : Int) := by omega
      have hs3 : s + 1 ≤ S := by omega
      have hms : 300 - (s + 1) < 300 - s := by omega
      have hs1' : 0 ≤ s + 1 := by omega
      clear h3 hA hB hP hse hB14
      obtain ⟨hp, hpm⟩ := HPW.out
      go_wp2_with (first | (refine HG.out.mono ?_; rintro e w1 ⟨rfl, rfl⟩))
      clear hp hpm
      exact ⟨⟨s + 1, by rw [Int.natCast_add]; rfl, hs1', hs3⟩, by simp only [intOf]; omega⟩

end Go.Proofs.Ytgjcnembeebjfaa

namespace Go.Proofs.Ytgjcnembeebjfaa
open Go.RowKit
set_option linter.unusedVariables false

/-- a row of ints that grows, new in this call -/
structure IG (w0 : World) (v : Value) (M : List Int) (w : World) : Prop where
  row : IRow w v M
  fresh : ∀ g, v.ownBlock = some g → w0.heap.size ≤ g
  kept : Mut [] w0 w

theorem IG.start (w : World) : IG w (.slice none 0 0) [] w := ⟨IRow.nil _, by simp [Value.ownBlock], Mut.refl _ _⟩
theorem IG.mut {w0 w w' : World} {v : Value} {M : List Int} (h : IG w0 v M w) (m : Mut [] w w') : IG w0 v M w' := ⟨h.row.mut m (by simp), h.fresh, h.kept.trans' m⟩
theorem IG.sl {w0 w : World} {v : Value} {M : List Int} (h : IG w0 v M w) : ∃ p c, v = .slice p M.length c := by
  obtain ⟨p, c, e, -⟩ := h.row.read
  exact ⟨p, c, e⟩
theorem IG.app {w0 wr w1 : World} {v v' : Value} {M xs : List Int} {o : Obj} (h : IG w0 v M wr) (r1 : IRow w1 v' (M ++ xs)) (m : Mut v.ownBlock.toList (wr.alloc o) w1) (f : ∀ g, v'.ownBlock = some g → v.ownBlock = some g ∨ wr.heap.size + 1 ≤ g) : IG w0 v' (M ++ xs) w1 := by
  refine ⟨r1, fun g hg => ?_, (h.kept.alloc o).trans m (fun x hx => .inr (h.fresh x (by simpa using hx)))⟩
  rcases f g hg with h1 | h1
  · exact h.fresh g h1
  · have := h.kept.size
    omega

theorem takeD_snoc (M : List Int) (i : Nat) (h : i < M.length) : M.take (i + 1) = M.take i ++ [M.getD i 0] := by
  rw [List.take_succ_eq_append_getElem h]
  simp [List.getD, h]

set_option maxHeartbeats 1600000 in
set_option maxRecDepth 100000 in
theorem rfixed_any (w : World) :
    Calls Try.prog 41 #[] w fun e w' => ∃ x y, e = .returned (.tuple #[x, y]) ∧ IRow w' x (toI fixedL) ∧ IRow w' y (toI fixedD) ∧ Mut [] w w' ∧ (∀ g, x.ownBlock = some g → w.heap.size ≤ g) ∧ (∀ g, y.ownBlock = some g → w.heap.size ≤ g) := by
  have hlL : (toI fixedL).length = 288 := by decide +kernel
  have hlD : (toI fixedD).length = 32 := by decide +kernel
  have HG0 : Hid (IG w (.slice none 0 0) ((toI fixedL).take 0) w) := Lib.hid (by rw [List.take_zero]; exact IG.start w)
  go_enter Try.func41, Try.ntmps41
  go_wp2_with fail
  go_loopw [2, 4] (fun a b wx => ∃ (i : Nat) (p : Option Addr) (c : Nat), a = .slice p i c ∧ b = .int .i64 (i : Int) ∧ i ≤ 288 ∧ Hid (IG w (.slice p i c) ((toI fixedL).take i) wx)) (fun a b _ => 288 - (intOf b).toNat)
  case atStart => exact ⟨0, none, 0, rfl, rfl, Nat.zero_le _, HG0⟩
  case round =>
    obtain ⟨i, p, c, rfl, rfl, hi, HG⟩ := hrel
    clear HG0
    by_cases hlt : i < 288
    case pos =>
      have hltI : (i : Int) < 288 := by omega
      obtain ⟨v, hv⟩ : ∃ v, (toI fixedL).getD i 0 = v := ⟨_, rfl⟩
      have hva := fixedL_at i hlt
      rw [hv] at hva
      have htk := takeD_snoc (toI fixedL) i (by omega)
      rw [hv] at htk
      have hln : ((toI fixedL).take i).length = i := by rw [List.length_take]; omega
      have HTK := Lib.hid htk
      have HLN := Lib.hid hln
      clear hv htk hln
      have h4 : (i < 144 ∧ v = 8) ∨ (144 ≤ i ∧ i < 256 ∧ v = 9) ∨ (256 ≤ i ∧ i < 280 ∧ v = 7) ∨ (280 ≤ i ∧ v = 8) := by
        split at hva
        · rename_i h
          rcases h with h | h
          · exact .inl ⟨h, hva⟩
          · exact .inr (.inr (.inr ⟨h, hva⟩))
        · rename_i h
          split at hva
          · exact .inr (.inl ⟨by omega, by assumption, hva⟩)
          · exact .inr (.inr (.inl ⟨by omega, by omega, hva⟩))
      clear hva
      have hn1 : i ≤ 287 := by omega
      rcases h4 with ⟨h1, rfl⟩ | ⟨h1, h2, rfl⟩ | ⟨h1, h2, rfl⟩ | ⟨h1, rfl⟩
      · have h1J : ¬ (144 : Int) ≤ (i : Int) := by omega
        have h1K : ¬ (256 : Int) ≤ (i : Int) := by omega
        go_upto_region 10 with fail
        have hrow := HG.out.row.mut ((Mut.refl [] wr).alloc (.cells #[.int .i64 8] 3)) (by simp)
        go_wp2_with (at_builtin; (refine wp_appI rfl (.tmp 23) (.tmp 25) rfl hrow rfl (src_one (heap_alloc_new wr _)) rfl ?b1 ?_))
        case b1 => omega
        intro v' w' r1 m1 f1
        have hS := HG.out.app r1 m1 (by simpa using f1)
        rw [← HTK.out] at hS
        obtain ⟨p', c', e⟩ := hS.sl
        rw [List.length_take, Nat.min_eq_left (by omega)] at e
        subst e
        have HS2 := Lib.hid hS
        clear hS r1 m1 f1 hrow HG
        go_wp2_with fail
        exact ⟨⟨i + 1, p', c', rfl, by rw [Int.natCast_add]; rfl, by omega, HS2⟩, by simp only [intOf]; omega⟩
      · have h1J : (144 : Int) ≤ (i : Int) := by omega
        have h1K : (i : Int) < 256 := by omega
        have h1L : ¬ (256 : Int) ≤ (i : Int) := by omega
        go_upto_region 10 with fail
        have hrow := HG.out.row.mut ((Mut.refl [] wr).alloc (.cells #[.int .i64 9] 3)) (by simp)
        go_wp2_with (at_builtin; (refine wp_appI rfl (.tmp 23) (.tmp 25) rfl hrow rfl (src_one (heap_alloc_new wr _)) rfl ?b1 ?_))
        case b1 => omega
        intro v' w' r1 m1 f1
        have hS := HG.out.app r1 m1 (by simpa using f1)
        rw [← HTK.out] at hS
        obtain ⟨p', c', e⟩ := hS.sl
        rw [List.length_take, Nat.min_eq_left (by omega)] at e
        subst e
        have HS2 := Lib.hid hS
        clear hS r1 m1 f1 hrow HG
        go_wp2_with fail
        exact ⟨⟨i + 1, p', c', rfl, by rw [Int.natCast_add]; rfl, by omega, HS2⟩, by simp only [intOf]; omega⟩
      · have h1J : (144 : Int) ≤ (i : Int) := by omega
        have h1K : ¬ (i : Int) < 256 := by omega
        have h1L : (256 : Int) ≤ (i : Int) := by omega
        have h3I : (i : Int) < 280 := by omega
        go_upto_region 10 with fail
        have hrow := HG.out.row.mut ((Mut.refl [] wr).alloc (.cells #[.int .i64 7] 3)) (by simp)
        go_wp2_with (at_builtin; (refine wp_appI rfl (.tmp 23) (.tmp 25) rfl hrow rfl (src_one (heap_alloc_new wr _)) rfl ?b1 ?_))
        case b1 => omega
        intro v' w' r1 m1 f1
        have hS := HG.out.app r1 m1 (by simpa using f1)
        rw [← HTK.out] at hS
        obtain ⟨p', c', e⟩ := hS.sl
        rw [List.length_take, Nat.min_eq_left (by omega)] at e
        subst e
        have HS2 := Lib.hid hS
        clear hS r1 m1 f1 hrow HG
        go_wp2_with fail
        exact ⟨⟨i + 1, p', c', rfl, by rw [Int.natCast_add]; rfl, by omega, HS2⟩, by simp only [intOf]; omega⟩
      · have h1J : (144 : Int) ≤ (i : Int) := by omega
        have h1K : ¬ (i : Int) < 256 := by omega
        have h1L : (256 : Int) ≤ (i : Int) := by omega
        have h3I : ¬ (i : Int) < 280 := by omega
        go_upto_region 10 with fail
        have hrow := HG.out.row.mut ((Mut.refl [] wr).alloc (.cells #[.int .i64 8] 3)) (by simp)
        go_wp2_with (at_builtin; (refine wp_appI rfl (.tmp 23) (.tmp 25) rfl hrow rfl (src_one (heap_alloc_new wr _)) rfl ?b1 ?_))
        case b1 => omega
        intro v' w' r1 m1 f1
        have hS := HG.out.app r1 m1 (by simpa using f1)
        rw [← HTK.out] at hS
        obtain ⟨p', c', e⟩ := hS.sl
        rw [List.length_take, Nat.min_eq_left (by omega)] at e
        subst e
        have HS2 := Lib.hid hS
        clear hS r1 m1 f1 hrow HG
        go_wp2_with fail
        exact ⟨⟨i + 1, p', c', rfl, by rw [Int.natCast_add]; rfl, by omega, HS2⟩, by simp only [intOf]; omega⟩
    case neg =>
      have hltI : ¬ (i : Int) < 288 := by omega
      obtain rfl : i = 288 := by omega
      obtain ⟨wo, rfl⟩ : ∃ x, x = wr := ⟨_, rfl⟩
      have HL : Hid (IG w (.slice p 288 c) (toI fixedL) wo) := Lib.hid (by
        have := HG.out
        rw [List.take_of_length_le (by omega)] at this
        exact this)
      have HD0 : Hid (IG wo (.slice none 0 0) ((toI fixedD).take 0) wo) := Lib.hid (by rw [List.take_zero]; exact IG.start wo)
      clear HG
      go_wp2_with fail
      go_loopw [3, 6] (fun a b wx => ∃ (j : Nat) (p2 : Option Addr) (c2 : Nat), a = .slice p2 j c2 ∧ b = .int .i64 (j : Int) ∧ j ≤ 32 ∧ Hid (IG wo (.slice p2 j c2) ((toI fixedD).take j) wx)) (fun a b _ => 32 - (intOf b).toNat)
      case atStart => exact ⟨0, none, 0, rfl, rfl, Nat.zero_le _, HD0⟩
      case round =>
        obtain ⟨j, p2, c2, rfl, rfl, hj, HD⟩ := hrel
        clear HD0
        by_cases hlt2 : j < 32
        case pos =>
          have hltJ : (j : Int) < 32 := by omega
          have htk := takeD_snoc (toI fixedD) j (by omega)
          rw [fixedD_at j hlt2] at htk
          have hln : ((toI fixedD).take j).length = j := by rw [List.length_take]; omega
          have HTK := Lib.hid htk
          have HLN := Lib.hid hln
          have hn1 : j ≤ 31 := by omega
          clear htk hln
          have hrow := HD.out.row.mut ((Mut.refl [] _).alloc (.cells #[.int .i64 5] 3)) (by simp)
          go_upto_region 14 with fail
          go_wp2_with (at_builtin; (refine wp_appI rfl (.tmp 31) (.tmp 32) rfl hrow rfl (src_one (heap_alloc_new _ _)) rfl ?b1 ?_))
          case b1 => rw [HLN.out]; simp; omega
          intro v' w' r1 m1 f1
          have hS := HD.out.app r1 m1 (by simpa using f1)
          rw [← HTK.out] at hS
          obtain ⟨p', c', e⟩ := hS.sl
          rw [List.length_take, Nat.min_eq_left (by omega)] at e
          subst e
          have HS2 := Lib.hid hS
          clear hS r1 m1 f1 hrow HD
          go_wp2_with fail
          exact ⟨⟨j + 1, p', c', rfl, by rw [Int.natCast_add]; rfl, by omega, HS2⟩, by simp only [intOf]; omega⟩
        case neg =>
          have hltJ : ¬ (j : Int) < 32 := by omega
          obtain rfl : j = 32 := by omega
          have HD2 : Hid (IRow wr (.slice p2 32 c2) (toI fixedD)) := Lib.hid (by
            have := HD.out.row
            rw [List.take_of_length_le (by omega)] at this
            exact this)
          have HL2 : Hid (IRow wr (.slice p 288 c) (toI fixedL)) := Lib.hid (HL.out.row.mut HD.out.kept (by simp))
          have HM := Lib.hid (And.intro (HL.out.kept.trans' HD.out.kept) (And.intro HL.out.fresh (fun g hg => Nat.le_trans HL.out.kept.size (HD.out.fresh g hg))))
          clear HD HL
          go_wp2_with fail
          exact bodyPost_ret (results_tmp2 rfl _ _ _) rfl ⟨.slice p 288 c, .slice p2 32 c2, rfl, HL2.out, HD2.out, HM.out⟩

end Go.Proofs.Ytgjcnembeebjfaa

namespace Go.Proofs.Ytgjcnembeebjfaa
open Go.RowKit
set_option linter.unusedVariables false

theorem info_rtok : (Try.prog.info? 128).map (fun i => (i.zero, i.size, i.bytes)) = some (some (.agg #[.int .u8 0, .int .i64 0, .int .i64 0]), 3, 24) := by kernel_rfl

/-- where the loop over the places is -/
def RtC (w0 : World) (T : List Tok) (v : Value) (w : World) : Prop := TRow 128 w v T ∧ (∀ g, v.ownBlock = some g → w0.heap.size ≤ g) ∧ Mut [] w0 w

theorem RtC.kept {w0 w w' : World} {T : List Tok} {v : Value} (h : RtC w0 T v w) (hm : Mut [] w w') : RtC w0 T v w' := ⟨h.1.mut hm (by simp), h.2.1, h.2.2.trans' hm⟩

/-- the best so far, as the document's answer keeps it -/
def rbs (D : List Nat) (p te d : Nat) : Nat × Nat := (if (bst D p te d).1 = 0 then 2 else (bst D p te d).1, (bst D p te d).2)

theorem rbs_next (D : List Nat) (p te d n L K : Nat) (h : rbs D p te d = (L, K)) (hn : alk D p te (d + 1) 258 = n) : rbs D p te (d + 1) = if L < n then (n, d + 1) else (L, K) := by
  unfold rbs at h ⊢
  rcases bst_form D p te d with hb | hb
  · rw [hb] at h
    simp at h
    obtain ⟨rfl, rfl⟩ := h
    rw [bst, hn, hb]
    by_cases h2 : 2 < n
    · have h3 : 3 ≤ n ∧ (0, 0).fst < n := ⟨h2, by show 0 < n; omega⟩
      rw [if_pos h3, if_pos h2, if_neg (by show ¬ n = 0; omega)]
    · have h3 : ¬ (3 ≤ n ∧ (0, 0).fst < n) := fun h => h2 h.1
      rw [if_neg h3, if_neg h2]
      rfl
  · rw [if_neg (by omega)] at h
    have h1 : (bst D p te d).1 = L := congrArg Prod.fst h
    have h2 : (bst D p te d).2 = K := congrArg Prod.snd h
    rw [bst, hn]
    by_cases h3 : L < n
    · have h4 : 3 ≤ n ∧ (bst D p te d).1 < n := by omega
      rw [if_pos h4, if_pos h3, if_neg (by show ¬ n = 0; omega)]
    · have h4 : ¬ (3 ≤ n ∧ (bst D p te d).1 < n) := by omega
      rw [if_neg h4, if_neg h3, if_neg (by omega), h1, h2]

theorem rbs_end (D : List Nat) (p te d L K : Nat) (h : rbs D p te d = (L, K)) (hp : p < te) :
    (K = 0 ∧ tokAt D p (bst D p te d) = (D.getD p 0, 0, 0) ∧ (bst D p te d).1 = 0) ∨ (1 ≤ K ∧ 3 ≤ L ∧ p + L ≤ te ∧ tokAt D p (bst D p te d) = (0, L, K) ∧ (bst D p te d).1 = L) := by
  unfold rbs at h
  rcases bst_form D p te d with hb | hb
  · rw [hb] at h ⊢
    simp at h
    exact .inl ⟨h.2.symm, rfl, rfl⟩
  · rw [if_neg (by omega)] at h
    have h1 : (bst D p te d).1 = L := congrArg Prod.fst h
    have h2 : (bst D p te d).2 = K := congrArg Prod.snd h
    refine .inr ⟨by omega, by omega, ?_, ?_, h1⟩
    · have h3 := alk_all D p te (bst D p te d).2 258 ((bst D p te d).1 - 1) (by omega)
      unfold alkC at h3
      omega
    · unfold tokAt
      rw [if_neg (by omega), h1, h2]

theorem rtokens_bad (data : ByteArray) (a b r : Int) (h : a < 0 ∨ b < a ∨ (data.size : Int) < b) (w : World) :
    Calls Try.prog 43 #[.string data, .int .i64 a, .int .i64 b, .int .i64 r] w fun e w' => e = .returned (.slice none 0 0) ∧ w = w' := by
  go_enter Try.func43, Try.ntmps43
  by_cases h1 : a < 0
  · go_wp2_with fail
    exact bodyPost_ret (results_tmp rfl _ _ _) rfl ⟨rfl, rfl⟩
  · by_cases h2 : b < a
    · go_wp2_with fail
      exact bodyPost_ret (results_tmp rfl _ _ _) rfl ⟨rfl, rfl⟩
    · have h3 : (data.size : Int) < b := by omega
      go_wp2_with fail
      exact bodyPost_ret (results_tmp rfl _ _ _) rfl ⟨rfl, rfl⟩

theorem RtC.app {w wr w1 : World} {T : List Tok} {x : Tok} {v v' : Value} {o : Obj} (hmm : Mut [] w wr) (hf : ∀ g, v.ownBlock = some g → w.heap.size ≤ g)
    (hr1 : w1.ownsRow 0 128 3 v' (T.length + 1) (tokCells T ++ tokCell x)) (hg1 : (wr.alloc o).grownBy w1 v.ownBlock) (hf1 : ∀ g, v'.ownBlock = some g → v.ownBlock = some g ∨ wr.heap.size + 1 ≤ g) : RtC w (T ++ [x]) v' w1 := by
  have hm1 : Mut [] w w1 := (hmm.alloc o).grown hg1 (fun k hk => .inr (hf k hk))
  refine ⟨?_, fun k hk => (hf1 k hk).elim (fun h => hf k h) (fun h => by have := hmm.size; omega), hm1⟩
  unfold TRow
  rw [List.length_append, tokCells_snoc]
  exact hr1

theorem fin2r {fr p q te R F : Nat} {T A : List Tok} {x : Tok} {D : List Nat} {w w1 : World} {v : Value} (hq : 1 ≤ q) (h1 : fr ≤ p) (h2 : p + q ≤ te) (h3 : T.length ≤ p) (h4 : RtC w (T ++ [x]) v w1) (h5 : T ++ x :: tks D te R F (p + q) = A) (c : Int) (hc : c = (p : Int) + (q : Int)) :
    (∃ (p' : Nat) (T' : List Tok), Value.int .i64 c = .int .i64 (p' : Int) ∧ fr ≤ p' ∧ p' ≤ te ∧ T'.length ≤ p' ∧ Hid (RtC w T' v w1 ∧ T' ++ tks D te R F p' = A)) ∧ te - (intOf (.int .i64 c)).toNat < te - (intOf (.int .i64 (p : Int))).toNat := by
  subst hc
  refine ⟨⟨p + q, T ++ [x], by rw [Int.natCast_add], by omega, h2, by rw [List.length_append]; simp; omega, Lib.hid ⟨h4, by rw [← h5]; simp⟩⟩, by simp only [intOf]; omega⟩

set_option maxHeartbeats 3200000 in
set_option maxRecDepth 100000 in
theorem rtokens_any (data : ByteArray) (D : List Nat) (hD : bytesOf data = D) (fr te R F : Nat) (r : Int) (hz : data.size ≤ 1073741824) (hft : fr ≤ te) (ht : te ≤ data.size) (hR : (R : Int) = min (max r 0) 32768) (hF : te - fr < F) (w : World) :
    Calls Try.prog 43 #[.string data, .int .i64 (fr : Int), .int .i64 (te : Int), .int .i64 r] w fun e w' => ∃ v, e = .returned v ∧ RtC w (tks D te R F fr) v w' := by
  obtain ⟨A, hA⟩ : ∃ A, tks D te R F fr = A := ⟨_, rfl⟩
  have HA := Lib.hid hA
  rw [hA]
  clear hA
  have hDl : D.length = data.size := by rw [← hD, bytesOf_length]
  have HD := Lib.hid hD
  clear hD
  obtain ⟨r', hr'⟩ : ∃ r', min r 32768 = r' := ⟨_, rfl⟩
  have hrR : (r' < 0 ∧ R = 0) ∨ r' = (R : Int) := by omega
  have hRl : R ≤ 32768 := by omega
  go_enter Try.func43, Try.ntmps43
  go_upto_if 30 with fail
  go_cut [3] (fun q wx => wx = w ∧ q = .int .i64 r')
  case first =>
    by_cases h1 : r ≤ 32768
    · have e : r = r' := by omega
      have E := Lib.hid e
      have h2 : ¬ (32768 : Int) < r := by omega
      clear hR e hr' hrR
      go_wp2_with fail
      go_meet
      exact ⟨rfl, congrArg _ E.out⟩
    · have e : (32768 : Int) = r' := by omega
      have E := Lib.hid e
      have h2 : (32768 : Int) < r := by omega
      clear hR e hr' hrR
      go_wp2_with fail
      go_meet
      exact ⟨rfl, congrArg _ E.out⟩
  case rest =>
    obtain ⟨hw0, rfl⟩ := hcut
    obtain rfl := hw0.symm
    have HRR := Lib.hid hrR
    clear hR hr' hrR
    have HC : Hid (RtC w [] (.slice none 0 0) w ∧ [] ++ tks D te R F fr = A) := Lib.hid ⟨⟨TRow.nil _ _, by simp [Value.ownBlock], Mut.refl _ _⟩, HA.out⟩
    go_wp2_with fail
    go_loopw [10, 9] (fun c v wx => ∃ (p : Nat) (T : List Tok), c = .int .i64 (p : Int) ∧ fr ≤ p ∧ p ≤ te ∧ T.length ≤ p ∧ Hid (RtC w T v wx ∧ T ++ tks D te R F p = A)) (fun c _ _ => te - (intOf c).toNat)
    case atStart => exact ⟨fr, [], rfl, by omega, by omega, by simp, HC⟩
    case round =>
      obtain ⟨p, T, rfl, hp1, hp2, hTl, HR⟩ := hrel
      clear HC
      by_cases hlt : p < te
      case neg =>
        have hT : T = A := by
          have := HR.out.2
          rwa [tks_end D te R F p (by omega), List.append_nil] at this
        obtain ⟨pv, cv, rfl⟩ := HR.out.1.1.form
        have HT := Lib.hid hT
        have hnI : ¬ (p : Int) < (te : Int) := by omega
        clear hT
        go_wp2_with fail
        exact bodyPost_ret (results_tmp rfl _ _ _) rfl ⟨_, rfl, by rw [← HT.out]; exact HR.out.1⟩
      case pos =>
        have hltI : (p : Int) < (te : Int) := by omega
        have hpd : p < data.size := by omega
        have hnx := tks_next D te R F p hlt (by omega)
        obtain ⟨M, hM⟩ : ∃ M, min R p = M := ⟨_, rfl⟩
        rw [hM] at hnx
        have HNX := Lib.hid hnx
        have hMp : M ≤ p ∧ M ≤ R := by omega
        have HMM := Lib.hid hM
        have HR1 := Lib.hid HR.out.1
        have HTA := Lib.hid HR.out.2
        have HBS : Hid (rbs D p te 0 = (2, 0)) := Lib.hid rfl
        clear hnx hM HR
        go_wp2_with fail
        go_loopw [13, 11, 12] (fun c l k wx => ∃ d L K : Nat, c = .int .i64 ((d + 1 : Nat) : Int) ∧ l = .int .i64 (L : Int) ∧ k = .int .i64 (K : Int) ∧ d ≤ M ∧ Hid (rbs D p te d = (L, K)) ∧ Hid (RtC w T u9 wx)) (fun c _ _ _ => M + 1 - (intOf c).toNat)
        case atStart => exact ⟨0, 2, 0, rfl, rfl, rfl, by omega, HBS, HR1⟩
        case round =>
          obtain ⟨d, L, K, rfl, rfl, rfl, hd, HB, HI⟩ := hrel
          clear HBS HR1
          obtain ⟨d1, hd1⟩ : ∃ d1, d + 1 = d1 := ⟨_, rfl⟩
          obtain ⟨lb, hlb⟩ : ∃ lb : Bool, decide (d < M) = lb := ⟨_, rfl⟩
          rw [hd1]
          go_upto_region 10 with fail
          go_cut [42] (fun q wx => wx = wr ∧ q = .bool lb)
          case first =>
            have hrR := HRR.out
            have hM := HMM.out
            by_cases hdR : d1 ≤ R
            · have hdI : (d1 : Int) ≤ r' := by omega
              by_cases hdp : d1 ≤ p
              · have hdJ : (d1 : Int) ≤ (p : Int) := by omega
                have hl : lb = true := by rw [← hlb]; exact decide_eq_true (by omega)
                subst hl
                clear hMp hd hd1 hlb hrR hM hdR hdp hDl hft ht hF hp1 hp2 hTl hlt hltI hpd hRl
                go_wp2_with fail
                go_meet
                exact ⟨rfl, rfl⟩
              · have hdJ : ¬ (d1 : Int) ≤ (p : Int) := by omega
                have hl : lb = false := by rw [← hlb]; exact decide_eq_false (by omega)
                subst hl
                clear hMp hd hd1 hlb hrR hM hdR hdp hDl hft ht hF hp1 hp2 hTl hlt hltI hpd hRl
                go_wp2_with fail
                go_meet
                exact ⟨rfl, rfl⟩
            · have hdI : ¬ (d1 : Int) ≤ r' := by omega
              have hl : lb = false := by rw [← hlb]; exact decide_eq_false (by omega)
              subst hl
              clear hMp hd hd1 hlb hrR hM hdR hDl hft ht hF hp1 hp2 hTl hlt hltI hpd hRl
              go_wp2_with fail
              go_meet
              exact ⟨rfl, rfl⟩
          case rest =>
            obtain ⟨hwc, rfl⟩ := hcut
            obtain rfl := hwc.symm
            cases lb with
            | true =>
              have hdM : d < M := of_decide_eq_true hlb
              clear hlb HRR HMM
              obtain ⟨n, hn⟩ : ∃ n, alk D p te d1 258 = n := ⟨_, rfl⟩
              have HN := Lib.hid hn
              have hn258 : n ≤ 258 := by rw [← hn]; exact alk_le _ _ _ _ _
              have hnx2 : rbs D p te d1 = if L < n then (n, d1) else (L, K) := by rw [← hd1]; exact rbs_next D p te d n L K HB.out (by rw [hd1, hn])
              have HNX2 := Lib.hid hnx2
              have HW := Lib.hid hd1
              obtain ⟨G, hG⟩ : ∃ G, te - p = G := ⟨_, rfl⟩
              have hGI : (te : Int) - (p : Int) = (G : Int) := by omega
              have hd1p : 1 ≤ d1 ∧ d1 ≤ p := by omega
              have hG2 : p + G = te := by omega
              have hM1 : d1 ≤ M := by omega
              have hwr : wrap64 ((d1 : Int) + 1) = ((d1 + 1 : Nat) : Int) := by rw [IntWalk.wrap64_in _ (by omega)]; omega
              have HWR := Lib.hid hwr
              clear hn hnx2 hd1 hG hd HB hwr hdM
              go_upto_block 4 with fail
              go_cut [14] (fun q wx => q = .int .i64 (n : Int) ∧ ∃ k, wx = wr.drewN k)
              case first =>
                go_wp2_with fail
                go_loopw [14] (fun c wx => ∃ j m : Nat, c = .int .i64 (j : Int) ∧ j ≤ 258 ∧ Hid (alk D p te d1 j = j) ∧ wx = wr.drewN m) (fun c _ => 258 - (intOf c).toNat)
                case atStart => exact ⟨0, 0, rfl, by omega, Lib.hid rfl, rfl⟩
                case round =>
                  obtain ⟨j, m, rfl, hj, HJ, rfl⟩ := hrel
                  by_cases h1 : j < 258
                  case neg =>
                    have e : j = 258 := by omega
                    have hI : decide ((j : Int) < 258) = false := decide_eq_false (by omega)
                    have hr : (j : Int) = (n : Int) := by
                      have h2 := HJ.out
                      have h3 := HN.out
                      rw [e] at h2
                      omega
                    have HE := Lib.hid hr
                    clear e hr
                    go_wp2_with fail
                    go_quiet (fail)
                    go_wp2_with fail
                    go_meet
                    exact ⟨congrArg _ HE.out, _, World.drewN_drewN _ _ _⟩
                  case pos =>
                    have h1I : (j : Int) < 258 := by omega
                    have hI1 : decide ((j : Int) < 258) = true := decide_eq_true h1I
                    by_cases h2 : j < G
                    case neg =>
                      have hI2 : decide ((j : Int) < (G : Int)) = false := decide_eq_false (by omega)
                      have hI2n : decide (j < G) = false := decide_eq_false (by omega)
                      have hr : (j : Int) = (n : Int) := by
                        have h3 := HN.out
                        have h4 := alk_stop D p te d1 j HJ.out (fun h => h2 (by have := h.1; omega)) (258 - j)
                        rw [show j + (258 - j) = 258 by omega] at h4
                        omega
                      have HE := Lib.hid hr
                      clear hr h2
                      go_wp2_with fail
                      go_quiet (fail)
                      go_wp2_with fail
                      go_meet
                      exact ⟨congrArg _ HE.out, _, World.drewN_drewN _ _ _⟩
                    case pos =>
                      obtain ⟨i, hi⟩ : ∃ i, p + j = i := ⟨_, rfl⟩
                      obtain ⟨o, ho⟩ : ∃ o, p + j - d1 = o := ⟨_, rfl⟩
                      have hI2 : decide ((j : Int) < (G : Int)) = true := decide_eq_true (by omega)
                      have hI2n : decide (j < G) = true := decide_eq_true (by omega)
                      have hiI : (p : Int) + (j : Int) = (i : Int) := by omega
                      have hoI : (i : Int) - (d1 : Int) = (o : Int) := by omega
                      have hil : i < data.size := by omega
                      have hol : o < data.size := by omega
                      have hq := u8_eq (data[o]'hol) (data[i]'hil)
                      have hC : alkC D p te d1 j ↔ (data[o]'hol).toNat = (data[i]'hil).toNat := by
                        unfold alkC
                        rw [hi, show i - d1 = o by omega, ← HD.out, bytesOf_getD data i hil, bytesOf_getD data o hol]
                        exact ⟨fun h => h.2.symm, fun h => ⟨by omega, h.symm⟩⟩
                      have HC := Lib.hid hC
                      by_cases hxy : (data[o]'hol).toNat = (data[i]'hil).toNat
                      case pos =>
                        rw [decide_eq_true hxy] at hq
                        have HN1 : Hid (alk D p te d1 (j + 1) = j + 1) := Lib.hid (by rw [alk, if_pos ⟨HJ.out, hC.2 hxy⟩])
                        clear hC hxy hi ho h2
                        go_wp2_with fail
                        go_quiet (fail)
                        go_wp2_with fail
                        exact ⟨⟨j + 1, _, by rw [Int.natCast_add]; rfl, by omega, HN1, rfl⟩, by simp only [intOf]; omega⟩
                      case neg =>
                        rw [decide_eq_false hxy] at hq
                        have hq2 : ((data[o]'hol).toNat == (data[i]'hil).toNat) = false := by rw [beq_eq_false_iff_ne]; exact hxy
                        have hq3 : (data[o]'hol == data[i]'hil) = false := by rw [beq_eq_false_iff_ne]; exact fun h => hxy (by rw [h])
                        have hr : (j : Int) = (n : Int) := by
                          have h3 := HN.out
                          have h4 := alk_stop D p te d1 j HJ.out (fun h => hxy (hC.1 h)) (258 - j)
                          rw [show j + (258 - j) = 258 by omega] at h4
                          omega
                        have HE := Lib.hid hr
                        clear hC hxy hi ho h2 hr
                        go_wp2_with fail
                        go_quiet (fail)
                        go_wp2_with fail
                        go_meet
                        exact ⟨congrArg _ HE.out, _, World.drewN_drewN _ _ _⟩
              case rest =>
                obtain ⟨rfl, k, rfl⟩ := hcut
                have HI2 : Hid (RtC w T u9 (wr.drewN k)) := Lib.hid (HI.out.kept ((Mut.refl [] wr).drewN k))
                clear HI HN
                generalize wr.drewN k = w2 at *
                by_cases hb : L < n
                case pos =>
                  have hbI : (L : Int) < (n : Int) := by omega
                  have HF : Hid (rbs D p te d1 = (n, d1)) := Lib.hid (by rw [HNX2.out, if_pos hb])
                  clear HNX2 hb
                  go_wp2_with fail
                  exact ⟨⟨d1, n, d1, by rw [Int.natCast_add]; rfl, rfl, rfl, hM1, HF, HI2⟩, by simp only [intOf]; omega⟩
                case neg =>
                  have hbI : ¬ (L : Int) < (n : Int) := by omega
                  have HF : Hid (rbs D p te d1 = (L, K)) := Lib.hid (by rw [HNX2.out, if_neg hb])
                  clear HNX2 hb
                  go_wp2_with fail
                  exact ⟨⟨d1, L, K, by rw [Int.natCast_add]; rfl, rfl, rfl, hM1, HF, HI2⟩, by simp only [intOf]; omega⟩
            | false =>
              have hdM : d = M := by have := of_decide_eq_false hlb; omega
              subst hdM
              clear hlb
              have hend := rbs_end D p te d L K HB.out hlt
              obtain ⟨x, hx⟩ : ∃ x, (data[p]'hpd).toNat = x := ⟨_, rfl⟩
              have hxD : D.getD p 0 = x := by rw [← HD.out, ← hx, bytesOf_getD data p hpd]
              obtain ⟨hr, hfr2, hmm⟩ := HI.out
              have hnx := HNX.out
              obtain ⟨i0, hi, hz0, hz1, hz2⟩ := info_parts info_rtok
              rw [hxD] at hend
              clear HNX HI HB HRR HMM hMp hd hd1 hRl hDl HD hxD
              rcases hend with ⟨hK, hX, hb1⟩ | ⟨hK, hL, hpL, hX, hb1⟩
              · subst hK
                rw [hX, hb1] at hnx
                have hap : Hid (T ++ (x, 0, 0) :: tks D te R F (p + 1) = A) := Lib.hid (by have := HTA.out; rw [hnx] at this; exact this)
                clear hX hb1 hnx HTA
                go_upto_region 18 with fail
                go_wp2_with (at_builtin; refine wp_app rfl (.tmp 78) (.tmp 83) 93 93 rfl 128 i0 (.agg #[.int .u8 0, .int .i64 0, .int .i64 0]) 3 24 Try.underlying93 hi hz0 hz1 hz2 rfl (hr.mut ((Mut.refl [] wr).alloc _) (by simp)) rfl (src1 Try.underlying93 (heap_alloc_new wr _) rfl (tok_one _ _ _)) rfl ?b1 ?b2 ?_)
                case b1 => unfold maxLen; omega
                case b2 => omega
                intro v' w1 hr1 hg1 hf1
                have HTK : Hid (RtC w (T ++ [(x, 0, 0)]) v' w1) := Lib.hid (RtC.app hmm hfr2 hr1 hg1 hf1)
                clear hr1 hg1 hf1 hr hfr2 hmm hi hz0 hz1 hz2
                go_wp2_with fail
                exact fin2r (q := 1) (Nat.le_refl 1) hp1 (by omega) hTl HTK.out hap.out _ rfl
              · rw [hX, hb1] at hnx
                have hap : Hid (T ++ (0, L, K) :: tks D te R F (p + L) = A) := Lib.hid (by have := HTA.out; rw [hnx, Nat.max_eq_left (by omega)] at this; exact this)
                have hKI : ((K : Int) == 0) = false := by rw [beq_eq_false_iff_ne]; omega
                clear hX hb1 hnx HTA
                go_upto_region 20 with fail
                go_wp2_with (at_builtin; refine wp_app rfl (.tmp 87) (.tmp 91) 93 93 rfl 128 i0 (.agg #[.int .u8 0, .int .i64 0, .int .i64 0]) 3 24 Try.underlying93 hi hz0 hz1 hz2 rfl (hr.mut ((Mut.refl [] wr).alloc _) (by simp)) rfl (src1 Try.underlying93 (heap_alloc_new wr _) rfl (tok_one _ _ _)) rfl ?b1 ?b2 ?_)
                case b1 => unfold maxLen; omega
                case b2 => omega
                intro v' w1 hr1 hg1 hf1
                have HTK : Hid (RtC w (T ++ [(0, L, K)]) v' w1) := Lib.hid (RtC.app hmm hfr2 hr1 hg1 hf1)
                clear hr1 hg1 hf1 hr hfr2 hmm hi hz0 hz1 hz2
                go_wp2_with fail
                exact fin2r (q := L) (by omega) hp1 hpL hTl HTK.out hap.out _ rfl

end Go.Proofs.Ytgjcnembeebjfaa

namespace Go.Proofs.Ytgjcnembeebjfaa
open Go.RowKit

set_option maxHeartbeats 3200000 in
set_option maxRecDepth 1000000 in
theorem refeven_any (U : List Bool) (hl : U.length ≤ 1048576) (rp0 : Option Addr) (rc0 : Nat) (w : World)
    (hcells : ∀ (w' : World), Mut [] w w' → ∀ i : Nat, i < U.length → ∃ a : Addr, rp0 = some a ∧ w'.cell? (a.add i) = some (.bool (U.getD i false))) :
    Calls Try.prog 68 #[.slice rp0 U.length rc0] w fun e w' => ∃ v, e = .returned v ∧ IRow w' v (evenI U) ∧ Mut [] w w' ∧ ∀ g, v.ownBlock = some g → w.heap.size ≤ g := by
  have HC := Lib.hid hcells
  clear hcells
  go_enter Try.func68, Try.ntmps68
  go_wp2_with fail
  go_loop [3, 4] (fun m x => ∃ i : Nat, x = .int .i64 (i : Int) ∧ i ≤ U.length ∧ m = .int .i64 (cntTo U i : Nat)) (fun _ x => U.length - (intOf x).toNat)
  case atStart => exact ⟨0, rfl, by omega, rfl⟩
  case round =>
    obtain ⟨i, rfl, hi, rfl⟩ := hrel
    have hcb := cntTo_len U i
    by_cases hend : i < U.length
    · have hendI : (i : Int) < (U.length : Int) := by omega
      obtain ⟨a, rfl, ca⟩ := HC.out w (Mut.refl _ _) i hend
      have HS := Lib.hid (cntTo_succ U i hend)
      generalize U.getD i false = b at *
      generalize cntTo U i = c at *
      cases b
      · go_wp2_with fail
        exact ⟨⟨i + 1, by rw [Int.natCast_add]; rfl, by omega, by rw [HS.out]; rfl⟩, by simp only [intOf]; omega⟩
      · go_wp2_with fail
        exact ⟨⟨i + 1, by rw [Int.natCast_add]; rfl, by omega, by rw [HS.out, if_pos rfl, Int.natCast_add]; rfl⟩, by simp only [intOf]; omega⟩
    · have e : i = U.length := by omega
      have hendI : ¬ (i : Int) < (U.length : Int) := by omega
      subst e
      rw [cntTo_all] at hcb ⊢
      obtain ⟨Z1, hZ1⟩ : ∃ Z, madeCells (Value.int .i64 0).cells U.length = Z := ⟨_, rfl⟩
      have hmk1 : ∀ W : World, (Instr.makeSlice 88 (.int .i64 (U.length : Int)) (.int .i64 (U.length : Int))).run Try.prog W = .ok (.slice (some ⟨W.heap.size, 0, none⟩) U.length U.length) (W.alloc (.cells Z1 3)) := by
        intro W
        obtain ⟨i0, hi, hz0, hz1, hz2⟩ := info_parts info_int
        have := run_make (P := Try.prog) W 88 3 i0 _ Try.underlying88 hi hz0 .i64 .i64 (U.length : Int) (U.length : Int) (by omega) (by omega) (by rw [hz2]; omega) (by omega)
        rw [hz1, Int.toNat_natCast, Nat.mul_one, hZ1] at this
        exact this
      have HST := Lib.hid (RSt.start' w U.length (by omega) Z1 hZ1)
      clear hZ1
      by_cases hz : numOf U = 0 ∨ 32768 < numOf U
      · have hfin := HST.out
        rw [← evenI_none U hz] at hfin
        have HFIN := Lib.hid hfin
        clear hfin HST
        have FIN : Hid (IRow (w.alloc (.cells Z1 3)) (.slice (some ⟨w.heap.size, 0, none⟩) U.length U.length) (evenI U) ∧ Mut [] w (w.alloc (.cells Z1 3)) ∧ ∀ g, (Value.slice (some ⟨w.heap.size, 0, none⟩) U.length U.length).ownBlock = some g → w.heap.size ≤ g) := Lib.hid (by
          refine ⟨?_, HFIN.out.kept, fun g hg => by simp [Value.ownBlock] at hg; omega⟩
          unfold IRow
          rw [evenI_length]
          exact HFIN.out.row)
        generalize numOf U = m at *
        rcases hz with rfl | hz
        · go_wp2_with fail
          exact bodyPost_ret (results_tmp rfl _ _ _) rfl ⟨.slice (some ⟨w.heap.size, 0, none⟩) U.length U.length, rfl, FIN.out⟩
        · have hz0 : ((m : Int) == 0) = false := by simpa using (show ¬ (m : Int) = 0 by omega)
          have hz1 : (32768 : Int) < (m : Int) := by omega
          go_wp2_with fail
          exact bodyPost_ret (results_tmp rfl _ _ _) rfl ⟨.slice (some ⟨w.heap.size, 0, none⟩) U.length U.length, rfl, FIN.out⟩
      · have HEV : Hid (∀ i, evenAt U i = if U.getD i false = true then (if cntTo U i < shortOf (numOf U) then kOf (numOf U) else kOf (numOf U) + 1) else 0) := Lib.hid (fun i => by
          unfold evenAt
          rw [if_neg hz])
        have HCNT : Hid (∀ i, i < U.length → U.getD i false = true → cntTo U i < numOf U) := Lib.hid (cntTo_lt U)
        obtain ⟨m, hm⟩ : ∃ m, numOf U = m := ⟨_, rfl⟩
        rw [hm] at hz hcb HEV HCNT ⊢
        have hm0 : 0 < m := by omega
        have hm1 : m ≤ 32768 := by omega
        have hz0 : ((m : Int) == 0) = false := by simpa using (show ¬ (m : Int) = 0 by omega)
        have hz1 : ¬ (32768 : Int) < (m : Int) := by omega
        clear hm hz
        have hG := HST.out.fg
        go_upto_region 10 with fail
        clear hmk1
        generalize w.alloc (.cells Z1 3) = W0 at *
        obtain ⟨g, hg⟩ : ∃ g, w.heap.size = g := ⟨_, rfl⟩
        rw [hg] at HST ⊢
        have HGG := Lib.hid hg
        clear hG hg
        go_wp2_with fail
        go_loop [6] (fun x => ∃ k : Nat, x = .int .i64 (k : Int) ∧ Hid (2 ^ k ≤ m)) (fun x => 16 - (intOf x).toNat)
        case atStart => exact ⟨0, rfl, Lib.hid (by rw [Nat.pow_zero]; omega)⟩
        case round =>
         obtain ⟨kk, rfl, HK0⟩ := hrel
         have hkk : kk ≤ 15 := by
           by_cases h : kk ≤ 15
           · exact h
           · have h1 : 2 ^ 16 ≤ 2 ^ kk := Nat.pow_le_pow_right (by decide) (by omega)
             have := HK0.out
             omega
         obtain ⟨P, hP⟩ : ∃ P, 2 * 2 ^ kk = P := ⟨_, rfl⟩
         have hPb : P ≤ 65536 := by
           have : 2 ^ kk ≤ 2 ^ 15 := Nat.pow_le_pow_right (by decide) hkk
           omega
         have hwP : wrap64 (2 * (2 : Int) ^ kk) = (P : Int) := by
           have : (2 * (2 : Int) ^ kk) = ((2 * 2 ^ kk : Nat) : Int) := by simp
           rw [this, hP]; exact IntWalk.wrap64_in _ (by omega)
         have HP : Hid (2 ^ (kk + 1) = P) := Lib.hid (by rw [Nat.pow_succ, Nat.mul_comm]; exact hP)
         clear hP
         by_cases hgo : P ≤ m
         · have hgoI : (P : Int) ≤ (m : Int) := by omega
           have HN : Hid (2 ^ (kk + 1) ≤ m) := Lib.hid (by rw [HP.out]; exact hgo)
           go_wp2_with fail
           exact ⟨⟨kk + 1, by rw [Int.natCast_add]; rfl, HN⟩, by simp only [intOf]; omega⟩
         · have hgoI : ¬ (P : Int) ≤ (m : Int) := by omega
           have HK : Hid (m.log2 = kk) := Lib.hid (log2_is m kk HK0.out (by rw [HP.out]; omega))
           have HSH : Hid (shortOf m = P - m) := Lib.hid (by unfold shortOf; rw [HK.out, HP.out])
           have hPm : m < P := by omega
           go_upto_if 43 with fail
           go_cut [6] (fun s6 wx => wx = W0 ∧ s6 = .int .i64 (kOf m : Nat))
           case first =>
            by_cases h1 : m = 1
            · subst h1
              have E1 : Hid (kOf 1 = 1) := Lib.hid rfl
              go_wp2_with fail
              go_meet
              exact ⟨rfl, by rw [E1.out]; rfl⟩
            · have h1I : ((m : Int) == 1) = false := by simpa using (show ¬ (m : Int) = 1 by omega)
              have E1 : Hid (kOf m = kk) := Lib.hid (by unfold kOf; rw [if_neg h1, HK.out])
              go_wp2_with fail
              go_meet
              exact ⟨rfl, by rw [E1.out]⟩
           case rest =>
            obtain ⟨rfl, rfl⟩ := hcut
            have hk15 : kOf m ≤ 15 := by unfold kOf; split; omega; rw [HK.out]; omega
            have hs16 : shortOf m ≤ 65536 := by rw [HSH.out]; omega
            have hPS : (P : Int) - (m : Int) = (shortOf m : Nat) := by rw [HSH.out]; omega
            rw [hPS]
            clear hPS HK HP HSH hwP hPm hPb hkk HK0 hgo hgoI hz0 hz1
            generalize kOf m = K at *
            generalize shortOf m = S at *
            go_wp2_with fail
            go_loopw [8, 9] (fun sh x wx => ∃ i : Nat, x = .int .i64 (i : Int) ∧ i ≤ U.length ∧ sh = .int .i64 ((cntTo U i : Nat) : Int) ∧ Hid (RSt w wx g U.length (evenTo U i))) (fun _ x _ => U.length - (intOf x).toNat)
            case atStart => exact ⟨0, rfl, Nat.zero_le _, rfl, Lib.hid (by rw [evenTo_zero]; exact HST.out)⟩
            case round =>
              obtain ⟨i, rfl, hi2, rfl, HR⟩ := hrel
              by_cases hend2 : i < U.length
              · have hend2I : (i : Int) < (U.length : Int) := by omega
                obtain ⟨a, rfl, ca⟩ := HC.out wr HR.out.kept i hend2
                have hcl := cntTo_len U i
                have HS := Lib.hid (cntTo_succ U i hend2)
                have HSK : Hid (U.getD i false = false → evenTo U (i + 1) = evenTo U i) := Lib.hid (evenTo_skip U i)
                have HEI := Lib.hid (HEV.out i)
                have HST2 := Lib.hid (evenTo_step U i)
                obtain ⟨xv, cR⟩ : ∃ x, wr.cell? ⟨g, i, none⟩ = some x := by
                  have h1 := HR.out.row.cellAt i (by omega)
                  have h2 : i < ((evenTo U i).map (Value.int .i64)).length := by rw [List.length_map, HR.out.len]; omega
                  rw [List.getElem?_eq_getElem h2] at h1
                  exact ⟨_, h1⟩
                have fR := HR.out.row.frozenAt i
                generalize U.getD i false = b at *
                generalize cntTo U i = c at *
                cases b
                · have hR2 := HR.out
                  rw [← HSK.out rfl] at hR2
                  have HR2 := Lib.hid hR2
                  clear hR2 HR HEI HST2
                  go_wp2_with fail
                  exact ⟨⟨i + 1, by rw [Int.natCast_add]; rfl, by omega, by rw [HS.out]; simp, HR2⟩, by simp only [intOf]; omega⟩
                · have hev := HEI.out
                  rw [if_pos rfl] at hev
                  by_cases hc : c < S
                  · rw [if_pos hc] at hev
                    rw [hev] at HST2
                    have hcI : (c : Int) < (S : Int) := by omega
                    have hset := (HR.out.set i ((K : Int) + 1)).set i (K : Int)
                    rw [List.set_set, HST2.out] at hset
                    have HSET := Lib.hid hset
                    clear hset hev HEI HSK HST2 HR
                    go_wp2_with fail
                    refine ⟨⟨i + 1, by rw [Int.natCast_add]; rfl, by omega, ?_, HSET⟩, by simp only [intOf]; omega⟩
                    rw [HS.out, if_pos rfl, Int.natCast_add]; rfl
                  · rw [if_neg hc] at hev
                    rw [hev, Int.natCast_add] at HST2
                    have hcI : ¬ (c : Int) < (S : Int) := by omega
                    have hset := HR.out.set i ((K : Int) + ((1 : Nat) : Int))
                    rw [HST2.out] at hset
                    have HSET := Lib.hid hset
                    clear hset hev HEI HSK HST2 HR
                    go_wp2_with fail
                    refine ⟨⟨i + 1, by rw [Int.natCast_add]; rfl, by omega, ?_, HSET⟩, by simp only [intOf]; omega⟩
                    rw [HS.out, if_pos rfl, Int.natCast_add]; rfl
              · have hend2I : ¬ (i : Int) < (U.length : Int) := by omega
                have ei : i = U.length := by omega
                subst ei
                have hfin := HR.out
                rw [evenTo_all] at hfin
                have HFIN := Lib.hid hfin
                clear hfin HR
                go_wp2_with fail
                refine bodyPost_ret (results_tmp rfl _ _ _) rfl ⟨.slice (some ⟨g, 0, none⟩) U.length U.length, rfl, ?_, HFIN.out.kept, fun g' hg' => ?_⟩
                · unfold IRow
                  rw [evenI_length]
                  exact HFIN.out.row
                · simp [Value.ownBlock] at hg'
                  have := HGG.out
                  omega

end Go.Proofs.Ytgjcnembeebjfaa

namespace Go.Proofs.Ytgjcnembeebjfaa
open Go.RowKit

/-- a row of the call's own that holds bits as integers -/
def BlRow (w : World) (v : Value) (L : List Bool) : Prop := w.ownsRow 0 3 1 v L.length (L.map fun c : Bool => Value.int .i64 (c.toNat : Int))

theorem BlRow.mut {w w' : World} {v : Value} {L : List Bool} {S : List Nat} (h : BlRow w v L) (hm : Mut S w w') (hs : ∀ g, v.ownBlock = some g → g ∉ S) : BlRow w' v L := hm.row h hs

/-- the bytes when the first k bits have been laid -/
def bytesTo (L : List Bool) (k : Nat) : List Nat := (List.range ((L.length + 7) / 8)).map (byteAt (L.take k))

theorem bytesTo_len (L : List Bool) (k : Nat) : (bytesTo L k).length = (L.length + 7) / 8 := by simp [bytesTo]
theorem bytesTo_all (L : List Bool) : bytesTo L L.length = pack L := by simp [bytesTo, pack]
theorem bytesTo_zero (L : List Bool) : bytesTo L 0 = List.replicate ((L.length + 7) / 8) 0 := by
  unfold bytesTo
  apply List.ext_getElem?
  intro i
  by_cases h : i < (L.length + 7) / 8
  · simp [h, byteAt]
  · simp [h]
theorem bytesTo_get (L : List Bool) (k i : Nat) (h : i < (L.length + 7) / 8) : (bytesTo L k).getD i 0 = byteAt (L.take k) i := by
  simp [bytesTo, List.getD, h]
theorem bytesTo_succ (L : List Bool) (k : Nat) (h : k < L.length) : bytesTo L (k + 1) = (bytesTo L k).set (k / 8) (byteAt (L.take k) (k / 8) + (L.getD k false).toNat * 2 ^ (k % 8)) := by
  have ht : L.take (k + 1) = L.take k ++ [L.getD k false] := by
    rw [List.take_succ_eq_append_getElem h]; simp [List.getD, h]
  have hl : (L.take k).length = k := by rw [List.length_take]; omega
  unfold bytesTo
  apply List.ext_getElem?
  intro i
  rw [List.getElem?_set]
  by_cases hi : i < (L.length + 7) / 8
  · simp only [List.getElem?_map, List.getElem?_range hi, Option.map_some, ht, byteAt_snoc, hl]
    by_cases e : k / 8 = i
    · subst e; simp [hi]
    · rw [if_neg (by omega), if_neg e]; rfl
  · rw [if_neg (by omega)]; simp [hi]
theorem bytesTo_lt (L : List Bool) (k : Nat) (h : k ≤ L.length) : byteAt (L.take k) (k / 8) < 2 ^ (k % 8) := by
  have := byteAt_last_lt (L.take k)
  rwa [List.length_take, Nat.min_eq_left h] at this

theorem info_u8' : (Try.prog.info? 5).map (fun i => (i.zero, i.size, i.bytes)) = some (some (.int .u8 0), 1, 1) := by kernel_rfl

theorem shl_one (k : Nat) (hk : k < 8) : IntKind.u8.wrap (2 ^ k : Int) = ((2 ^ k : Nat) : Int) := by
  have hp : (2 : Nat) ^ k ≤ 2 ^ 7 := Nat.pow_le_pow_right (by decide) (by omega)
  rw [show (2 ^ k : Int) = ((2 ^ k : Nat) : Int) by simp]
  generalize (2 : Nat) ^ k = P at *
  exact IntWalk.u8_in _ (by omega)

set_option maxHeartbeats 800000 in
set_option maxRecDepth 100000 in
theorem pack_any (v : Value) (L : List Bool) (w : World) (h : BlRow w v L) (hl : L.length ≤ 70368744177664) :
    Calls Try.prog 45 #[v] w fun e w' => e = .returned (.string (strOf (pack L))) ∧ Mut [] w w' := by
  obtain ⟨i0, hi, hz0, hz1, hz2⟩ := info_parts info_u8'
  have H := Lib.hid h
  obtain ⟨ao, cap, hv, hne⟩ : ∃ ao cap, v = .slice ao L.length cap ∧ (0 < L.length → ∃ g, ao = some ⟨g, 0, none⟩) := by
    rcases h.2 with ⟨h1, h2⟩ | ⟨g, cap, _, h1, _⟩
    · exact ⟨none, 0, by rw [h1, h2], fun hp => by omega⟩
    · exact ⟨_, cap, h1, fun _ => ⟨g, rfl⟩⟩
  subst hv
  clear h
  go_enter Try.func45, Try.ntmps45
  go_wp2_with (at_make; refine wpList_make_full _ rfl (.tmp 8) (.tmp 8) 54 rfl 0 5 i0 (.int .u8 0) 1 Try.underlying54 hi hz0 hz1 _ _ _ _ ((L.length + 7) / 8) rfl rfl (by omega) (by omega) ?b1 ?b2 (Nat.zero_le _) ?_)
  case b1 => rw [hz2]; omega
  case b2 => unfold maxLen; omega
  intro w1 hr1 hg1
  have hr : w1.ownsRow 0 5 1 (.slice (some ⟨w.heap.size, 0, none⟩) ((L.length + 7) / 8) ((L.length + 7) / 8)) ((L.length + 7) / 8) ((bytesTo L 0).map fun n : Nat => Value.int .u8 (n : Int)) := by
    rw [bytesTo_zero, List.map_replicate]
    have := hr1
    rw [toList_madeCells_one] at this
    exact this
  have HR := Lib.hid hr
  have HM := Lib.hid ((Mut.refl [] w).grown hg1 (by simp))
  clear hr1 hg1 hr hi hz0 hz1 hz2
  generalize hG : w.heap.size = G at *
  have HG := Lib.hid hG
  clear hG
  go_wp2
  go_loopw [4] (fun i wr => ∃ k : Nat, k ≤ L.length ∧ i = .int .i64 (k : Int) ∧ wr.ownsRow 0 5 1 (.slice (some ⟨G, 0, none⟩) ((L.length + 7) / 8) ((L.length + 7) / 8)) ((L.length + 7) / 8) ((bytesTo L k).map fun n : Nat => Value.int .u8 (n : Int)) ∧ Mut [] w wr) (fun i _ => L.length - (intOf i).toNat)
  case atStart => exact ⟨0, Nat.zero_le _, rfl, HR.out, HM.out⟩
  case round =>
    obtain ⟨k, hk, rfl, hr, hm⟩ := hrel
    by_cases hlt : k < L.length
    · obtain ⟨g, rfl⟩ := hne (by omega)
      have hb := H.out.mut hm (by simp)
      have cb : wr.cell? ⟨g, k, none⟩ = some (.int .i64 ((L.getD k false).toNat : Int)) := by
        rw [hb.cellAt k (by omega)]; simp [List.getD, hlt]
      have hc8 : (bytesTo L k).getD (k / 8) 0 = byteAt (L.take k) (k / 8) := bytesTo_get L k (k / 8) (by omega)
      have cg : wr.cell? ⟨G, k / 8, none⟩ = some (.int .u8 ((byteAt (L.take k) (k / 8) : Nat) : Int)) := by
        rw [hr.cellAt (k / 8) (by omega), ← hc8]
        simp [List.getD, bytesTo_len, show k / 8 < (L.length + 7) / 8 by omega]
      have fg := hr.frozenAt (k / 8)
      have HR := Lib.hid hr
      have HM := Lib.hid hm
      have HS := Lib.hid (bytesTo_succ L k hlt)
      have hlt8 := bytesTo_lt L k (by omega)
      have hpw : (2 : Nat) ^ (k % 8) ≤ 2 ^ 7 := Nat.pow_le_pow_right (by decide) (by omega)
      clear hr hm hb hc8
      by_cases hbit : L.getD k false = true
      · have HB := Lib.hid hbit
        rw [hbit] at cb
        simp only [Bool.toNat_true] at cb
        clear hbit
        have hw8 : IntKind.i64.wrap ((k : Int) / 8) = (k : Int) / 8 := IntWalk.i64_in _ (by omega)
        have h08 : 0 ≤ (k : Int) / 8 := by omega
        have hn8 : ((k : Int) / 8).toNat = k / 8 := by omega
        have hix : (k : Int) / 8 < ((L.length : Int) + 7) / 8 := by omega
        have hq : ((k : Int) % 8).toNat = k % 8 := by omega
        have ht : (k : Int).tmod 8 = (k : Int) % 8 := Int.tmod_eq_emod_of_nonneg (by omega)
        have hq0 : 0 ≤ (k : Int) % 8 := by omega
        have hq8 : (k : Int) % 8 ≤ 8 := by omega
        have hs := shl_one (k % 8) (by omega)
        generalize byteAt (L.take k) (k / 8) = Y at *
        generalize (2 : Nat) ^ (k % 8) = P at *
        have ha : IntKind.u8.wrap ((Y : Int) + (P : Int)) = (Y : Int) + (P : Int) := by exact IntWalk.u8_in _ (by omega)
        have HE : Hid ((wr.setCell ⟨G, k / 8, none⟩ (.int .u8 ((Y : Int) + (P : Int)))).ownsRow 0 5 1 (.slice (some ⟨G, 0, none⟩) ((L.length + 7) / 8) ((L.length + 7) / 8)) ((L.length + 7) / 8) ((bytesTo L (k + 1)).map fun n : Nat => Value.int .u8 (n : Int))) := by
          have := (HR.out.stored (k / 8) (.int .u8 ((Y : Int) + (P : Int)))).1
          rw [HS.out, HB.out, List.map_set, Bool.toNat_true, Nat.one_mul, Int.natCast_add]
          exact this
        have HX : Hid (Mut [] w (wr.setCell ⟨G, k / 8, none⟩ (.int .u8 ((Y : Int) + (P : Int))))) := Lib.hid (HM.out.setCell (.inr (by rw [HG.out]; exact Nat.le_refl _)) _)
        go_wp2
        go_still_tail 10, (by kernel_rfl)
        change wpList _ _ _ _ _ wr.drew
        go_wp2
        exact ⟨⟨k + 1, by omega, by go_num, HE.out, HX.out.drew⟩, by simp [intOf]; omega⟩
      · have hbit' : L.getD k false = false := by simpa using hbit
        have HB := Lib.hid hbit'
        rw [hbit'] at cb
        simp only [Bool.toNat_false] at cb
        have he : bytesTo L (k + 1) = bytesTo L k := by
          rw [HS.out, hbit', Bool.toNat_false, Nat.zero_mul, Nat.add_zero]
          have hl8 : k / 8 < (bytesTo L k).length := by rw [bytesTo_len]; omega
          have := bytesTo_get L k (k / 8) (by omega)
          rw [← this]
          simp [List.getD, hl8]
        have HE := Lib.hid he
        clear he hbit hbit' cg fg hlt8 hpw HS
        go_wp2
        go_roundw
        case rel => exact ⟨k + 1, by omega, by go_num, by rw [HE.out]; exact HR.out, HM.out⟩
        case measure => simp [intOf]; omega
    · have e : k = L.length := by omega
      subst e
      rw [bytesTo_all] at hr
      have hc : (convert 54 9 (.slice (some ⟨G, 0, none⟩) ((L.length + 7) / 8) ((L.length + 7) / 8))).run Try.prog wr = .ok (.string (strOf (pack L))) wr := by
        have h : wr.ownsRow 0 5 1 (.slice (some ⟨G, 0, none⟩) ((L.length + 7) / 8) ((L.length + 7) / 8)) ((L.length + 7) / 8) (((pack L).map fun n : Nat => (n : Int)).map (Value.int .u8)) := by rw [List.map_map]; exact hr
        rw [conv_row Try.underlying54 Try.underlying5 Try.underlying9 h]
        simp only [List.map_map]
        rfl
      have HM := Lib.hid hm
      clear hr hm
      go_wp2
      go_ret
      exact ⟨rfl, HM.out⟩

end Go.Proofs.Ytgjcnembeebjfaa
