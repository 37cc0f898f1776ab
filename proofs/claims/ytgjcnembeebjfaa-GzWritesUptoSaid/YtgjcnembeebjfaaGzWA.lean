/- Walks over package gz: the bytes of a part. -/
import Derived.Test.YtgjcnembeebjfaaGzB
import Derived.Test.YtgjcnembeebjfaaGzA
import Derived.Test.YtgjcnembeebjfaaSqzW8
import Derived.Test.YtgjcnembeebjfaaReg
namespace Go.Proofs.Ytgjcnembeebjfaa
open Go.RowKit
set_option linter.unusedVariables false

/-! regions that draw, whose callees only lay blocks -/
theorem wp_region_mut {P : Program} {id : Nat} {Q : Exit → Act → World → Prop} {a : Act} {w : World} {l : List Oper} (F : World → Prop) (hm : P.follows .mixedOrders = true) (hB : Region.lexB .any l.toArray = true) (hF : F w.drew)
    (h : wpQuiet P l.toArray (fun w' => ∃ v : WIn F, w' = v.w) (fun a' => ∀ w', (∃ v : WIn F, w' = v.w) → Q .normal a' w') l a) : (Code.region id l.toArray true).wp P Q a w :=
  wp_region_quiet (C := fun w' => ∃ v : WIn F, w' = v.w) hm hB ⟨⟨w.drew, hF⟩, rfl⟩ (by simpa using h)
theorem Calls.inClass {P : Program} {F : World → Prop} {f : FuncId} {args : Array Value} {w : World} {v : Value} (hF : F w) (hmut : ∀ w', Mut [] w w' → F w')
    (h : Calls P f args w fun e w' => e = .returned v ∧ Mut [] w w') : Calls P f args w fun e w' => e = .returned v ∧ ∃ u : WIn F, w' = u.w :=
  h.mono fun _ w' ⟨he, hm⟩ => ⟨he, ⟨w', hmut w' hm⟩, rfl⟩

theorem or4 : ∀ F : Nat, F < 4 → bits .or .i64 (F : Int) 4 = ((F + 4 : Nat) : Int) := by decide +kernel
theorem or8 : ∀ F : Nat, F < 8 → bits .or .i64 (F : Int) 8 = ((F + 8 : Nat) : Int) := by decide +kernel
theorem or16 : ∀ F : Nat, F < 16 → bits .or .i64 (F : Int) 16 = ((F + 16 : Nat) : Int) := by decide +kernel
theorem or2 : ∀ F : Nat, F < 32 → F % 4 < 2 → bits .or .i64 (F : Int) 2 = ((F + 2 : Nat) : Int) := by decide +kernel

/-! what is laid -/
def fl1 (p : GPart) : Nat := if p.text = true then 1 else 0
def fl2 (p : GPart) : Nat := if p.extra = .empty then fl1 p else fl1 p + 4
def fl3 (p : GPart) : Nat := if p.name = .empty then fl2 p else fl2 p + 8
def fl4 (p : GPart) : Nat := if p.comment = .empty then fl3 p else fl3 p + 16
def fl5 (p : GPart) : Nat := if p.headSum = true then fl4 p + 2 else fl4 p
def mo1 (p : GPart) : ByteArray := if p.extra = .empty then ⟨#[]⟩ else ⟨#[]⟩ ++ (strOf (lowL p.extra.size 2) ++ p.extra)
def mo2 (p : GPart) : ByteArray := if p.name = .empty then mo1 p else mo1 p ++ (p.name ++ ⟨#[0]⟩)
def mo3 (p : GPart) : ByteArray := if p.comment = .empty then mo2 p else mo2 p ++ (p.comment ++ ⟨#[0]⟩)
def hd1 (p : GPart) : ByteArray := ⟨#[31, 139]⟩ ++ strOf (lowL 8 1) ++ strOf (lowL (fl5 p) 1) ++ strOf (lowL p.time.toNat 4) ++ strOf (lowL p.more.toNat 1) ++ strOf (lowL p.system.toNat 1) ++ mo3 p
def hd2 (p : GPart) : ByteArray := if p.headSum = true then hd1 p ++ strOf (lowL (sumOf (bytesOf (hd1 p))).toNat 2) else hd1 p
def partB (p : GPart) (C : List Ch) : ByteArray := hd2 p ++ strOf (pack (packAll (bytesOf p.data) C)) ++ strOf (lowL (sumOf (bytesOf p.data)).toNat 4) ++ strOf (lowL p.data.size 4)

theorem fl_in (p : GPart) : fl1 p < 4 ∧ fl2 p < 8 ∧ fl3 p < 16 ∧ fl4 p < 32 ∧ fl4 p % 4 < 2 ∧ fl5 p < 32 := by
  have h1 : fl1 p ≤ 1 := by unfold fl1; split <;> omega
  have h2 : fl2 p = fl1 p ∨ fl2 p = fl1 p + 4 := by unfold fl2; split <;> simp
  have h3 : fl3 p = fl2 p ∨ fl3 p = fl2 p + 8 := by unfold fl3; split <;> simp
  have h4 : fl4 p = fl3 p ∨ fl4 p = fl3 p + 16 := by unfold fl4; split <;> simp
  have h5 : fl5 p = fl4 p + 2 ∨ fl5 p = fl4 p := by unfold fl5; split <;> simp
  omega
theorem mo_size (p : GPart) (hn : p.name.size ≤ 256) (hc : p.comment.size ≤ 256) (hx : p.extra.size ≤ 65535) : (mo1 p).size ≤ 65537 ∧ (mo2 p).size ≤ 65794 ∧ (mo3 p).size ≤ 66051 := by
  have e0 : (⟨#[]⟩ : ByteArray).size = 0 := rfl
  have e1 : (⟨#[0]⟩ : ByteArray).size = 1 := rfl
  have h1 : (mo1 p).size ≤ 65537 := by
    unfold mo1
    split
    · rw [e0]; omega
    · simp only [ByteArray.size_append, e0, strOf_size, lowL, List.length_map, List.length_range]; omega
  have h2 : (mo2 p).size ≤ (mo1 p).size + 257 := by
    unfold mo2
    split
    · omega
    · simp only [ByteArray.size_append, e1]; omega
  have h3 : (mo3 p).size ≤ (mo2 p).size + 257 := by
    unfold mo3
    split
    · omega
    · simp only [ByteArray.size_append, e1]; omega
  omega

theorem ne_facts {s : ByteArray} (h : s ≠ .empty) : s.toList ≠ [] ∧ s.toList.isEmpty = false := by
  have hn0 : s.toList ≠ [] := fun e => h (ByteArray.ext (Array.ext' (by rw [← str_toList, e]; rfl)))
  refine ⟨hn0, ?_⟩
  cases h : s.toList with
  | nil => exact absurd h hn0
  | cons a r => rfl

set_option maxHeartbeats 3200000 in
set_option maxRecDepth 100000 in
theorem gz_bytes_any (p : GPart) (hg : goodN p = 0) (hz : p.data.size ≤ 1048576) (C : List Ch) (hCl : C.length ≤ 1048576) (hCk : ∀ c ∈ C, -9223372036854775808 ≤ c.1 ∧ c.1 ≤ 9223372036854775807) (v : Value) (w : World) (hv : CRow 46 w v C) :
    Calls Try.prog 24 #[gpV p, v] w fun e w' => e = .returned (.string (partB p C)) ∧ Mut [] w w' := by
  have hpx := heap_alloc_new' w (.cells #[.string p.name, .string p.comment, .string p.extra, .bool p.text, .bool p.headSum, .int .i64 p.time, .int .i64 p.more, .int .i64 p.system, .string p.data] 37)
  have HM := Lib.hid ((Mut.refl [] w).alloc (.cells #[.string p.name, .string p.comment, .string p.extra, .bool p.text, .bool p.headSum, .int .i64 p.time, .int .i64 p.more, .int .i64 p.system, .string p.data] 37))
  rw [show gpV p = .agg #[.string p.name, .string p.comment, .string p.extra, .bool p.text, .bool p.headSum, .int .i64 p.time, .int .i64 p.more, .int .i64 p.system, .string p.data] from rfl]
  obtain ⟨q1, q2, q3, q4, q5, q6⟩ := fl_in p
  have HPX := Lib.hid hpx
  have HV := Lib.hid hv
  have e3 := cellOf hpx 3 (x := .bool p.text) rfl
  have e2 := cellOf hpx 2 (x := .string p.extra) rfl
  have HF1 : Hid (fl1 p = if p.text = true then 1 else 0) := Lib.hid rfl
  clear hpx hv
  go_enter Try.func24, Try.ntmps24
  go_upto_region 2 with fail
  generalize w.alloc (.cells #[.string p.name, .string p.comment, .string p.extra, .bool p.text, .bool p.headSum, .int .i64 p.time, .int .i64 p.more, .int .i64 p.system, .string p.data] 37) = w1 at *
  generalize w.heap.size = P at *
  obtain ⟨tb, htb⟩ : ∃ b, p.text = b := ⟨_, rfl⟩
  rw [htb] at e3
  have HTB := Lib.hid htb
  clear htb
  go_upto_if 9 with fail
  go_cut [5] (fun x wx => x = .int .i64 ((fl1 p : Nat) : Int) ∧ wx = w1)
  case first =>
    have h0 : bits .or .i64 0 1 = 1 := by decide +kernel
    cases tb
    · have HFL : Hid (fl1 p = 0) := Lib.hid (by rw [HF1.out, HTB.out]; rfl)
      go_wp2_with fail
      go_meet
      exact ⟨by rw [HFL.out]; rfl, rfl⟩
    · have HFL : Hid (fl1 p = 1) := Lib.hid (by rw [HF1.out, HTB.out]; rfl)
      go_wp2_with fail
      go_meet
      exact ⟨by rw [HFL.out]; rfl, rfl⟩
  case rest =>
  obtain ⟨rfl, rfl⟩ := hcut
  have HF2 : Hid (fl2 p = if p.extra = .empty then fl1 p else fl1 p + 4) := Lib.hid rfl
  have HO1 : Hid (mo1 p = if p.extra = .empty then ⟨#[]⟩ else ⟨#[]⟩ ++ (strOf (lowL p.extra.size 2) ++ p.extra)) := Lib.hid rfl
  have hgd : p.name.size ≤ 256 ∧ p.comment.size ≤ 256 ∧ p.extra.size ≤ 65535 ∧ 0 ≤ p.time ∧ p.time < 4294967296 ∧ 0 ≤ p.more ∧ p.more ≤ 255 ∧ 0 ≤ p.system ∧ p.system ≤ 255 := by
    unfold goodN at hg
    split at hg
    · cases hg
    · split at hg
      · cases hg
      · omega
  obtain ⟨n1, n2, n3, n4, n5, n6, n7, n8, n9⟩ := hgd
  obtain ⟨m1, m2, m3⟩ := mo_size p n1 n2 n3
  clear hg
  go_upto_if 14 with fail
  go_cut [5, 6] (fun x y wx => x = .int .i64 ((fl2 p : Nat) : Int) ∧ y = .string (mo1 p) ∧ Hid (Mut [] w wx ∧ wx.heap[P]? = some (.cells #[.string p.name, .string p.comment, .string p.extra, .bool p.text, .bool p.headSum, .int .i64 p.time, .int .i64 p.more, .int .i64 p.system, .string p.data] 37 (0, 0))))
  case first =>
    by_cases hx : p.extra = .empty
    · have h1 : p.extra.toList = [] := by rw [hx, str_toList]; rfl
      have h2 : p.extra.toList.isEmpty = true := by rw [h1]; rfl
      rw [h2]
      have HFO : Hid (fl2 p = fl1 p ∧ mo1 p = ⟨#[]⟩) := Lib.hid ⟨by rw [HF2.out, if_pos hx], by rw [HO1.out, if_pos hx]⟩
      clear hx
      go_wp2_with fail
      go_meet
      exact ⟨by rw [HFO.out.1], by rw [HFO.out.2], Lib.hid ⟨HM.out, HPX.out⟩⟩
    · obtain ⟨h1, h2⟩ := ne_facts hx
      rw [h2]
      have hor := or4 (fl1 p) q1
      have HFO : Hid (fl2 p = fl1 p + 4 ∧ mo1 p = ⟨#[]⟩ ++ (strOf (lowL p.extra.size 2) ++ p.extra)) := Lib.hid ⟨by rw [HF2.out, if_neg hx], by rw [HO1.out, if_neg hx]⟩
      have hls : (strOf (lowL p.extra.size 2)).size = 2 := by rw [strOf_size]; simp [lowL]
      have HLW := Lib.hid fun W => gz_low_any p.extra.size 2 (by omega) (by omega) W
      have z0 : (⟨#[]⟩ : ByteArray).size = 0 := rfl
      generalize strOf (lowL p.extra.size 2) = S at *
      clear hx
      generalize fl1 p = FA at *
      go_upto_region 6 with fail
      have hd2 : ∀ u : WIn (Mut [] wc), u.w.cell? ⟨P, 2, none⟩ = some (.string p.extra) := fun u => cellOf (u.ok.get HPX.out (by simp)) 2 rfl
      haveI : Nonempty (WIn (Mut [] wc)) := ⟨⟨wc, Mut.refl _ _⟩⟩
      have HCL : Hid (∀ u : WIn (Mut [] wc), Calls Try.prog 38 #[.int .i64 (p.extra.size : Int), .int .i64 2] u.w fun e w' => e = .returned (.string S) ∧ ∃ u' : WIn (Mut [] wc), w' = u'.w) :=
        Lib.hid fun u => Calls.inClass u.ok (fun w' m => u.ok.trans' m) (HLW.out u.w)
      refine wp_region_mut (Mut [] wc) (by kernel_rfl) (by kernel_rfl) ((Mut.refl _ _).drew) ?_
      repeat (go_big_quiet_step ((go_at_call 38; exact HCL.out _)))
      refine wpQuiet_nil ?_
      rintro w4 ⟨u4, hv4⟩
      have hm4 : Mut [] wc w4 := by rw [hv4]; exact u4.ok
      have HM4 := Lib.hid hm4
      clear hd2 HCL hv4 hm4 this u4
      go_wp2_with fail
      go_meet
      exact ⟨by rw [HFO.out.1]; rfl, by rw [HFO.out.2], Lib.hid ⟨HM.out.trans' HM4.out, HM4.out.get HPX.out (by simp)⟩⟩
  case rest =>
  clear HF2 HO1 e2 e3 HM HPX HF1
  obtain ⟨rfl, rfl, HB3⟩ := hcut
  have e0 := cellOf HB3.out.2 0 (x := .string p.name) rfl
  have HF3 : Hid (fl3 p = if p.name = .empty then fl2 p else fl2 p + 8) := Lib.hid rfl
  have HO3 : Hid (mo2 p = if p.name = .empty then mo1 p else mo1 p ++ (p.name ++ ⟨#[0]⟩)) := Lib.hid rfl
  go_upto_if 28 with fail
  go_cut [5, 6] (fun x y wx => x = .int .i64 ((fl3 p : Nat) : Int) ∧ y = .string (mo2 p) ∧ Hid (Mut [] w wx ∧ wx.heap[P]? = some (.cells #[.string p.name, .string p.comment, .string p.extra, .bool p.text, .bool p.headSum, .int .i64 p.time, .int .i64 p.more, .int .i64 p.system, .string p.data] 37 (0, 0))))
  case first =>
    by_cases hx : p.name = .empty
    · have h1 : p.name.toList = [] := by rw [hx, str_toList]; rfl
      have h2 : p.name.toList.isEmpty = true := by rw [h1]; rfl
      rw [h2]
      have hf : fl3 p = fl2 p := by rw [HF3.out, if_pos hx]
      have ho : mo2 p = mo1 p := by rw [HO3.out, if_pos hx]
      have HFO := Lib.hid (And.intro hf ho)
      clear hx hf ho
      go_wp2_with fail
      go_meet
      exact ⟨by rw [HFO.out.1], by rw [HFO.out.2], HB3⟩
    · obtain ⟨h1, h2⟩ := ne_facts hx
      rw [h2]
      have hor := or8 (fl2 p) q2
      have HFO : Hid (fl3 p = fl2 p + 8 ∧ mo2 p = mo1 p ++ (p.name ++ ⟨#[0]⟩)) := Lib.hid ⟨by rw [HF3.out, if_neg hx], by rw [HO3.out, if_neg hx]⟩
      have z0 : (⟨#[0]⟩ : ByteArray).size = 1 := rfl
      clear hx
      generalize fl2 p = FA at *
      generalize mo1 p = MA at *
      go_wp2_with fail
      go_meet
      exact ⟨by rw [HFO.out.1]; rfl, by rw [HFO.out.2], HB3⟩
  case rest =>
  clear HB3 e0 HF3 HO3
  obtain ⟨rfl, rfl, HB4⟩ := hcut
  have e1 := cellOf HB4.out.2 1 (x := .string p.comment) rfl
  have HF4 : Hid (fl4 p = if p.comment = .empty then fl3 p else fl3 p + 16) := Lib.hid rfl
  have HO4 : Hid (mo3 p = if p.comment = .empty then mo2 p else mo2 p ++ (p.comment ++ ⟨#[0]⟩)) := Lib.hid rfl
  go_upto_if 38 with fail
  go_cut [5, 6] (fun x y wx => x = .int .i64 ((fl4 p : Nat) : Int) ∧ y = .string (mo3 p) ∧ Hid (Mut [] w wx ∧ wx.heap[P]? = some (.cells #[.string p.name, .string p.comment, .string p.extra, .bool p.text, .bool p.headSum, .int .i64 p.time, .int .i64 p.more, .int .i64 p.system, .string p.data] 37 (0, 0))))
  case first =>
    by_cases hx : p.comment = .empty
    · have h1 : p.comment.toList = [] := by rw [hx, str_toList]; rfl
      have h2 : p.comment.toList.isEmpty = true := by rw [h1]; rfl
      rw [h2]
      have hf : fl4 p = fl3 p := by rw [HF4.out, if_pos hx]
      have ho : mo3 p = mo2 p := by rw [HO4.out, if_pos hx]
      have HFO := Lib.hid (And.intro hf ho)
      clear hx hf ho
      go_wp2_with fail
      go_meet
      exact ⟨by rw [HFO.out.1], by rw [HFO.out.2], HB4⟩
    · obtain ⟨h1, h2⟩ := ne_facts hx
      rw [h2]
      have hor := or16 (fl3 p) q3
      have HFO : Hid (fl4 p = fl3 p + 16 ∧ mo3 p = mo2 p ++ (p.comment ++ ⟨#[0]⟩)) := Lib.hid ⟨by rw [HF4.out, if_neg hx], by rw [HO4.out, if_neg hx]⟩
      have z0 : (⟨#[0]⟩ : ByteArray).size = 1 := rfl
      clear hx
      generalize fl3 p = FA at *
      generalize mo2 p = MA at *
      go_wp2_with fail
      go_meet
      exact ⟨by rw [HFO.out.1]; rfl, by rw [HFO.out.2], HB4⟩
  case rest =>
  clear HB4 e1 HF4 HO4
  obtain ⟨rfl, rfl, HB5⟩ := hcut
  have e4 := cellOf HB5.out.2 4 (x := .bool p.headSum) rfl
  obtain ⟨hb, hhb⟩ : ∃ b, p.headSum = b := ⟨_, rfl⟩
  rw [hhb] at e4
  have HHB := Lib.hid hhb
  clear hhb
  have HF5 : Hid (fl5 p = if hb = true then fl4 p + 2 else fl4 p) := Lib.hid (by rw [← HHB.out]; rfl)
  go_upto_if 47 with fail
  go_cut [5] (fun x wx => x = .int .i64 ((fl5 p : Nat) : Int) ∧ wx = wc)
  case first =>
    cases hb
    · have HFL : Hid (fl5 p = fl4 p) := Lib.hid (by rw [HF5.out]; rfl)
      go_wp2_with fail
      go_meet
      exact ⟨by rw [HFL.out], rfl⟩
    · have HFL : Hid (fl5 p = fl4 p + 2) := Lib.hid (by rw [HF5.out]; rfl)
      have hor := or2 (fl4 p) q4 q5
      generalize fl4 p = FA at *
      go_wp2_with fail
      go_meet
      exact ⟨by rw [HFL.out]; rfl, rfl⟩
  case rest =>
  obtain ⟨rfl, rfl⟩ := hcut
  clear HF5
  have szl : ∀ n k, (strOf (lowL n k)).size = k := fun n k => by rw [strOf_size]; simp [lowL]
  have HL1 := Lib.hid fun W => gz_low_any 8 1 (by decide) (by decide) W
  have HL2 := Lib.hid fun W => gz_low_any (fl5 p) 1 (by omega) (by decide) W
  have HL3 := fun W => gz_low_any p.time.toNat 4 (by omega) (by decide) W
  have HL4 := fun W => gz_low_any p.more.toNat 1 (by omega) (by decide) W
  have HL5 := fun W => gz_low_any p.system.toNat 1 (by omega) (by decide) W
  rw [Int.toNat_of_nonneg n4] at HL3
  rw [Int.toNat_of_nonneg n6] at HL4
  rw [Int.toNat_of_nonneg n8] at HL5
  have HH1 : Hid (hd1 p = ⟨#[31, 139]⟩ ++ strOf (lowL 8 1) ++ strOf (lowL (fl5 p) 1) ++ strOf (lowL p.time.toNat 4) ++ strOf (lowL p.more.toNat 1) ++ strOf (lowL p.system.toNat 1) ++ mo3 p) := Lib.hid rfl
  have z1 := szl 8 1
  have z2 := szl (fl5 p) 1
  have z3 := szl p.time.toNat 4
  have z4 := szl p.more.toNat 1
  have z5 := szl p.system.toNat 1
  generalize strOf (lowL 8 1) = S1 at *
  generalize strOf (lowL (fl5 p) 1) = S2 at *
  generalize strOf (lowL p.time.toNat 4) = S3 at *
  generalize strOf (lowL p.more.toNat 1) = S4 at *
  generalize strOf (lowL p.system.toNat 1) = S5 at *
  have z0 : (⟨#[31, 139]⟩ : ByteArray).size = 2 := rfl
  have hhz : (hd1 p).size ≤ 66100 := by
    rw [HH1.out]
    simp only [ByteArray.size_append, z0, z1, z2, z3, z4, z5]
    omega
  have HSZ := Lib.hid szl
  have HL3' := Lib.hid HL3
  have HL4' := Lib.hid HL4
  have HL5' := Lib.hid HL5
  clear szl HL3 HL4 HL5 e4
  generalize fl5 p = FF at *
  go_upto_region 15 with fail
  go_cut [7] (fun x wx => x = .string (hd1 p) ∧ Hid (Mut [] w wx ∧ wx.heap[P]? = some (.cells #[.string p.name, .string p.comment, .string p.extra, .bool p.text, .bool p.headSum, .int .i64 p.time, .int .i64 p.more, .int .i64 p.system, .string p.data] 37 (0, 0))))
  case first =>
    have hd5 : ∀ u : WIn (Mut [] wc), u.w.cell? ⟨P, 5, none⟩ = some (.int .i64 p.time) := fun u => cellOf (u.ok.get HB5.out.2 (by simp)) 5 rfl
    have hd6 : ∀ u : WIn (Mut [] wc), u.w.cell? ⟨P, 6, none⟩ = some (.int .i64 p.more) := fun u => cellOf (u.ok.get HB5.out.2 (by simp)) 6 rfl
    have hd7 : ∀ u : WIn (Mut [] wc), u.w.cell? ⟨P, 7, none⟩ = some (.int .i64 p.system) := fun u => cellOf (u.ok.get HB5.out.2 (by simp)) 7 rfl
    haveI : Nonempty (WIn (Mut [] wc)) := ⟨⟨wc, Mut.refl _ _⟩⟩
    have K1 : Hid (∀ u : WIn (Mut [] wc), Calls Try.prog 38 #[.int .i64 8, .int .i64 1] u.w fun e w' => e = .returned (.string S1) ∧ ∃ u' : WIn (Mut [] wc), w' = u'.w) := Lib.hid fun u => Calls.inClass u.ok (fun w' m => u.ok.trans' m) (HL1.out u.w)
    have K2 : Hid (∀ u : WIn (Mut [] wc), Calls Try.prog 38 #[.int .i64 (FF : Int), .int .i64 1] u.w fun e w' => e = .returned (.string S2) ∧ ∃ u' : WIn (Mut [] wc), w' = u'.w) := Lib.hid fun u => Calls.inClass u.ok (fun w' m => u.ok.trans' m) (HL2.out u.w)
    have K3 : Hid (∀ u : WIn (Mut [] wc), Calls Try.prog 38 #[.int .i64 p.time, .int .i64 4] u.w fun e w' => e = .returned (.string S3) ∧ ∃ u' : WIn (Mut [] wc), w' = u'.w) := Lib.hid fun u => Calls.inClass u.ok (fun w' m => u.ok.trans' m) (HL3'.out u.w)
    have K4 : Hid (∀ u : WIn (Mut [] wc), Calls Try.prog 38 #[.int .i64 p.more, .int .i64 1] u.w fun e w' => e = .returned (.string S4) ∧ ∃ u' : WIn (Mut [] wc), w' = u'.w) := Lib.hid fun u => Calls.inClass u.ok (fun w' m => u.ok.trans' m) (HL4'.out u.w)
    have K5 : Hid (∀ u : WIn (Mut [] wc), Calls Try.prog 38 #[.int .i64 p.system, .int .i64 1] u.w fun e w' => e = .returned (.string S5) ∧ ∃ u' : WIn (Mut [] wc), w' = u'.w) := Lib.hid fun u => Calls.inClass u.ok (fun w' m => u.ok.trans' m) (HL5'.out u.w)
    clear HL1 HL2 HL3' HL4' HL5' HSZ
    refine wp_region_mut (Mut [] wc) (by kernel_rfl) (by kernel_rfl) ((Mut.refl _ _).drew) ?_
    repeat (go_big_quiet_step (fail))
    go_big_quiet_step ((go_at_call 38; exact K1.out _))
    repeat (go_big_quiet_step (fail))
    go_big_quiet_step ((go_at_call 38; exact K2.out _))
    repeat (go_big_quiet_step (fail))
    go_big_quiet_step ((go_at_call 38; exact K3.out _))
    repeat (go_big_quiet_step (fail))
    go_big_quiet_step ((go_at_call 38; exact K4.out _))
    repeat (go_big_quiet_step (fail))
    go_big_quiet_step ((go_at_call 38; exact K5.out _))
    repeat (go_big_quiet_step (fail))
    refine wpQuiet_nil ?_
    rintro w4 ⟨u4, hv4⟩
    have hm4 : Mut [] wc w4 := by rw [hv4]; exact u4.ok
    have HM4 := Lib.hid hm4
    clear hd5 hd6 hd7 K1 K2 K3 K4 K5 hv4 hm4 this u4
    go_wp2_with fail
    go_meet
    exact ⟨by rw [HH1.out], Lib.hid ⟨HB5.out.1.trans' HM4.out, HM4.out.get HB5.out.2 (by simp)⟩⟩
  case rest =>
  obtain ⟨rfl, HB6⟩ := hcut
  clear HB5 HH1 HL1 HL2 HL3' HL4' HL5' z1 z2 z3 z4 z5 z0
  have e4 := cellOf HB6.out.2 4 (x := .bool p.headSum) rfl
  rw [HHB.out] at e4
  have HO2 : Hid (hd2 p = if hb = true then hd1 p ++ strOf (lowL (sumOf (bytesOf (hd1 p))).toNat 2) else hd1 p) := Lib.hid (by rw [← HHB.out]; rfl)
  have hsin := sumOf_in (bytesOf (hd1 p))
  have HSU := Lib.hid fun W => sum_any (hd1 p) (by omega) W
  have hls := HSZ.out (sumOf (bytesOf (hd1 p))).toNat 2
  have HL6 := fun W => gz_low_any (sumOf (bytesOf (hd1 p))).toNat 2 (by omega) (by decide) W
  rw [Int.toNat_of_nonneg hsin.1] at HL6
  have HL6' := Lib.hid HL6
  generalize strOf (lowL (sumOf (bytesOf (hd1 p))).toNat 2) = S6 at *
  generalize sumOf (bytesOf (hd1 p)) = SM at *
  have h2z : (hd2 p).size ≤ 66102 := by
    rw [HO2.out]
    split
    · rw [ByteArray.size_append]; omega
    · omega
  clear HL6
  go_upto_if 70 with fail
  go_cut [7] (fun x wx => x = .string (hd2 p) ∧ Hid (Mut [] w wx ∧ wx.heap[P]? = some (.cells #[.string p.name, .string p.comment, .string p.extra, .bool p.text, .bool p.headSum, .int .i64 p.time, .int .i64 p.more, .int .i64 p.system, .string p.data] 37 (0, 0))))
  case first =>
    cases hb
    · have HFL : Hid (hd2 p = hd1 p) := Lib.hid (by rw [HO2.out]; rfl)
      go_wp2_with fail
      go_meet
      exact ⟨by rw [HFL.out], HB6⟩
    · have HFL : Hid (hd2 p = hd1 p ++ S6) := Lib.hid (by rw [HO2.out]; rfl)
      generalize hd1 p = H1 at *
      go_wp2_with fail
      refine (HSU.out _).mono ?_
      rintro e w7 ⟨rfl, rfl⟩
      go_wp2_with fail
      refine (HL6'.out _).mono ?_
      rintro e w8 ⟨rfl, hm8⟩
      have HM8 := Lib.hid hm8
      clear hm8
      go_wp2_with fail
      go_meet
      exact ⟨by rw [HFL.out], Lib.hid ⟨HB6.out.1.trans' HM8.out, HM8.out.get HB6.out.2 (by simp)⟩⟩
  case rest =>
  obtain ⟨rfl, HB7⟩ := hcut
  clear HB6 e4 HO2 hsin HSU HL6' hls hhz
  have hsin := sumOf_in (bytesOf p.data)
  have HSU := Lib.hid fun W => sum_any p.data (by omega) W
  have t1 := HSZ.out (sumOf (bytesOf p.data)).toNat 4
  have t2 := HSZ.out p.data.size 4
  have HL7 := fun W => gz_low_any (sumOf (bytesOf p.data)).toNat 4 (by omega) (by decide) W
  rw [Int.toNat_of_nonneg hsin.1] at HL7
  have HL7' := Lib.hid HL7
  have HL8 := Lib.hid fun W => gz_low_any p.data.size 4 (by omega) (by decide) W
  have hpk : (strOf (pack (packAll (bytesOf p.data) C))).size ≤ 8589934592 := by
    rw [packed_size]
    have := packAll_len (bytesOf p.data) (bytesOf_lt p.data) C
    rw [bytesOf_length] at this
    omega
  have HPK : Hid (∀ u : WIn (Mut [] wc), Calls Try.prog 39 #[.string p.data, v] u.w fun e w' => e = .returned (.string (strOf (pack (packAll (bytesOf p.data) C)))) ∧ Mut [] u.w w') := Lib.hid fun u =>
    spack_any p.data (bytesOf p.data) rfl hz C hCl hCk v u.w (HV.out.mut (HB7.out.1.trans' u.ok) (by simp))
  have HPB : Hid (partB p C = hd2 p ++ strOf (pack (packAll (bytesOf p.data) C)) ++ strOf (lowL (sumOf (bytesOf p.data)).toNat 4) ++ strOf (lowL p.data.size 4)) := Lib.hid rfl
  obtain ⟨OUT, hOUT⟩ : ∃ x, partB p C = x := ⟨_, rfl⟩
  rw [hOUT] at HPB
  have HOUT := Lib.hid hOUT
  generalize strOf (pack (packAll (bytesOf p.data) C)) = PK at *
  generalize strOf (lowL (sumOf (bytesOf p.data)).toNat 4) = S7 at *
  generalize strOf (lowL p.data.size 4) = S8 at *
  generalize sumOf (bytesOf p.data) = SD at *
  generalize hd2 p = H2 at *
  have hd8 : ∀ u : WIn (Mut [] wc), u.w.cell? ⟨P, 8, none⟩ = some (.string p.data) := fun u => cellOf (u.ok.get HB7.out.2 (by simp)) 8 rfl
  haveI : Nonempty (WIn (Mut [] wc)) := ⟨⟨wc, Mut.refl _ _⟩⟩
  have K1 : Hid (∀ u : WIn (Mut [] wc), Calls Try.prog 39 #[.string p.data, v] u.w fun e w' => e = .returned (.string PK) ∧ ∃ u' : WIn (Mut [] wc), w' = u'.w) := Lib.hid fun u => Calls.inClass u.ok (fun w' m => u.ok.trans' m) (HPK.out u)
  have K2 : Hid (∀ u : WIn (Mut [] wc), Calls Try.prog 14 #[.string p.data] u.w fun e w' => e = .returned (.int .i64 SD) ∧ ∃ u' : WIn (Mut [] wc), w' = u'.w) := Lib.hid fun u => (HSU.out u.w).mono fun e w' ⟨h1, h2⟩ => ⟨h1, u, h2⟩
  have K3 : Hid (∀ u : WIn (Mut [] wc), Calls Try.prog 38 #[.int .i64 SD, .int .i64 4] u.w fun e w' => e = .returned (.string S7) ∧ ∃ u' : WIn (Mut [] wc), w' = u'.w) := Lib.hid fun u => Calls.inClass u.ok (fun w' m => u.ok.trans' m) (HL7'.out u.w)
  have K4 : Hid (∀ u : WIn (Mut [] wc), Calls Try.prog 38 #[.int .i64 (p.data.size : Int), .int .i64 4] u.w fun e w' => e = .returned (.string S8) ∧ ∃ u' : WIn (Mut [] wc), w' = u'.w) := Lib.hid fun u => Calls.inClass u.ok (fun w' m => u.ok.trans' m) (HL8.out u.w)
  clear HPK HSU HL7 HL7' HL8 HSZ hOUT hsin
  go_upto_region 18 with fail
  refine wp_region_mut (Mut [] wc) (by kernel_rfl) (by kernel_rfl) ((Mut.refl _ _).drew) ?_
  repeat (go_big_quiet_step (fail))
  go_big_quiet_step ((go_at_call 39; exact K1.out _))
  repeat (go_big_quiet_step (fail))
  go_big_quiet_step ((go_at_call 14; exact K2.out _))
  repeat (go_big_quiet_step (fail))
  go_big_quiet_step ((go_at_call 38; exact K3.out _))
  repeat (go_big_quiet_step (fail))
  go_big_quiet_step ((go_at_call 38; exact K4.out _))
  repeat (go_big_quiet_step (fail))
  refine wpQuiet_nil ?_
  rintro w4 ⟨u4, hv4⟩
  have hm4 : Mut [] wc w4 := by rw [hv4]; exact u4.ok
  have HM4 := Lib.hid hm4
  clear hd8 K1 K2 K3 K4 hv4 hm4 this u4
  go_wp2_with fail
  refine bodyPost_ret (results_tmp rfl _ _ _) rfl ⟨?_, HB7.out.1.trans' HM4.out⟩
  rw [HOUT.out, HPB.out]
  rfl

end Go.Proofs.Ytgjcnembeebjfaa
