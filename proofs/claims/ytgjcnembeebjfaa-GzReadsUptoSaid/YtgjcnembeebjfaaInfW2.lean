/- Walks over package inflate: the unpacker's take, fail, stored. -/
import Derived.Test.YtgjcnembeebjfaaGBr
import Derived.Test.YtgjcnembeebjfaaGInM
import Derived.StillTailTactics
namespace Go.Proofs.Ytgjcnembeebjfaa
open Go.RowKit
set_option linter.unusedVariables false

/-- An unpacker at block b: its reader, what came, the bound, the error. -/
structure UIs (w : World) (b rb : Nat) (s : ByteArray) (t : Nat) (ov : Value) (out : List Nat) (most : Int) (er : Nat) : Prop where
  box : w.heap[b]? = some (.cells #[.pointer (some ⟨rb, 0, none⟩), ov, .int .i64 most, .int .i64 (er : Int)] 101 (0, 0))
  rd : RdIs w rb s t
  row : w.ownsRow 0 5 1 ov out.length (out.map fun n : Nat => Value.int .u8 (n : Int))

theorem cells4 {w : World} {b : Nat} {x y z u : Value} {t : TypeId} (h : w.heap[b]? = some (.cells #[x, y, z, u] t (0, 0))) :
    w.cell? ⟨b, 0, none⟩ = some x ∧ w.cell? ⟨b, 1, none⟩ = some y ∧ w.cell? ⟨b, 2, none⟩ = some z ∧ w.cell? ⟨b, 3, none⟩ = some u ∧ w.frozen? ⟨b, 1, none⟩ = false ∧ w.frozen? ⟨b, 3, none⟩ = false := by
  simp [World.cell?, World.frozen?, h]

theorem cellsU {w : World} {b : Nat} {x y z : Value} {t : TypeId} (h : w.heap[b]? = some (.cells #[x, y, z, .int .i64 ((0 : Nat) : Int)] t (0, 0))) :
    w.cell? ⟨b, 0, none⟩ = some x ∧ w.cell? ⟨b, 1, none⟩ = some y ∧ w.cell? ⟨b, 2, none⟩ = some z ∧ w.cell? ⟨b, 3, none⟩ = some (.int .i64 0) ∧ w.frozen? ⟨b, 1, none⟩ = false ∧ w.frozen? ⟨b, 3, none⟩ = false := by
  simp [World.cell?, World.frozen?, h]

theorem UIs.ne {w : World} {b rb : Nat} {s : ByteArray} {t : Nat} {ov : Value} {out : List Nat} {most : Int} {er : Nat} (h : UIs w b rb s t ov out most er) : b ≠ rb ∧ ov.ownBlock ≠ some b ∧ ov.ownBlock ≠ some rb := by
  refine ⟨?_, row_ne h.row h.box (by decide), row_ne h.row h.rd (by decide)⟩
  intro e
  have h1 := h.box
  have h2 : w.heap[rb]? = _ := h.rd
  rw [e, h2] at h1
  simp at h1

theorem UIs.mut {w w' : World} {b rb : Nat} {s : ByteArray} {t : Nat} {ov : Value} {out : List Nat} {most : Int} {er : Nat} (h : UIs w b rb s t ov out most er) {S : List Nat} (m : Mut S w w') (h1 : b ∉ S) (h2 : rb ∉ S) (h3 : ∀ g, ov.ownBlock = some g → g ∉ S) : UIs w' b rb s t ov out most er :=
  ⟨m.get h.box h1, h.rd.mut m h2, m.row h.row h3⟩

/-- the reader has gone on -/
theorem UIs.rdto {w w' : World} {b rb : Nat} {s : ByteArray} {t t' : Nat} {ov : Value} {out : List Nat} {most : Int} {er : Nat} (h : UIs w b rb s t ov out most er) (m : Mut [rb] w w') (r : RdIs w' rb s t') : UIs w' b rb s t' ov out most er :=
  ⟨m.get h.box (by simp; exact h.ne.1), r, m.row h.row (fun g hg => by simp; rintro rfl; exact h.ne.2.2 hg)⟩

/-- an error noted -/
theorem UIs.err {w : World} {b rb : Nat} {s : ByteArray} {t : Nat} {ov : Value} {out : List Nat} {most : Int} {er : Nat} (h : UIs w b rb s t ov out most er) (k : Nat) : UIs (w.setCell ⟨b, 3, none⟩ (.int .i64 (k : Int))) b rb s t ov out most k :=
  ⟨by have := heap_set h.box 3 (.int .i64 (k : Int)); simpa using this, by
    have := heap_set_ne (w := w) (k := rb) (b := b) (i := 3) (s := none) (fun e => h.ne.1 e.symm) (.int .i64 (k : Int))
    unfold RdIs
    rw [this]
    exact h.rd, row_set_ne h.row (fun g hg e => h.ne.2.1 (by rw [hg, e])) _⟩

theorem utake_ok (b rb : Nat) (s : ByteArray) (t n : Nat) (m : Int) (ov : Value) (out : List Nat) (most : Int) (w : World) (h : UIs w b rb s t ov out most 0) (hs : s.size ≤ 140737488355328) (hm : m = (n : Int)) (hn : n ≤ 32) (hend : t + n ≤ 8 * s.size) :
    Calls Try.prog 69 #[.pointer (some ⟨b, 0, none⟩), .int .i64 m] w fun e w' => e = .returned (.int .i64 (peekNum s t n : Nat)) ∧ UIs w' b rb s (t + n) ov out most 0 ∧ Mut [b, rb] w w' := by
  obtain ⟨c0, c1, c2, c3, f1, f3⟩ := cellsU h.box
  subst hm
  have HT := Lib.hid (take_ok_at rb s t n (n : Int) w h.rd hs rfl hn hend)
  have H := Lib.hid h
  clear h
  go_enter Try.func69, Try.ntmps69
  go_wp2_with (go_at_call 88; refine HT.out.mono ?_; rintro e w1 ⟨rfl, hr, hm1⟩; have HU := Lib.hid (H.out.rdto hm1 hr); have HM := Lib.hid hm1; obtain ⟨d0, d1, d2, d3, g1, g3⟩ := cellsU HU.out.box; clear hr hm1)
  go_ret
  exact ⟨rfl, HU.out.err 0, (HM.out.mono (by simp)).setCell (by simp) _⟩

theorem utake_end (b rb : Nat) (s : ByteArray) (t n : Nat) (m : Int) (ov : Value) (out : List Nat) (most : Int) (w : World) (h : UIs w b rb s t ov out most 0) (hs : s.size ≤ 140737488355328) (ht : t ≤ 8 * s.size) (hm : m = (n : Int)) (hn : n ≤ 32) (hend : 8 * s.size < t + n) :
    Calls Try.prog 69 #[.pointer (some ⟨b, 0, none⟩), .int .i64 m] w fun e w' => e = .returned (.int .i64 0) ∧ UIs w' b rb s t ov out most 3 ∧ Mut [b, rb] w w' := by
  obtain ⟨c0, c1, c2, c3, f1, f3⟩ := cellsU h.box
  subst hm
  have HT : Hid (Calls Try.prog 88 #[.pointer (some ⟨rb, 0, none⟩), .int .i64 (n : Int)] w fun e w' => e = .returned (.tuple #[.int .i64 0, .int .i64 3]) ∧ UIs w' b rb s t ov out most 0 ∧ Mut [rb] w w') :=
    Lib.hid ((take_end_at rb s t n (n : Int) w h.rd hs ht rfl hn hend).mono fun e w' ⟨he, n, hw⟩ => ⟨he, by rw [hw]; exact ⟨h.box, h.rd, h.row⟩, by rw [hw]; exact (Mut.refl _ _).drewN n⟩)
  clear h
  go_enter Try.func69, Try.ntmps69
  go_wp2_with (go_at_call 88; refine HT.out.mono ?_; rintro e w1 ⟨rfl, hu, hm1⟩; have HU := Lib.hid hu; have HM := Lib.hid hm1; obtain ⟨d0, d1, d2, d3, g1, g3⟩ := cellsU HU.out.box; clear hu hm1)
  go_ret
  exact ⟨rfl, HU.out.err 3, (HM.out.mono (by simp)).setCell (by simp) _⟩

theorem utake_err (b rb : Nat) (s : ByteArray) (t : Nat) (m : Int) (ov : Value) (out : List Nat) (most : Int) (er : Nat) (w : World) (h : UIs w b rb s t ov out most er) (he : er ≠ 0) :
    Calls Try.prog 69 #[.pointer (some ⟨b, 0, none⟩), .int .i64 m] w fun e w' => e = .returned (.int .i64 0) ∧ w = w' := by
  obtain ⟨c0, c1, c2, c3, f1, f3⟩ := cells4 h.box
  clear h
  have hI : ((er : Int) == 0) = false := by rw [beq_eq_false_iff_ne]; omega
  go_enter Try.func69, Try.ntmps69
  go_wp2_with fail
  go_ret
  exact ⟨rfl, rfl⟩

/-- nothing is bad -/
theorem ufail_no (b rb : Nat) (s : ByteArray) (t : Nat) (ov : Value) (out : List Nat) (most k : Int) (w : World) (h : UIs w b rb s t ov out most 0) :
    Calls Try.prog 90 #[.pointer (some ⟨b, 0, none⟩), .bool false, .int .i64 k] w fun e w' => e = .returned (.bool false) ∧ w = w' := by
  obtain ⟨c0, c1, c2, c3, f1, f3⟩ := cellsU h.box
  clear h
  go_enter Try.func90, Try.ntmps90
  go_wp2_with fail
  go_ret
  exact ⟨rfl, rfl⟩

theorem ufail_yes (b rb : Nat) (s : ByteArray) (t : Nat) (ov : Value) (out : List Nat) (most m : Int) (k : Nat) (w : World) (h : UIs w b rb s t ov out most 0) (hm : m = (k : Int)) (hk : k ≠ 0) :
    Calls Try.prog 90 #[.pointer (some ⟨b, 0, none⟩), .bool true, .int .i64 m] w fun e w' => e = .returned (.bool true) ∧ UIs w' b rb s t ov out most k ∧ Mut [b] w w' := by
  obtain ⟨c0, c1, c2, c3, f1, f3⟩ := cellsU h.box
  have HU := Lib.hid (h.err k)
  have hI : (m == 0) = false := by rw [beq_eq_false_iff_ne]; omega
  rw [← hm] at HU
  have hI' : (m != 0) = true := by simp [bne, hI]
  clear h hm
  go_enter Try.func90, Try.ntmps90
  go_wp2_with fail
  go_ret
  exact ⟨rfl, HU.out, (Mut.refl _ _).setCell (by simp) _⟩

theorem ufail_old (b rb : Nat) (s : ByteArray) (t : Nat) (ov : Value) (out : List Nat) (most k : Int) (bad : Bool) (er : Nat) (w : World) (h : UIs w b rb s t ov out most er) (he : er ≠ 0) :
    Calls Try.prog 90 #[.pointer (some ⟨b, 0, none⟩), .bool bad, .int .i64 k] w fun e w' => e = .returned (.bool true) ∧ w = w' := by
  obtain ⟨c0, c1, c2, c3, f1, f3⟩ := cells4 h.box
  have hI : ((er : Int) == 0) = false := by rw [beq_eq_false_iff_ne]; omega
  have hI' : ((er : Int) != 0) = true := by simp [bne, hI]
  clear h
  go_enter Try.func90, Try.ntmps90
  go_wp2_with fail
  go_ret
  exact ⟨rfl, rfl⟩

theorem info_u8r : (Try.prog.info? 5).map (fun i => (i.zero, i.size, i.bytes)) = some (some (.int .u8 0), 1, 1) := by kernel_rfl

theorem row_form {w : World} {base : Nat} {e : TypeId} {size : Nat} {v : Value} {n : Nat} {xs : List Value} (h : w.ownsRow base e size v n xs) : ∃ ao cap, v = .slice ao n cap := by
  rcases h.2 with ⟨h, h'⟩ | ⟨g, cap, _, h, _⟩
  · exact ⟨none, 0, by rw [h, h']⟩
  · exact ⟨_, cap, h⟩

theorem or_bytes (A B : Nat) (hA : A < 256) (hB : B < 256) : Go.bits .or .i64 (A : Int) (wrap64 ((B : Int) * 256)) = ((A + 256 * B : Nat) : Int) := by
  have e : ((B : Int) * 256) = ((B * 2 ^ 8 : Nat) : Int) := by simp
  rw [e, IntWalk.wrap64_in _ (by omega), or_i64_join 8 A B hA (by omega), show A + B * 2 ^ 8 = A + 256 * B by omega]

theorem xor_i64_nat (a b : Nat) (ha : a < 2 ^ 63) (hb : b < 2 ^ 63) : Go.bits .xor .i64 (a : Int) (b : Int) = ((a ^^^ b : Nat) : Int) := by
  have h : a ^^^ b < 2 ^ 63 := Nat.xor_lt_two_pow ha hb
  show IntKind.i64.wrap ((BitVec.ofInt 64 (a : Int) ^^^ BitVec.ofInt 64 (b : Int)).toNat : Nat) = _
  rw [BitVec.toNat_xor, ofInt_nat64 a ha, ofInt_nat64 b hb]
  generalize a ^^^ b = c at *
  exact IntWalk.i64_in _ (by omega)

theorem xor_ones (n : Nat) (h : n < 65536) : n ^^^ (65535 - n) = 65535 := by
  have e : (BitVec.ofNat 16 n ^^^ ~~~ BitVec.ofNat 16 n).toNat = 65535 := by
    have : BitVec.ofNat 16 n ^^^ ~~~ BitVec.ofNat 16 n = BitVec.allOnes 16 := by
      ext i hi
      rw [BitVec.getElem_allOnes, BitVec.getElem_xor, BitVec.getElem_not]
      cases (BitVec.ofNat 16 n)[i] <;> rfl
    rw [this]; rfl
  rw [BitVec.toNat_xor, BitVec.toNat_not, BitVec.toNat_ofNat, Nat.mod_eq_of_lt (by omega : n < 2 ^ 16)] at e
  exact e

theorem xor_ones' (n m : Nat) (h : n < 65536) (hm : m < 65536) : n ^^^ m = 65535 ↔ m = 65535 - n := by
  refine ⟨fun e => ?_, fun e => by rw [e]; exact xor_ones n h⟩
  have e1 : n ^^^ (n ^^^ m) = n ^^^ (n ^^^ (65535 - n)) := by rw [e, xor_ones n h]
  rwa [← Nat.xor_assoc, ← Nat.xor_assoc, Nat.xor_self, Nat.zero_xor, Nat.zero_xor] at e1

/-- what came has grown -/
theorem UIs.appended {w w' : World} {b rb : Nat} {s : ByteArray} {t : Nat} {ov : Value} {out : List Nat} {most : Int} {er : Nat} (h : UIs w b rb s t ov out most er) (v' : Value) (news : List Nat) (m : Nat) (hm : m = news.length)
    (hr : w'.ownsRow 0 5 1 v' (out.length + m) ((out.map fun n : Nat => Value.int .u8 (n : Int)) ++ news.map fun n : Nat => Value.int .u8 (n : Int))) (hg : w.grownBy w' ov.ownBlock) :
    UIs (w'.setCell ⟨b, 1, none⟩ v') b rb s t v' (out ++ news) most er ∧ Mut (b :: ov.ownBlock.toList) w (w'.setCell ⟨b, 1, none⟩ v') := by
  obtain ⟨n1, n2, n3⟩ := h.ne
  have m1 : Mut ov.ownBlock.toList w w' := (Mut.refl _ w).grown hg (by intro g hg; simp [hg])
  have hb := m1.get h.box (by simpa using n2)
  have hrd : RdIs w' rb s t := h.rd.mut m1 (by simpa using n3)
  have hne := row_ne hr hb (by decide)
  refine ⟨⟨?_, ?_, ?_⟩, (m1.mono (fun y hy => .inl (List.mem_cons_of_mem _ hy))).setCell (by simp) _⟩
  · have := heap_set hb 1 v'
    simpa using this
  · have := heap_set_ne (w := w') (k := rb) (b := b) (i := 1) (s := none) (fun e => n1 e.symm) v'
    unfold RdIs
    rw [this]
    exact hrd
  · have := row_set_ne hr (b := b) (i := 1) (s := none) (fun g hg e => hne (by rw [hg, e])) v'
    rw [List.length_append, List.map_append, ← hm]
    exact this

theorem byteCells_eq' (s : ByteArray) : byteCells s = (bytesOf s).map fun n : Nat => Value.int .u8 (n : Int) := by simp [byteCells, bytesOf]

/-- two bytes out of a string -/
theorem two_bytes (s : ByteArray) (a : Nat) (h : a + 2 ≤ s.size) : ∃ hd : ByteArray, s.extract a (a + 2) = hd ∧ ∃ (h2 : hd.size = 2), (hd[0]'(by omega)).toNat = (bytesOf s).getD a 0 ∧ (hd[1]'(by omega)).toNat = (bytesOf s).getD (a + 1) 0 := by
  have hz : (s.extract a (a + 2)).size = 2 := by simp; omega
  refine ⟨_, rfl, hz, ?_, ?_⟩
  · rw [bytesOf_getD _ 0 (by omega), bytesOf_extract]
    simp [List.getD, List.getElem?_drop]
  · rw [bytesOf_getD _ 1 (by omega), bytesOf_extract]
    simp [List.getD, List.getElem?_drop]


/-- an unpacker in a state -/
def UAt (w : World) (b rb : Nat) (s : ByteArray) (ov : Value) (m : Nat) (st : US) : Prop := UIs w b rb s st.t ov st.out (m : Int) st.er
theorem UAt.mk {w : World} {b rb : Nat} {s : ByteArray} {ov : Value} {m t er : Nat} {out : List Nat} (h : UIs w b rb s t ov out (m : Int) er) : UAt w b rb s ov m ⟨t, out, er⟩ := h

/-- what it may have written -/
def UG (w w' : World) (b rb : Nat) (ov ov' : Value) : Prop := Mut (b :: rb :: ov.ownBlock.toList) w w' ∧ ∀ g, ov'.ownBlock = some g → ov.ownBlock = some g ∨ w.heap.size ≤ g

theorem UG.of {w w' : World} {b rb : Nat} {ov : Value} (h : Mut [b, rb] w w') : UG w w' b rb ov ov := ⟨h.mono (fun x hx => .inl (by simp at hx ⊢; rcases hx with h | h <;> simp [h])), fun g hg => .inl hg⟩
theorem UG.trans {w w' w'' : World} {b rb : Nat} {ov ov' ov'' : Value} (h : UG w w' b rb ov ov') (k : UG w' w'' b rb ov' ov'') : UG w w'' b rb ov ov'' := by
  refine ⟨h.1.trans k.1 (fun x hx => ?_), fun g hg => ?_⟩
  · simp only [List.mem_cons, Option.mem_toList] at hx ⊢
    rcases hx with h1 | h1 | h1
    · exact .inl (.inl h1)
    · exact .inl (.inr (.inl h1))
    · rcases h.2 x h1 with h2 | h2
      · exact .inl (.inr (.inr h2))
      · exact .inr h2
  · rcases k.2 g hg with h1 | h1
    · exact h.2 g h1
    · exact .inr (Nat.le_trans h.1.size h1)

/-! in the machine's form -/
theorem utake_any (b rb : Nat) (s : ByteArray) (st st' : US) (x n : Nat) (k : Int) (ov : Value) (m : Nat) (w : World) (h : UAt w b rb s ov m st) (hs : s.size ≤ 140737488351232) (ht : st.t ≤ 8 * s.size) (hk : k = (n : Int)) (hn : n ≤ 32) (hu : takeU n s m st = (x, st')) :
    Calls Try.prog 69 #[.pointer (some ⟨b, 0, none⟩), .int .i64 k] w fun e w' => e = .returned (.int .i64 (x : Int)) ∧ UAt w' b rb s ov m st' ∧ Mut [b, rb] w w' := by
  obtain ⟨t, out, er⟩ := st
  unfold takeU at hu
  by_cases he : er = 0
  · subst he
    rw [if_neg (by simp)] at hu
    by_cases h1 : t + n ≤ 8 * s.size
    · rw [if_pos h1] at hu
      obtain ⟨rfl, rfl⟩ := Prod.mk.inj hu
      exact utake_ok b rb s t n k ov out m w h (by omega) hk hn h1
    · rw [if_neg h1] at hu
      obtain ⟨rfl, rfl⟩ := Prod.mk.inj hu
      exact utake_end b rb s t n k ov out m w h (by omega) ht hk hn (by omega)
  · rw [if_pos (by simpa using he)] at hu
    obtain ⟨rfl, rfl⟩ := Prod.mk.inj hu
    exact (utake_err b rb s t k ov out m er w h he).mono fun e w' ⟨h1, h2⟩ => ⟨h1, h2 ▸ h, h2 ▸ Mut.refl _ _⟩

theorem ufail_any (b rb : Nat) (s : ByteArray) (st st' : US) (x bad : Bool) (n : Nat) (k : Int) (ov : Value) (m : Nat) (w : World) (h : UAt w b rb s ov m st) (hk : k = (n : Int)) (hn : bad = true → n ≠ 0) (hu : failU bad n s m st = (x, st')) :
    Calls Try.prog 90 #[.pointer (some ⟨b, 0, none⟩), .bool bad, .int .i64 k] w fun e w' => e = .returned (.bool x) ∧ UAt w' b rb s ov m st' ∧ Mut [b] w w' := by
  obtain ⟨t, out, er⟩ := st
  unfold failU at hu
  by_cases he : er = 0
  · subst he
    rw [if_neg (by simp)] at hu
    cases bad with
    | true =>
      rw [if_pos rfl] at hu
      obtain ⟨rfl, rfl⟩ := Prod.mk.inj hu
      exact ufail_yes b rb s t ov out m k n w h hk (hn rfl)
    | false =>
      rw [if_neg (by simp)] at hu
      obtain ⟨rfl, rfl⟩ := Prod.mk.inj hu
      exact (ufail_no b rb s t ov out m k w h).mono fun e w' ⟨h1, h2⟩ => ⟨h1, h2 ▸ h, h2 ▸ Mut.refl _ _⟩
  · rw [if_pos (by simpa using he)] at hu
    obtain ⟨rfl, rfl⟩ := Prod.mk.inj hu
    exact (ufail_old b rb s t ov out m k bad er w h he).mono fun e w' ⟨h1, h2⟩ => ⟨h1, h2 ▸ h, h2 ▸ Mut.refl _ _⟩

/-- bytes that are not there -/
theorem ubytes_end (b rb : Nat) (s : ByteArray) (t n : Nat) (k : Int) (ov : Value) (out : List Nat) (m : Int) (er : Nat) (w : World) (h : UIs w b rb s t ov out m er) (hs : s.size ≤ 140737488351232) (ht : t ≤ 8 * s.size) (hk : k = (n : Int)) (hend : s.size < (t + 7) / 8 + n) :
    Calls Try.prog 89 #[.pointer (some ⟨rb, 0, none⟩), .int .i64 k] w fun e w' => e = .returned (.tuple #[.string ByteArray.empty, .int .i64 3]) ∧ w = w' := by
  subst hk
  exact rbytes_end rb s t n w h.rd (by omega) ht (by omega) (by omega)

theorem ubytes_ok (b rb : Nat) (s : ByteArray) (t n a : Nat) (k : Int) (x : ByteArray) (ov : Value) (out : List Nat) (m : Int) (er : Nat) (w : World) (h : UIs w b rb s t ov out m er) (hs : s.size ≤ 140737488351232) (ha : (t + 7) / 8 = a) (hk : k = (n : Int)) (hend : a + n ≤ s.size) (hx : s.extract a (a + n) = x) :
    Calls Try.prog 89 #[.pointer (some ⟨rb, 0, none⟩), .int .i64 k] w fun e w' => e = .returned (.tuple #[.string x, .int .i64 0]) ∧ UIs w' b rb s (8 * (a + n)) ov out m er ∧ Mut [rb] w w' := by
  subst hk ha hx
  exact (rbytes_ok rb s t n w h.rd (by omega) hend).mono fun e w' ⟨h1, h2, h3⟩ => ⟨h1, h.rdto h3 h2, h3⟩

set_option maxHeartbeats 400000 in
theorem ustored_1 (b rb : Nat) (s : ByteArray) (t : Nat) (ov : Value) (out : List Nat) (m : Nat) (w : World) (h : UIs w b rb s t ov out m 0) (hs : s.size ≤ 140737488351232) (ht : t ≤ 8 * s.size) (hend : s.size < (t + 7) / 8 + 2) :
    Calls Try.prog 70 #[.pointer (some ⟨b, 0, none⟩)] w fun e w' => e = .returned (.tuple #[]) ∧ UIs w' b rb s t ov out m 3 ∧ Mut [b, rb] w w' := by
  obtain ⟨c0, c1, c2, c3, f1, f3⟩ := cellsU h.box
  have HB := Lib.hid (ubytes_end b rb s t 2 2 ov out m 0 w h hs ht rfl hend)
  have HF := Lib.hid (ufail_yes b rb s t ov out m 3 3 w h rfl (by decide))
  clear h
  go_enter Try.func70, Try.ntmps70
  go_wp2_with fail
  refine HB.out.mono ?_
  rintro e w1 ⟨rfl, rfl⟩
  go_wp2_with fail
  refine HF.out.mono ?_
  rintro e w1 ⟨rfl, hu, hm⟩
  have HU := Lib.hid hu
  have HM := Lib.hid hm
  clear hu hm
  go_wp2_with fail
  refine bodyPost_ret (results_none rfl _ _ _) rfl ?_
  exact ⟨rfl, HU.out, HM.out.mono (by simp)⟩

set_option maxHeartbeats 400000 in
theorem ustored_2 (b rb : Nat) (s : ByteArray) (t a : Nat) (ov : Value) (out : List Nat) (m : Nat) (w : World) (h : UIs w b rb s t ov out m 0) (hs : s.size ≤ 140737488351232) (ht : t ≤ 8 * s.size) (ha : (t + 7) / 8 = a) (hok : a + 2 ≤ s.size) (hend : s.size < a + 4) :
    Calls Try.prog 70 #[.pointer (some ⟨b, 0, none⟩)] w fun e w' => e = .returned (.tuple #[]) ∧ UIs w' b rb s (8 * (a + 2)) ov out m 3 ∧ Mut [b, rb] w w' := by
  obtain ⟨c0, c1, c2, c3, f1, f3⟩ := cellsU h.box
  obtain ⟨x, hx⟩ : ∃ x, s.extract a (a + 2) = x := ⟨_, rfl⟩
  have HB := Lib.hid (ubytes_ok b rb s t 2 a 2 x ov out m 0 w h hs ha rfl hok hx)
  clear h ha hx
  go_enter Try.func70, Try.ntmps70
  go_wp2_with fail
  refine HB.out.mono ?_
  rintro e w1 ⟨rfl, hu1, hm1⟩
  have HB2 := Lib.hid (ubytes_end b rb s (8 * (a + 2)) 2 2 ov out m 0 w1 hu1 hs (by omega) rfl (by omega))
  have HF1 := Lib.hid (ufail_no b rb s (8 * (a + 2)) ov out m 0 w1 hu1)
  have HF := Lib.hid (ufail_yes b rb s (8 * (a + 2)) ov out m 3 3 w1 hu1 rfl (by decide))
  obtain ⟨d0, d1, d2, d3, g1, g3⟩ := cellsU hu1.box
  have HM1 := Lib.hid hm1
  clear hu1 hm1 c0 c1 c2 c3 f1 f3
  go_wp2_with fail
  refine HF1.out.mono ?_
  rintro e w2 ⟨rfl, rfl⟩
  go_wp2_with fail
  refine HB2.out.mono ?_
  rintro e w2 ⟨rfl, rfl⟩
  go_wp2_with fail
  refine HF.out.mono ?_
  rintro e w2 ⟨rfl, hu, hm⟩
  have HU := Lib.hid hu
  have HM := Lib.hid hm
  clear hu hm
  go_wp2_with fail
  refine bodyPost_ret (results_none rfl _ _ _) rfl ?_
  exact ⟨rfl, HU.out, (HM1.out.mono (by simp)).trans' (HM.out.mono (by simp))⟩

end Go.Proofs.Ytgjcnembeebjfaa
