/- Tokens, plain: how far bytes are alike, the best length, all tokens of a span. No program. Rows of tokens. Walk over package squeeze: alike. Walk over package squeeze: Tokens. -/
import Derived.Test.YtgjcnembeebjfaaGFa
import Derived.Test.YtgjcnembeebjfaaBase
import Derived.Deep.DeepCutAuto
import Derived.Deep.LoopGhost
import Derived.Deep.CutBlock

namespace Go.Proofs.Ytgjcnembeebjfaa
open Go.RowKit
set_option linter.unusedVariables false

/-- is the byte at p + c the one d ahead of it, within the span? -/
def alkC (D : List Nat) (p tz d c : Nat) : Prop := p + c < tz ∧ D.getD (p + c) 0 = D.getD (p + c - d) 0
instance (D : List Nat) (p tz d c : Nat) : Decidable (alkC D p tz d c) := inferInstanceAs (Decidable (_ ∧ _))

/-- how many bytes are alike, of at most c -/
def alk (D : List Nat) (p tz d : Nat) : Nat → Nat
  | 0 => 0
  | c + 1 => if alk D p tz d c = c ∧ alkC D p tz d c then c + 1 else alk D p tz d c

theorem alk_le (D : List Nat) (p tz d c : Nat) : alk D p tz d c ≤ c := by
  induction c with
  | zero => exact Nat.le_refl _
  | succ c ih =>
    rw [alk]
    split <;> omega

theorem alk_stop (D : List Nat) (p tz d n : Nat) (h : alk D p tz d n = n) (hc : ¬ alkC D p tz d n) : ∀ j, alk D p tz d (n + j) = n
  | 0 => h
  | j + 1 => by
    have ih := alk_stop D p tz d n h hc j
    rw [show n + (j + 1) = n + j + 1 from rfl, alk]
    rw [if_neg, ih]
    rintro ⟨h1, h2⟩
    rw [ih] at h1
    have : j = 0 := by omega
    subst this
    exact hc h2

theorem alk_all (D : List Nat) (p tz d : Nat) : ∀ c j, j < alk D p tz d c → alkC D p tz d j
  | 0, j, h => by simp [alk] at h
  | c + 1, j, h => by
    rw [alk] at h
    split at h
    · rename_i h1
      by_cases hj : j = c
      · subst hj; exact h1.2
      · exact alk_all D p tz d c j (by omega)
    · exact alk_all D p tz d c j h

theorem alk_full (D : List Nat) (p tz d n : Nat) (h : ∀ j, j < n → alkC D p tz d j) : alk D p tz d n = n := by
  induction n with
  | zero => rfl
  | succ n ih =>
    rw [alk, if_pos ⟨ih (fun j hj => h j (by omega)), h n (by omega)⟩]

/-- the best length and distance, of distances up tz d -/
def bst (D : List Nat) (p tz : Nat) : Nat → Nat × Nat
  | 0 => (0, 0)
  | d + 1 => if 3 ≤ alk D p tz (d + 1) 258 ∧ (bst D p tz d).1 < alk D p tz (d + 1) 258 then (alk D p tz (d + 1) 258, d + 1) else bst D p tz d

theorem bst_form (D : List Nat) (p tz : Nat) : ∀ d, bst D p tz d = (0, 0) ∨ (3 ≤ (bst D p tz d).1 ∧ (bst D p tz d).1 ≤ 258 ∧ 1 ≤ (bst D p tz d).2 ∧ (bst D p tz d).2 ≤ d ∧ (bst D p tz d).1 = alk D p tz (bst D p tz d).2 258)
  | 0 => .inl rfl
  | d + 1 => by
    obtain ⟨a, ha⟩ : ∃ a, alk D p tz (d + 1) 258 = a := ⟨_, rfl⟩
    have hle := alk_le D p tz (d + 1) 258
    rw [ha] at hle
    rw [bst, ha]
    split
    · rename_i h
      exact .inr ⟨h.1, hle, Nat.succ_le_succ (Nat.zero_le _), Nat.le_refl _, ha.symm⟩
    · rcases bst_form D p tz d with h | h
      · exact .inl h
      · exact .inr ⟨h.1, h.2.1, h.2.2.1, by omega, h.2.2.2.2⟩

/-- a token: a byte, a length, a distance -/
abbrev Tok := Nat × Nat × Nat
def tokAt (D : List Nat) (p : Nat) (b : Nat × Nat) : Tok := if b.1 = 0 then (D.getD p 0, 0, 0) else (0, b.1, b.2)
/-- all tokens from a place on -/
def tks (D : List Nat) (tz R : Nat) : Nat → Nat → List Tok
  | 0, _ => []
  | f + 1, p => if p < tz then tokAt D p (bst D p tz (min R p)) :: tks D tz R f (p + max (bst D p tz (min R p)).1 1) else []

theorem tks_end (D : List Nat) (tz R f p : Nat) (h : tz ≤ p) : tks D tz R f p = [] := by
  cases f with
  | zero => rfl
  | succ f => rw [tks, if_neg (by omega)]

theorem tks_fuel (D : List Nat) (tz R : Nat) : ∀ f g p, tz - p < f → tz - p < g → tks D tz R f p = tks D tz R g p
  | 0, _, _, h, _ => by omega
  | _ + 1, 0, _, _, h => by omega
  | f + 1, g + 1, p, h1, h2 => by
    rw [tks, tks]
    split
    · rw [tks_fuel D tz R f g _ (by omega) (by omega)]
    · rfl

/-- the next token -/
theorem tks_next (D : List Nat) (tz R f p : Nat) (h : p < tz) (hf : tz - p < f) : tks D tz R f p = tokAt D p (bst D p tz (min R p)) :: tks D tz R f (p + max (bst D p tz (min R p)).1 1) := by
  obtain ⟨g, rfl⟩ : ∃ g, f = g + 1 := ⟨f - 1, by omega⟩
  rw [tks, if_pos h]
  congr 1
  exact tks_fuel D tz R _ _ _ (by omega) (by omega)

theorem tks_len (D : List Nat) (tz R : Nat) : ∀ f p, (tks D tz R f p).length ≤ tz - p
  | 0, p => by simp [tks]
  | f + 1, p => by
    rw [tks]
    split
    · rw [List.length_cons]
      have := tks_len D tz R f (p + max (bst D p tz (min R p)).1 1)
      omega
    · simp

/-! a byte again and again -/
theorem rep_alike (b n p d : Nat) (hd : d ≤ p) (c : Nat) : alk (List.replicate n b) p n d c = min c (n - p) := by
  have hC : ∀ j, alkC (List.replicate n b) p n d j ↔ p + j < n := by
    intro j
    unfold alkC
    refine ⟨fun h => h.1, fun h => ⟨h, ?_⟩⟩
    simp only [List.getD, List.getElem?_replicate]
    rw [if_pos h, if_pos (by omega)]
  by_cases hcn : c ≤ n - p
  · rw [alk_full _ _ _ _ _ (fun j hj => (hC j).2 (by omega))]
    omega
  · have h1 := alk_full (List.replicate n b) p n d (n - p) (fun j hj => (hC j).2 (by omega))
    have h2 := alk_stop (List.replicate n b) p n d (n - p) h1 (fun h => by have := (hC _).1 h; omega) (c - (n - p))
    rw [show n - p + (c - (n - p)) = c by omega] at h2
    rw [h2]
    omega

/-- how many tokens tell so many bytes that are like the one ahead -/
def manyT (r : Nat) : Nat := r / 258 + if 3 ≤ r % 258 then 1 else r % 258

theorem rep_count (b n : Nat) : ∀ (f p : Nat), 1 ≤ p → n - p < f → (tks (List.replicate n b) n 1 f p).length = manyT (n - p)
  | 0, p, _, h => by omega
  | f + 1, p, hp, h => by
    rw [tks]
    by_cases hpn : p < n
    · rw [if_pos hpn, List.length_cons, show min 1 p = 1 by omega]
      have hb : bst (List.replicate n b) p n 1 = if 3 ≤ min 258 (n - p) then (min 258 (n - p), 1) else (0, 0) := by
        show (if 3 ≤ alk (List.replicate n b) p n 1 258 ∧ 0 < alk (List.replicate n b) p n 1 258 then (alk (List.replicate n b) p n 1 258, 1) else (0, 0)) = _
        rw [rep_alike b n p 1 hp 258]
        by_cases h3 : 3 ≤ min 258 (n - p)
        · rw [if_pos ⟨h3, by omega⟩, if_pos h3]
        · rw [if_neg (fun h => h3 h.1), if_neg h3]
      rw [hb]
      obtain ⟨m, hm⟩ : ∃ m, min 258 (n - p) = m := ⟨_, rfl⟩
      rw [hm]
      by_cases h3 : 3 ≤ m
      · rw [if_pos h3]
        show (tks (List.replicate n b) n 1 f (p + max m 1)).length + 1 = _
        rw [rep_count b n f (p + max m 1) (by omega) (by omega)]
        unfold manyT
        by_cases h4 : n - p ≤ 258
        · rw [show n - (p + max m 1) = 0 by omega]
          by_cases h5 : n - p = 258
          · rw [h5]
            rfl
          · rw [show (n - p) / 258 = 0 by omega, show (n - p) % 258 = n - p by omega, if_pos (by omega : 3 ≤ n - p)]
            rfl
        · rw [show n - (p + max m 1) = n - p - 258 by omega]
          rw [show (n - p) / 258 = (n - p - 258) / 258 + 1 by omega, show (n - p) % 258 = (n - p - 258) % 258 by omega]
          omega
      · rw [if_neg h3]
        show (tks (List.replicate n b) n 1 f (p + max 0 1)).length + 1 = _
        rw [rep_count b n f (p + max 0 1) (by omega) (by omega)]
        unfold manyT
        rw [show n - (p + max 0 1) = n - p - 1 by omega, show (n - p) / 258 = 0 by omega, show (n - p - 1) / 258 = 0 by omega, show (n - p) % 258 = n - p by omega, show (n - p - 1) % 258 = n - p - 1 by omega, if_neg (by omega), if_neg (by omega)]
        omega
    · rw [if_neg hpn, show n - p = 0 by omega]
      decide

theorem rep_all (b n f : Nat) (hf : n < f) : (tks (List.replicate n b) n 1 f 0).length = min n 1 + manyT (n - min n 1) := by
  obtain ⟨g, rfl⟩ : ∃ g, f = g + 1 := ⟨f - 1, by omega⟩
  by_cases h : 0 < n
  · rw [tks, if_pos h, List.length_cons]
    show (tks (List.replicate n b) n 1 g (0 + max 0 1)).length + 1 = _
    rw [show 0 + max 0 1 = 1 from rfl, rep_count b n g 1 (by omega) (by omega), show min n 1 = 1 by omega]
    omega
  · rw [tks, if_neg h, show n = 0 by omega]
    decide

theorem rep_none (D : List Nat) (n : Nat) : ∀ (f p : Nat), n - p < f → (tks D n 0 f p).length = n - p
  | 0, p, h => by omega
  | f + 1, p, h => by
    rw [tks]
    split
    · rw [List.length_cons]
      show (tks D n 0 f (p + max (bst D p n (min 0 p)).1 1)).length + 1 = _
      rw [show min 0 p = 0 by omega]
      show (tks D n 0 f (p + max 0 1)).length + 1 = _
      rw [rep_none D n f (p + max 0 1) (by omega)]
      omega
    · simp; omega

end Go.Proofs.Ytgjcnembeebjfaa

namespace Go.Proofs.Ytgjcnembeebjfaa
open Go.RowKit
set_option linter.unusedVariables false

def tokCell (x : Tok) : List Value := [.int .u8 (x.1 : Int), .int .i64 (x.2.1 : Int), .int .i64 (x.2.2 : Int)]
def tokCells (T : List Tok) : List Value := T.flatMap tokCell

/-- a row of tokens of the call's own; e: the element's type -/
def TRow (e : TypeId) (w : World) (v : Value) (T : List Tok) : Prop := w.ownsRow 0 e 3 v T.length (tokCells T)

theorem TRow.mut {e : TypeId} {w w' : World} {v : Value} {T : List Tok} {S : List Nat} (h : TRow e w v T) (hm : Mut S w w') (hs : ∀ g, v.ownBlock = some g → g ∉ S) : TRow e w' v T := hm.row h hs
theorem TRow.nil (e : TypeId) (w : World) : TRow e w (.slice none 0 0) [] := World.ownsRow_nil _ _ _ _
theorem TRow.form {e : TypeId} {w : World} {v : Value} {T : List Tok} (h : TRow e w v T) : ∃ p c, v = .slice p T.length c := by
  rcases h.2 with ⟨h, h'⟩ | ⟨g, cap, _, h, _⟩
  · exact ⟨none, 0, by rw [h, h']⟩
  · exact ⟨_, cap, h⟩

theorem TRow.lt {e : TypeId} {w : World} {v : Value} {T : List Tok} (h : TRow e w v T) {k : Nat} (hk : v.ownBlock = some k) : k < w.heap.size := by
  rcases h.2 with ⟨rfl, _⟩ | ⟨g, cap, cur, rfl, _, hh, _⟩
  · simp [Value.ownBlock] at hk
  · simp [Value.ownBlock] at hk
    subst hk
    exact lt_of_heap hh

theorem tokCells_snoc (T : List Tok) (x : Tok) : tokCells (T ++ [x]) = tokCells T ++ tokCell x := by simp [tokCells]

theorem tokCells_len (T : List Tok) : (tokCells T).length = 3 * T.length := by
  induction T with
  | nil => rfl
  | cons x r ih =>
    have : tokCells (x :: r) = tokCell x ++ tokCells r := by simp [tokCells]
    rw [this, List.length_append, ih]
    simp [tokCell]
    omega

theorem tokCells_at (T : List Tok) : ∀ (i : Nat) (hi : i < T.length) (j : Nat), j < 3 → (tokCells T)[3 * i + j]? = (tokCell (T[i]'hi))[j]? := by
  induction T with
  | nil => intro i hi; simp at hi
  | cons x r ih =>
    intro i hi j hj
    have e : tokCells (x :: r) = tokCell x ++ tokCells r := by simp [tokCells]
    rw [e]
    cases i with
    | zero =>
      rw [List.getElem?_append_left (by simp [tokCell]; omega)]
      simp
    | succ i =>
      rw [List.getElem?_append_right (by simp [tokCell]; omega)]
      have : 3 * (i + 1) + j - (tokCell x).length = 3 * i + j := by simp [tokCell]; omega
      rw [this, ih i (by simpa using hi) j hj]
      simp

/-- a token's cells, read -/
theorem TRow.cells {e : TypeId} {w : World} {g n c : Nat} {T : List Tok} (h : TRow e w (.slice (some ⟨g, 0, none⟩) n c) T) (i : Nat) (hi : i < T.length) :
    w.cell? ⟨g, 3 * i, none⟩ = some (.int .u8 ((T[i]'hi).1 : Int)) ∧ w.cell? ⟨g, 3 * i + 1, none⟩ = some (.int .i64 ((T[i]'hi).2.1 : Int)) ∧ w.cell? ⟨g, 3 * i + 2, none⟩ = some (.int .i64 ((T[i]'hi).2.2 : Int)) := by
  rcases h.2 with ⟨h1, _⟩ | ⟨g', cap, cur, h1, _, hh, r1, r2, r3, r4⟩
  · cases h1
  · simp only [Value.slice.injEq, Option.some.injEq, Addr.mk.injEq] at h1
    obtain ⟨⟨e1, -⟩, -, -⟩ := h1
    subst e1
    have key : ∀ j u, j < 3 → (tokCell (T[i]'hi))[j]? = some u → w.cell? ⟨g, 3 * i + j, none⟩ = some u := by
      intro j u hj hu
      have h2 := tokCells_at T i hi j hj
      rw [hu, ← r4, List.getElem?_take] at h2
      split at h2
      · exact cellOf hh _ (by simpa using h2)
      · simp at h2
    exact ⟨key 0 _ (by decide) rfl, key 1 _ (by decide) rfl, key 2 _ (by decide) rfl⟩

theorem cells3 {w : World} {g : Nat} {a b c : Value} {t : TypeId} (h : w.heap[g]? = some (.cells #[a, b, c] t (0, 0))) :
    w.cell? ⟨g, 0, none⟩ = some a ∧ w.cell? ⟨g, 1, none⟩ = some b ∧ w.cell? ⟨g, 2, none⟩ = some c ∧ w.frozen? ⟨g, 0, none⟩ = false ∧ w.frozen? ⟨g, 1, none⟩ = false ∧ w.frozen? ⟨g, 2, none⟩ = false :=
  ⟨cellOf h 0 rfl, cellOf h 1 rfl, cellOf h 2 rfl, by simp [World.frozen?, h], by simp [World.frozen?, h], by simp [World.frozen?, h]⟩

theorem set3 {w : World} {g : Nat} {a b c : Value} {t : TypeId} (h : w.heap[g]? = some (.cells #[a, b, c] t (0, 0))) (a' b' c' : Value) :
    (((w.setCell ⟨g, 0, none⟩ a').setCell ⟨g, 1, none⟩ b').setCell ⟨g, 2, none⟩ c').heap[g]? = some (.cells #[a', b', c'] t (0, 0)) ∧ Mut [g] w (((w.setCell ⟨g, 0, none⟩ a').setCell ⟨g, 1, none⟩ b').setCell ⟨g, 2, none⟩ c') := by
  have h1 := heap_set h 0 a'
  have h2 := heap_set h1 1 b'
  have h3 := heap_set h2 2 c'
  exact ⟨by simpa using h3, (((Mut.refl [g] w).setCell (by simp) _).setCell (by simp) _).setCell (by simp) _⟩

theorem tokCellA (X : Tok) : (tokCell X).toArray = #[.int .u8 (X.1 : Int), .int .i64 (X.2.1 : Int), .int .i64 (X.2.2 : Int)] := rfl
theorem tok_one (a b c : Int) : ∀ x ∈ ([.int .u8 a, .int .i64 b, .int .i64 c] : List Value), x.oneCell' = true := by
  intro x hx
  simp at hx
  rcases hx with rfl | rfl | rfl <;> rfl

end Go.Proofs.Ytgjcnembeebjfaa

namespace Go.Proofs.Ytgjcnembeebjfaa
open Go.RowKit
set_option linter.unusedVariables false

theorem u8_eq (x y : UInt8) : ((x.toNat : Int) == (y.toNat : Int)) = decide (x.toNat = y.toNat) := by
  by_cases h : x.toNat = y.toNat
  · rw [decide_eq_true h, h]; simp
  · rw [decide_eq_false h, beq_eq_false_iff_ne]; omega

set_option maxHeartbeats 1600000 in
set_option maxRecDepth 100000 in
theorem alike_any (data : ByteArray) (D : List Nat) (hD : bytesOf data = D) (p te d : Nat) (hz : data.size ≤ 1073741824) (ht : te ≤ data.size) (hpz : p ≤ data.size) (hd1 : 1 ≤ d) (hd : d ≤ p) (w : World) :
    Calls Try.prog 85 #[.string data, .int .i64 (p : Int), .int .i64 (te : Int), .int .i64 (d : Int)] w fun e w' => e = .returned (.int .i64 (alk D p te d 258 : Nat)) ∧ ∃ n, w' = w.drewN n := by
  obtain ⟨res, hres⟩ : ∃ res, alk D p te d 258 = res := ⟨_, rfl⟩
  have HR := Lib.hid hres
  rw [hres]
  clear hres
  have HD := Lib.hid hD
  clear hD
  go_enter Try.func85, Try.ntmps85
  go_wp2_with fail
  go_loopw [9] (fun c wx => ∃ n m : Nat, c = .int .i64 (n : Int) ∧ n ≤ 258 ∧ Hid (alk D p te d n = n) ∧ wx = w.drewN m) (fun c _ => 258 - (intOf c).toNat)
  case atStart => exact ⟨0, 0, rfl, by omega, Lib.hid rfl, rfl⟩
  case round =>
    obtain ⟨n, m, rfl, hn, HN, rfl⟩ := hrel
    by_cases h1 : n < 258
    case neg =>
      have e : n = 258 := by omega
      have hI : decide ((n : Int) < 258) = false := decide_eq_false (by omega)
      have hr : (n : Int) = (res : Int) := by
        have h2 := HN.out
        have h3 := HR.out
        rw [e] at h2
        omega
      have HE := Lib.hid hr
      clear e hr
      go_wp2_with fail
      go_quiet (fail)
      go_wp2_with fail
      go_ret
      exact ⟨by rw [HE.out]; rfl, _, World.drewN_drewN _ _ _⟩
    case pos =>
      have h1I : (n : Int) < 258 := by omega
      by_cases h2 : p + n < te
      case neg =>
        have hI1 : decide ((n : Int) < 258) = true := decide_eq_true h1I
        obtain ⟨i, hi⟩ : ∃ i, p + n = i := ⟨_, rfl⟩
        have hiI : (p : Int) + (n : Int) = (i : Int) := by omega
        have hil : i ≤ 1073743000 := by omega
        have hI2 : decide ((i : Int) < (te : Int)) = false := decide_eq_false (by omega)
        have hI2n : decide (i < te) = false := decide_eq_false (by omega)
        have hr : (n : Int) = (res : Int) := by
          have h3 := HR.out
          have h4 := alk_stop D p te d n HN.out (fun h => h2 h.1) (258 - n)
          rw [show n + (258 - n) = 258 by omega] at h4
          omega
        have HE := Lib.hid hr
        clear hr h2 hi
        go_wp2_with fail
        go_quiet (fail)
        go_wp2_with fail
        go_ret
        exact ⟨by rw [HE.out]; rfl, _, World.drewN_drewN _ _ _⟩
      case pos =>
        obtain ⟨i, hi⟩ : ∃ i, p + n = i := ⟨_, rfl⟩
        obtain ⟨j, hj⟩ : ∃ j, p + n - d = j := ⟨_, rfl⟩
        have hI1 : decide ((n : Int) < 258) = true := decide_eq_true h1I
        have hI2 : decide ((i : Int) < (te : Int)) = true := decide_eq_true (by omega)
        have hI2n : decide (i < te) = true := decide_eq_true (by omega)
        have hiI : (p : Int) + (n : Int) = (i : Int) := by omega
        have hjI : (i : Int) - (d : Int) = (j : Int) := by omega
        have hil : i < data.size := by omega
        have hjl : j < data.size := by omega
        have hq := u8_eq (data[i]'hil) (data[j]'hjl)
        have hC : alkC D p te d n ↔ (data[i]'hil).toNat = (data[j]'hjl).toNat := by
          unfold alkC
          rw [hi, show i - d = j by omega, ← HD.out, bytesOf_getD data i hil, bytesOf_getD data j hjl]
          exact ⟨fun h => h.2, fun h => ⟨by omega, h⟩⟩
        have HC := Lib.hid hC
        by_cases hxy : (data[i]'hil).toNat = (data[j]'hjl).toNat
        case pos =>
          rw [decide_eq_true hxy] at hq
          have HN1 : Hid (alk D p te d (n + 1) = n + 1) := Lib.hid (by rw [alk, if_pos ⟨HN.out, hC.2 hxy⟩])
          clear hC hxy hi hj h2
          go_wp2_with fail
          go_quiet (fail)
          go_wp2_with fail
          exact ⟨⟨n + 1, _, by rw [Int.natCast_add]; rfl, by omega, HN1, rfl⟩, by simp only [intOf]; omega⟩
        case neg =>
          rw [decide_eq_false hxy] at hq
          have hq2 : ((data[i]'hil).toNat == (data[j]'hjl).toNat) = false := by rw [beq_eq_false_iff_ne]; exact hxy
          have hq3 : (data[i]'hil == data[j]'hjl) = false := by rw [beq_eq_false_iff_ne]; exact fun h => hxy (by rw [h])
          have hr : (n : Int) = (res : Int) := by
            have h3 := HR.out
            have h4 := alk_stop D p te d n HN.out (fun h => hxy (hC.1 h)) (258 - n)
            rw [show n + (258 - n) = 258 by omega] at h4
            omega
          have HE := Lib.hid hr
          clear hC hxy hi hj h2 hr
          go_wp2_with fail
          go_quiet (fail)
          go_wp2_with fail
          go_ret
          exact ⟨by rw [HE.out]; rfl, _, World.drewN_drewN _ _ _⟩

end Go.Proofs.Ytgjcnembeebjfaa

namespace Go.Proofs.Ytgjcnembeebjfaa
open Go.RowKit
set_option linter.unusedVariables false

theorem info_tok : (Try.prog.info? 146).map (fun i => (i.zero, i.size, i.bytes)) = some (some (.agg #[.int .u8 0, .int .i64 0, .int .i64 0]), 3, 24) := by kernel_rfl

/-- where the loop over the places is -/
def TkC (w0 : World) (T : List Tok) (v : Value) (w : World) : Prop := TRow 146 w v T ∧ (∀ g, v.ownBlock = some g → w0.heap.size ≤ g) ∧ Mut [] w0 w

/-- .. and where the loop over the distances is -/
def BsC (w0 : World) (T : List Tok) (v : Value) (g : Nat) (x : Tok) (w : World) : Prop := TkC w0 T v w ∧ w.heap[g]? = some (.cells (tokCell x).toArray 146 (0, 0)) ∧ w0.heap.size ≤ g ∧ ∀ k, v.ownBlock = some k → k ≠ g

/-- .. behind so many distances -/
def BsR (w0 : World) (T : List Tok) (v : Value) (g : Nat) (D : List Nat) (p te d : Nat) (w : World) : Prop := BsC w0 T v g (tokAt D p (bst D p te d)) w

theorem tokens_bad (data : ByteArray) (a b r : Int) (h : a < 0 ∨ b < a ∨ (data.size : Int) < b) (w : World) :
    Calls Try.prog 61 #[.string data, .int .i64 a, .int .i64 b, .int .i64 r] w fun e w' => e = .returned (.slice none 0 0) ∧ w = w' := by
  go_enter Try.func61, Try.ntmps61
  by_cases h1 : a < 0
  · go_wp2_with fail
    exact bodyPost_ret (results_tmp rfl _ _ _) rfl ⟨rfl, rfl⟩
  · by_cases h2 : b < a
    · go_wp2_with fail
      exact bodyPost_ret (results_tmp rfl _ _ _) rfl ⟨rfl, rfl⟩
    · have h3 : (data.size : Int) < b := by omega
      go_wp2_with fail
      exact bodyPost_ret (results_tmp rfl _ _ _) rfl ⟨rfl, rfl⟩

theorem tokCell0 (X : Tok) : (tokCell X).toArray[0]? = some (.int .u8 (X.1 : Int)) := rfl
theorem tokCell1 (X : Tok) : (tokCell X).toArray[1]? = some (.int .i64 (X.2.1 : Int)) := rfl
theorem tokCell2 (X : Tok) : (tokCell X).toArray[2]? = some (.int .i64 (X.2.2 : Int)) := rfl
theorem tokAt_0 (D : List Nat) (p te : Nat) : tokAt D p (bst D p te 0) = (D.getD p 0, 0, 0) := rfl
theorem tok_new (w : World) (x : Nat) : (w.alloc (.cells #[.int .u8 (x : Int), .int .i64 0, .int .i64 0] 146)).heap[w.heap.size]? = some (.cells (tokCell (x, 0, 0)).toArray 146 (0, 0)) := heap_alloc_new w _

theorem tokAt_some (D : List Nat) (p n d : Nat) (h : 3 ≤ n) : tokAt D p (n, d) = (0, n, d) := by
  unfold tokAt
  rw [if_neg (by simp; omega)]

theorem BsR.kept {w wx wy : World} {T : List Tok} {v : Value} {g : Nat} {D : List Nat} {p te d e : Nat} (h : BsR w T v g D p te d wx) (hm : Mut [] wx wy) (he : bst D p te e = bst D p te d) : BsR w T v g D p te e wy := by
  unfold BsR
  rw [he]
  exact ⟨⟨h.1.1.mut hm (by simp), h.1.2.1, h.1.2.2.trans' hm⟩, hm.get h.2.1 (by simp), h.2.2⟩

theorem BsR.set {w wx : World} {T : List Tok} {v : Value} {g : Nat} {D : List Nat} {p te d n e : Nat} (h : BsR w T v g D p te d wx) (hn : 3 ≤ n) (he : bst D p te (d + 1) = (n, e)) :
    BsR w T v g D p te (d + 1) (((wx.setCell ⟨g, 0, none⟩ (.int .u8 0)).setCell ⟨g, 1, none⟩ (.int .i64 (n : Int))).setCell ⟨g, 2, none⟩ (.int .i64 (e : Int))) := by
  obtain ⟨⟨h1, h2, h3⟩, h4, h5, h6⟩ := h
  rw [tokCellA] at h4
  obtain ⟨k1, k2⟩ := set3 h4 (.int .u8 0) (.int .i64 (n : Int)) (.int .i64 (e : Int))
  unfold BsR
  rw [he, tokAt_some D p n e hn]
  refine ⟨⟨h1.mut k2 (fun k hk => by simpa using h6 k hk), h2, h3.trans k2 (fun x hx => .inr (by simp at hx; omega))⟩, ?_, h5, h6⟩
  rw [k1]
  rfl

theorem tokAt_len (D : List Nat) (p : Nat) (b : Nat × Nat) : (tokAt D p b).2.1 = b.1 := by
  unfold tokAt
  split
  · rename_i h; exact h.symm
  · rfl

theorem bst_in (D : List Nat) (p te d : Nat) (hp : p < te) : p + (bst D p te d).1 ≤ te := by
  rcases bst_form D p te d with h | h
  · rw [h]; simp; omega
  · have h1 := alk_all D p te (bst D p te d).2 258 ((bst D p te d).1 - 1) (by omega)
    unfold alkC at h1
    omega

theorem fin1 {d1 M : Nat} {P : Nat → Prop} (h : wrap64 ((d1 : Int) + 1) = ((d1 + 1 : Nat) : Int) ∧ d1 ≤ M) (h1 : P d1) :
    (∃ d : Nat, Value.int .i64 (wrap64 ((d1 : Int) + 1)) = .int .i64 ((d + 1 : Nat) : Int) ∧ d ≤ M ∧ P d) ∧ M + 1 - (intOf (.int .i64 (wrap64 ((d1 : Int) + 1)))).toNat < M + 1 - (intOf (.int .i64 (d1 : Int))).toNat := by
  rw [h.1]
  exact ⟨⟨d1, rfl, h.2, h1⟩, by simp only [intOf]; omega⟩

theorem fin2 {fr p q te R F : Nat} {T A : List Tok} {x : Tok} {D : List Nat} {w w1 : World} {v : Value} (hq : 1 ≤ q) (h1 : fr ≤ p) (h2 : p + q ≤ te) (h3 : T.length ≤ p) (h4 : TkC w (T ++ [x]) v w1) (h5 : T ++ x :: tks D te R F (p + q) = A) (c : Int) (hc : c = (p : Int) + (q : Int)) :
    (∃ (p' : Nat) (T' : List Tok), Value.int .i64 c = .int .i64 (p' : Int) ∧ fr ≤ p' ∧ p' ≤ te ∧ T'.length ≤ p' ∧ Hid (TkC w T' v w1 ∧ T' ++ tks D te R F p' = A)) ∧ te - (intOf (.int .i64 c)).toNat < te - (intOf (.int .i64 (p : Int))).toNat := by
  subst hc
  refine ⟨⟨p + q, T ++ [x], by rw [Int.natCast_add], by omega, h2, by rw [List.length_append]; simp; omega, Lib.hid ⟨h4, by rw [← h5]; simp⟩⟩, by simp only [intOf]; omega⟩

set_option maxHeartbeats 3200000 in
set_option maxRecDepth 100000 in
theorem tokens_any (data : ByteArray) (D : List Nat) (hD : bytesOf data = D) (fr te R F : Nat) (r : Int) (hz : data.size ≤ 1073741824) (hft : fr ≤ te) (ht : te ≤ data.size) (hR : (R : Int) = min (max r 0) 32768) (hF : te - fr < F) (w : World) :
    Calls Try.prog 61 #[.string data, .int .i64 (fr : Int), .int .i64 (te : Int), .int .i64 r] w fun e w' => ∃ v, e = .returned v ∧ TkC w (tks D te R F fr) v w' := by
  obtain ⟨A, hA⟩ : ∃ A, tks D te R F fr = A := ⟨_, rfl⟩
  have HA := Lib.hid hA
  rw [hA]
  clear hA
  have hDl : D.length = data.size := by rw [← hD, bytesOf_length]
  have HD := Lib.hid hD
  clear hD
  go_enter Try.func61, Try.ntmps61
  go_upto_region 3 with fail
  go_cut [3] (fun q wx => wx = w ∧ q = .int .i64 (R : Int))
  case first =>
    by_cases h1 : r < 0
    · have e : (0 : Int) = (R : Int) := by omega
      have E := Lib.hid e
      clear hR e
      go_wp2_with fail
      go_meet
      exact ⟨rfl, congrArg _ E.out⟩
    · by_cases h2 : r ≤ 32768
      · have e : r = (R : Int) := by omega
        have E := Lib.hid e
        clear hR e
        go_wp2_with fail
        go_meet
        exact ⟨rfl, congrArg _ E.out⟩
      · have e : (32768 : Int) = (R : Int) := by omega
        have E := Lib.hid e
        clear hR e
        go_wp2_with fail
        go_meet
        exact ⟨rfl, congrArg _ E.out⟩
  case rest =>
    obtain ⟨hw0, rfl⟩ := hcut
    obtain rfl := hw0.symm
    have hRl : R ≤ 32768 := by omega
    clear hR
    have HC : Hid (TkC w [] (.slice none 0 0) w ∧ [] ++ tks D te R F fr = A) := Lib.hid ⟨⟨TRow.nil _ _, by simp [Value.ownBlock], Mut.refl _ _⟩, HA.out⟩
    go_wp2_with fail
    go_loopw [10, 9] (fun c v wx => ∃ (p : Nat) (T : List Tok), c = .int .i64 (p : Int) ∧ fr ≤ p ∧ p ≤ te ∧ T.length ≤ p ∧ Hid (TkC w T v wx ∧ T ++ tks D te R F p = A)) (fun c _ _ => te - (intOf c).toNat)
    case atStart => exact ⟨fr, [], rfl, by omega, by omega, by simp, HC⟩
    case round =>
      obtain ⟨p, T, rfl, hp1, hp2, hTl, HR⟩ := hrel
      clear HC
      by_cases hlt : p < te
      case neg =>
        have hT : T = A := by
          have := HR.out.2
          rwa [tks_end D te R F p (by omega), List.append_nil] at this
        obtain ⟨pv, cv, rfl⟩ := HR.out.1.1.form
        have HT := Lib.hid hT
        have hnI : ¬ (p : Int) < (te : Int) := by omega
        clear hT
        go_wp2_with fail
        exact bodyPost_ret (results_tmp rfl _ _ _) rfl ⟨_, rfl, by rw [← HT.out]; exact HR.out.1⟩
      case pos =>
        have hltI : (p : Int) < (te : Int) := by omega
        have hpd : p < data.size := by omega
        have hnx := tks_next D te R F p hlt (by omega)
        obtain ⟨M, hM⟩ : ∃ M, min R p = M := ⟨_, rfl⟩
        rw [hM] at hnx
        have hin := bst_in D p te M hlt
        obtain ⟨bz, hbz⟩ : ∃ bz, bst D p te M = bz := ⟨_, rfl⟩
        have HBZ := Lib.hid hbz
        rw [hbz] at hnx hin
        obtain ⟨x, hx⟩ : ∃ x, (data[p]'hpd).toNat = x := ⟨_, rfl⟩
        have hxD : D.getD p 0 = x := by rw [← HD.out, ← hx, bytesOf_getD data p hpd]
        have HX := Lib.hid hxD
        have HNX := Lib.hid hnx
        clear hnx hbz hxD
        go_upto_region 8 with fail
        have hbs : BsR w T u9 wr.heap.size D p te 0 (wr.alloc (.cells #[.int .u8 (x : Int), .int .i64 0, .int .i64 0] 146)) := by
          have hm : Mut [] wr (wr.alloc (.cells #[.int .u8 (x : Int), .int .i64 0, .int .i64 0] 146)) := (Mut.refl [] wr).alloc _
          refine ⟨⟨HR.out.1.1.mut hm (by simp), HR.out.1.2.1, HR.out.1.2.2.trans' hm⟩, ?_, HR.out.1.2.2.size, fun k hk e => ?_⟩
          case refine_2 =>
            subst e
            exact Nat.lt_irrefl _ (TRow.lt HR.out.1.1 hk)
          rw [tokAt_0, HX.out]
          exact tok_new wr x
        generalize wr.alloc (.cells #[.int .u8 (x : Int), .int .i64 0, .int .i64 0] 146) = w1 at *
        generalize wr.heap.size = g at *
        have HB0 := Lib.hid hbs
        have HTA := Lib.hid HR.out.2
        have hmn : (if R < p then (R : Int) else (p : Int)) = (M : Int) := by split <;> omega
        have hMp : M ≤ p ∧ M ≤ R := by omega
        clear hbs HR hx hM
        go_wp2_with fail
        go_loopw [12] (fun c wx => ∃ d : Nat, c = .int .i64 ((d + 1 : Nat) : Int) ∧ d ≤ M ∧ Hid (BsR w T u9 g D p te d wx)) (fun c _ => M + 1 - (intOf c).toNat)
        case atStart => exact ⟨0, rfl, by omega, HB0⟩
        case round =>
          obtain ⟨d, rfl, hd, HI⟩ := hrel
          clear HB0
          obtain ⟨d1, hd1⟩ : ∃ d1, d + 1 = d1 := ⟨_, rfl⟩
          obtain ⟨lb, hlb⟩ : ∃ lb : Bool, decide (d < M) = lb := ⟨_, rfl⟩
          rw [hd1]
          go_upto_region 9 with fail
          go_cut [42] (fun q wx => wx = wr ∧ q = .bool lb)
          case first =>
            have hRp : R < p ∨ p < R ∨ R = p := by omega
            by_cases hdM : d < M
            · have hdI : (d1 : Int) ≤ (R : Int) := by omega
              have hdJ : (d1 : Int) ≤ (p : Int) := by omega
              rcases hRp with hRp | hRp | hRp
              · have hRI : (R : Int) < (p : Int) := by omega
                have hl : lb = true := by rw [← hlb]; exact decide_eq_true hdM
                subst hl
                clear hmn hMp hd hdM hd1 hRp hlb
                go_wp2_with fail
                go_meet
                exact ⟨rfl, rfl⟩
              · have hRI : (p : Int) < (R : Int) := by omega
                have hl : lb = true := by rw [← hlb]; exact decide_eq_true hdM
                subst hl
                clear hmn hMp hd hdM hd1 hRp hlb
                go_wp2_with fail
                go_meet
                exact ⟨rfl, rfl⟩
              · have hRI : (p : Int) ≤ (R : Int) := by omega
                have hRJ : (R : Int) ≤ (p : Int) := by omega
                have hl : lb = true := by rw [← hlb]; exact decide_eq_true hdM
                subst hl
                clear hmn hMp hd hdM hd1 hRp hlb
                go_wp2_with fail
                go_meet
                exact ⟨rfl, rfl⟩
            · rcases hRp with hRp | hRp | hRp
              · have hRI : (R : Int) < (p : Int) := by omega
                have hdI : ¬ (d1 : Int) ≤ (R : Int) := by omega
                have hl : lb = false := by rw [← hlb]; exact decide_eq_false hdM
                subst hl
                clear hmn hMp hd hdM hd1 hRp hlb
                go_wp2_with fail
                go_meet
                exact ⟨rfl, rfl⟩
              · have hRI : (p : Int) < (R : Int) := by omega
                have hdI : ¬ (d1 : Int) ≤ (p : Int) := by omega
                have hl : lb = false := by rw [← hlb]; exact decide_eq_false hdM
                subst hl
                clear hmn hMp hd hdM hd1 hRp hlb
                go_wp2_with fail
                go_meet
                exact ⟨rfl, rfl⟩
              · have hRI : (p : Int) ≤ (R : Int) := by omega
                have hRJ : (R : Int) ≤ (p : Int) := by omega
                have hdI : ¬ (d1 : Int) ≤ (p : Int) := by omega
                have hdJ : ¬ (d1 : Int) ≤ (R : Int) := by omega
                have hl : lb = false := by rw [← hlb]; exact decide_eq_false hdM
                subst hl
                clear hmn hMp hd hdM hd1 hRp hlb
                go_wp2_with fail
                go_meet
                exact ⟨rfl, rfl⟩
          case rest =>
            obtain ⟨hwc, rfl⟩ := hcut
            obtain rfl := hwc.symm
            clear hmn
            cases lb with
            | true =>
              have hdM : d < M := of_decide_eq_true hlb
              clear hlb
              obtain ⟨n, hn⟩ : ∃ n, alk D p te (d + 1) 258 = n := ⟨_, rfl⟩
              have hal := alike_any data D HD.out p te (d + 1) hz ht (by omega) (by omega) (by omega) wr
              rw [hn] at hal
              have HAL := Lib.hid hal
              have hn258 : n ≤ 258 := by rw [← hn]; exact alk_le _ _ _ _ _
              obtain ⟨bl, hbl⟩ : ∃ bl, (bst D p te d).1 = bl := ⟨_, rfl⟩
              have hst : bst D p te (d + 1) = if 3 ≤ n ∧ bl < n then (n, d + 1) else bst D p te d := by rw [bst, hn, hbl]
              have hc1 : ∀ q, (wr.drewN q).cell? ⟨g, 1, none⟩ = some (.int .i64 (bl : Int)) := fun q => by
                have h1 := cellOf HI.out.2.1 1 (tokCell1 _)
                rw [tokAt_len, hbl] at h1
                exact h1
              have HST := Lib.hid hst
              have HIN : Hid (∀ q, BsR w T u9 g D p te d (wr.drewN q)) := Lib.hid fun q => HI.out.kept ((Mut.refl [] wr).drewN q) rfl
              rw [hd1] at HAL
              clear hal hn hbl hst HI
              go_wp2_with fail
              refine HAL.out.mono ?_
              rintro e w2 ⟨rfl, nq, rfl⟩
              clear HAL
              have hc2 := hc1 nq
              have hd1M : d1 ≤ M := by omega
              have hwr : wrap64 ((d1 : Int) + 1) = ((d1 + 1 : Nat) : Int) := by rw [IntWalk.wrap64_in _ (by omega)]; omega
              have HW := Lib.hid (show wrap64 ((d1 : Int) + 1) = ((d1 + 1 : Nat) : Int) ∧ d1 ≤ M from ⟨hwr, hd1M⟩)
              clear hwr hd1M hd hdM hn258 HTA HNX HX HBZ HA hMp hin HD hDl hRl hTl hp1 hp2 hltI hlt hpd hft ht hF hz
              have HI2 := Lib.hid (HIN.out nq)
              clear HIN hc1
              generalize wr.drewN nq = w2 at *
              by_cases h3 : 3 ≤ n
              case pos =>
                have h3I : (3 : Int) ≤ (n : Int) := by omega
                by_cases hb : bl < n
                case pos =>
                  have hbI : (bl : Int) < (n : Int) := by omega
                  have HNX2 := Lib.hid (HI2.out.set h3 (by rw [HST.out, if_pos ⟨h3, hb⟩, hd1]))
                  have hg := HI2.out.2.1
                  rw [tokCellA] at hg
                  obtain ⟨c0, -, c2, f0, f1, f2⟩ := cells3 hg
                  clear hg HI2 HST h3 hb
                  rw [hd1] at HNX2
                  clear hd1
                  go_wp2_with fail
                  exact fin1 HW.out HNX2
                case neg =>
                  have hbI : ¬ (bl : Int) < (n : Int) := by omega
                  have HNX2 := Lib.hid (HI2.out.kept (e := d + 1) (Mut.refl _ _) (by rw [HST.out, if_neg (fun h => hb h.2)]))
                  rw [hd1] at HNX2
                  clear HI2 HST h3 hb hd1
                  go_upto_region 12 with fail
                  go_cut [57] (fun q wx => wx = w2 ∧ q = .bool false)
                  case first =>
                    go_wp2_with fail
                    go_meet
                    exact ⟨rfl, by rw [decide_eq_false (by omega)]⟩
                  case rest =>
                    obtain ⟨hwc2, rfl⟩ := hcut
                    obtain rfl := hwc2.symm
                    clear hc2
                    go_wp2_with fail
                    exact fin1 HW.out HNX2
              case neg =>
                have h3I : ¬ (3 : Int) ≤ (n : Int) := by omega
                have HNX2 := Lib.hid (HI2.out.kept (e := d + 1) (Mut.refl _ _) (by rw [HST.out, if_neg (fun h => h3 h.1)]))
                rw [hd1] at HNX2
                clear HI2 HST h3 hd1
                go_upto_region 12 with fail
                go_cut [57] (fun q wx => wx = w2 ∧ q = .bool false)
                case first =>
                  go_wp2_with fail
                  go_meet
                  exact ⟨rfl, rfl⟩
                case rest =>
                  obtain ⟨hwc2, rfl⟩ := hcut
                  obtain rfl := hwc2.symm
                  clear hc2
                  go_wp2_with fail
                  exact fin1 HW.out HNX2
            | false =>
              have hdM : d = M := by have := of_decide_eq_false hlb; omega
              subst hdM
              clear hlb
              have hnx := HNX.out
              have hin2 := hin
              rw [← HBZ.out] at hnx hin2
              obtain ⟨X1, hX1⟩ : ∃ q, (tokAt D p (bst D p te d)).1 = q := ⟨_, rfl⟩
              obtain ⟨X2, hX2⟩ : ∃ q, (tokAt D p (bst D p te d)).2.1 = q := ⟨_, rfl⟩
              obtain ⟨X3, hX3⟩ : ∃ q, (tokAt D p (bst D p te d)).2.2 = q := ⟨_, rfl⟩
              have hX : tokAt D p (bst D p te d) = (X1, X2, X3) := by rw [← hX1, ← hX2, ← hX3]
              have hbx : (bst D p te d).1 = X2 := by rw [← tokAt_len D p, hX2]
              rw [hX, hbx] at hnx
              rw [hbx] at hin2
              obtain ⟨⟨hr, hfr2, hmm⟩, hb, hgl, hgn⟩ := HI.out
              rw [hX, tokCellA] at hb
              dsimp only at hb
              obtain ⟨c0, c1, c2, -, -, -⟩ := cells3 hb
              obtain ⟨i0, hi, hz0, hz1, hz2⟩ := info_parts info_tok
              have hap : Hid (T ++ (X1, X2, X3) :: tks D te R F (p + max X2 1) = A) := Lib.hid (by rw [← hnx]; exact HTA.out)
              have hdp : (if X2 ≤ 1 then p + 1 ≤ te else p + X2 ≤ te) := by split <;> omega
              clear hX hX1 hX2 hX3 hnx HNX HBZ HI hbx HX HTA hMp hd hd1 hin hin2 hRl hDl HD
              go_upto_region 14 with fail
              go_wp2_with (at_builtin; refine wp_app rfl (.tmp 61) (.tmp 63) 123 123 rfl 146 i0 (.agg #[.int .u8 0, .int .i64 0, .int .i64 0]) 3 24 Try.underlying123 hi hz0 hz1 hz2 rfl (hr.mut ((Mut.refl [] wr).alloc _) (by simp)) rfl (src1 Try.underlying123 (heap_alloc_new wr _) rfl (tok_one _ _ _)) rfl ?b1 ?b2 ?_)
              case b1 => unfold maxLen; omega
              case b2 => omega
              intro v' w1 hr1 hg1 hf1
              have hm1 : Mut [] w w1 := (hmm.alloc (.cells #[.int .u8 (X1 : Int), .int .i64 (X2 : Int), .int .i64 (X3 : Int)] 146)).grown hg1 (fun k hk => .inr (hfr2 k hk))
              have hgw := lt_of_heap hb
              have hb1 : w1.heap[g]? = some (.cells #[.int .u8 (X1 : Int), .int .i64 (X2 : Int), .int .i64 (X3 : Int)] 146 (0, 0)) := (hg1.block g (by simp; omega) (fun k => hgn _ k.symm rfl)).trans ((Below.heap_alloc _ _ _ hgw).trans hb)
              have HTK : Hid (TkC w (T ++ [(X1, X2, X3)]) v' w1) := Lib.hid ⟨by
                unfold TRow
                rw [List.length_append, tokCells_snoc]
                exact hr1, fun k hk => (hf1 k hk).elim (fun h => hfr2 k h) (fun h => by have := hmm.size; omega), hm1⟩
              have hc1 := (cells3 hb1).2.1
              clear c0 c1 c2 hr1 hg1 hf1 hb1 hb hr hfr2 hmm hgl hgn hm1 hi hz0 hz1 hz2 hgw
              rcases (show X2 = 0 ∨ X2 = 1 ∨ 1 < X2 by omega) with h0 | h0 | h0
              · subst h0
                simp only [Nat.zero_le, if_true] at hdp
                go_wp2_with fail
                exact fin2 (q := 1) (Nat.le_refl 1) hp1 hdp hTl HTK.out hap.out _ rfl
              · subst h0
                simp only [Nat.le_refl, if_true] at hdp
                go_wp2_with fail
                exact fin2 (q := 1) (Nat.le_refl 1) hp1 hdp hTl HTK.out hap.out _ rfl
              · have h0I : (1 : Int) < (X2 : Int) := by omega
                rw [if_neg (by omega)] at hdp
                go_wp2_with fail
                exact fin2 (q := X2) (by omega) hp1 hdp hTl HTK.out (by have := hap.out; rwa [Nat.max_eq_left (by omega)] at this) _ rfl

end Go.Proofs.Ytgjcnembeebjfaa
