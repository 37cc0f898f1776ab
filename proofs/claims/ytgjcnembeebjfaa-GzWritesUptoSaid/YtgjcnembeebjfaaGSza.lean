/- What Pack lays without choices, plain: blocks of bytes as they are. No program. Walk over package squeeze: Pack, without choices. -/
import Derived.Test.YtgjcnembeebjfaaInfS
import Derived.Test.YtgjcnembeebjfaaGBw
import Derived.Deep.DeepCutAuto
import Derived.Deep.CutBlock
import Derived.Deep.LoopGhost

namespace Go.Proofs.Ytgjcnembeebjfaa
open Go.RowKit
set_option linter.unusedVariables false

/-- the k-th span of bytes -/
def chunk (D : List Nat) (k : Nat) : List Nat := (D.drop (65535 * k)).take 65535
/-- the first k blocks -/
def blk (D : List Nat) : Nat → List Nat
  | 0 => []
  | k + 1 => blk D k ++ storedOne (decide (D.length ≤ 65535 * (k + 1))) (chunk D k)

theorem chunk_len (D : List Nat) (k : Nat) : (chunk D k).length = min 65535 (D.length - 65535 * k) := by simp [chunk]

theorem blk_len (D : List Nat) : ∀ k, (blk D k).length = 5 * k + min (65535 * k) D.length
  | 0 => by simp [blk]
  | k + 1 => by
    rw [blk, List.length_append, blk_len D k]
    simp only [storedOne, List.length_cons, chunk_len]
    omega

/-- a head of three bits, filled up -/
theorem head_bits (B : List Nat) (q : Bool) (V W : Int) (hV : V = (q.toNat : Int)) (hW : W = 0) : pad8 (bytesBits B ++ lowBits V 1 ++ lowBits W 2) = bytesBits (B ++ [q.toNat]) := by
  subst hV hW
  rw [bytesBits_append]
  unfold pad8
  have e : (bytesBits B ++ lowBits (q.toNat : Int) 1 ++ lowBits 0 2).length = 8 * B.length + 3 := by simp [bytesBits_length, lowBits_length]
  rw [e, show 8 * ((8 * B.length + 3 + 7) / 8) - (8 * B.length + 3) = 5 by omega, List.append_assoc, List.append_assoc]
  congr 1
  cases q <;> rfl

theorem pad8_bytes (B : List Nat) : pad8 (bytesBits B) = bytesBits B := pad8_of _ (by rw [bytesBits_length]; omega)

theorem strBits_strOf (l : List Nat) (h : ∀ x ∈ l, x < 256) : strBits (strOf l) = bytesBits l := by rw [strBits, bytesOf_strOf _ h]

theorem pack_bytes (B : List Nat) (h : ∀ x ∈ B, x < 256) : pack (bytesBits B) = B := by
  have := pack_bytesBits B h []
  rw [List.append_nil] at this
  rw [this]
  simp [pack]

theorem blk_lt (D : List Nat) (hD : ∀ x ∈ D, x < 256) : ∀ k, ∀ y ∈ blk D k, y < 256
  | 0, y, hy => by simp [blk] at hy
  | k + 1, y, hy => by
    rw [blk, List.mem_append] at hy
    rcases hy with hy | hy
    · exact blk_lt D hD k y hy
    · have h1 := chunk_len D k
      simp only [storedOne, List.mem_cons] at hy
      rcases hy with rfl | rfl | rfl | rfl | rfl | hy
      · cases decide (D.length ≤ 65535 * (k + 1)) <;> decide
      · omega
      · omega
      · omega
      · omega
      · exact hD y (List.mem_of_mem_drop (List.mem_of_mem_take hy))

/-- what a block adds -/
theorem blk_next (D : List Nat) (k n lo hi : Nat) (lb : Bool) (x : ByteArray) (hx : bytesOf x = chunk D k) (hn : (chunk D k).length = n) (hlb : decide (D.length ≤ 65535 * (k + 1)) = lb) (hlo : n % 256 = lo) (hhi : n / 256 = hi) (hn16 : n ≤ 65535) :
    pad8 (pad8 (bytesBits (blk D k) ++ lowBits (lb.toNat : Int) 1 ++ lowBits 0 2) ++ strBits (strOf [lo, hi, 255 - lo, 255 - hi])) ++ strBits x = bytesBits (blk D (k + 1)) := by
  rw [head_bits (blk D k) lb _ _ rfl rfl, strBits_strOf _ (by intro y hy; simp at hy; omega), ← bytesBits_append, pad8_bytes, strBits, hx, ← bytesBits_append, blk]
  unfold storedOne
  rw [hn, hlb, hlo, hhi, List.append_assoc, List.append_assoc]
  rfl

end Go.Proofs.Ytgjcnembeebjfaa

namespace Go.Proofs.Ytgjcnembeebjfaa
open Go.RowKit
set_option linter.unusedVariables false

theorem conv4s (w : World) (x y z v : Nat) : (convert 54 9 (.slice (some ⟨w.heap.size, 0, none⟩) 4 4)).run Try.prog (w.alloc (.cells #[.int .u8 (x : Int), .int .u8 (y : Int), .int .u8 (z : Int), .int .u8 (v : Int)] 5)) = .ok (.string (strOf [x, y, z, v])) (w.alloc (.cells #[.int .u8 (x : Int), .int .u8 (y : Int), .int .u8 (z : Int), .int .u8 (v : Int)] 5)) := by
  have h : (w.alloc (.cells #[.int .u8 (x : Int), .int .u8 (y : Int), .int .u8 (z : Int), .int .u8 (v : Int)] 5)).ownsRow 0 5 1 (.slice (some ⟨w.heap.size, 0, none⟩) 4 4) 4 (([x, y, z, v].map fun n : Nat => (n : Int)).map (Value.int .u8)) :=
    ⟨rfl, .inr ⟨w.heap.size, 4, _, rfl, Nat.zero_le _, heap_alloc_new w _, Nat.le_refl _, by decide, rfl, rfl⟩⟩
  rw [conv_row Try.underlying54 Try.underlying5 Try.underlying9 h]
  simp only [List.map_map]
  rfl

theorem u8sg' : IntKind.u8.signed = false := rfl
theorem xor_u8' : ∀ x : Nat, x < 256 → Go.bits .xor .u8 IntKind.u8.max (x : Int) = ((255 - x : Nat) : Int) := by decide +kernel

theorem WrTo.after {w0 w w' : World} {b : Nat} {r : Option Nat} {l : List Bool} (h : WrTo w0 b r l w) (m : Mut [] w w') : WrTo w0 b r l w' := by
  obtain ⟨r1, h1, h2, h3⟩ := h
  exact ⟨r1, h1.mut m (by simp) (by simp), h2, h3.trans m (by simp)⟩

/-- a block beside the writer stays -/
theorem WrTo.keep {w w' : World} {b : Nat} {r r1 : Option Nat} {l l' : List Bool} (h : WrIs w b r1 l) (k : WrTo w b r1 l' w') {g : Nat} {c : Array Value} {t : TypeId} {fr : Nat × Nat} (hg : w.heap[g]? = some (.cells c t fr)) (hne : 5 ≠ t) (hgb : g ≠ b) : w'.heap[g]? = some (.cells c t fr) := by
  obtain ⟨r2, _, _, hm⟩ := k
  have hr := h.row_ne hg hne
  refine hm.get hg ?_
  simp only [List.mem_cons, Option.mem_toList, not_or]
  exact ⟨hgb, fun e => hr g e rfl⟩

theorem put_k {w0 w : World} {b : Nat} {r : Option Nat} {l : List Bool} (h : WrTo w0 b r l w) {g : Nat} {c : Array Value} {t : TypeId} {fr : Nat × Nat} (hg : w.heap[g]? = some (.cells c t fr)) (hne : 5 ≠ t) (hgb : g ≠ b) (v : Int) (m : Int) (n : Nat) (hm : m = n) (hl : l.length ≤ 1125899906841000) (hn : n ≤ 32) :
    Calls Try.prog 57 #[.pointer (some ⟨b, 0, none⟩), .int .i64 v, .int .i64 m] w fun e w' => e = .returned (.tuple #[]) ∧ WrTo w0 b r (l ++ lowBits v n) w' ∧ w'.heap[g]? = some (.cells c t fr) := by
  subst hm
  obtain ⟨r1, h1, h2, h3⟩ := h
  exact (put_any b r1 l v n w h1 hl hn).mono fun e w' ⟨he, hk⟩ => ⟨he, WrTo.then h1 h2 h3 hk, WrTo.keep (r := r1) h1 hk hg hne hgb⟩

theorem wbytes_k {w0 w : World} {b : Nat} {r : Option Nat} {l : List Bool} (h : WrTo w0 b r l w) {g : Nat} {c : Array Value} {t : TypeId} {fr : Nat × Nat} (hg : w.heap[g]? = some (.cells c t fr)) (hne : 5 ≠ t) (hgb : g ≠ b) (s : ByteArray) (hs : (l.length + 7) / 8 + s.size ≤ 140737488355328) :
    Calls Try.prog 58 #[.pointer (some ⟨b, 0, none⟩), .string s] w fun e w' => e = .returned (.tuple #[]) ∧ WrTo w0 b r (pad8 l ++ strBits s) w' ∧ w'.heap[g]? = some (.cells c t fr) := by
  obtain ⟨r1, h1, h2, h3⟩ := h
  exact (wbytes_any b r1 l s w h1 hs).mono fun e w' ⟨he, hk⟩ => ⟨he, WrTo.then h1 h2 h3 hk, WrTo.keep (r := r1) h1 hk hg hne hgb⟩

def boolOf : Value → Bool
  | .bool b => b
  | _ => false

/-- where Pack's loop is, behind k blocks -/
def PkC (w0 : World) (wb : Nat) (D : List Nat) (k : Nat) (w : World) : Prop := ∃ W0, Mut [] w0 W0 ∧ w0.heap.size ≤ wb ∧ wb < W0.heap.size ∧ WrTo W0 wb none (bytesBits (blk D k)) w

set_option maxHeartbeats 3200000 in
set_option maxRecDepth 100000 in
theorem pack_nil (data : ByteArray) (N : Nat) (hz : data.size ≤ 1073741824) (hN : N = max 1 ((data.size + 65534) / 65535)) (w : World) :
    Calls Try.prog 39 #[.string data, .slice none 0 0] w fun e w' => e = .returned (.string (strOf (blk (bytesOf data) N))) ∧ Mut [] w w' := by
  obtain ⟨D, hD⟩ : ∃ D, bytesOf data = D := ⟨_, rfl⟩
  have hDl : D.length = data.size := by rw [← hD, bytesOf_length]
  have HD := Lib.hid hD
  have HW0 := Lib.hid (writer_new w)
  rw [hD]
  clear hD
  go_enter Try.func39, Try.ntmps39
  go_upto_region 2 with fail
  have hm0 : Mut [] w (w.alloc (.cells #[.slice none 0 0, .int .i64 0] 114)) := (Mut.refl [] w).alloc _
  have hsz : w.heap.size < (w.alloc (.cells #[.slice none 0 0, .int .i64 0] 114)).heap.size := by simp
  generalize w.alloc (.cells #[.slice none 0 0, .int .i64 0] 114) = W at *
  have HC : Hid (PkC w w.heap.size D 0 W) := Lib.hid ⟨W, hm0, Nat.le_refl _, hsz, WrTo.refl HW0.out⟩
  clear HW0 hm0 hsz
  go_wp2_with fail
  have hb1 : 1 ≤ N := by omega
  have hb2 : data.size ≤ 65535 * N := by omega
  have hb3 : N = 1 ∨ 65535 * N < data.size + 65535 := by omega
  clear hN
  go_loopw [9, 6, 7, 8] (fun f a i l wx => ∃ (k : Nat) (lv iv : Int), k ≤ N ∧ f = .bool (decide (k = 0)) ∧ a = .int .i64 ((min (65535 * k) data.size : Nat) : Int) ∧ i = .int .i64 iv ∧ l = .int .i64 lv ∧ (k = N → iv = 1) ∧ (k ≠ N → iv = 0) ∧ (k = 0 ∨ k = N → lv = -1) ∧ (k ≠ 0 → k ≠ N → lv = ((data.size - 65535 * k : Nat) : Int)) ∧ Hid (PkC w w.heap.size D k wx)) (fun f a i l _ => if boolOf f = true then data.size + 2 else data.size - (intOf a).toNat)
  case atStart => exact ⟨0, -1, 0, by omega, rfl, by simp, rfl, rfl, fun h => by omega, fun _ => rfl, fun _ => rfl, fun h => absurd rfl h, HC⟩
  case round =>
    obtain ⟨k, lv, iv, hk, rfl, rfl, rfl, rfl, g1, g2, g3, g4, HR⟩ := hrel
    clear HC
    by_cases hkN : k = N
    case pos =>
      have ha : min (65535 * k) data.size = data.size := by omega
      have hf : decide (k = 0) = false := decide_eq_false (by omega)
      obtain rfl := g1 hkN
      obtain rfl := g3 (Or.inr hkN)
      rw [ha, hf]
      obtain ⟨W0, h1, h2, h3, r, h4, h5, h6⟩ := HR.out
      have hM : Mut [] w wr := h1.trans h6 (fun x hx => .inr (by
        have : x = w.heap.size := by simpa using hx
        omega))
      have HA := Lib.hid (wall_any w.heap.size r _ wr h4)
      have HM := Lib.hid hM
      have HP : Hid (pack (bytesBits (blk D k)) = blk D N) := Lib.hid (by rw [hkN, pack_bytes _ (blk_lt D (by rw [← HD.out]; exact bytesOf_lt data) N)])
      clear HR h1 h2 h3 h4 h5 h6 hM ha hf hkN g2 g3 g4 g1
      go_wp2_with fail
      refine HA.out.mono ?_
      rintro e w2 ⟨rfl, rfl⟩
      rw [HP.out]
      go_wp2_with fail
      go_ret
      exact ⟨rfl, HM.out⟩
    case neg =>
      obtain ⟨p, hp⟩ : ∃ p, 65535 * k = p := ⟨_, rfl⟩
      have hpz : p ≤ data.size := by omega
      have ha : min (65535 * k) data.size = p := by omega
      obtain ⟨L, hL⟩ : ∃ L, data.size - p = L := ⟨_, rfl⟩
      have hLI : (data.size : Int) - (p : Int) = (L : Int) := by omega
      have hL0 : ¬ (L : Int) < 0 := by omega
      obtain rfl := g2 hkN
      obtain ⟨n, hn⟩ : ∃ n, min L 65535 = n := ⟨_, rfl⟩
      have hpn : p + n = min (65535 * (k + 1)) data.size := by omega
      obtain ⟨lb, hlb⟩ : ∃ lb : Bool, decide (data.size ≤ 65535 * (k + 1)) = lb := ⟨_, rfl⟩
      have hlL : lb = decide (L = n) := by rw [← hlb, decide_eq_decide]; omega
      have hNk : k + 1 = N ↔ L = n := by omega
      have HNK := Lib.hid (And.intro hNk (And.intro hpn (And.intro hlb hp)))
      have hn0 : n ≤ 65535 ∧ n ≤ L := by omega
      have hgrow : k = 0 ∨ 0 < n := by omega
      have hkb : k ≤ 16386 := by omega
      have hBL : (blk D k).length ≤ 1073900000 := by rw [blk_len]; omega
      have HBL := Lib.hid hBL
      clear hBL
      have HGR := Lib.hid hgrow
      rw [ha]
      have HK0 : Hid (k = 0 → p = 0) := Lib.hid (by omega)
      obtain ⟨W0, h1, h2, h3, hwt⟩ := HR.out
      have HWT := Lib.hid hwt
      have HB := Lib.hid (And.intro h1 (And.intro h2 h3))
      clear HR g1 g2 hpn hNk hlb h1 h2 h3 hwt hgrow
      by_cases hk0 : k = 0
      case' pos =>
        have hf : decide (k = 0) = true := decide_eq_true hk0
        have HMS : Hid (0 ≤ n) := Lib.hid (by omega)
        have hLz : (if L < data.size then (L : Int) else (data.size : Int)) = (L : Int) := by split <;> omega
        obtain rfl := g3 (Or.inl hk0)
        rw [hf]
        clear g4 hk0 hf ha hp hL hb2 hb3
        go_upto_region 15 with fail
        try rw [hLz]
        clear hLz
      case' neg =>
        have hf : decide (k = 0) = false := decide_eq_false hk0
        obtain rfl := g4 hk0 hkN
        rw [hf, hp, hL]
        have hpI : (p : Int) < (data.size : Int) := by omega
        have HMS : Hid (0 < n) := Lib.hid (by omega)
        clear g3 g4 hk0 hf ha hp hL hb2 hb3
        go_upto_region 15 with fail
      all_goals
        have hch := heap_alloc_new wr (.cells #[.int .i64 0, .int .i64 (data.size : Int), .int .i64 0] 46)
        have hwt1 := WrTo.after HWT.out ((Mut.refl [] wr).alloc (.cells #[.int .i64 0, .int .i64 (data.size : Int), .int .i64 0] 46))
        have hgw : w.heap.size ≤ wr.heap.size := by
          have h1 := HB.out.1.size
          obtain ⟨_, _, _, h2⟩ := HWT.out
          have := h2.size
          omega
        have hg0 : W0.heap.size ≤ wr.heap.size := by
          obtain ⟨_, _, _, h2⟩ := HWT.out
          exact h2.size
        generalize wr.alloc (.cells #[.int .i64 0, .int .i64 (data.size : Int), .int .i64 0] 46) = w1 at *
        generalize wr.heap.size = g at *
        have HCH := Lib.hid hch
        have HGW0 : Hid (W0.heap.size ≤ g) := Lib.hid hg0
        have HW1 := Lib.hid hwt1
        have c0 := cellOf hch 0 (x := .int .i64 0) rfl
        clear hch hwt1 HWT
        go_upto_if 67 with fail
        go_cut [11] (fun q wx => wx = w1 ∧ q = .int .i64 (n : Int))
        case first =>
          by_cases hbig : L ≤ 65535
          · have hbI : (L : Int) ≤ 65535 := by omega
            have e : (L : Int) = (n : Int) := by omega
            have E := Lib.hid e
            clear hn e
            go_wp2_with fail
            go_meet
            exact ⟨rfl, congrArg _ E.out⟩
          · have hbI : ¬ (L : Int) ≤ 65535 := by omega
            have e : (65535 : Int) = (n : Int) := by omega
            have E := Lib.hid e
            clear hn e
            go_wp2_with fail
            go_meet
            exact ⟨rfl, congrArg _ E.out⟩
        case rest =>
          obtain ⟨rfl, rfl⟩ := hcut
          clear hn
          obtain ⟨d, hd⟩ : ∃ d, L - n = d := ⟨_, rfl⟩
          have hdI : (L : Int) - (n : Int) = (d : Int) := by omega
          have hd0 : ((d : Int) == 0) = lb := by
            rw [hlL]
            by_cases h : L = n
            · rw [decide_eq_true h]; simp; omega
            · rw [decide_eq_false h, beq_eq_false_iff_ne]; omega
          obtain ⟨sm, hsm⟩ : ∃ sm, p + n = sm := ⟨_, rfl⟩
          have hsmI : (p : Int) + (n : Int) = (sm : Int) := by omega
          have hsz : ((sm : Int) == (data.size : Int)) = lb := by
            rw [hlL]
            by_cases h : L = n
            · rw [decide_eq_true h]; simp; omega
            · rw [decide_eq_false h, beq_eq_false_iff_ne]; omega
          have hsl : sm ≤ data.size := by omega
          have HND := Lib.hid (And.intro hd (And.intro hsm hlL))
          clear hd hsm hlL
          go_upto_if 74 with fail
          go_cut [8, 7] (fun a b wx => wx = wc ∧ a = .int .i64 (if lb = true then -1 else (d : Int)) ∧ b = .int .i64 (if lb = true then 1 else 0))
          case first =>
            clear hsz
            cases lb with
            | true =>
              go_wp2_with fail
              go_meet
              exact ⟨rfl, rfl, rfl⟩
            | false =>
              go_wp2_with fail
              go_meet
              exact ⟨rfl, rfl, rfl⟩
          case rest =>
            obtain ⟨rfl, rfl, rfl⟩ := hcut
            obtain ⟨lv, hlv⟩ : ∃ lv : Int, (if lb = true then -1 else (d : Int)) = lv := ⟨_, rfl⟩
            obtain ⟨iv, hiv⟩ : ∃ iv : Int, (if lb = true then (1 : Int) else 0) = iv := ⟨_, rfl⟩
            rw [hlv, hiv]
            have hiv0 : (0 : Int) ≤ iv := by rw [← hiv]; split <;> omega
            have HLV := Lib.hid (And.intro hlv hiv)
            clear hlv hiv hd0 hdI
            go_upto_region 22 with fail
            go_cut [88] (fun q wx => wx = wc ∧ q = .bool lb)
            case first =>
              cases lb with
              | true =>
                go_wp2_with fail
                go_meet
                exact ⟨rfl, rfl⟩
              | false =>
                go_wp2_with fail
                go_meet
                exact ⟨rfl, rfl⟩
            case rest =>
              obtain ⟨rfl, rfl⟩ := hcut
              clear hsz
              go_upto_if 88 with fail
              go_cut [12] (fun q wx => wx = wc ∧ q = .int .i64 (lb.toNat : Nat))
              case first =>
                cases lb with
                | true =>
                  go_wp2_with fail
                  go_meet
                  exact ⟨rfl, rfl⟩
                | false =>
                  go_wp2_with fail
                  go_meet
                  exact ⟨rfl, rfl⟩
              case rest =>
                obtain ⟨rfl, rfl⟩ := hcut
                have HGB : Hid (g ≠ w.heap.size) := Lib.hid (by
                  have h1 := HB.out
                  have h2 := HGW0.out
                  omega)
                have HP1 := Lib.hid (put_k HW1.out HCH.out (by decide) HGB.out (lb.toNat : Int) 1 1 rfl (by rw [bytesBits_length]; have := HBL.out; omega) (by decide))
                clear HW1 c0
                go_wp2_with fail
                refine HP1.out.mono ?_
                rintro e w2 ⟨rfl, hw2, hg2⟩
                have HW2 := Lib.hid hw2
                have HG2 := Lib.hid hg2
                have c0 := cellOf hg2 0 (x := .int .i64 0) rfl
                have HP2 := Lib.hid (put_k hw2 hg2 (by decide) HGB.out 0 2 2 rfl (by rw [List.length_append, bytesBits_length, lowBits_length]; have := HBL.out; omega) (by decide))
                clear hw2 hg2 HP1
                go_wp2_with fail
                refine HP2.out.mono ?_
                rintro e w3 ⟨rfl, hw3, hg3⟩
                have HW3 := Lib.hid hw3
                have HG3 := Lib.hid hg3
                have c0 := cellOf hg3 0 (x := .int .i64 0) rfl
                obtain ⟨lo, hlo⟩ : ∃ lo, n % 256 = lo := ⟨_, rfl⟩
                obtain ⟨hi8, hhi8⟩ : ∃ hi8, n / 256 = hi8 := ⟨_, rfl⟩
                have hloI : (n : Int) % 256 = (lo : Int) := by omega
                have hhiI : (n : Int) / 256 = (hi8 : Int) := by omega
                have hx1 := xor_u8' lo (by omega)
                have hx2 := xor_u8' hi8 (by omega)
                have HLH := Lib.hid (And.intro hlo hhi8)
                obtain ⟨lo', hlo'⟩ : ∃ x, 255 - lo = x := ⟨_, rfl⟩
                obtain ⟨hi', hhi'⟩ : ∃ x, 255 - hi8 = x := ⟨_, rfl⟩
                rw [hlo'] at hx1
                rw [hhi'] at hx2
                have HLH2 := Lib.hid (And.intro hlo' hhi')
                have hcv := conv4s w3 lo hi8 lo' hi'
                have hsg := u8sg'
                clear hw3 hg3 HP2 HW2 HG2 hlo hhi8 hlo' hhi'
                have HP3 := Lib.hid (wbytes_k (WrTo.after HW3.out ((Mut.refl [] w3).alloc (.cells #[.int .u8 (lo : Int), .int .u8 (hi8 : Int), .int .u8 (lo' : Int), .int .u8 (hi' : Int)] 5))) (((Mut.refl [] w3).alloc (.cells #[.int .u8 (lo : Int), .int .u8 (hi8 : Int), .int .u8 (lo' : Int), .int .u8 (hi' : Int)] 5)).get HG3.out (by simp)) (by decide) HGB.out (strOf [lo, hi8, lo', hi']) (by
                  rw [List.length_append, List.length_append, bytesBits_length, lowBits_length, lowBits_length, strOf_size]
                  have := HBL.out
                  show (8 * (blk D k).length + 1 + 2 + 7) / 8 + 4 ≤ _
                  omega))
                obtain ⟨x, hx⟩ : ∃ x, data.extract p sm = x := ⟨_, rfl⟩
                have hxs : x.size = n := by
                  have := HND.out.2.1
                  rw [← hx]
                  simp
                  omega
                have HX : Hid (bytesOf x = chunk D k ∧ (chunk D k).length = n) := Lib.hid (by
                  have h1 := HND.out.2.1
                  have h2 := HNK.out.2.2.2
                  have e : bytesOf x = chunk D k := by
                    rw [← hx, bytesOf_extract, HD.out, chunk, h2, List.drop_take]
                    rw [List.take_eq_take_iff, List.length_drop, hDl]
                    have := HNK.out.2.1
                    omega
                  exact ⟨e, by rw [← e, bytesOf_length, hxs]⟩)
                have hp0I : (0 : Int) ≤ (p : Int) := by omega
                have hpsI : (p : Int) ≤ (sm : Int) := by omega
                have hssI : (sm : Int) ≤ (data.size : Int) := by omega
                clear HW3 HG3
                go_wp2_with fail
                refine HP3.out.mono ?_
                rintro e w4 ⟨rfl, hw4, hg4⟩
                have HP4 := Lib.hid (wbytes_k hw4 hg4 (by decide) HGB.out x (by
                  rw [List.length_append, pad8_length, strBits_length, List.length_append, List.length_append, bytesBits_length, lowBits_length, lowBits_length, strOf_size]
                  have := HBL.out
                  show (8 * ((8 * (blk D k).length + 1 + 2 + 7) / 8) + 8 * 4 + 7) / 8 + x.size ≤ _
                  omega))
                clear hw4 hg4 HP3
                go_wp2_with fail
                refine HP4.out.mono ?_
                rintro e w5 ⟨rfl, hw5, hg5⟩
                have HC5 : Hid (PkC w w.heap.size D (k + 1) w5) := Lib.hid (by
                  have h1 := HLH2.out
                  rw [← h1.1, ← h1.2, blk_next D k n lo hi8 lb x HX.out.1 HX.out.2 (by rw [hDl]; exact HNK.out.2.2.1) HLH.out.1 HLH.out.2 hn0.1] at hw5
                  exact ⟨W0, HB.out.1, HB.out.2.1, HB.out.2.2, hw5⟩)
                clear hw5 hg5 HP4
                go_wp2_with fail
                refine ⟨⟨k + 1, lv, iv, by omega, rfl, ?_, rfl, rfl, fun h => ?_, fun h => ?_, fun h => ?_, fun h h' => ?_, HC5⟩, ?_⟩
                · rw [← HNK.out.2.1, HND.out.2.1]
                · rw [← HLV.out.2, HND.out.2.2, decide_eq_true (HNK.out.1.1 h), if_pos rfl]
                · rw [← HLV.out.2, HND.out.2.2, decide_eq_false (fun e => h (HNK.out.1.2 e)), if_neg (by decide)]
                · rw [← HLV.out.1, HND.out.2.2, decide_eq_true (HNK.out.1.1 (by omega)), if_pos rfl]
                · rw [← HLV.out.1, HND.out.2.2, decide_eq_false (fun e => h' (HNK.out.1.2 e)), if_neg (by decide)]
                  have h1 := HND.out.1
                  have h2 := HND.out.2.1
                  have h3 := HNK.out.2.2.2
                  have h4 := HNK.out.2.1
                  have h5 : ¬ L = n := fun e => h' (HNK.out.1.2 e)
                  omega
                · have h1 := HMS.out
                  have h2 := HND.out.2.1
                  simp only [boolOf, intOf, Bool.false_eq_true, if_false, if_true]
                  omega

end Go.Proofs.Ytgjcnembeebjfaa
