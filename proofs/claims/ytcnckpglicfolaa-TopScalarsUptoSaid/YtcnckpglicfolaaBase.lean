/- Base: a frame relation for calls that write some blocks, rows of the call's own, small lemmas. -/
import Derived.Test.YtcnckpglicfolaaRows
import Derived.WalkKit
import Derived.BigQuiet
import Derived.Deep.QuietTactic
import Derived.Lib.Hide
import Derived.Laws.DeepStrings4
import Derived.Deep.AppendSrc
namespace Go.Proofs.Ytcnckpglicfolaa
open Go.RowKit

/-- What was there and is not in S is as it was. -/
structure Mut (S : List Nat) (w w' : World) : Prop where
  os : w'.os = w.os
  tape : w'.tape = w.tape
  output : w'.output = w.output
  size : w.heap.size ≤ w'.heap.size
  block : ∀ k, k < w.heap.size → k ∉ S → w'.heap[k]? = w.heap[k]?

theorem Mut.refl (S : List Nat) (w : World) : Mut S w w := ⟨rfl, rfl, rfl, Nat.le_refl _, fun _ _ _ => rfl⟩

theorem Mut.trans {S T : List Nat} {a b c : World} (h : Mut S a b) (k : Mut T b c) (hT : ∀ x, x ∈ T → x ∈ S ∨ a.heap.size ≤ x) : Mut S a c :=
  ⟨k.os.trans h.os, k.tape.trans h.tape, k.output.trans h.output, Nat.le_trans h.size k.size, fun i hi hn =>
    (k.block i (Nat.lt_of_lt_of_le hi h.size) (fun hx => by rcases hT i hx with h1 | h1; exact hn h1; omega)).trans (h.block i hi hn)⟩

theorem Mut.trans' {S : List Nat} {a b c : World} (h : Mut S a b) (k : Mut S b c) : Mut S a c := h.trans k fun _ h => Or.inl h

theorem Mut.mono {S T : List Nat} {a b : World} (h : Mut S a b) (hs : ∀ x, x ∈ S → x ∈ T ∨ a.heap.size ≤ x) : Mut T a b :=
  ⟨h.os, h.tape, h.output, h.size, fun k hk hn => h.block k hk fun hx => by rcases hs k hx with h1 | h1; exact hn h1; omega⟩

theorem Mut.drew {S : List Nat} {a w : World} (h : Mut S a w) : Mut S a w.drew := ⟨h.os, h.tape, h.output, h.size, h.block⟩

theorem Mut.drewN {S : List Nat} {a w : World} (h : Mut S a w) (n : Nat) : Mut S a (w.drewN n) := ⟨h.os, h.tape, h.output, h.size, h.block⟩

theorem Mut.alloc {S : List Nat} {a w : World} (h : Mut S a w) (o : Obj) : Mut S a (w.alloc o) :=
  h.trans' ⟨rfl, rfl, rfl, by simp, fun k hk _ => Below.heap_alloc _ _ _ (by omega)⟩

theorem Mut.setCell {S : List Nat} {a w : World} (h : Mut S a w) {p : Addr} (hp : p.block ∈ S ∨ a.heap.size ≤ p.block) (u : Value) : Mut S a (w.setCell p u) :=
  h.trans (T := [p.block]) ⟨rfl, rfl, rfl, by simp [World.setCell], fun k _ hn => Below.heap_setCell _ _ _ _ (by simpa using hn)⟩ (by simpa using hp)

theorem Mut.grown {S : List Nat} {a w w' : World} {row : Option Nat} (h : Mut S a w) (hg : w.grownBy w' row) (hr : ∀ k, row = some k → k ∈ S ∨ a.heap.size ≤ k) : Mut S a w' :=
  h.trans (T := row.toList) ⟨hg.os, hg.tape, hg.output, hg.size, fun k hk hn => hg.block k hk (by cases row with
    | none => simp
    | some r => simp at hn ⊢; exact hn)⟩ (by
      cases row with
      | none => simp
      | some r => simpa using hr r rfl)

theorem Mut.below {S : List Nat} {w w' : World} (h : Mut S w w') {B : Nat} (hs : ∀ x, x ∈ S → B ≤ x) (hB : B ≤ w.heap.size) : Below B w w' :=
  ⟨h.os, h.tape, h.output, h.size, fun k hk => h.block k (by omega) fun hx => by have := hs k hx; omega⟩

theorem Mut.nil {S : List Nat} {w w' : World} (h : Mut S w w') (hs : ∀ x, x ∈ S → w.heap.size ≤ x) : Below w.heap.size w w' := h.below hs (Nat.le_refl _)

theorem Below.mut {w w' : World} (h : Below w.heap.size w w') (S : List Nat) : Mut S w w' := ⟨h.os, h.tape, h.output, h.size, fun k hk _ => h.block k hk⟩

theorem lt_of_heap {w : World} {b : Nat} {x : Obj} (h : w.heap[b]? = some x) : b < w.heap.size := (Array.getElem?_eq_some_iff.1 h).1

theorem Mut.get {S : List Nat} {w w' : World} (h : Mut S w w') {b : Nat} {x : Obj} (hb : w.heap[b]? = some x) (hn : b ∉ S) : w'.heap[b]? = some x :=
  (h.block b (lt_of_heap hb) hn).trans hb

theorem Mut.cell {S : List Nat} {w w' : World} (h : Mut S w w') {a : Addr} {x : Value} (hb : w.cell? a = some x) (hn : a.block ∉ S) : w'.cell? a = some x :=
  (World.cell?_of_block (h.block a.block (World.block_lt_of_cell? w a hb) hn)).trans hb

theorem Mut.row {S : List Nat} {w w' : World} (h : Mut S w w') {base : Nat} {e : TypeId} {size : Nat} {v : Value} {n : Nat} {xs : List Value} (hr : w.ownsRow base e size v n xs)
    (hn : ∀ g, v.ownBlock = some g → g ∉ S) : w'.ownsRow base e size v n xs := by
  refine ⟨hr.1, ?_⟩
  rcases hr.2 with h2 | ⟨g, cap, cur, rfl, hg, hh, r⟩
  · exact .inl h2
  · exact .inr ⟨g, cap, cur, rfl, hg, h.get hh (hn g rfl), r⟩

/-! cells of a block that is known whole -/
theorem cellOf {w : World} {b : Nat} {c : Array Value} {t : TypeId} {fr : Nat × Nat} (h : w.heap[b]? = some (.cells c t fr)) (i : Nat) {x : Value} (hx : c[i]? = some x) : w.cell? ⟨b, i, none⟩ = some x := by
  simp [World.cell?, h, hx]
theorem cells2 {w : World} {b : Nat} {x y : Value} {t : TypeId} (h : w.heap[b]? = some (.cells #[x, y] t (0, 0))) :
    w.cell? ⟨b, 0, none⟩ = some x ∧ w.cell? ⟨b, 1, none⟩ = some y ∧ w.frozen? ⟨b, 0, none⟩ = false ∧ w.frozen? ⟨b, 1, none⟩ = false := by
  simp [World.cell?, World.frozen?, h]
theorem frozenOf {w : World} {b : Nat} {c : Array Value} {t : TypeId} (h : w.heap[b]? = some (.cells c t (0, 0))) (i : Nat) : w.frozen? ⟨b, i, none⟩ = false := by
  simp [World.frozen?, h]
theorem heap_set {w : World} {b : Nat} {c : Array Value} {t : TypeId} {fr : Nat × Nat} (h : w.heap[b]? = some (.cells c t fr)) (i : Nat) (u : Value) :
    (w.setCell ⟨b, i, none⟩ u).heap[b]? = some (.cells (c.setIfInBounds i u) t fr) := by
  simp [World.setCell, Array.getElem?_modify, h]
theorem heap_set_ne {w : World} {b k i : Nat} {s : Option Nat} (h : k ≠ b) (u : Value) : (w.setCell ⟨b, i, s⟩ u).heap[k]? = w.heap[k]? :=
  Below.heap_setCell _ _ _ _ h
theorem row_set_ne {w : World} {base : Nat} {e : TypeId} {size : Nat} {v : Value} {n : Nat} {xs : List Value} (h : w.ownsRow base e size v n xs) {b i : Nat} {s : Option Nat} (hn : ∀ g, v.ownBlock = some g → g ≠ b) (u : Value) :
    (w.setCell ⟨b, i, s⟩ u).ownsRow base e size v n xs := by
  refine ⟨h.1, ?_⟩
  rcases h.2 with h2 | ⟨g, cap, cur, rfl, hg, hh, r⟩
  · exact .inl h2
  · exact .inr ⟨g, cap, cur, rfl, hg, by rw [heap_set_ne (hn g rfl)]; exact hh, r⟩
theorem heap_alloc_new' (w : World) (o : Obj) : (w.alloc o).heap[w.heap.size]? = some o := heap_alloc_new w o
theorem heap_drewN (w : World) (n : Nat) : (w.drewN n).heap = w.heap := rfl

/-- one cell, just laid: what append asks of it -/
theorem news1 {w : World} {g : Nat} {u : Value} {t : TypeId} (h : w.heap[g]? = some (.cells #[u] t (0, 0))) : ∀ j x, ([u] : List Value)[j]? = some x → w.cell? ((⟨g, 0, none⟩ : Addr).add j) = some x := by
  intro j x hj
  match j, hj with
  | 0, hj => simp at hj; subst hj; simp [Addr.add, World.cell?, h]
theorem one1 {u : Value} (h : u.oneCell' = true) : ∀ x ∈ ([u] : List Value), x.oneCell' = true := by
  intro x hx; simp at hx; subst hx; exact h

/-- a row that owns something is no nil -/
theorem row_some {w : World} {base : Nat} {e : TypeId} {size : Nat} {v : Value} {n : Nat} {xs : List Value} (h : w.ownsRow base e size v n xs) (hn : 0 < n) :
    ∃ g cap, v = .slice (some ⟨g, 0, none⟩) n cap ∧ g < w.heap.size ∧ n ≤ cap := by
  rcases h.2 with ⟨_, h⟩ | ⟨g, cap, cur, rfl, hg, hh, r⟩
  · omega
  · exact ⟨g, cap, rfl, lt_of_heap hh, r.1⟩

theorem heap_setCells (b : Nat) (e : TypeId) (fr : Nat × Nat) : ∀ (vs : List Value) (o : Nat) (w : World) (cur : Array Value), w.heap[b]? = some (.cells cur e fr) → o + vs.length ≤ cur.size →
    ∃ cur' : Array Value, (w.setCells b o vs).heap[b]? = some (.cells cur' e fr) ∧ cur'.size = cur.size ∧ cur'.toList.take (o + vs.length) = cur.toList.take o ++ vs
  | [], o, w, cur, h, _ => ⟨cur, h, rfl, by simp⟩
  | v :: vs, o, w, cur, h, hl => by
    have h1 := heap_set h o v
    simp only [List.length_cons] at hl
    obtain ⟨cur', g1, g2, g3⟩ := heap_setCells b e fr vs (o + 1) (w.setCell ⟨b, o, none⟩ v) _ h1 (by simp; omega)
    refine ⟨cur', g1, by simpa using g2, ?_⟩
    rw [List.length_cons, show o + (vs.length + 1) = o + 1 + vs.length by omega, g3]
    simp only [Array.toList_setIfInBounds]
    have : (cur.toList.set o v).take (o + 1) = cur.toList.take o ++ [v] := by
      rw [List.take_set, List.take_succ_eq_append_getElem (by simp; omega), List.set_append_right _ _ (by simp; omega)]
      simp [List.length_take, show min o cur.size = o by omega]
    rw [this]; simp

theorem heap_setCells_ne (b k : Nat) (hk : k ≠ b) : ∀ (vs : List Value) (o : Nat) (w : World), (w.setCells b o vs).heap[k]? = w.heap[k]?
  | [], _, _ => rfl
  | v :: vs, o, w => by
    rw [World.setCells, heap_setCells_ne b k hk vs]
    exact heap_set_ne hk v
theorem setCells_same (b : Nat) : ∀ (vs : List Value) (o : Nat) (w : World), (w.setCells b o vs).os = w.os ∧ (w.setCells b o vs).tape = w.tape ∧ (w.setCells b o vs).output = w.output ∧ (w.setCells b o vs).heap.size = w.heap.size
  | [], _, _ => ⟨rfl, rfl, rfl, rfl⟩
  | v :: vs, o, w => by
    obtain ⟨h1, h2, h3, h4⟩ := setCells_same b vs (o + 1) (w.setCell ⟨b, o, none⟩ v)
    exact ⟨h1, h2, h3, by rw [World.setCells, h4]; simp⟩

/-- 'append' to a row of the call's own, whatever is appended: it stays in its block, or lies in a new one. -/
theorem run_app {P : Program} (w : World) (t tx ty e : TypeId) (i : TypeInfo) (z : Value) (size bytes : Nat) (ht : P.underlying t = some (.slice e)) (hi : P.info? e = some i) (hz : i.zero = some z)
    (hsize : i.size = size) (hby : i.bytes = bytes) (hzs : z.cells.size = size) (v : Value) (n : Nat) (xs : List Value) (hown : w.ownsRow 0 e size v n xs) (x : Value) (m : Nat) (news : List Value) (hs : Src P size tx x m news w)
    (b1 : n + m ≤ maxLen) (b2 : (n + m) * bytes ≤ 140737488355328) :
    ∃ v' w', (Builtin.append_ #[t, tx] ty #[v, x]).run P w = .ok v' w' ∧ w'.ownsRow 0 e size v' (n + m) (xs ++ news) ∧ w.grownBy w' v.ownBlock ∧ (∀ g, v'.ownBlock = some g → v.ownBlock = some g ∨ w.heap.size ≤ g) := by
  subst hsize hby
  have hlen : (xs ++ news).length = (n + m) * i.size := by rw [List.length_append, hown.1, hs.newsLen, Nat.add_mul]
  have hsmall : n + m ≤ 9223372036854775807 := by simp only [maxLen] at b1; omega
  have grown : ∀ (old : Nat), old < n + m → ∀ (row : Option Nat),
      (w.drew.alloc (.cells ((xs ++ news).toArray ++ Builtin.zeroCells z.cells (grownCap w (n + m) old e - (n + m))) e)).ownsRow 0 e i.size
        (.slice (some ⟨w.heap.size, 0, none⟩) (n + m) (grownCap w (n + m) old e)) (n + m) (xs ++ news) ∧
      w.grownBy (w.drew.alloc (.cells ((xs ++ news).toArray ++ Builtin.zeroCells z.cells (grownCap w (n + m) old e - (n + m))) e)) row := by
    intro old ho row
    have hge := grownCap_ge w (n + m) old e
    have hcm : grownCap w (n + m) old e ≤ maxLen := grownCap_le_maxLen w (n + m) old e b1
    refine ⟨⟨hlen, .inr ⟨w.heap.size, _, _, rfl, Nat.zero_le _, heap_alloc_new w.drew _, hge, hcm, ?_, ?_⟩⟩, ⟨rfl, rfl, rfl, by simp, fun k hk _ => Below.heap_alloc w.drew _ k hk⟩⟩
    · simp only [Array.size_append, List.size_toArray, size_zeroCells, hzs, hlen, ← Nat.add_mul]
      congr 1
      omega
    · rw [Array.toList_append, ← hlen]
      exact List.take_left
  rcases hown.2 with ⟨rfl, rfl⟩ | ⟨g, cap, cur, rfl, _, hg, hnc, hcm, hcs, htake⟩
  · have hx : xs = [] := List.eq_nil_of_length_eq_zero (by simpa using hown.1)
    subst hx
    by_cases hm : m = 0
    · subst hm
      have hn : news = [] := List.eq_nil_of_length_eq_zero (by simpa using hs.newsLen)
      subst hn
      refine ⟨.slice none 0 0, w, ?_, World.ownsRow_nil w 0 e _, ⟨rfl, rfl, rfl, Nat.le_refl _, fun _ _ _ => rfl⟩, fun g hg => by simp [Value.ownBlock] at hg⟩
      have hc := hs.cells
      rcases hs.kind with ⟨e', hk⟩ | hk <;> simp [Builtin.append_, run_underlying ht, run_underlying hk, sizeOf, typeInfo, hi, hs.len, hc]
    · have hr := run_append_grow_src (P := P) w t tx ty e i z ht hi hz none 0 0 [] (by simp [Builtin.firstCells]) x m news hs (by omega) (by omega) (growslice_fits (by omega) b2)
      have hgr := grown 0 (by omega) (Value.ownBlock (.slice none 0 0))
      exact ⟨_, _, hr, hgr.1, hgr.2, fun g hg => .inr (by simp [Value.ownBlock] at hg; omega)⟩
  · by_cases hroom : n + m ≤ cap
    · have hfit : n * i.size + news.length ≤ cur.size := by rw [hs.newsLen, hcs, ← Nat.add_mul]; exact Nat.mul_le_mul_right _ hroom
      have hr := run_append_room_src (P := P) w t tx ty e i ht hi g 0 n cap x m news hs hroom (fun j hj => by
        rw [cell_of_row w g _ cur e (0, 0) hg]; simp; omega) (fun j hj => frozen_of_row w g _ cur e hg)
      obtain ⟨cur', c1, c2, c3⟩ := heap_setCells g e (0, 0) news (0 + n * i.size) w cur hg (by omega)
      obtain ⟨s1, s2, s3, s4⟩ := setCells_same g news (0 + n * i.size) w
      refine ⟨_, _, hr, ⟨hlen, .inr ⟨g, cap, cur', rfl, Nat.zero_le _, c1, hroom, hcm, by omega, ?_⟩⟩, ⟨s1, s2, s3, by omega, fun k _ hk => heap_setCells_ne g k (fun h => hk (by simp [Value.ownBlock, h])) _ _ _⟩, fun g' hg' => .inl hg'⟩
      rw [Nat.add_mul, ← hs.newsLen, ← htake]
      simpa using c3
    · have hr := run_append_grow_src (P := P) w t tx ty e i z ht hi hz (some ⟨g, 0, none⟩) n cap xs (run_firstCells_some w.drew i.size n ⟨g, 0, none⟩ n cap xs hown.1 (by simpa using hown.cells (g := g) rfl)) x m news hs (by omega) (by omega) (growslice_fits (by omega) b2)
      have hgr := grown cap (by omega) (Value.ownBlock (.slice (some ⟨g, 0, none⟩) n cap))
      exact ⟨_, _, hr, hgr.1, hgr.2, fun g hg => .inr (by simp [Value.ownBlock] at hg; omega)⟩

/-- the operation, for the walk -/
theorem wp_app {P : Program} {w : World} {ops : Array Oper} {rest : List Oper} {o : Oper} {a : Act} {Q : Exit → Act → World → Prop}
    (hg : o.guard = none) (s x : Operand) (t tx : TypeId) (hop : o.op = Op.call { callee := Callee.builtin Builtin.append, args := #[s, x], argTypes := #[t, tx] })
    (e : TypeId) (i : TypeInfo) (z : Value) (size bytes : Nat) (h1 : P.underlying t = some (.slice e)) (h2 : P.info? e = some i) (h3 : i.zero = some z) (h4 : i.size = size) (h5 : i.bytes = bytes) (h6 : z.cells.size = size)
    {v : Value} {n : Nat} {xs : List Value} (hown : w.ownsRow 0 e size v n xs) (hs : a.eval s = v)
    {vx : Value} {m : Nat} {news : List Value} (hsrc : Src P size tx vx m news w) (hx : a.eval x = vx)
    (b1 : n + m ≤ maxLen) (b2 : (n + m) * bytes ≤ 140737488355328)
    (hK : ∀ v' w', w'.ownsRow 0 e size v' (n + m) (xs ++ news) → w.grownBy w' v.ownBlock → (∀ g, v'.ownBlock = some g → v.ownBlock = some g ∨ w.heap.size ≤ g) → wpList P ops Q rest (a.put o.dst v') w') :
    wpList P ops Q (o :: rest) a w := by
  refine wpList_plain hg fun K hK' => ?_
  obtain ⟨v', w', hrun, r1, r2, r3⟩ := run_app (P := P) w t tx o.type e i z size bytes h1 h2 h3 h4 h5 h6 v n xs hown vx m news hsrc b1 b2
  unfold Oper.wp
  simp [execOp, hop, resolve, invoke, builtin, hs, hx, hrun, Result.andThen]
  exact hK' _ _ (hK v' w' r1 r2 r3)

/-- one value, as append's 'buildSlice' lays it -/
theorem src1 {P : Program} {w : World} {size : Nat} {tx e' : TypeId} (hk : P.underlying tx = some (.slice e')) {g : Nat} {c : Array Value} {t : TypeId} (h : w.heap[g]? = some (.cells c t (0, 0))) (hc : c.size = 1 * size) (h1 : ∀ u ∈ c.toList, u.oneCell' = true) :
    Src P size tx (.slice (some ⟨g, 0, none⟩) 1 1) 1 c.toList w :=
  Src.ofSlice w hk ⟨g, 0, none⟩ 1 1 c.toList (by simpa using hc) (fun j u hu => by
    rw [Addr.add_lit]
    simp only [Nat.zero_add, World.cell?, h]
    simpa using hu) h1

/-- a row and a block of another element type are not one -/
theorem row_ne {w : World} {base : Nat} {e : TypeId} {size : Nat} {v : Value} {n : Nat} {xs : List Value} (h : w.ownsRow base e size v n xs) {b : Nat} {c : Array Value} {t : TypeId} {fr : Nat × Nat} (hb : w.heap[b]? = some (.cells c t fr)) (hne : e ≠ t) :
    v.ownBlock ≠ some b := by
  intro hv
  rcases h.2 with ⟨rfl, _⟩ | ⟨g, cap, cur, rfl, _, hh, _⟩
  · simp [Value.ownBlock] at hv
  · simp [Value.ownBlock] at hv
    subst hv
    rw [hh] at hb
    simp at hb
    exact hne hb.2.1

/-- a row of bytes as a string -/
theorem conv_row {P : Program} {w : World} {src dst e : TypeId} (hs : P.underlying src = some (.slice e)) (he : P.underlying e = some (.int .u8)) (hd : P.underlying dst = some .string)
    {v : Value} {n : Nat} {xs : List Int} (h : w.ownsRow 0 e 1 v n (xs.map (Value.int .u8))) : (convert src dst v).run P w = .ok (.string ⟨(xs.map fun z => UInt8.ofNat z.toNat).toArray⟩) w := by
  have hl : xs.length = n := by have := h.1; simpa using this
  rcases h.2 with ⟨rfl, rfl⟩ | ⟨g, cap, cur, rfl, _, hg, hnc, hcm, hcs, ht⟩
  · have hx : xs = [] := List.eq_nil_of_length_eq_zero hl
    subst hx
    rw [run_convert_bytes_nil w src e hs he 0 0 dst hd]
    rfl
  · rw [run_convert_bytes_arg w src e hs he g 0 n cap xs hl (fun i hi => by
      rw [Nat.zero_add, h.cellAt i (by omega)]
      simp [List.getD, show i < xs.length by omega]) dst hd]
    rfl

theorem sub_str {P : Program} {t : TypeId} (h : P.underlying t = some .string) (w : World) (s : ByteArray) (k k' : IntKind) (i j : Int) (a b : Nat) (hi : i = a) (hj : j = b) (h1 : a ≤ b) (h2 : b ≤ s.size) :
    (Instr.slice t (.string s) (some (.int k i)) (some (.int k' j)) none).run P w = .ok (.string (s.extract a b)) w := by
  subst hi hj
  rw [run_slice_string_if (P := P) (w := w) t s k k' _ _ h, if_pos (by omega), if_pos (by omega)]
  simp

theorem sub_str0 {P : Program} {t : TypeId} (h : P.underlying t = some .string) (w : World) (s : ByteArray) (k' : IntKind) (j : Int) (b : Nat) (hj : j = b) (h2 : b ≤ s.size) :
    (Instr.slice t (.string s) none (some (.int k' j)) none).run P w = .ok (.string (s.extract 0 b)) w := by
  subst hj
  have h1 : ((b : Int) ≤ (s.size : Int)) := by omega
  simp [Instr.slice, run_underlying h, Instr.sliceBounds, go_sem, h1]

theorem results_tmp4 {fn : Func} {t u v x : Tmp} (h : fn.results = #[.tmp t, .tmp u, .tmp v, .tmp x]) (tmps : Array Value) (P : Program) (w : World) :
    (results fn tmps).run P w = .ok (.tuple #[tmps.getD t undef, tmps.getD u undef, tmps.getD v undef, tmps.getD x undef]) w := by
  simp [results, h]

end Go.Proofs.Ytcnckpglicfolaa
