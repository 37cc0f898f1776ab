/- Tables in memory: their lookups as cells, append of zeros. -/
import Derived.Test.YtcdoamaljgjojaaHufW2
import Derived.Test.YtcdoamaljgjojaaHufS
import Derived.Lib.AppendZerosOnto
namespace Go.Proofs.Ytcdoamaljgjojaa
open Go.RowKit

/-- lookups as cells -/
def entCells (E : List Ent) : List Value := E.flatMap fun e => [.int .i64 (e.1 : Nat), .int .i64 (e.2.1 : Nat), .int .i64 (e.2.2 : Nat)]

theorem entCells_length (E : List Ent) : (entCells E).length = E.length * 3 := by
  induction E with
  | nil => rfl
  | cons a E ih => simp only [entCells, List.flatMap_cons, List.length_append, List.length_cons, List.length_nil] at *; omega

theorem entCells_get (E : List Ent) (i : Nat) (hi : i < E.length) :
    (entCells E)[i * 3]? = some (.int .i64 ((entAt E i).1 : Nat)) ∧ (entCells E)[i * 3 + 1]? = some (.int .i64 ((entAt E i).2.1 : Nat)) ∧ (entCells E)[i * 3 + 2]? = some (.int .i64 ((entAt E i).2.2 : Nat)) := by
  induction E generalizing i with
  | nil => simp at hi
  | cons a E ih =>
    cases i with
    | zero => simp [entCells, entAt]
    | succ i =>
      have := ih i (by simpa using hi)
      rw [show (i + 1) * 3 = i * 3 + 3 by omega, show i * 3 + 3 + 1 = i * 3 + 1 + 3 by omega, show i * 3 + 3 + 2 = i * 3 + 2 + 3 by omega]
      simpa [entCells, entAt] using this

theorem entCells_set (E : List Ent) (i : Nat) (e : Ent) : entCells (E.set i e) = (((entCells E).set (i * 3) (.int .i64 (e.1 : Nat))).set (i * 3 + 1) (.int .i64 (e.2.1 : Nat))).set (i * 3 + 2) (.int .i64 (e.2.2 : Nat)) := by
  induction E generalizing i with
  | nil => simp [entCells]
  | cons a E ih =>
    cases i with
    | zero => simp [entCells]
    | succ i =>
      rw [show (i + 1) * 3 = i * 3 + 3 by omega, show i * 3 + 3 + 1 = i * 3 + 1 + 3 by omega, show i * 3 + 3 + 2 = i * 3 + 2 + 3 by omega]
      have := ih i
      simpa [entCells] using this

/-- lookups in a row of the table's own -/
def LkIs (w : World) (g cap : Nat) (E : List Ent) : Prop := w.ownsRow 0 140 3 (.slice (some ⟨g, 0, none⟩) E.length cap) E.length (entCells E)

theorem LkIs.open {w : World} {g cap : Nat} {E : List Ent} (h : LkIs w g cap E) : ∃ cur : Array Value, w.heap[g]? = some (.cells cur 140 (0, 0)) ∧ E.length ≤ cap ∧ cap ≤ maxLen ∧ cur.size = cap * 3 ∧ cur.toList.take (E.length * 3) = entCells E := by
  rcases h.2 with ⟨h1, _⟩ | ⟨g', cap', cur, h1, _, hh, r1, r2, r3, r4⟩
  · cases h1
  · cases h1
    exact ⟨cur, hh, r1, r2, r3, r4⟩

theorem LkIs.shut {w : World} {g cap : Nat} {E : List Ent} {cur : Array Value} (hh : w.heap[g]? = some (.cells cur 140 (0, 0))) (r1 : E.length ≤ cap) (r2 : cap ≤ maxLen) (r3 : cur.size = cap * 3) (r4 : cur.toList.take (E.length * 3) = entCells E) : LkIs w g cap E :=
  ⟨entCells_length E, .inr ⟨g, cap, cur, rfl, Nat.zero_le _, hh, r1, r2, r3, r4⟩⟩

theorem LkIs.cells {w : World} {g cap : Nat} {E : List Ent} (h : LkIs w g cap E) (i : Nat) (hi : i < E.length) :
    w.cell? ⟨g, i * 3, none⟩ = some (.int .i64 ((entAt E i).1 : Nat)) ∧ w.cell? ⟨g, i * 3 + 1, none⟩ = some (.int .i64 ((entAt E i).2.1 : Nat)) ∧ w.cell? ⟨g, i * 3 + 2, none⟩ = some (.int .i64 ((entAt E i).2.2 : Nat)) ∧
    w.frozen? ⟨g, i * 3, none⟩ = false ∧ w.frozen? ⟨g, i * 3 + 1, none⟩ = false ∧ w.frozen? ⟨g, i * 3 + 2, none⟩ = false := by
  obtain ⟨cur, hh, _, _, _, r4⟩ := h.open
  have key : ∀ k, k < E.length * 3 → cur[k]? = (entCells E)[k]? := by
    intro k hk
    rw [← r4, List.getElem?_take_of_lt hk]; simp
  obtain ⟨e1, e2, e3⟩ := entCells_get E i hi
  exact ⟨cellOf hh _ ((key _ (by omega)).trans e1), cellOf hh _ ((key _ (by omega)).trans e2), cellOf hh _ ((key _ (by omega)).trans e3), frozenOf hh _, frozenOf hh _, frozenOf hh _⟩

theorem LkIs.set {w : World} {g cap : Nat} {E : List Ent} (h : LkIs w g cap E) (i : Nat) (e : Ent) :
    LkIs (((w.setCell ⟨g, i * 3, none⟩ (.int .i64 (e.1 : Nat))).setCell ⟨g, i * 3 + 1, none⟩ (.int .i64 (e.2.1 : Nat))).setCell ⟨g, i * 3 + 2, none⟩ (.int .i64 (e.2.2 : Nat))) g cap (E.set i e) := by
  obtain ⟨cur, hh, r1, r2, r3, r4⟩ := h.open
  refine LkIs.shut (heap_set (heap_set (heap_set hh _ _) _ _) _ _) (by simpa using r1) r2 (by simpa using r3) ?_
  rw [entCells_set, ← r4]
  simp only [List.length_set, Array.toList_setIfInBounds, List.take_set]

/-- a table: its codes, its lookups, its longest code -/
def TabAt (w : World) (b : Nat) (cv : Value) (g cap : Nat) (E : List Ent) (long : Nat) : Prop :=
  w.heap[b]? = some (.cells #[cv, .slice (some ⟨g, 0, none⟩) E.length cap, .int .i64 (long : Nat)] 132 (0, 0)) ∧ LkIs w g cap E

theorem cells3 {w : World} {b : Nat} {x y z : Value} {t : TypeId} (h : w.heap[b]? = some (.cells #[x, y, z] t (0, 0))) :
    w.cell? ⟨b, 0, none⟩ = some x ∧ w.cell? ⟨b, 1, none⟩ = some y ∧ w.cell? ⟨b, 2, none⟩ = some z ∧ w.frozen? ⟨b, 0, none⟩ = false ∧ w.frozen? ⟨b, 1, none⟩ = false ∧ w.frozen? ⟨b, 2, none⟩ = false := by
  simp [World.cell?, World.frozen?, h]

theorem TabAt.ne {w : World} {b : Nat} {cv : Value} {g cap : Nat} {E : List Ent} {long : Nat} (h : TabAt w b cv g cap E long) : b ≠ g := by
  intro e
  obtain ⟨cur, hh, _⟩ := h.2.open
  have h1 := h.1
  rw [e, hh] at h1
  simp at h1

/-- append of zeros to a row of the call's own -/
theorem run_app_zeros {P : Program} (w : World) (t tn ty e : TypeId) (i : TypeInfo) (z : Value) (size bytes : Nat) (kq kn : IntKind) (k : Nat) (ht : P.underlying t = some (.slice e)) (htn : P.underlying tn = some (.int kn)) (hi : P.info? e = some i) (hz : i.zero = some z)
    (hsize : i.size = size) (hby : i.bytes = bytes) (hzs : z.cells.size = size) (hz1 : ∀ u ∈ (Builtin.zeroCells z.cells k).toList, u.oneCell' = true) (v : Value) (n : Nat) (xs : List Value) (hown : w.ownsRow 0 e size v n xs) (h0 : 0 < k) (hs0 : 0 < size)
    (b1 : n + k ≤ maxLen) (b2 : (n + k) * bytes ≤ 140737488355328) :
    ∃ v' w', (Builtin.append_ #[t, tn] ty #[v, .int kq k]).run P w = .ok v' w' ∧ w'.ownsRow 0 e size v' (n + k) (xs ++ (Builtin.zeroCells z.cells k).toList) ∧ w.grownBy w' v.ownBlock ∧ (∀ g, v'.ownBlock = some g → v.ownBlock = some g ∨ w.heap.size ≤ g) := by
  subst hsize hby
  have hk63 : (k : Int) ≤ 9223372036854775807 := by simp only [maxLen] at b1; omega
  have hkb : k * i.bytes ≤ 140737488355328 := Nat.le_trans (Nat.mul_le_mul_right _ (Nat.le_add_left k n)) b2
  have hnl : (Builtin.zeroCells z.cells k).toList.length = k * i.size := by rw [Array.length_toList, size_zeroCells, hzs]
  have hlen : (xs ++ (Builtin.zeroCells z.cells k).toList).length = (n + k) * i.size := by rw [List.length_append, hown.1, hnl, Nat.add_mul]
  have hsmall : n + k ≤ 9223372036854775807 := by simp only [maxLen] at b1; omega
  have grown : ∀ (old : Nat), old < n + k → ∀ (row : Option Nat),
      (w.drew.alloc (.cells (xs.toArray ++ Builtin.zeroCells z.cells k ++ Builtin.zeroCells z.cells (grownCap w (n + k) old e - (n + k))) e)).ownsRow 0 e i.size
        (.slice (some ⟨w.heap.size, 0, none⟩) (n + k) (grownCap w (n + k) old e)) (n + k) (xs ++ (Builtin.zeroCells z.cells k).toList) ∧
      w.grownBy (w.drew.alloc (.cells (xs.toArray ++ Builtin.zeroCells z.cells k ++ Builtin.zeroCells z.cells (grownCap w (n + k) old e - (n + k))) e)) row := by
    intro old ho row
    have hge := grownCap_ge w (n + k) old e
    have hcm : grownCap w (n + k) old e ≤ maxLen := grownCap_le_maxLen w (n + k) old e b1
    refine ⟨⟨hlen, .inr ⟨w.heap.size, _, _, rfl, Nat.zero_le _, heap_alloc_new w.drew _, hge, hcm, ?_, ?_⟩⟩, ⟨rfl, rfl, rfl, by simp, fun j hj _ => Below.heap_alloc w.drew _ j hj⟩⟩
    · simp only [Array.size_append, List.size_toArray, size_zeroCells, hzs, hown.1, ← Nat.add_mul]
      congr 1
      omega
    · rw [Array.toList_append, Array.toList_append, ← hlen]
      exact List.take_left
  rcases hown.2 with ⟨rfl, rfl⟩ | ⟨g, cap, cur, rfl, _, hg, hnc, hcm, hcs, htake⟩
  · have hx : xs = [] := List.eq_nil_of_length_eq_zero (by simpa using hown.1)
    subst hx
    have hr := Lib.run_append_grow_zeros (P := P) w t tn ty e i z kq kn ht htn hi hz none 0 0 [] (by simp [Builtin.firstCells]) k h0 hs0 (by omega) (by omega) (by omega) (growslice_fits (by omega) b2)
    have hgr := grown 0 (by omega) (Value.ownBlock (.slice none 0 0))
    exact ⟨_, _, hr, hgr.1, hgr.2, fun g hg => .inr (by simp [Value.ownBlock] at hg; omega)⟩
  · by_cases hroom : n + k ≤ cap
    · have hfit : n * i.size + (Builtin.zeroCells z.cells k).toList.length ≤ cur.size := by rw [hnl, hcs, ← Nat.add_mul]; exact Nat.mul_le_mul_right _ hroom
      have hst := run_storeCells_cells (P := P) g (0 + n * i.size) (Builtin.zeroCells z.cells k).toList 0 w (fun j hj => by
        rw [cell_of_row w g _ cur e (0, 0) hg]; simp; simp at hj; rw [Array.length_toList] at hfit; omega) (fun j hj => frozen_of_row w g _ cur e hg) hz1
      simp only [Nat.add_zero, Nat.zero_add] at hst
      have hr : (Builtin.append_ #[t, tn] ty #[.slice (some ⟨g, 0, none⟩) n cap, .int kq k]).run P w = .ok (.slice (some ⟨g, 0, none⟩) (n + k) cap) (w.setCells g (0 + n * i.size) (Builtin.zeroCells z.cells k).toList) := by
        have hw : IntKind.i64.wrap (k : Int) = k := by rw [IntKind.wrap_i64]; omega
        have h48i : ¬ (281474976710656 < (k : Int) * (i.bytes : Int)) := by
          rw [← Int.natCast_mul]
          omega
        have hneg : ¬ ((k : Int) < 0) := by omega
        have hns : ¬ (k * i.size = 0) := Nat.mul_ne_zero (by omega) (by omega)
        simp [Builtin.append_, run_underlying ht, run_underlying htn, sizeOf, typeInfo, zeroValue, hi, hz, asInt, asIntOf, hw, hneg, hns, h48i, hroom, Addr.add_lit, Nat.zero_add, hst]
      obtain ⟨cur', c1, c2, c3⟩ := heap_setCells g e (0, 0) (Builtin.zeroCells z.cells k).toList (0 + n * i.size) w cur hg (by omega)
      obtain ⟨s1, s2, s3, s4⟩ := setCells_same g (Builtin.zeroCells z.cells k).toList (0 + n * i.size) w
      refine ⟨_, _, hr, ⟨hlen, .inr ⟨g, cap, cur', rfl, Nat.zero_le _, c1, hroom, hcm, by omega, ?_⟩⟩, ⟨s1, s2, s3, by omega, fun j _ hj => heap_setCells_ne g j (fun h => hj (by simp [Value.ownBlock, h])) _ _ _⟩, fun g' hg' => .inl hg'⟩
      rw [Nat.add_mul, ← hnl, ← htake]
      simpa using c3
    · have hr := Lib.run_append_grow_zeros (P := P) w t tn ty e i z kq kn ht htn hi hz (some ⟨g, 0, none⟩) n cap xs (run_firstCells_some w.drew i.size n ⟨g, 0, none⟩ n cap xs hown.1 (by simpa using hown.cells (g := g) rfl)) k h0 hs0 (by omega) (by omega) (by omega) (growslice_fits (by omega) b2)
      have hgr := grown cap (by omega) (Value.ownBlock (.slice (some ⟨g, 0, none⟩) n cap))
      exact ⟨_, _, hr, hgr.1, hgr.2, fun g hg => .inr (by simp [Value.ownBlock] at hg; omega)⟩

theorem info_entry : (Try.prog.info? 140).map (fun i => (i.zero, i.size, i.bytes)) = some (some (.agg #[.int .i64 0, .int .i64 0, .int .i64 0]), 3, 24) := by kernel_rfl

theorem entCells_zeros (k : Nat) : entCells (List.replicate k (0, 0, 0)) = List.replicate (k * 3) (.int .i64 0) := by
  induction k with
  | zero => rfl
  | succ k ih =>
    rw [List.replicate_succ, show (k + 1) * 3 = k * 3 + 1 + 1 + 1 by omega, List.replicate_succ, List.replicate_succ, List.replicate_succ, ← ih]
    rfl

theorem zeroCells_entry (k : Nat) : (Builtin.zeroCells (Value.agg #[.int .i64 0, .int .i64 0, .int .i64 0]).cells k).toList = entCells (List.replicate k (0, 0, 0)) := by
  rw [entCells_zeros]
  apply List.ext_getElem
  · rw [Array.length_toList, size_zeroCells]; simp [Value.cells]
  · intro i h1 h2
    simp only [Builtin.zeroCells, Array.getElem_toList, Array.getElem_map, Array.getElem_range, List.getElem_replicate, Value.cells]
    rcases (show i % 3 = 0 ∨ i % 3 = 1 ∨ i % 3 = 2 by omega) with h | h | h <;> simp [h]

theorem TabAt.drew {w : World} {b : Nat} {cv : Value} {g cap : Nat} {E : List Ent} {long : Nat} (h : TabAt w b cv g cap E long) : TabAt w.drew b cv g cap E long := h


/-- a table that New made: its blocks lie from lo on and below hi -/
def TableIs (w : World) (lo hi b : Nat) (ls : List Nat) : Prop :=
  ∃ cv g cap E, TabAt w b cv g cap E (longOf ls) ∧ w.ownsRow 0 3 1 cv ls.length ((codesOf ls).map fun n : Nat => Value.int .i64 (n : Int)) ∧ LkOf ls ls.length E ∧
    lo ≤ b ∧ b < hi ∧ lo ≤ g ∧ g < hi ∧ (∀ c, cv.ownBlock = some c → lo ≤ c ∧ c < hi)

theorem TableIs.mut {w w' : World} {lo hi b : Nat} {ls : List Nat} {S : List Nat} (h : TableIs w lo hi b ls) (hm : Mut S w w') (hs : ∀ x, x ∈ S → x < lo ∨ hi ≤ x) : TableIs w' lo hi b ls := by
  obtain ⟨cv, g, cap, E, h1, h2, h3, h4, h5, h6, h7, h8⟩ := h
  have no : ∀ x, lo ≤ x → x < hi → x ∉ S := fun x a c hx => by have := hs x hx; omega
  refine ⟨cv, g, cap, E, ⟨hm.get h1.1 (no b h4 h5), hm.row h1.2 (fun k hk => ?_)⟩, hm.row h2 (fun k hk => no k (h8 k hk).1 (h8 k hk).2), h3, h4, h5, h6, h7, h8⟩
  simp [Value.ownBlock] at hk
  exact no k (by omega) (by omega)

theorem TableIs.wide {w : World} {lo hi lo' hi' b : Nat} {ls : List Nat} (h : TableIs w lo hi b ls) (h1 : lo' ≤ lo) (h2 : hi ≤ hi') : TableIs w lo' hi' b ls := by
  obtain ⟨cv, g, cap, E, q1, q2, q3, q4, q5, q6, q7, q8⟩ := h
  exact ⟨cv, g, cap, E, q1, q2, q3, by omega, by omega, by omega, by omega, fun c hc => by have := q8 c hc; omega⟩

end Go.Proofs.Ytcdoamaljgjojaa
