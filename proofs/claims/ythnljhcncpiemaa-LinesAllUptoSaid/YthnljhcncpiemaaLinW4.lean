/- Walk over package lines: Select. -/
import Derived.Test.YthnljhcncpiemaaLinB
import Derived.Test.YthnljhcncpiemaaLinW2
import Derived.Test.YthnljhcncpiemaaLinW3
import Derived.Test.YthnljhcncpiemaaLinQ
import Derived.Deep.LoopGhost
import Derived.Deep.CutBlock
namespace Go.Proofs.Ythnljhcncpiemaa
open Go.RowKit
set_option linter.unusedVariables false

/-- what Select holds -/
structure SelI (w0 : World) (vL vX : Value) (L X : List (Nat × Nat)) (gT gB : Nat) (T : List Bool) (B : List Sl) (wx : World) : Prop where
  lines : PRow 31 wx vL L
  spans : PRow 31 wx vX X
  tch : VRow 4 wx gT (T.map Value.bool)
  begs : Begs w0 wx gB B
  kept : Mut [] w0 wx
  freshT : w0.heap.size ≤ gT
  freshB : w0.heap.size ≤ gB
  lenT : T.length = L.length
  lenB : B.length = L.length

theorem SelI.mut {w0 : World} {vL vX : Value} {L X : List (Nat × Nat)} {gT gB : Nat} {T : List Bool} {B : List Sl} {wx wy : World} (h : SelI w0 vL vX L X gT gB T B wx) (m : Mut [] wx wy) : SelI w0 vL vX L X gT gB T B wy :=
  ⟨h.lines.mut m (by simp), h.spans.mut m (by simp), h.tch.mut m (by simp), h.begs.mut m (by simp) (by simp), h.kept.trans' m, h.freshT, h.freshB, h.lenT, h.lenB⟩

theorem atL_ok (L : List (Nat × Nat)) (hs : Sq 0 L) (h : L.length ≠ 0) (p : Nat) : (cnt L (p : Int) : Int) - 1 = (atL L p : Int) := by
  have h0 : 0 < L.length := by omega
  have h1 := (sq_get L 0 0 hs h0).1
  have h2 := (cnt_get L 0 (p : Int) 0 hs h0).1 (by rw [h1]; simp [en])
  unfold atL
  omega

theorem blk_ne {w : World} {g b : Nat} {c c' : Array Value} {t t' : TypeId} {fr fr' : Nat × Nat} (h : w.heap[g]? = some (.cells c t fr)) (h' : w.heap[b]? = some (.cells c' t' fr')) (hne : t ≠ t') : b ≠ g := by
  intro e
  subst e
  rw [h] at h'
  simp only [Option.some.injEq, Obj.cells.injEq] at h'
  exact hne h'.2.1

theorem PRow.blkT {e : TypeId} {w : World} {v : Value} {L : List (Nat × Nat)} (h : PRow e w v L) {k : Nat} (hk : v.ownBlock = some k) : ∃ c, w.heap[k]? = some (.cells c e (0, 0)) := by
  rcases h.2 with ⟨rfl, _⟩ | ⟨g, cap, cur, rfl, _, hh, _⟩
  · simp [Value.ownBlock] at hk
  · simp [Value.ownBlock] at hk
    subst hk
    exact ⟨_, hh⟩

theorem SelI.touch {w0 : World} {vL vX : Value} {L X : List (Nat × Nat)} {gT gB : Nat} {T : List Bool} {B : List Sl} {wx : World} (h : SelI w0 vL vX L X gT gB T B wx) (i : Nat) : SelI w0 vL vX L X gT gB (T.set i true) B (wx.setCell ⟨gT, i, none⟩ (.bool true)) := by
  obtain ⟨c, hc⟩ := h.tch.blk
  have m : Mut [gT] wx (wx.setCell ⟨gT, i, none⟩ (.bool true)) := (Mut.refl _ wx).setCell (.inl (by simp)) _
  refine ⟨h.lines.mut m (fun g hg hm => ?_), h.spans.mut m (fun g hg hm => ?_), ?_, h.begs.mut m (fun hm => ?_) (fun b hb c' hc' => ?_), h.kept.setCell (.inr h.freshT) _, h.freshT, h.freshB, by rw [List.length_set]; exact h.lenT, h.lenB⟩
  · obtain ⟨c', hc'⟩ := h.lines.blkT hg
    simp at hm
    exact blk_ne hc hc' (by decide) hm
  · obtain ⟨c', hc'⟩ := h.spans.blkT hg
    simp at hm
    exact blk_ne hc hc' (by decide) hm
  · rw [List.map_set]
    exact h.tch.set i _
  · obtain ⟨c', hc'⟩ := h.begs.row.blk
    simp at hm
    exact blk_ne hc hc' (by decide) hm
  · simp at hb
    exact blk_ne hc hc' (by decide) hb

/-- a span's number is appended where it begins -/
theorem SelI.grow {w0 : World} {vL vX : Value} {L X : List (Nat × Nat)} {gT gB : Nat} {T : List Bool} {B : List Sl} {wx w6 : World} (h : SelI w0 vL vX L X gT gB T B wx) (o : Obj) (a : Nat) (ha : a < B.length) {v' : Value} {I' : List Int}
    (hr : IRow w6 v' I') (hI : I'.length = (B[a]'ha).2.1 + 1) (m1 : Mut (slV (B[a]'ha)).ownBlock.toList (wx.alloc o) w6) (hf : ∀ b, v'.ownBlock = some b → (slV (B[a]'ha)).ownBlock = some b ∨ wx.heap.size + 1 ≤ b) :
    ∃ p c, v' = slV (p, (B[a]'ha).2.1 + 1, c) ∧ VRow 37 w6 gB (B.map slV) ∧ SelI w0 vL vX L X gT gB T (B.set a (p, (B[a]'ha).2.1 + 1, c)) (w6.setCell ⟨gB, a, none⟩ v') := by
  have m0 := (Mut.refl [] wx).alloc o
  have h1 := h.mut m0
  obtain ⟨p, c, e, hg6, hb6⟩ := h1.begs.grow h1.kept.size a ha hr hI m1 (by simpa using hf)
  refine ⟨p, c, e, hg6, ?_⟩
  obtain ⟨cB, hcB⟩ := h1.begs.row.blk
  obtain ⟨cB6, hcB6⟩ := hg6.blk
  obtain ⟨I, hi1, -⟩ := h1.begs.own a ha
  have m2 : Mut [gB] w6 (w6.setCell ⟨gB, a, none⟩ v') := (Mut.refl _ w6).setCell (.inl (by simp)) _
  -- a block of another type lies as it lay
  have far : ∀ (b : Nat) (c : Array Value) (t : TypeId), (wx.alloc o).heap[b]? = some (.cells c t (0, 0)) → t ≠ 3 → t ≠ 37 → b ∉ (slV (B[a]'ha)).ownBlock.toList ∧ b ∉ [gB] := by
    intro b c' t hb ht1 ht2
    refine ⟨fun hm => ?_, fun hm => ?_⟩
    · obtain ⟨ci, hci⟩ := hi1.blk (by simpa using hm)
      exact blk_ne hci hb (fun e => ht1 e.symm) rfl
    · simp at hm
      exact blk_ne hcB hb (fun e => ht2 e.symm) hm
  have hT := h1.tch.blk
  refine ⟨?_, ?_, ?_, hb6, ?_, h.freshT, h.freshB, h.lenT, by rw [List.length_set]; exact h.lenB⟩
  · have f := fun g hg => (h1.lines.blkT (k := g) hg)
    refine (h1.lines.mut m1 (fun g hg => ?_)).mut m2 (fun g hg => ?_)
    · obtain ⟨c', hc'⟩ := f g hg
      exact (far g c' _ hc' (by decide) (by decide)).1
    · obtain ⟨c', hc'⟩ := f g hg
      exact (far g c' _ hc' (by decide) (by decide)).2
  · have f := fun g hg => (h1.spans.blkT (k := g) hg)
    refine (h1.spans.mut m1 (fun g hg => ?_)).mut m2 (fun g hg => ?_)
    · obtain ⟨c', hc'⟩ := f g hg
      exact (far g c' _ hc' (by decide) (by decide)).1
    · obtain ⟨c', hc'⟩ := f g hg
      exact (far g c' _ hc' (by decide) (by decide)).2
  · obtain ⟨c', hc'⟩ := hT
    have := far gT c' _ hc' (by decide) (by decide)
    exact (h1.tch.mut m1 this.1).mut m2 this.2
  · refine (h1.kept.trans m1 (fun x hx => .inr ?_)).setCell (.inr h.freshB) _
    exact h1.begs.fresh a ha x (by simpa using hx)

/-- where the loop over the spans is -/
def SelK (L X : List (Nat × Nat)) (k : Nat) (T : List Bool) (B : List Sl) (d : Nat) : Prop :=
  (T, B.map (fun x => x.2.1), d) = ((X.take k).map (spanL L)).foldl selStep (selStart L.length)

theorem SelK.ok {L X : List (Nat × Nat)} {k : Nat} {T : List Bool} {B : List Sl} {d : Nat} (h : SelK L X k T B d) (hk : k ≤ X.length) (h0 : 0 < L.length) : SelOk L.length k (T, B.map (fun x => x.2.1), d) := by
  have := SelOk.fold ((X.take k).map (spanL L)) 0 _ (SelOk.start L.length h0) (fun y hy => by
    obtain ⟨x, _, rfl⟩ := List.mem_map.1 hy
    exact spanL_lt L x h0)
  rw [← h] at this
  simpa [Nat.min_eq_left hk] using this

theorem le_sum : ∀ (l : List Nat) (i : Nat) (h : i < l.length), l[i] ≤ l.sum
  | x :: r, 0, _ => by simp
  | x :: r, i + 1, h => by
    have := le_sum r i (by simpa using h)
    simp
    omega

theorem SelK.le {L X : List (Nat × Nat)} {k : Nat} {T : List Bool} {B : List Sl} {d : Nat} (h : SelK L X k T B d) (hk : k ≤ X.length) (h0 : 0 < L.length) (a : Nat) (ha : a < B.length) : (B[a]'ha).2.1 ≤ X.length := by
  have h1 := (h.ok hk h0).sum
  have h2 := le_sum (B.map (fun x => x.2.1)) a (by rw [List.length_map]; exact ha)
  simp only [List.getElem_map] at h2
  simp only at h1
  omega

theorem SelK.next {L X : List (Nat × Nat)} {k : Nat} {T : List Bool} {B : List Sl} {d a b : Nat} (h : SelK L X k T B d) (hk : k < X.length) (hs : spanL L (X[k]'hk) = (a, b)) (haB : a < B.length) {x : Sl} (hx : x.2.1 = (B[a]'haB).2.1 + 1) :
    SelK L X (k + 1) ((setF T (max a d) (b + 1 - max a d)).set a true) (B.set a x) (max d b) := by
  unfold SelK at h ⊢
  rw [List.take_succ_eq_append_getElem hk, List.map_append, List.foldl_append, ← h]
  simp only [List.map_cons, List.map_nil, List.foldl_cons, List.foldl_nil, hs, selStep]
  rw [List.map_set, hx]
  have e : (B.map (fun x => x.2.1)).getD a 0 = (B[a]'haB).2.1 := by
    rw [List.getD_eq_getElem?_getD, List.getElem?_map, List.getElem?_eq_getElem haB]
    rfl
  rw [e]

/-- an answered line: number, span, the numbers of the spans that begin there -/
abbrev LineV := Nat × (Nat × Nat) × Sl
def lnCell (x : LineV) : List Value := [.int .i64 (x.1 : Int), .int .i64 (x.2.1.1 : Int), .int .i64 (x.2.1.2 : Int), slV x.2.2]
def lnCells (R : List LineV) : List Value := R.flatMap lnCell
def lnStrip (x : LineV) : Nat × (Nat × Nat) × Nat := (x.1, x.2.1, x.2.2.2.1)

theorem info_line : (Try.prog.info? 39).map (fun i => (i.zero, i.size, i.bytes)) = some (some (.agg #[.int .i64 0, .int .i64 0, .int .i64 0, .slice none 0 0]), 4, 48) := by kernel_rfl

def LRow (w : World) (v : Value) (R : List LineV) : Prop := w.ownsRow 0 39 4 v R.length (lnCells R)

theorem LRow.form {w : World} {v : Value} {R : List LineV} (h : LRow w v R) : ∃ p c, v = .slice p R.length c := by
  rcases h.2 with ⟨h, h'⟩ | ⟨g, cap, _, h, _⟩
  · exact ⟨none, 0, by rw [h, h']⟩
  · exact ⟨_, cap, h⟩
theorem LRow.mut {w w' : World} {v : Value} {R : List LineV} {S : List Nat} (h : LRow w v R) (hm : Mut S w w') (hs : ∀ g, v.ownBlock = some g → g ∉ S) : LRow w' v R := hm.row h hs
theorem LRow.blk {w : World} {v : Value} {R : List LineV} (h : LRow w v R) {k : Nat} (hk : v.ownBlock = some k) : ∃ c, w.heap[k]? = some (.cells c 39 (0, 0)) := by
  rcases h.2 with ⟨rfl, _⟩ | ⟨g, cap, cur, rfl, _, hh, _⟩
  · simp [Value.ownBlock] at hk
  · simp [Value.ownBlock] at hk
    subst hk
    exact ⟨_, hh⟩
theorem lnCells_snoc (R : List LineV) (x : LineV) : lnCells (R ++ [x]) = lnCells R ++ lnCell x := by simp [lnCells]
theorem ln_one (x : LineV) : ∀ u ∈ lnCell x, u.oneCell' = true := by
  intro u hu
  simp [lnCell, slV] at hu
  rcases hu with rfl | rfl | rfl | rfl <;> rfl

/-- the rows of lines that are answered; new in this call -/
structure LineG (w0 : World) (v : Value) (R : List LineV) (w : World) : Prop where
  row : LRow w v R
  fresh : ∀ g, v.ownBlock = some g → w0.heap.size ≤ g

theorem LineG.mut {w0 w w' : World} {v : Value} {R : List LineV} (h : LineG w0 v R w) (m : Mut [] w w') : LineG w0 v R w' := ⟨h.row.mut m (by simp), h.fresh⟩

/-- blocks of lines are none of what Select holds -/
theorem SelI.lines' {w0 : World} {vL vX : Value} {L X : List (Nat × Nat)} {gT gB : Nat} {T : List Bool} {B : List Sl} {wx wy : World} {S : List Nat} (h : SelI w0 vL vX L X gT gB T B wx) (m : Mut S wx wy)
    (hS : ∀ b, b ∈ S → w0.heap.size ≤ b ∧ ∃ c, wx.heap[b]? = some (.cells c 39 (0, 0))) : SelI w0 vL vX L X gT gB T B wy := by
  have ne : ∀ (b : Nat) (c : Array Value) (t : TypeId), wx.heap[b]? = some (.cells c t (0, 0)) → t ≠ 39 → b ∉ S := fun b c t hb ht hm => by
    obtain ⟨c', hc'⟩ := (hS b hm).2
    exact blk_ne hc' hb (fun e => ht e.symm) rfl
  refine ⟨h.lines.mut m (fun g hg => ?_), h.spans.mut m (fun g hg => ?_), ?_, ?_, h.kept.trans m (fun x hx => .inr (hS x hx).1), h.freshT, h.freshB, h.lenT, h.lenB⟩
  · obtain ⟨c, hc⟩ := h.lines.blkT hg
    exact ne g c _ hc (by decide)
  · obtain ⟨c, hc⟩ := h.spans.blkT hg
    exact ne g c _ hc (by decide)
  · obtain ⟨c, hc⟩ := h.tch.blk
    exact h.tch.mut m (ne _ c _ hc (by decide))
  · obtain ⟨c, hc⟩ := h.begs.row.blk
    refine h.begs.mut m (ne _ c _ hc (by decide)) (fun b hb c' hc' => ?_)
    exact ne b c' _ hc' (by decide) hb

/-- what Select answers -/
def SelPost (w : World) (inv : Bool) (L X : List (Nat × Nat)) (e : Ending) (w' : World) : Prop :=
  ∃ u R, e = .returned u ∧ LineG w u R w' ∧ R.map lnStrip = selN inv L (selAll L X) L.length ∧ Mut [] w w'

set_option maxHeartbeats 3200000 in
set_option maxRecDepth 100000 in
theorem select_any (s : ByteArray) (hz : s.size ≤ 1073741824) (X : List (Nat × Nat)) (hX : ∀ x ∈ X, x.1 ≤ x.2 ∧ x.2 ≤ s.size) (hXl : X.length ≤ 1073741824) (inv : Bool) (v : Value) (w : World) (hv : PRow 31 w v X) :
    Calls Try.prog 12 #[.string s, v, .bool inv] w (SelPost w inv (lns (bytesOf s)) X) := by
  obtain ⟨D, hD⟩ : ∃ D, bytesOf s = D := ⟨_, rfl⟩
  obtain ⟨L, hL⟩ : ∃ L, lns D = L := ⟨_, rfl⟩
  have hLs : L.length ≤ s.size := by
    rw [← hL, ← bytesOf_length s, hD]
    exact lns_len D
  have hsq : Sq 0 L := by rw [← hL]; exact lns_sq D
  have HSP := Lib.hid (split_any s hz w)
  rw [hD, hL] at HSP ⊢
  have HV := Lib.hid hv
  obtain ⟨pX, cX, rfl⟩ := hv.form
  have HX := Lib.hid hX
  clear hv hX hD hL
  go_enter Try.func12, Try.ntmps12
  go_wp2_with fail
  refine HSP.out.mono ?_
  rintro e w1 ⟨vL, rfl, hl1, hl2, hm1⟩
  obtain ⟨pL, cL, rfl⟩ := hl1.form
  have HL1 := Lib.hid hl1
  have HM1 := Lib.hid hm1
  have HV1 : Hid (PRow 31 w1 (.slice pX X.length cX) X) := Lib.hid (HV.out.mut hm1 (by simp))
  clear hl1 hl2 hm1 HSP HV
  by_cases h0 : L.length = 0
  · have h0I : ((L.length : Int) == 0) = true := by rw [beq_iff_eq]; omega
    go_wp2_with fail
    exact bodyPost_ret (results_tmp rfl _ _ _) rfl ⟨.slice none 0 0, [], rfl, ⟨World.ownsRow_nil _ _ _ _, by simp [Value.ownBlock]⟩, by rw [h0]; rfl, HM1.out⟩
  · have h0I : ((L.length : Int) == 0) = false := by rw [beq_eq_false_iff_ne]; omega
    obtain ⟨Z1, hZ1⟩ : ∃ Z, madeCells #[Value.bool false] L.length = Z := ⟨_, rfl⟩
    obtain ⟨Z2, hZ2⟩ : ∃ Z, madeCells #[Value.slice none 0 0] L.length = Z := ⟨_, rfl⟩
    have hmk1 := run_make_bools L.length (by omega) Z1 hZ1
    have hmk2 := run_make_intss L.length (by omega) Z2 hZ2
    have HZ := Lib.hid (And.intro hZ1 hZ2)
    clear hZ1 hZ2
    go_upto_region 7 with fail
    clear hmk1 hmk2
    have hS0 : SelI w (.slice pL L.length cL) (.slice pX X.length cX) L X w1.heap.size (w1.heap.size + 1) (List.replicate L.length false) (List.replicate L.length (none, 0, 0)) ((w1.alloc (.cells Z1 4)).alloc (.cells Z2 37)) := by
      have m1 := (Mut.refl [] w1).alloc (.cells Z1 4)
      have m2 := (Mut.refl [] (w1.alloc (.cells Z1 4))).alloc (.cells Z2 37)
      have m := m1.trans' m2
      have v1 := VRow.start 4 w1 (.bool false) L.length (by omega) Z1 HZ.out.1
      have v2 := VRow.start 37 (w1.alloc (.cells Z1 4)) (.slice none 0 0) L.length (by omega) Z2 HZ.out.2
      rw [World.size_alloc] at v2
      have hsz := HM1.out.size
      refine ⟨HL1.out.mut m (by simp), HV1.out.mut m (by simp), ?_, Begs.start w _ _ _ v2, HM1.out.trans' m, hsz, by omega, by simp, by simp⟩
      rw [List.map_replicate]
      exact v1.mut m2 (by simp)
    have HS0 := Lib.hid hS0
    have HK0 : Hid (SelK L X 0 (List.replicate L.length false) (List.replicate L.length (none, 0, 0)) 0) := Lib.hid (by simp [SelK, selStart])
    clear hS0 HZ HL1 HV1 HM1
    generalize (w1.alloc (.cells Z1 4)).alloc (.cells Z2 37) = w2 at *
    generalize w1.heap.size = gT at *
    obtain ⟨gB, hgB⟩ : ∃ g, gT + 1 = g := ⟨_, rfl⟩
    rw [hgB] at HS0 ⊢
    clear hgB h0I
    go_wp2_with fail
    go_loopw [10, 32] (fun a b wx => ∃ (k d : Nat) (T : List Bool) (B : List Sl), a = .int .i64 (d : Int) ∧ b = .int .i64 (k : Int) ∧ k ≤ X.length ∧ Hid (SelI w (.slice pL L.length cL) (.slice pX X.length cX) L X gT gB T B wx) ∧ Hid (SelK L X k T B d) ∧ d ≤ L.length) (fun a b _ => X.length - (intOf b).toNat)
    case atStart => exact ⟨0, 0, _, _, rfl, rfl, Nat.zero_le _, HS0, HK0, Nat.zero_le _⟩
    case round =>
      obtain ⟨k, d, T, B, rfl, rfl, hk, HS, HK, hd⟩ := hrel
      clear HS0 HK0
      by_cases hlt : k < X.length
      case pos =>
        have hI : (k : Int) < (X.length : Int) := by omega
        obtain ⟨⟨p, q⟩, hpq⟩ : ∃ x, X[k]'hlt = x := ⟨_, rfl⟩
        have hx := HX.out (X[k]'hlt) (List.getElem_mem _)
        rw [hpq] at hx
        obtain ⟨gX, cX', hvX, -, -⟩ := row_some HS.out.spans (by omega)
        simp only [Value.slice.injEq] at hvX
        obtain ⟨rfl, -, rfl⟩ := hvX
        obtain ⟨c0, c1⟩ := HS.out.spans.cells k hlt
        rw [hpq, Nat.mul_comm] at c0 c1
        simp only at c0 c1 hx
        have HPQ := Lib.hid hpq
        obtain ⟨hx1, hx2⟩ := hx
        clear hpq
        go_upto_region 10 with fail
        have m3 : Mut [] wr (wr.alloc (.cells #[.int .i64 (p : Int), .int .i64 (q : Int)] 31)) := (Mut.refl [] wr).alloc _
        have hb3 := heap_alloc_new' wr (.cells #[.int .i64 (p : Int), .int .i64 (q : Int)] 31)
        have HS3 := Lib.hid (HS.out.mut m3)
        generalize wr.alloc (.cells #[.int .i64 (p : Int), .int .i64 (q : Int)] 31) = w3 at *
        generalize wr.heap.size = gS at *
        have HAT : Hid (∀ (pl : Nat) (W : World), pl ≤ s.size → Mut [] w3 W → Calls Try.prog 10 #[.slice pL L.length cL, .int .i64 (pl : Int)] W fun e w' => e = .returned (.int .i64 (atL L pl : Nat)) ∧ Mut [] W w') :=
          Lib.hid fun pl W hpl m => by
            have := at_any L hsq (by omega) (pl : Int) _ W (HS3.out.lines.mut m (by simp))
            rw [atL_ok L hsq h0] at this
            exact this
        clear m3 c0 c1 HS
        have HB3 := Lib.hid hb3
        have hp2 : p ≤ s.size := by omega
        have hd0 : ∀ v : WIn (Mut [] w3), v.w.cell? ⟨gS, 0, none⟩ = some (.int .i64 (p : Int)) := fun v => cellOf (v.ok.get HB3.out (by simp)) 0 rfl
        have hd1 : ∀ v : WIn (Mut [] w3), v.w.cell? ⟨gS, 1, none⟩ = some (.int .i64 (q : Int)) := fun v => cellOf (v.ok.get HB3.out (by simp)) 1 rfl
        haveI : Nonempty (WIn (Mut [] w3)) := ⟨⟨w3, Mut.refl _ _⟩⟩
        have HCL : Hid (∀ (pl : Nat) (v : WIn (Mut [] w3)), pl ≤ s.size → Calls Try.prog 10 #[.slice pL L.length cL, .int .i64 (pl : Int)] v.w fun e w' => e = .returned (.int .i64 (atL L pl : Nat)) ∧ ∃ u : WIn (Mut [] w3), w' = u.w) :=
          Lib.hid fun pl v hpl => Calls.inClass v.ok (fun w' m => v.ok.trans' m) (HAT.out pl v.w hpl v.ok)
        clear hb3
        refine wp_region_mut (Mut [] w3) (by kernel_rfl) (by kernel_rfl) ((Mut.refl _ _).drew) ?_
        repeat (go_big_quiet_step ((go_at_call 10; first | exact HCL.out _ _ hp2 | exact HCL.out _ _ hx2)))
        refine wpQuiet_nil ?_
        rintro w4 ⟨v4, hv4⟩
        have hm4 : Mut [] w3 w4 := by rw [hv4]; exact v4.ok
        clear hd0 hd1 HCL hv4 this v4
        have hs4 := HS3.out.mut hm4
        have hb4 := hm4.get HB3.out (by simp)
        have HAT4 : Hid (∀ (pl : Nat), pl ≤ s.size → Calls Try.prog 10 #[.slice pL L.length cL, .int .i64 (pl : Int)] w4 fun e w' => e = .returned (.int .i64 (atL L pl : Nat)) ∧ Mut [] w4 w') :=
          Lib.hid fun pl hpl => HAT.out pl w4 hpl hm4
        have HS4 := Lib.hid hs4
        clear HS3 HAT HB3 hm4 hs4
        obtain ⟨d0, d1, -, -⟩ := cells2 hb4
        have HB4 := Lib.hid hb4
        clear hb4
        obtain ⟨a, ha⟩ : ∃ a, atL L p = a := ⟨_, rfl⟩
        obtain ⟨b, hb⟩ : ∃ b, atL L (if p < q then q - 1 else q) = b := ⟨_, rfl⟩
        rw [ha]
        have hspan : spanL L (X[k]'hlt) = (a, b) := by rw [HPQ.out]; simp only [spanL, ha, hb]
        have hab : a < L.length ∧ b < L.length := by
          have := spanL_lt L (X[k]'hlt) (by omega)
          rw [hspan] at this
          exact this
        have HSPAN := Lib.hid hspan
        clear hspan HPQ ha
        go_upto_region 11 with fail
        obtain ⟨lt, hltq⟩ : ∃ lt : Bool, decide (p < q) = lt := ⟨_, rfl⟩
        have hltI : decide ((p : Int) < (q : Int)) = lt := by rw [← hltq]; simp
        go_upto_if 49 with fail
        go_cut [14] (fun t wx => t = .int .i64 (b : Int) ∧ Mut [] w4 wx)
        case first =>
          cases lt with
          | true =>
            have h1 : p < q := of_decide_eq_true hltq
            have hq1 : wrap64 ((q : Int) - 1) = ((q - 1 : Nat) : Int) := by rw [IntWalk.wrap64_in _ (by omega)]; omega
            rw [if_pos h1] at hb
            have HATb := HAT4.out (q - 1) (by omega)
            have hqe : ((q - 1 : Nat) : Int) = (q : Int) - 1 := by omega
            rw [hb, hqe] at HATb
            have HA := Lib.hid HATb
            clear HATb hltI hltq h1 hb hq1 hqe
            go_wp2_with (refine HA.out.mono ?_; rintro e w5 ⟨rfl, hm5⟩; have HM5 := Lib.hid hm5; clear hm5)
            go_meet
            exact ⟨rfl, HM5.out⟩
          | false =>
            have h1 : ¬ p < q := of_decide_eq_false hltq
            rw [if_neg h1] at hb
            have HBB := Lib.hid hb
            clear hltI hltq h1 hb
            go_wp2_with fail
            go_meet
            exact ⟨by rw [HBB.out], Mut.refl _ _⟩
        case rest =>
          obtain ⟨rfl, hm5⟩ := hcut
          have HS5 := Lib.hid (HS4.out.mut hm5)
          clear HS4 HAT4 hm5 HB4 d0 d1 hltI hltq hb hx1 hx2 hp2
          obtain ⟨I, hI1, hI2⟩ := HS5.out.begs.own a (by rw [HS5.out.lenB]; exact hab.1)
          have haB : a < B.length := by rw [HS5.out.lenB]; exact hab.1
          obtain ⟨⟨pb, lb, cb⟩, hBa⟩ : ∃ x, B[a]'haB = x := ⟨_, rfl⟩
          rw [hBa] at hI1 hI2
          have hbc := HS5.out.begs.row.cell a (by rw [List.length_map]; exact haB)
          rw [List.getElem_map, hBa] at hbc
          obtain ⟨hc0, hf0⟩ := hbc
          simp only [slV] at hI1 hI2 hc0
          have m5 := (Mut.refl [] wc).alloc (.cells #[.int .i64 (k : Int)] 3)
          have hrow := hI1.mut m5 (by simp)
          have hlb : lb ≤ X.length := by
            have := HK.out.le hk (by omega) a haB
            rw [hBa] at this
            exact this
          go_upto_region 13 with fail
          go_wp2_with (at_builtin; (refine wp_appI rfl (.tmp 60) (.tmp 62) rfl hrow rfl (src_one (heap_alloc_new wc _)) rfl ?b1 ?_))
          case b1 => simp; omega
          intro v' w6 r1 m1 f1
          obtain ⟨p', c', hv', hg6, hS6⟩ := HS5.out.grow _ a haB r1 (by rw [List.length_append, hBa, hI2]; rfl) (by rw [hBa]; exact m1) (by rw [hBa]; exact f1)
          rw [hBa] at hv' hS6
          simp only [slV] at hv'
          subst hv'
          obtain ⟨hc6, hf6⟩ := hg6.cell a (by rw [List.length_map]; exact haB)
          rw [List.getElem_map, hBa] at hc6
          simp only [slV] at hc6
          have HS6 := Lib.hid hS6
          have HKN : Hid (∀ x : Sl, x.2.1 = lb + 1 → SelK L X (k + 1) ((setF T (max a d) (b + 1 - max a d)).set a true) (B.set a x) (max d b)) :=
            Lib.hid fun x hx => HK.out.next hlt HSPAN.out haB (by rw [hBa]; exact hx)
          have hdone : d < L.length := (HK.out.ok hk (by omega)).done
          clear hS6 r1 m1 f1 hg6 HS5 hrow m5 hc0 hf0 hI1 HK HSPAN hBa hI2
          go_upto_region 14 with fail
          generalize w6.setCell ⟨gB, a, none⟩ (.slice p' (lb + 1) c') = w7 at *
          have HKN2 := Lib.hid (HKN.out (p', lb + 1, c') rfl)
          clear hc6 hf6 HKN
          generalize B.set a (p', lb + 1, c') = B' at *
          obtain ⟨m, hm⟩ : ∃ m, max a d = m := ⟨_, rfl⟩
          have hmI : max (a : Int) (d : Int) = (m : Int) := by omega
          have hmm : m < L.length := by omega
          rw [hm] at HKN2
          go_upto_region 15 with fail
          have HMM := Lib.hid (And.intro hm hmI)
          have HS7 : Hid (SelI w (.slice pL L.length cL) (.slice (some ⟨gX, 0, none⟩) X.length cX) L X gT gB (setF T m 0) B' w7) := HS6
          clear HS6 hmI hm
          go_loopw [15] (fun c wx => ∃ j i : Nat, c = .int .i64 (i : Int) ∧ m + j = i ∧ j ≤ b + 1 - m ∧ Hid (SelI w (.slice pL L.length cL) (.slice (some ⟨gX, 0, none⟩) X.length cX) L X gT gB (setF T m j) B' wx)) (fun c _ => L.length + 1 - (intOf c).toNat)
          case atStart => exact ⟨0, m, rfl, rfl, Nat.zero_le _, HS7⟩
          case round =>
            obtain ⟨j, i, rfl, hji, hj, HS8⟩ := hrel
            clear HS7
            by_cases hib : i ≤ b
            case pos =>
              have hibI : (i : Int) ≤ (b : Int) := by omega
              have hiL : i < L.length := by omega
              obtain ⟨e0, e1⟩ := HS8.out.tch.cell i (by rw [List.length_map, HS8.out.lenT]; exact hiL)
              rw [List.getElem_map] at e0
              obtain ⟨tv, e2⟩ : ∃ tv, wr.cell? ⟨gT, i, none⟩ = some (.bool tv) := ⟨_, e0⟩
              clear e0
              have hiI : (i : Int) < (L.length : Int) := by omega
              have HS9 : Hid (SelI w (.slice pL L.length cL) (.slice (some ⟨gX, 0, none⟩) X.length cX) L X gT gB (setF T m (j + 1)) B' (wr.setCell ⟨gT, i, none⟩ (.bool true))) := Lib.hid (by
                have := HS8.out.touch i
                rw [← hji] at this ⊢
                exact this)
              have hw1 : wrap64 ((i : Int) + 1) = ((i + 1 : Nat) : Int) := by rw [IntWalk.wrap64_in _ (by omega)]; omega
              have HJI := Lib.hid hji
              clear HS8 hji hw1
              go_wp2_with fail
              have hji := HJI.out
              exact ⟨⟨j + 1, i + 1, by rw [Int.natCast_add]; rfl, by omega, by omega, HS9⟩, by simp only [intOf]; omega⟩
            case neg =>
              have hibI : ¬ (i : Int) ≤ (b : Int) := by omega
              have hje : b + 1 - m = j := by omega
              rw [hje] at HKN2
              have haL := hab.1
              obtain ⟨e0, e1⟩ := HS8.out.tch.cell a (by rw [List.length_map, HS8.out.lenT]; exact haL)
              rw [List.getElem_map] at e0
              obtain ⟨tv, e2⟩ : ∃ tv, wr.cell? ⟨gT, a, none⟩ = some (.bool tv) := ⟨_, e0⟩
              clear e0
              have haI : (a : Int) < (L.length : Int) := by omega
              have HS9 := Lib.hid (HS8.out.touch a)
              obtain ⟨d', hd'⟩ : ∃ d', max d b = d' := ⟨_, rfl⟩
              have hdI : max (d : Int) (b : Int) = (d' : Int) := by omega
              rw [hd'] at HKN2
              have hw1 : wrap64 ((k : Int) + 1) = ((k + 1 : Nat) : Int) := by rw [IntWalk.wrap64_in _ (by omega)]; omega
              have hdl : d' ≤ L.length := by omega
              clear HS8 hje hd' hw1 hji
              go_wp2_with fail
              exact ⟨⟨k + 1, d', _, _, rfl, by rw [Int.natCast_add]; rfl, hlt, HS9, HKN2, hdl⟩, by simp only [intOf]; omega⟩
      case neg =>
        have hI : ¬ (k : Int) < (X.length : Int) := by omega
        obtain rfl : k = X.length := by omega
        have hsel : (T, B.map (fun x => x.2.1), d) = selAll L X := by
          have := HK.out
          unfold SelK at this
          rw [List.take_length] at this
          exact this
        have HSEL := Lib.hid hsel
        clear HK hsel HX
        have HG0 : Hid (LineG w (.slice none 0 0) [] wr) := Lib.hid ⟨World.ownsRow_nil _ _ _ _, by simp [Value.ownBlock]⟩
        have HR0 : Hid (([] : List LineV).map lnStrip = selN inv L (T, B.map (fun x => x.2.1), d) 0) := Lib.hid rfl
        have HS0 := HS
        go_wp2_with fail
        go_loopw [16, 85] (fun a b wx => ∃ (k : Nat) (R : List LineV) (p : Option Addr) (c : Nat), a = .slice p R.length c ∧ b = .int .i64 (k : Int) ∧ k ≤ L.length ∧ Hid (SelI w (.slice pL L.length cL) (.slice pX X.length cX) L X gT gB T B wx) ∧ Hid (LineG w (.slice p R.length c) R wx) ∧ Hid (R.map lnStrip = selN inv L (T, B.map (fun x => x.2.1), d) k)) (fun a b _ => L.length - (intOf b).toNat)
        case atStart => exact ⟨0, [], none, 0, rfl, rfl, Nat.zero_le _, HS0, HG0, HR0⟩
        case round =>
          obtain ⟨k, R, pR, cR, rfl, rfl, hkL, HS1, HG, HR⟩ := hrel
          clear HS HS0 HG0 HR0 hlt hI hk
          by_cases hlt : k < L.length
          case neg =>
            have hI : ¬ (k : Int) < (L.length : Int) := by omega
            obtain rfl : k = L.length := by omega
            go_wp2_with fail
            refine bodyPost_ret (results_tmp rfl _ _ _) rfl ?_
            exact ⟨.slice pR R.length cR, R, rfl, HG.out, by rw [← HSEL.out]; exact HR.out, HS1.out.kept⟩
          case pos =>
            have hI : (k : Int) < (L.length : Int) := by omega
            obtain ⟨gL, cL', hvL, -, -⟩ := row_some HS1.out.lines (by omega)
            simp only [Value.slice.injEq] at hvL
            obtain ⟨rfl, -, rfl⟩ := hvL
            obtain ⟨c0, c1⟩ := HS1.out.lines.cells k hlt
            rw [Nat.mul_comm] at c0 c1
            obtain ⟨⟨p, q⟩, hpq⟩ : ∃ x, L[k]'hlt = x := ⟨_, rfl⟩
            rw [hpq] at c0 c1
            simp only at c0 c1
            have HPQ := Lib.hid hpq
            clear hpq
            go_upto_region 25 with fail
            have m3 : Mut [] wr (wr.alloc (.cells #[.int .i64 (p : Int), .int .i64 (q : Int)] 31)) := (Mut.refl [] wr).alloc _
            have hb3 := heap_alloc_new' wr (.cells #[.int .i64 (p : Int), .int .i64 (q : Int)] 31)
            have HS3 := Lib.hid (HS1.out.mut m3)
            have HG3 := Lib.hid (HG.out.mut m3)
            generalize wr.alloc (.cells #[.int .i64 (p : Int), .int .i64 (q : Int)] 31) = w3 at *
            generalize wr.heap.size = gS at *
            clear HS1 HG c0 c1 m3
            have hkT : k < T.length := by rw [HS3.out.lenT]; exact hlt
            have hkB : k < B.length := by rw [HS3.out.lenB]; exact hlt
            obtain ⟨t0, -⟩ := HS3.out.tch.cell k (by rw [List.length_map]; exact hkT)
            rw [List.getElem_map] at t0
            obtain ⟨b0, -⟩ := HS3.out.begs.row.cell k (by rw [List.length_map]; exact hkB)
            rw [List.getElem_map] at b0
            obtain ⟨tv, htv⟩ : ∃ tv, T[k]'hkT = tv := ⟨_, rfl⟩
            obtain ⟨⟨pb, lb, cb⟩, hbv⟩ : ∃ x, B[k]'hkB = x := ⟨_, rfl⟩
            rw [htv] at t0
            rw [hbv] at b0
            simp only [slV] at b0
            have hstep : selN inv L (T, B.map (fun x => x.2.1), d) (k + 1) = selN inv L (T, B.map (fun x => x.2.1), d) k ++ (if (tv != inv) = true then [(k + 1, (p, q), lb)] else []) := by
              rw [selN]
              have e1 : T.getD k false = tv := by rw [List.getD_eq_getElem?_getD, List.getElem?_eq_getElem hkT, htv]; rfl
              have e2 : L.getD k (0, 0) = (p, q) := by rw [List.getD_eq_getElem?_getD, List.getElem?_eq_getElem hlt, HPQ.out]; rfl
              have e3 : (B.map (fun x => x.2.1)).getD k 0 = lb := by rw [List.getD_eq_getElem?_getD, List.getElem?_map, List.getElem?_eq_getElem hkB, hbv]; rfl
              simp only [e1, e2, e3]
            rw [← HR.out] at hstep
            have HB3 := Lib.hid hb3
            have hRk : R.length ≤ k := by
              have := selN_len inv L (T, B.map (fun x => x.2.1), d) k
              rw [← HR.out, List.length_map] at this
              exact this
            have hw1 : wrap64 ((k : Int) + 1) = ((k + 1 : Nat) : Int) := by rw [IntWalk.wrap64_in _ (by omega)]; omega
            clear hbv htv HR HPQ hb3
            obtain ⟨qb, hq⟩ : ∃ q, (tv != inv) = q := ⟨_, rfl⟩
            rw [hq] at hstep
            have HSTEP := Lib.hid hstep
            have HQ := Lib.hid hq
            clear hstep hq
            go_cut [95] (fun t wx => wx = w3 ∧ t = .bool qb)
            case first =>
              have hq := HQ.out
              cases tv <;> cases inv <;> (subst hq; clear HQ HSTEP; go_wp2_with fail; go_meet; exact ⟨rfl, rfl⟩)
            case rest =>
            obtain ⟨hwc, rfl⟩ := hcut
            obtain rfl := hwc.symm
            have hstep := HSTEP.out
            clear HSTEP HQ t0
            cases qb with
            | false =>
              rw [if_neg (by simp), List.append_nil] at hstep
              have HR2 := Lib.hid hstep.symm
              clear hstep b0
              go_wp2_with fail
              exact ⟨⟨k + 1, R, pR, cR, rfl, by rw [Int.natCast_add]; rfl, hlt, HS3, HG3, HR2⟩, by simp only [intOf]; omega⟩
            | true =>
              rw [if_pos rfl] at hstep
              have HR2 : Hid ((R ++ [((k + 1, (p, q), (pb, lb, cb)) : LineV)]).map lnStrip = selN inv L (T, B.map (fun x => x.2.1), d) (k + 1)) := Lib.hid (by rw [hstep, List.map_append]; rfl)
              clear hstep
              go_upto_region 26 with fail
              obtain ⟨c0, c1⟩ : w3.cell? ⟨gS, 0, none⟩ = some (.int .i64 (p : Int)) ∧ w3.cell? ⟨gS, 1, none⟩ = some (.int .i64 (q : Int)) := ⟨cellOf HB3.out 0 rfl, cellOf HB3.out 1 rfl⟩
              have B0 := Lib.hid b0
              have r0 : ∀ v : WIn (Mut [] w3), v.w.cell? ⟨gS, 0, none⟩ = some (.int .i64 (p : Int)) := fun v => v.ok.cell c0 (by simp)
              have r1 : ∀ v : WIn (Mut [] w3), v.w.cell? ⟨gS, 1, none⟩ = some (.int .i64 (q : Int)) := fun v => v.ok.cell c1 (by simp)
              have r2 : ∀ v : WIn (Mut [] w3), v.w.cell? ⟨gB, k, none⟩ = some (.slice pb lb cb) := fun v => v.ok.cell B0.out (by simp)
              have HW1 := Lib.hid hw1
              haveI : Nonempty (WIn (Mut [] w3)) := ⟨⟨w3, Mut.refl _ _⟩⟩
              clear hwc b0 c0 c1 hw1
              refine wp_region_mix (fun w' => ∃ v : WIn (Mut [] w3), w' = v.w) 10 2 [] [0, 1, 2, 3, 4, 5, 6, 7] [8, 9, 10, 11]
                (fun l => []) (fun l => l.take 8) (fun l => l.drop 8) rfl rfl rfl (by kernel_rfl) (by kernel_rfl) (by kernel_rfl) (by kernel_rfl) (fun _ _ _ _ _ h => h) ⟨⟨w3.drew, (Mut.refl _ _).drew⟩, rfl⟩ ?_
              simp only [List.take_succ_cons, List.take_zero, List.drop_succ_cons, List.drop_zero]
              refine wpQuiet_nil ?_
              repeat (go_big_quiet_step (fail))
              refine wpQuiet_nil ?_
              intro K hK
              go_simp
              refine hK _ _ (fun _ => ⟨⟨w3.drew, (Mut.refl _ _).drew⟩, rfl⟩) ?_
              clear hK K
              intro K hK
              go_simp
              have hm0 : Mut [] w3 (w3.alloc (.cells #[.int .i64 ((k : Int) + 1), .int .i64 (p : Int), .int .i64 (q : Int), .slice pb lb cb] 39)).drew := ((Mut.refl [] w3).alloc _).drew
              have hnew : (w3.alloc (.cells #[.int .i64 ((k : Int) + 1), .int .i64 (p : Int), .int .i64 (q : Int), .slice pb lb cb] 39)).drew.heap[w3.heap.size]? = some (.cells #[.int .i64 ((k : Int) + 1), .int .i64 (p : Int), .int .i64 (q : Int), .slice pb lb cb] 39 (0, 0)) := heap_alloc_new w3 _
              refine hK _ _ (fun _ => ⟨⟨_, hm0⟩, rfl⟩) ?_
              clear hK K r0 r1 r2 this
              intro K hK
              obtain ⟨i0, hi, hz0, hz1, hz2⟩ := info_parts info_line
              refine step_append rfl (.tmp 96) (.tmp 105) 35 35 rfl 39 i0 (.agg #[.int .i64 0, .int .i64 0, .int .i64 0, .slice none 0 0]) 4 48 Try.underlying35 hi hz0 hz1 hz2 rfl (HG3.out.mut hm0).row rfl (src1 Try.underlying35 hnew rfl (ln_one (k + 1, (p, q), (pb, lb, cb)))) rfl (by unfold maxLen; omega) (by omega) ?_
              intro v' w' r1 r2 r3
              have hrow : LRow w' v' (R ++ [(k + 1, (p, q), (pb, lb, cb))]) := by
                unfold LRow
                rw [List.length_append, lnCells_snoc]
                exact r1
              obtain ⟨p', c', e⟩ := hrow.form
              subst e
              have hm1 := (Mut.refl (Value.slice pR R.length cR).ownBlock.toList _).grown r2 (by intro g hg; simp [hg])
              have hsel := (HS3.out.mut hm0).lines' hm1 (fun b hb => by
                have hb' : (Value.slice pR R.length cR).ownBlock = some b := by simpa using hb
                exact ⟨HG3.out.fresh b hb', (HG3.out.mut hm0).row.blk hb'⟩)
              have hlg : LineG w (.slice p' (R ++ [((k + 1, (p, q), (pb, lb, cb)) : LineV)]).length c') (R ++ [(k + 1, (p, q), (pb, lb, cb))]) w' := ⟨hrow, fun g hg => by
                rcases r3 g hg with h | h
                · exact HG3.out.fresh g h
                · have h1 := hm0.size
                  have h2 := HS3.out.kept.size
                  omega⟩
              have HSEL2 := Lib.hid hsel
              have HLG := Lib.hid hlg
              clear r1 r2 r3 hrow hm1 hsel hlg hm0 hnew hi hz0 hz1 hz2
              refine hK _ _ (fun h => absurd h (by decide)) ?_
              clear hK K
              intro K hK
              go_simp
              refine hK _ _ (fun h => absurd h (by decide)) ?_
              clear hK K
              rw [List.length_append] at HLG
              unfold wpMov
              go_wp2_with fail
              exact ⟨⟨k + 1, R ++ [(k + 1, (p, q), (pb, lb, cb))], p', c', by rw [List.length_append]; rfl, by rw [Int.natCast_add]; rfl, hlt, HSEL2, by rw [List.length_append]; exact HLG, HR2⟩, by simp only [intOf]; omega⟩

end Go.Proofs.Ythnljhcncpiemaa
