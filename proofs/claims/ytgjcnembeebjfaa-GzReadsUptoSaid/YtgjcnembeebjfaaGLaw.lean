/- What every law's proof ends with: the law returns true, nothing that was there has turned. Rows of numbers: of the call's own, and that came in; appended, read. A row of ints that was just made, written place by place. -/
import Derived.Test.YtgjcnembeebjfaaBase
import Derived.ProofKit
import Derived.OpenShut
import Derived.ShutString
import Derived.JoinedCond
import Derived.SizedLaws
import Derived.ChangeSlices
import Derived.Deep.RegionLaw
import Derived.BigQuiet

namespace Go.Proofs.Ytgjcnembeebjfaa
open Go.ChangeShapes Go.WideShapes Go.ChangeAt Go.RowKit

theorem laidOut : laidOutB Try.prog = true := by kernel_rfl
theorem own : ownKnob Try.prog.godebug = none := by kernel_rfl

theorem trodAll_stays {H : Type} {enc : TypeId × Value → H} {P : Program} {base : Nat} (hl : laidOutB P = true) {W W' : World} {sp' : Nat → Bool} : ∀ (ts : List TypeId) (vs : List Value) (ds : List (DataW H)) (ps : List MemPlace),
    (∀ t ∈ ts, P.readableRec t = true ∧ t < P.types.size) → DataW.TrodAll enc P W base (fun _ => true) true ts vs ds ps → (∀ p ∈ ps, W.sameAt W' p) → (∀ p ∈ ps, sp' p.block = true) → DataW.TrodAll enc P W' base sp' true ts vs ds ps
  | [], [], [], ps, _, h, _, _ => h
  | t :: ts, v :: vs, d :: ds, ps, hr, h, hs, hb => by
    obtain ⟨p, q, h1, h2, rfl⟩ := h
    exact ⟨p, q, WideElems.Trod_stays hl (hr t (by simp)).1 (hr t (by simp)).2 h1 (fun x hx => hs x (by simp [hx])) (fun x hx => hb x (by simp [hx])),
      trodAll_stays hl ts vs ds q (fun u hu => hr u (by simp [hu])) h2 (fun x hx => hs x (by simp [hx])) (fun x hx => hb x (by simp [hx])), rfl⟩

/-- THE END: what a law's statement asks behind the call. -/
theorem law_post {H : Type} {enc : TypeId × Value → H} {P : Program} (hl : laidOutB P = true) {f : Func} {s : ChangeSpec} {tb : TypeId} {apart fresh handsOn again : Bool} {W W' : World} {args : Array Value} {ds gs : List (DataW H)} {before : List MemPlace}
    (hvars : s.vars = []) (hres : f.resultTypes = #[tb]) (hb : P.underlying tb = some .bool) (hra : (f.params.toList.all fun t => P.readableRec t && decide (t < P.types.size)) = true)
    (hfn : (s.fn H (ds ++ gs)) = { results := [.lit (.bool true)], args := ds }) (hW : DataW.Whole enc P f.params.toList s.vars apart W args.toList ds gs before) (hbel : Below W.heap.size W W') :
    s.post enc P f apart fresh handsOn again W args (.bool true) W' := by
  have hr : ∀ t ∈ f.params.toList, P.readableRec t = true ∧ t < P.types.size := fun t ht => by
    have := List.all_eq_true.1 hra t ht
    simpa using this
  have hlt : ∀ p ∈ before, p.block < W.heap.size := fun p hp => hW.lt p hp
  obtain ⟨p, q, hA, hV, hpq, hz, hn⟩ := id hW
  have hq : q = [] ∧ gs = [] := by
    rw [hvars] at hV
    cases gs with
    | nil => exact ⟨hV, rfl⟩
    | cons _ _ => exact hV.elim
  obtain ⟨rfl, rfl⟩ := hq
  simp only [List.append_nil] at hpq
  subst hpq
  have hargs : ∀ sp : Nat → Bool, (∀ x ∈ before, sp x.block = true) → DataW.TrodAll enc P W' 0 sp true f.params.toList args.toList ds before := fun sp hsp =>
    trodAll_stays hl _ _ _ _ hr hA (fun x hx => hbel.same (hlt x hx)) hsp
  have hfz : ∀ a : Addr, a.block < W.heap.size → W'.frozen? a = W.frozen? a := fun a ha => hbel.frozen ha
  have hresT : ∀ (b : Nat) (sp : Nat → Bool) (hd : Bool), DataW.TrodAll enc P W' b sp hd f.resultTypes.toList ((Value.bool true).resultList f.resultTypes.size) (s.fn H (ds ++ [])).results [] := by
    intro b sp hd
    rw [hfn, hres]
    exact trodAll_cons_mk (shut_bool hb _) trodAll_mk0
  have hold : ∀ x ∈ before, (fun b => decide (b < W.heap.size)) x.block = true := fun x hx => by simpa using hlt x hx
  have ha' : ∀ sp : Nat → Bool, (∀ x ∈ before, sp x.block = true) → DataW.TrodAll enc P W' 0 sp true f.params.toList args.toList (s.fn H (ds ++ [])).args before := fun sp hsp => by
    rw [hfn]; exact hargs sp hsp
  have hv' : ∀ sp : Nat → Bool, DataW.TrodVars enc P W' sp s.vars (s.fn H (ds ++ [])).vars [] := fun sp => by
    rw [hfn, hvars]; rfl
  refine ⟨ds, [], before, [], before, [], hW, hresT _ _ _, ha' _ hold, hv' _, World.keptBut_mono (fun x hx => ⟨hx, Or.inr (by simpa using hx)⟩) (hbel.frame (· ∈ before)), fun _ => ?_⟩
  refine ⟨?_, _, _, ([] ++ before) ++ [], ⟨[] ++ before, [], trodAll_append (ha' _ (fun _ _ => rfl)) (hresT _ _ _), hv' _, rfl, ?_, ?_⟩, ?_⟩
  · exact ok_one hres rfl (okWide_bool_mk hb _)
  · intro b off hp
    simp only [List.nil_append, List.append_nil] at hp
    have := hz b off hp
    rw [hfz ⟨b, off, none⟩ (hlt _ hp)]
    exact this
  · intro ha
    simpa using hn ha
  · intro x hx
    simp at hx
    simp [hx]

/-- A slice of integers that came in, read. -/
def Ints (k : IntKind) (w : World) (v : Value) (xs : List Int) : Prop :=
  ∃ ao cap, v = .slice ao xs.length cap ∧ xs.length ≤ cap ∧ cap ≤ maxLen ∧ (0 < xs.length → ∃ b off, ao = some ⟨b, off, none⟩ ∧ b < w.heap.size ∧ ∀ i, i < xs.length → w.cell? ⟨b, off + i, none⟩ = some (.int k (xs.getD i 0))) ∧
    (∀ x ∈ xs, (Lit.int k x).wf = true)

/-- how many values its datum holds, at least -/
def dataLen {H : Type} : DataW H → Nat
  | .slice elems _ => elems.length
  | .lit (.string s) => s.length
  | _ => 0

theorem dataLen_le {H : Type} (d : DataW H) : dataLen d ≤ Rows.uptoBulk d := by
  cases d with
  | slice elems spare =>
    have h : ∀ l : List (DataW H), l.length ≤ Rows.uptoBulkAll l := by
      intro l
      induction l with
      | nil => simp
      | cons x r ih =>
        have h1 : 1 ≤ Rows.uptoBulk x := by
          cases x with
          | lit l => cases l <;> simp [Rows.uptoBulk]
          | _ => simp [Rows.uptoBulk]
        simp only [Rows.uptoBulkAll, List.length_cons]
        omega
    have := h elems
    simp only [dataLen, Rows.uptoBulk]
    omega
  | lit l => cases l <;> simp [dataLen, Rows.uptoBulk]
  | _ => simp [dataLen]

theorem open_Ints {H : Type} {enc : TypeId × Value → H} {P : Program} {W : World} {r : Reach} {b0 : Nat} {t e : TypeId} {k : IntKind} {v : Value} {d : DataW H} {p : List MemPlace} (ht : P.underlying t = some (.slice e)) (he : P.underlying e = some (.int k)) (hc : P.cellsOf e = 1)
    (hv : Value.okWide P W r b0 t v) (h : DataW.Trod enc P W 0 (fun _ => true) true t v d p) : ∃ xs, Ints k W v xs ∧ xs.length = dataLen d := by
  obtain ⟨a0, len0, cap0, rfl⟩ := okWide_slice ht hv
  obtain ⟨fuel, hf⟩ := h
  rcases open_ints ht he hc hf with ⟨hcs, hx⟩ | ⟨a, len, cap, zq, hcs, _, hl, hm, hz, hx, hcell, hwz⟩
  · simp [Value.cells] at hcs
    obtain ⟨rfl, rfl, rfl⟩ := hcs
    simp only [Prod.mk.injEq] at hx
    obtain ⟨rfl, _⟩ := hx
    exact ⟨[], ⟨none, 0, rfl, Nat.le_refl _, Nat.zero_le _, fun h => absurd h (by simp), by simp⟩, rfl⟩
  · simp [Value.cells] at hcs
    obtain ⟨rfl, rfl, rfl⟩ := hcs
    simp only [Prod.mk.injEq] at hx
    obtain ⟨rfl, _⟩ := hx
    simp only [if_true] at hz
    have hlen : (zq.take len0).length = len0 := by rw [List.length_take]; omega
    refine ⟨zq.take len0, ⟨some a, cap0, by rw [hlen], by omega, hm, fun hp => ?_, fun x hx => hwz x (List.mem_of_mem_take hx)⟩, ?_⟩
    · obtain ⟨b, off, rfl, hcc⟩ := ints_at hcell (by omega)
      refine ⟨b, off, rfl, World.block_lt_of_cell? W ⟨b, off, none⟩ (by simpa using hcc 0 (by omega)), fun i hi => ?_⟩
      rw [hcc i (by omega)]
      simp [List.getD, show i < len0 by omega]
    · simp [dataLen, lits]

end Go.Proofs.Ytgjcnembeebjfaa

namespace Go.Proofs.Ytgjcnembeebjfaa
open Go.RowKit

theorem info_intI : (Try.prog.info? 3).map (fun i => (i.zero, i.size, i.bytes)) = some (some (.int .i64 0), 1, 8) := by kernel_rfl

/-- a row of ints of the call's own -/
def IRow (w : World) (v : Value) (L : List Int) : Prop := w.ownsRow 0 3 1 v L.length (L.map (Value.int .i64))

theorem IRow.mut {w w' : World} {v : Value} {L : List Int} {S : List Nat} (h : IRow w v L) (hm : Mut S w w') (hs : ∀ g, v.ownBlock = some g → g ∉ S) : IRow w' v L := hm.row h hs
theorem IRow.nil (w : World) : IRow w (.slice none 0 0) [] := World.ownsRow_nil _ _ _ _
theorem IRow.lt {w : World} {v : Value} {L : List Int} (h : IRow w v L) {g : Nat} (hg : v.ownBlock = some g) : g < w.heap.size := by
  rcases h.2 with ⟨rfl, _⟩ | ⟨b, cap, cur, rfl, _, hh, _⟩
  · simp [Value.ownBlock] at hg
  · simp [Value.ownBlock] at hg
    subst hg
    exact lt_of_heap hh

/-- a row of numbers, read -/
theorem IRow.at {w : World} {v : Value} {L : List Int} (h : IRow w v L) (hL : 0 < L.length) : ∃ g cap, v = .slice (some ⟨g, 0, none⟩) L.length cap ∧ ∀ w', Mut [] w w' → ∀ i, i < L.length → w'.cell? ⟨g, i, none⟩ = some (.int .i64 (L.getD i 0)) := by
  obtain ⟨g, cap, rfl, -, -⟩ := row_some h hL
  refine ⟨g, cap, rfl, fun w' hm i hi => ?_⟩
  have := (h.mut hm (fun g _ => by simp)).cellAt i (by omega)
  simpa [List.getD, hi] using this

/-- a row of numbers, as the walk reads it -/
theorem IRow.read {w : World} {v : Value} {L : List Int} (h : IRow w v L) : ∃ p cap, v = .slice p L.length cap ∧ ∀ w', Mut [] w w' → ∀ i, i < L.length → ∃ a : Addr, p = some a ∧ w'.cell? (a.add i) = some (.int .i64 (L.getD i 0)) := by
  rcases h.2 with ⟨rfl, e⟩ | ⟨g, cap, cur, rfl, _, hh, _⟩
  · exact ⟨none, 0, by rw [e], fun w' _ i hi => by omega⟩
  · refine ⟨_, cap, rfl, fun w' hm i hi => ⟨_, rfl, ?_⟩⟩
    have := (h.mut hm (fun g _ => by simp)).cellAt i (by omega)
    rw [Addr.add_lit]
    simpa [List.getD, hi] using this

theorem IRow.form {w : World} {v : Value} {L : List Int} (h : IRow w v L) : ∃ p l c, v = .slice p l c := by
  rcases h.2 with ⟨rfl, _⟩ | ⟨b, cap, cur, rfl, _⟩
  · exact ⟨_, _, _, rfl⟩
  · exact ⟨_, _, _, rfl⟩

theorem IRow.empty (w : World) : IRow (w.alloc (.cells #[] 3)) (.slice (some ⟨w.heap.size, 0, none⟩) 0 0) [] :=
  ⟨rfl, .inr ⟨w.heap.size, 0, #[], rfl, Nat.zero_le _, heap_alloc_new w _, Nat.le_refl _, by decide, rfl, rfl⟩⟩

/-- what an append of a row has laid -/
theorem IRow.of_app {w' : World} {v' : Value} {L : List Int} (h : w'.ownsRow 0 3 1 v' (0 + L.length) ([] ++ L.map (Value.int .i64))) : IRow w' v' L := by
  unfold IRow
  rw [Nat.zero_add, List.nil_append] at h
  exact h

/-- a row of the call's own, as an append's source -/
theorem IRow.src {w0 w : World} {v : Value} {xs : List Int} (h : IRow w0 v xs) (m : Mut [] w0 w) : Src Try.prog 1 88 v xs.length (xs.map (Value.int .i64)) w := by
  have h' := h.mut m (fun g _ => by simp)
  rcases h'.2 with ⟨rfl, e⟩ | ⟨g, cap, cur, rfl, _, hh, _⟩
  · have : xs = [] := List.eq_nil_of_length_eq_zero e
    subst this
    exact Src.ofNil w Try.underlying88 0
  · refine Src.ofSlice w Try.underlying88 ⟨g, 0, none⟩ xs.length cap _ (by simp) (fun j u hu => ?_) (fun u hu => ?_)
    · by_cases hj : j < xs.length
      · rw [Addr.add_lit]
        have := h'.cellAt j (by omega)
        rw [Nat.zero_add, this]
        exact hu
      · rw [List.getElem?_eq_none (by rw [List.length_map]; omega)] at hu
        simp at hu
    · obtain ⟨z, _, rfl⟩ := List.mem_map.1 hu
      rfl

/-- a row that came in, as an append's source -/
theorem Ints.src {w0 w : World} {v : Value} {xs : List Int} (h : Ints .i64 w0 v xs) (m : Mut [] w0 w) : Src Try.prog 1 88 v xs.length (xs.map (Value.int .i64)) w := by
  obtain ⟨ao, cap, rfl, h1, h2, h3, -⟩ := h
  cases ao with
  | none =>
    have : xs = [] := by
      cases xs with
      | nil => rfl
      | cons x r => obtain ⟨b, off, hb, _⟩ := h3 (by simp); simp at hb
    subst this
    exact Src.ofNil w Try.underlying88 cap
  | some a =>
    refine Src.ofSlice w Try.underlying88 a xs.length cap _ (by simp) (fun j u hu => ?_) (fun u hu => ?_)
    · by_cases hj : j < xs.length
      · obtain ⟨b, off, hb, hlt, hc⟩ := h3 (by omega)
        simp at hb
        subst hb
        rw [Addr.add_lit]
        refine m.cell (by rw [hc j hj]; simp [hj] at hu; simp [List.getD, hj, hu]) (by simp)
      · rw [List.getElem?_eq_none (by rw [List.length_map]; omega)] at hu
        simp at hu
    · obtain ⟨z, _, rfl⟩ := List.mem_map.1 hu
      rfl

/-- a row that came in, as the walk reads it -/
theorem Ints.read {w0 : World} {v : Value} {xs : List Int} (h : Ints .i64 w0 v xs) : ∃ p cap, v = .slice p xs.length cap ∧ ∀ w', Mut [] w0 w' → ∀ i, i < xs.length → ∃ a : Addr, p = some a ∧ w'.cell? (a.add i) = some (.int .i64 (xs.getD i 0)) := by
  obtain ⟨ao, cap, rfl, h1, h2, h3, -⟩ := h
  refine ⟨ao, cap, rfl, fun w' m i hi => ?_⟩
  obtain ⟨b, off, rfl, hlt, hc⟩ := h3 (by omega)
  refine ⟨_, rfl, ?_⟩
  rw [Addr.add_lit]
  exact m.cell (hc i hi) (by simp)

theorem Ints.wf {w0 : World} {v : Value} {xs : List Int} (h : Ints .i64 w0 v xs) : ∀ x ∈ xs, (Lit.int .i64 x).wf = true := by
  obtain ⟨ao, cap, rfl, h1, h2, h3, h4⟩ := h
  exact h4

theorem Mut.then0 {S : List Nat} {a b c : World} (h : Mut S a b) (k : Mut [] b c) : Mut S a c := h.trans k (by simp)

theorem fresh_drew (W : World) : ∀ g, (Value.slice (some ⟨W.drew.heap.size, 0, none⟩) 0 0).ownBlock = some g → W.heap.size ≤ g := by
  intro g hg
  simp [Value.ownBlock] at hg
  subst hg
  exact Nat.le_refl W.heap.size

/-- an append of a row, as a step of a region that draws -/
theorem step_app {ops : Array Oper} {o : Oper} {a : Act} {w w0 : World} {K : Act → World → Prop} {Q' : Exit → Act → World → Prop} {E : Prop} (hw : Region.wanted o (yielded ops a.tmps) = true) (s x : Operand)
    (ho : o.op = .call { callee := .builtin .append, args := #[s, x], argTypes := #[88, 88] }) {r v : Value} {R xs : List Int}
    (hs : a.eval s = r) (hx : a.eval x = v) (hr : IRow w r R) (hv : Src Try.prog 1 88 v xs.length (xs.map (Value.int .i64)) w) (m : Mut [] w0 w) (hf : ∀ g, r.ownBlock = some g → w0.heap.size ≤ g) (hl : R.length + xs.length ≤ 1099511627776)
    (hK : ∀ v' w', IRow w' v' (R ++ xs) → Mut [] w0 w' → (∀ g, v'.ownBlock = some g → w0.heap.size ≤ g) → K (a.put o.dst v') w') :
    if Region.wanted o (yielded ops a.tmps) = true then Oper.wp Try.prog o a w K Q' else E := by
  rw [if_pos hw]
  obtain ⟨i0, hi, hz0, hz1, hz2⟩ := info_parts info_intI
  obtain ⟨v', w', hrun, r1, r2, r3⟩ := run_app (P := Try.prog) w 88 88 o.type 3 i0 (.int .i64 0) 1 8 Try.underlying88 hi hz0 hz1 hz2 rfl r R.length _ hr _ _ _ hv (by unfold maxLen; omega) (by omega)
  unfold Oper.wp
  simp [execOp, ho, resolve, invoke, builtin, hs, hx, hrun, Result.andThen]
  have hm : Mut r.ownBlock.toList w w' := (Mut.refl _ w).grown r2 (fun k hk => .inl (by simp [hk]))
  refine hK v' w' ?_ (m.trans hm (fun y hy => .inr (hf y (by simpa using hy)))) (fun g hg => ?_)
  · unfold IRow
    rw [List.length_append, List.map_append]
    exact r1
  · rcases r3 g hg with h | h
    · exact hf g h
    · have := m.size
      omega

/-- an append of a row to a row of the call's own, in a plain statement -/
theorem wp_appI {w : World} {ops : Array Oper} {rest : List Oper} {o : Oper} {a : Act} {Q : Exit → Act → World → Prop} (hg : o.guard = none) (s x : Operand)
    (ho : o.op = .call { callee := .builtin .append, args := #[s, x], argTypes := #[88, 88] }) {r v : Value} {R xs : List Int}
    (hr : IRow w r R) (hs : a.eval s = r) (hv : Src Try.prog 1 88 v xs.length (xs.map (Value.int .i64)) w) (hx : a.eval x = v) (hl : R.length + xs.length ≤ 1099511627776)
    (hK : ∀ v' w', IRow w' v' (R ++ xs) → Mut r.ownBlock.toList w w' → (∀ g, v'.ownBlock = some g → r.ownBlock = some g ∨ w.heap.size ≤ g) → wpList Try.prog ops Q rest (a.put o.dst v') w') :
    wpList Try.prog ops Q (o :: rest) a w := by
  obtain ⟨i0, hi, hz0, hz1, hz2⟩ := info_parts info_intI
  refine wp_app hg s x 88 88 ho 3 i0 (.int .i64 0) 1 8 Try.underlying88 hi hz0 hz1 hz2 rfl hr hs hv hx (by unfold maxLen; omega) (by omega) ?_
  intro v' w' h1 h2 h3
  refine hK v' w' ?_ ((Mut.refl _ w).grown h2 (fun k hk => .inl (by simp [hk]))) h3
  unfold IRow
  rw [List.length_append, List.map_append]
  exact h1

/-- one number, just laid, as an append's source -/
theorem src_one {w : World} {g : Nat} {x : Int} (h : w.heap[g]? = some (.cells #[.int .i64 x] 3 (0, 0))) : Src Try.prog 1 88 (.slice (some ⟨g, 0, none⟩) 1 1) ([x] : List Int).length (([x] : List Int).map (Value.int .i64)) w :=
  Src.ofSlice w Try.underlying88 ⟨g, 0, none⟩ 1 1 _ rfl (news1 h) (one1 rfl)

end Go.Proofs.Ytgjcnembeebjfaa

namespace Go.Proofs.Ytgjcnembeebjfaa
open Go.RowKit

/-- a made row at block g -/
structure RowAt (w0 wx : World) (g n : Nat) (L : List Int) : Prop where
  row : wx.ownsRow 0 3 1 (.slice (some ⟨g, 0, none⟩) n n) n (L.map (Value.int .i64))
  kept : Mut [] w0 wx
  fresh : w0.heap.size ≤ g

theorem RowAt.len {w0 wx : World} {g n : Nat} {L : List Int} (h : RowAt w0 wx g n L) : L.length = n := by
  have := h.row.1
  simpa using this

theorem RowAt.cell {w0 wx : World} {g n : Nat} {L : List Int} (h : RowAt w0 wx g n L) (i : Nat) (hi : i < n) : wx.cell? ⟨g, i, none⟩ = some (.int .i64 (L.getD i 0)) ∧ wx.frozen? ⟨g, i, none⟩ = false := by
  have hl := h.len
  refine ⟨?_, ?_⟩
  · rw [h.row.cellAt i (by omega)]
    simp [List.getD, show i < L.length by omega]
  · rcases h.row.2 with ⟨h1, _⟩ | ⟨g', cap, cur, h1, _, hh, _⟩
    · cases h1
    · cases h1
      exact frozenOf hh i

theorem RowAt.set {w0 wx : World} {g n : Nat} {L : List Int} (h : RowAt w0 wx g n L) (i : Nat) (v : Int) : RowAt w0 (wx.setCell ⟨g, i, none⟩ (.int .i64 v)) g n (L.set i v) := by
  refine ⟨?_, h.kept.setCell (.inr h.fresh) _, h.fresh⟩
  rw [List.map_set]
  have hr := h.row
  refine ⟨by rw [List.length_set]; exact hr.1, ?_⟩
  rcases hr.2 with ⟨h1, h0⟩ | ⟨g', cap, cur, h1, hb, hh, r1, r2, r3, r4⟩
  · cases h1
  · cases h1
    refine .inr ⟨_, _, _, rfl, hb, heap_set hh i _, r1, r2, by simpa using r3, ?_⟩
    rw [← r4, Array.toList_setIfInBounds, List.take_set]

theorem RowAt.start (w0 w : World) (n : Nat) (hn : n ≤ 1048576) (m : Mut [] w0 w) (Z : Array Value) (hZ : madeCells (Value.int .i64 0).cells n = Z) : RowAt w0 (w.alloc (.cells Z 3)) w.heap.size n (List.replicate n 0) := by
  refine ⟨⟨by simp, .inr ⟨w.heap.size, n, Z, rfl, Nat.zero_le _, heap_alloc_new w _, Nat.le_refl _, by unfold maxLen; omega, by rw [← hZ, size_madeCells, Nat.mul_one], ?_⟩⟩, m.alloc _, m.size⟩
  have e : (madeCells (Value.int .i64 0).cells n).toList = (List.replicate n (0 : Int)).map (Value.int .i64) := by
    rw [List.map_replicate]
    exact toList_madeCells_one (.int .i64 0) n
  rw [← hZ, e, List.take_of_length_le (by simp)]

/-- making one, as one step -/
theorem run_make_int (n : Nat) (hn : n ≤ 1048576) (Z : Array Value) (hZ : madeCells (Value.int .i64 0).cells n = Z) (k : Int) (hk : k = (n : Int)) (W : World) :
    (Instr.makeSlice 88 (.int .i64 k) (.int .i64 k)).run Try.prog W = .ok (.slice (some ⟨W.heap.size, 0, none⟩) n n) (W.alloc (.cells Z 3)) := by
  subst hk
  obtain ⟨i0, hi, hz0, hz1, hz2⟩ := info_parts info_intI
  have := run_make (P := Try.prog) W 88 3 i0 _ Try.underlying88 hi hz0 .i64 .i64 (n : Int) (n : Int) (by omega) (by omega) (by rw [hz2]; omega) (by omega)
  rw [hz1, Int.toNat_natCast, Nat.mul_one, hZ] at this
  exact this

/-- a row filled up to a place -/
def fillT (T : List Int) (i : Nat) : List Int := T.take i ++ List.replicate (T.length - i) 0
theorem fillT_zero (T : List Int) : fillT T 0 = List.replicate T.length 0 := by simp [fillT]
theorem fillT_all (T : List Int) : fillT T T.length = T := by simp [fillT]
theorem fillT_set (T : List Int) (i : Nat) (hi : i < T.length) : (fillT T i).set i (T.getD i 0) = fillT T (i + 1) := by
  unfold fillT
  have h1 : (T.take i).length = i := by rw [List.length_take]; omega
  rw [List.set_append_right _ _ (by omega), h1, Nat.sub_self, show T.length - i = (T.length - (i + 1)) + 1 by omega, List.replicate_succ, List.set_cons_zero,
    List.take_succ_eq_append_getElem hi, List.append_assoc]
  simp [List.getD, hi]

theorem RowAt.irow {w0 wx : World} {g n : Nat} {L : List Int} (h : RowAt w0 wx g n L) : IRow wx (.slice (some ⟨g, 0, none⟩) n n) L := by
  unfold IRow
  rw [h.len]
  exact h.row

theorem RowAt.mut {w0 w w' : World} {g n : Nat} {L : List Int} (h : RowAt w0 w g n L) (m : Mut [] w w') : RowAt w0 w' g n L :=
  ⟨m.row h.row (by simp), h.kept.trans' m, h.fresh⟩

/-- how a callee reads it -/
theorem RowAt.read {w0 wx : World} {g n : Nat} {L : List Int} (h : RowAt w0 wx g n L) : ∀ w', Mut [] wx w' → ∀ i, i < L.length → ∃ a : Addr, (some ⟨g, 0, none⟩ : Option Addr) = some a ∧ w'.cell? (a.add i) = some (.int .i64 (L.getD i 0)) := by
  intro w' m i hi
  refine ⟨_, rfl, ?_⟩
  rw [Addr.add_lit, Nat.zero_add]
  exact ((h.mut m).cell i (by rw [← h.len]; exact hi)).1

end Go.Proofs.Ytgjcnembeebjfaa
