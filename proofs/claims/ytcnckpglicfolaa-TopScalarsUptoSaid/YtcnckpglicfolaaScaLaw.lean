/- What every law's proof ends with: the law returns true, nothing that was there has turned. -/
import Derived.Test.YtcnckpglicfolaaBase
import Derived.ProofKit
import Derived.OpenShut
import Derived.ShutString
import Derived.JoinedCond
import Derived.SizedLaws
import Derived.ChangeSlices
namespace Go.Proofs.Ytcnckpglicfolaa
open Go.ChangeShapes Go.WideShapes Go.ChangeAt Go.RowKit

theorem laidOut : laidOutB Try.prog = true := by kernel_rfl
theorem own : ownKnob Try.prog.godebug = none := by kernel_rfl

theorem trodAll_stays {H : Type} {enc : TypeId × Value → H} {P : Program} {base : Nat} (hl : laidOutB P = true) {W W' : World} {sp' : Nat → Bool} : ∀ (ts : List TypeId) (vs : List Value) (ds : List (DataW H)) (ps : List MemPlace),
    (∀ t ∈ ts, P.readableRec t = true ∧ t < P.types.size) → DataW.TrodAll enc P W base (fun _ => true) true ts vs ds ps → (∀ p ∈ ps, W.sameAt W' p) → (∀ p ∈ ps, sp' p.block = true) → DataW.TrodAll enc P W' base sp' true ts vs ds ps
  | [], [], [], ps, _, h, _, _ => h
  | t :: ts, v :: vs, d :: ds, ps, hr, h, hs, hb => by
    obtain ⟨p, q, h1, h2, rfl⟩ := h
    exact ⟨p, q, WideElems.Trod_stays hl (hr t (by simp)).1 (hr t (by simp)).2 h1 (fun x hx => hs x (by simp [hx])) (fun x hx => hb x (by simp [hx])),
      trodAll_stays hl ts vs ds q (fun u hu => hr u (by simp [hu])) h2 (fun x hx => hs x (by simp [hx])) (fun x hx => hb x (by simp [hx])), rfl⟩

/-- THE END: what a law's statement asks behind the call. -/
theorem law_post {H : Type} {enc : TypeId × Value → H} {P : Program} (hl : laidOutB P = true) {f : Func} {s : ChangeSpec} {tb : TypeId} {apart fresh handsOn again : Bool} {W W' : World} {args : Array Value} {ds gs : List (DataW H)} {before : List MemPlace}
    (hvars : s.vars = []) (hres : f.resultTypes = #[tb]) (hb : P.underlying tb = some .bool) (hra : (f.params.toList.all fun t => P.readableRec t && decide (t < P.types.size)) = true)
    (hfn : (s.fn H (ds ++ gs)) = { results := [.lit (.bool true)], args := ds }) (hW : DataW.Whole enc P f.params.toList s.vars apart W args.toList ds gs before) (hbel : Below W.heap.size W W') :
    s.post enc P f apart fresh handsOn again W args (.bool true) W' := by
  have hr : ∀ t ∈ f.params.toList, P.readableRec t = true ∧ t < P.types.size := fun t ht => by
    have := List.all_eq_true.1 hra t ht
    simpa using this
  have hlt : ∀ p ∈ before, p.block < W.heap.size := fun p hp => hW.lt p hp
  obtain ⟨p, q, hA, hV, hpq, hz, hn⟩ := id hW
  have hq : q = [] ∧ gs = [] := by
    rw [hvars] at hV
    cases gs with
    | nil => exact ⟨hV, rfl⟩
    | cons _ _ => exact hV.elim
  obtain ⟨rfl, rfl⟩ := hq
  simp only [List.append_nil] at hpq
  subst hpq
  have hargs : ∀ sp : Nat → Bool, (∀ x ∈ before, sp x.block = true) → DataW.TrodAll enc P W' 0 sp true f.params.toList args.toList ds before := fun sp hsp =>
    trodAll_stays hl _ _ _ _ hr hA (fun x hx => hbel.same (hlt x hx)) hsp
  have hfz : ∀ a : Addr, a.block < W.heap.size → W'.frozen? a = W.frozen? a := fun a ha => hbel.frozen ha
  have hresT : ∀ (b : Nat) (sp : Nat → Bool) (hd : Bool), DataW.TrodAll enc P W' b sp hd f.resultTypes.toList ((Value.bool true).resultList f.resultTypes.size) (s.fn H (ds ++ [])).results [] := by
    intro b sp hd
    rw [hfn, hres]
    exact trodAll_cons_mk (shut_bool hb _) trodAll_mk0
  have hold : ∀ x ∈ before, (fun b => decide (b < W.heap.size)) x.block = true := fun x hx => by simpa using hlt x hx
  have ha' : ∀ sp : Nat → Bool, (∀ x ∈ before, sp x.block = true) → DataW.TrodAll enc P W' 0 sp true f.params.toList args.toList (s.fn H (ds ++ [])).args before := fun sp hsp => by
    rw [hfn]; exact hargs sp hsp
  have hv' : ∀ sp : Nat → Bool, DataW.TrodVars enc P W' sp s.vars (s.fn H (ds ++ [])).vars [] := fun sp => by
    rw [hfn, hvars]; rfl
  refine ⟨ds, [], before, [], before, [], hW, hresT _ _ _, ha' _ hold, hv' _, World.keptBut_mono (fun x hx => ⟨hx, Or.inr (by simpa using hx)⟩) (hbel.frame (· ∈ before)), fun _ => ?_⟩
  refine ⟨?_, _, _, ([] ++ before) ++ [], ⟨[] ++ before, [], trodAll_append (ha' _ (fun _ _ => rfl)) (hresT _ _ _), hv' _, rfl, ?_, ?_⟩, ?_⟩
  · exact ok_one hres rfl (okWide_bool_mk hb _)
  · intro b off hp
    simp only [List.nil_append, List.append_nil] at hp
    have := hz b off hp
    rw [hfz ⟨b, off, none⟩ (hlt _ hp)]
    exact this
  · intro ha
    simpa using hn ha
  · intro x hx
    simp at hx
    simp [hx]

/-- A slice of integers that came in, read. -/
def Ints (k : IntKind) (w : World) (v : Value) (xs : List Int) : Prop :=
  ∃ ao cap, v = .slice ao xs.length cap ∧ xs.length ≤ cap ∧ cap ≤ maxLen ∧ (0 < xs.length → ∃ b off, ao = some ⟨b, off, none⟩ ∧ b < w.heap.size ∧ ∀ i, i < xs.length → w.cell? ⟨b, off + i, none⟩ = some (.int k (xs.getD i 0))) ∧
    (∀ x ∈ xs, (Lit.int k x).wf = true)

/-- how many values its datum holds, at least -/
def dataLen {H : Type} : DataW H → Nat
  | .slice elems _ => elems.length
  | .lit (.string s) => s.length
  | _ => 0

theorem dataLen_le {H : Type} (d : DataW H) : dataLen d ≤ Rows.uptoBulk d := by
  cases d with
  | slice elems spare =>
    have h : ∀ l : List (DataW H), l.length ≤ Rows.uptoBulkAll l := by
      intro l
      induction l with
      | nil => simp
      | cons x r ih =>
        have h1 : 1 ≤ Rows.uptoBulk x := by
          cases x with
          | lit l => cases l <;> simp [Rows.uptoBulk]
          | _ => simp [Rows.uptoBulk]
        simp only [Rows.uptoBulkAll, List.length_cons]
        omega
    have := h elems
    simp only [dataLen, Rows.uptoBulk]
    omega
  | lit l => cases l <;> simp [dataLen, Rows.uptoBulk]
  | _ => simp [dataLen]

theorem open_Ints {H : Type} {enc : TypeId × Value → H} {P : Program} {W : World} {r : Reach} {b0 : Nat} {t e : TypeId} {k : IntKind} {v : Value} {d : DataW H} {p : List MemPlace} (ht : P.underlying t = some (.slice e)) (he : P.underlying e = some (.int k)) (hc : P.cellsOf e = 1)
    (hv : Value.okWide P W r b0 t v) (h : DataW.Trod enc P W 0 (fun _ => true) true t v d p) : ∃ xs, Ints k W v xs ∧ xs.length = dataLen d := by
  obtain ⟨a0, len0, cap0, rfl⟩ := okWide_slice ht hv
  obtain ⟨fuel, hf⟩ := h
  rcases open_ints ht he hc hf with ⟨hcs, hx⟩ | ⟨a, len, cap, zq, hcs, _, hl, hm, hz, hx, hcell, hwz⟩
  · simp [Value.cells] at hcs
    obtain ⟨rfl, rfl, rfl⟩ := hcs
    simp only [Prod.mk.injEq] at hx
    obtain ⟨rfl, _⟩ := hx
    exact ⟨[], ⟨none, 0, rfl, Nat.le_refl _, Nat.zero_le _, fun h => absurd h (by simp), by simp⟩, rfl⟩
  · simp [Value.cells] at hcs
    obtain ⟨rfl, rfl, rfl⟩ := hcs
    simp only [Prod.mk.injEq] at hx
    obtain ⟨rfl, _⟩ := hx
    simp only [if_true] at hz
    have hlen : (zq.take len0).length = len0 := by rw [List.length_take]; omega
    refine ⟨zq.take len0, ⟨some a, cap0, by rw [hlen], by omega, hm, fun hp => ?_, fun x hx => hwz x (List.mem_of_mem_take hx)⟩, ?_⟩
    · obtain ⟨b, off, rfl, hcc⟩ := ints_at hcell (by omega)
      refine ⟨b, off, rfl, World.block_lt_of_cell? W ⟨b, off, none⟩ (by simpa using hcc 0 (by omega)), fun i hi => ?_⟩
      rw [hcc i (by omega)]
      simp [List.getD, show i < len0 by omega]
    · simp [dataLen, lits]

end Go.Proofs.Ytcnckpglicfolaa
