/- Walks over package inflate: Unpack. -/
import Derived.Test.YtcdoamaljgjojaaInfWb
import Derived.Test.YtcdoamaljgjojaaInfN
namespace Go.Proofs.Ytcdoamaljgjojaa
open Go.RowKit
set_option linter.unusedVariables false

/-- what Unpack answers -/
def unpRes (from_ : Nat) (st : US) : Value := if st.er = 0 then .tuple #[.string (strOf st.out), .int .i64 ((from_ + (st.t + 7) / 8 : Nat) : Int), .agg #[.int .i64 0, .int .i64 0]]
  else .tuple #[.string ByteArray.empty, .int .i64 0, .agg #[.int .i64 (st.er : Int), .int .i64 ((from_ + st.t / 8 : Nat) : Int)]]

theorem results_fault {tmps : Array Value} {w : World} {g : Nat} {c0 c1 v6 v7 : Value} (h1 : w.heap[g]? = some (.cells #[c0, c1] 28 (0, 0)))
    (p1 : tmps.getD 8 undef = .pointer (some ⟨g, 0, none⟩)) (p6 : tmps.getD 6 undef = v6) (p7 : tmps.getD 7 undef = v7) :
    (results Try.f17 tmps).run Try.prog w = .ok (.tuple #[v6, v7, .agg #[c0, c1]]) w := by
  have q1 : tmps[8]?.getD undef = .pointer (some ⟨g, 0, none⟩) := by simpa using p1
  have q6 : tmps[6]?.getD undef = v6 := by simpa using p6
  have q7 : tmps[7]?.getD undef = v7 := by simpa using p7
  have e1 := run_loadVar_row (P := Try.prog) w g 28 28 #[c0, c1] (0, 0) _ h1 Try.underlying28 rfl (by kernel_rfl)
  simp [results, q1, q6, q7, asAddr, e1]

/-- where Unpack's loop is -/
def UnC (w0 : World) (b rb F : Nat) (s : ByteArray) (m : Nat) (stF : US) (w : World) : Prop :=
  ∃ (ov : Value) (st : US) (k : Nat), UAt w b rb s ov m st ∧ UG w0 w b rb (.slice none 0 0) ov ∧ (unpackU F k s m st).2 = stF ∧ 8 * s.size - st.t < k ∧ st.er = 0 ∧ st.t ≤ 8 * s.size ∧ st.out.length ≤ m

theorem unpack_step {F : Nat} (k : Nat) {s : ByteArray} {m : Nat} {st st2 : US} {q : Bool} (h : blockU F s m st = (q, st2)) : unpackU F (k + 1) s m st = if q = true then ((), st2) else unpackU F k s m st2 := by
  rw [unpackU]
  simp only [UM.bind, h]
  cases q <;> rfl

set_option maxHeartbeats 3200000 in
set_option maxRecDepth 100000 in
theorem unpack_any (data s : ByteArray) (from_ m F : Nat) (w : World) (hs : data.size ≤ 140737488351232) (hf : from_ ≤ data.size) (hx : data.extract from_ data.size = s) (hm : m ≤ 1073741824) (hF : 8 * s.size < F) (fI mI : Int) (hfI : fI = (from_ : Int)) (hmI : mI = (m : Int)) :
    Calls Try.prog 17 #[.string data, .int .i64 fI, .int .i64 mI] w fun e w' => e = .returned (unpRes from_ (runU F s m)) ∧ Mut [] w w' := by
  subst hfI hmI
  have hss : s.size = data.size - from_ := by rw [← hx]; simp
  have hs' : s.size ≤ 140737488351232 := by omega
  obtain ⟨stF, hst⟩ : ∃ st, runU F s m = st := ⟨_, rfl⟩
  have HST : Hid ((unpackU F F s m st0).2 = stF) := Lib.hid hst
  rw [hst]
  have HO := Lib.hid (open_any s)
  have hfI0 : ¬ (from_ : Int) < 0 := by omega
  have hfI1 : ¬ (data.size : Int) < (from_ : Int) := by omega
  have hmI0 : ¬ (m : Int) < 0 := by omega
  have hxx : data.extract from_ data.size = s := hx
  clear hst hx
  go_enter Try.func17, Try.ntmps17
  go_wp2_with fail
  have hfb := heap_alloc_new w (.cells #[.int .i64 0, .int .i64 0] 28)
  have hm1 : Mut [] w (w.alloc (.cells #[.int .i64 0, .int .i64 0] 28)) := (Mut.refl [] w).alloc _
  generalize w.alloc (.cells #[.int .i64 0, .int .i64 0] 28) = w1 at *
  obtain ⟨fb, hfbe⟩ : ∃ fb, w.heap.size = fb := ⟨_, rfl⟩
  rw [hfbe] at hfb
  rw [hfbe]
  have HFB := Lib.hid (And.intro hfb (And.intro hfbe hm1))
  clear hfb hfbe hm1
  refine (HO.out w1).mono ?_
  rintro e w2 ⟨rfl, rfl⟩
  clear HO
  go_upto_region 4 with fail
  have hU : UAt ((w1.alloc (.cells #[.string s, .int .i64 0] 92)).alloc (.cells #[.pointer (some ⟨w1.heap.size, 0, none⟩), .slice none 0 0, .int .i64 (m : Int), .int .i64 0] 68)) (w1.alloc (.cells #[.string s, .int .i64 0] 92)).heap.size w1.heap.size s (.slice none 0 0) m st0 := by
    refine ⟨heap_alloc_new _ _, ((Mut.refl [] _).alloc _).get (open_is s w1) (by simp), World.ownsRow_nil _ _ _ _⟩
  have hmw : Mut [] w1 ((w1.alloc (.cells #[.string s, .int .i64 0] 92)).alloc (.cells #[.pointer (some ⟨w1.heap.size, 0, none⟩), .slice none 0 0, .int .i64 (m : Int), .int .i64 0] 68)) := ((Mut.refl [] w1).alloc _).alloc _
  rw [World.size_alloc] at hU
  generalize (w1.alloc (.cells #[.string s, .int .i64 0] 92)).alloc (.cells #[.pointer (some ⟨w1.heap.size, 0, none⟩), .slice none 0 0, .int .i64 (m : Int), .int .i64 0] 68) = W at *
  have HW : Hid (W.heap[fb]? = some (.cells #[.int .i64 0, .int .i64 0] 28 (0, 0)) ∧ w.heap.size = fb ∧ fb < w1.heap.size ∧ Mut [] w W) :=
    Lib.hid ⟨hmw.get HFB.out.1 (by simp), HFB.out.2.1, lt_of_heap HFB.out.1, HFB.out.2.2.trans' hmw⟩
  generalize w1.heap.size = rb at *
  have HC : Hid (UnC W (rb + 1) rb F s m stF W) := Lib.hid ⟨_, st0, F, hU, UG.of (Mut.refl _ _), HST.out, by show 8 * s.size - 0 < F; omega, rfl, Nat.zero_le _, Nat.zero_le _⟩
  clear hU hmw HFB HST hxx hfI0 hfI1 hmI0
  generalize hb : rb + 1 = b at *
  have HBR := Lib.hid hb
  clear hb
  go_loopw [30] (fun _ wx => Hid (UnC W b rb F s m stF wx)) (fun _ wx => 8 * s.size - (intOf ((wx.cell? ⟨rb, 1, none⟩).getD undef)).toNat)
  case atStart => exact HC
  case round =>
    have HR := hrel
    clear hrel
    obtain ⟨ov, st, k, hU, hG, hun, hk, he, ht, hout⟩ := HR.out
    obtain ⟨⟨q, st2⟩, hbl⟩ : ∃ p, blockU F s m st = p := ⟨_, rfl⟩
    obtain ⟨k', rfl⟩ : ∃ k', k = k' + 1 := ⟨k - 1, by omega⟩
    rw [unpack_step k' hbl] at hun
    have HB := Lib.hid (ublock_any b rb F s st st2 q ov m wr hU hs' ht hm hout hF hbl)
    have HWT : Hid (intOf ((wr.cell? ⟨rb, 1, none⟩).getD undef) = (st.t : Int)) := Lib.hid (by
      have h1 : wr.cell? ⟨rb, 1, none⟩ = some (.int .i64 (st.t : Int)) := (cells2 hU.rd).2.1
      rw [h1]; rfl)
    have t2 := (block_nice F).inside s m st ht
    have o2 := (block_nice F).most s m st hout
    rw [hbl] at t2 o2
    have HG := Lib.hid hG
    have HUN := Lib.hid hun
    have HMO : Hid (q = false → st.t < st2.t ∧ st2.er = 0) := Lib.hid fun h => block_more (by rw [hbl, h]) he
    have HK := Lib.hid hk
    clear hU hG hun hk he ht hout hbl HR HC
    go_wp2_with fail
    refine HB.out.mono ?_
    rintro e w3 ⟨rfl, ov3, hu, hg⟩
    have HU3 := Lib.hid hu
    have HG3 := Lib.hid (HG.out.trans hg)
    clear hu hg HB HG
    cases q with
    | false =>
      obtain ⟨m1, m2⟩ := HMO.out rfl
      have HCN : Hid (UnC W b rb F s m stF w3) := Lib.hid ⟨ov3, st2, k', HU3.out, HG3.out, HUN.out, by have := HK.out; omega, m2, t2, o2⟩
      have HMS : Hid (8 * s.size - (intOf ((w3.cell? ⟨rb, 1, none⟩).getD undef)).toNat < 8 * s.size - (intOf ((wr.cell? ⟨rb, 1, none⟩).getD undef)).toNat) := Lib.hid (by
        have h1 : w3.cell? ⟨rb, 1, none⟩ = some (.int .i64 (st2.t : Int)) := (cells2 HU3.out.rd).2.1
        rw [h1, HWT.out]
        show 8 * s.size - ((st2.t : Int)).toNat < _
        have h2 : st2.t ≤ 8 * s.size := t2
        omega)
      clear HMO HUN HK m1 m2
      go_wp2_with fail
      exact ⟨HCN, HMS.out⟩
    | true =>
      have hF2 : st2 = stF := HUN.out
      subst hF2
      obtain ⟨c0, c1, c2, c3, f1, f3⟩ := cells4 HU3.out.box
      have HFB : Hid (w3.heap[fb]? = some (.cells #[.int .i64 0, .int .i64 0] 28 (0, 0)) ∧ Mut [] w w3) := Lib.hid (by
        have h1 := HW.out
        have h2 := HBR.out
        have hm3 : Mut [b, rb] W w3 := HG3.out.1.mono (fun x hx => .inl (by simpa [Value.ownBlock] using hx))
        refine ⟨hm3.get h1.1 (by simp; omega), h1.2.2.2.trans hm3 (fun x hx => .inr (by simp at hx; omega))⟩)
      have HTK : Hid (∀ q, Calls Try.prog 28 #[.pointer (some ⟨rb, 0, none⟩)] (w3.drewN q) fun e w' => e = .returned (.int .i64 (st2.t : Int)) ∧ w' = w3.drewN q) := Lib.hid fun q => (taken_any rb s st2.t _ (show RdIs (w3.drewN q) rb s st2.t from HU3.out.rd)).mono fun e w' ⟨h1, h2⟩ => ⟨h1, h2.symm⟩
      have HBE : Hid (w.heap.size ≤ fb) := Lib.hid (by have := HW.out.2.1; omega)
      clear HMO HUN HK HWT HG3 HW
      by_cases he2 : st2.er = 0
      case neg =>
        have hI : ((st2.er : Int) == 0) = false := by rw [beq_eq_false_iff_ne]; omega
        have hI' : ((st2.er : Int) != 0) = true := by simp [bne, hI]
        have hres : unpRes from_ st2 = .tuple #[.string ByteArray.empty, .int .i64 0, .agg #[.int .i64 (st2.er : Int), .int .i64 ((from_ + st2.t / 8 : Nat) : Int)]] := by unfold unpRes; rw [if_neg he2]
        obtain ⟨T8, hT8⟩ : ∃ T8, st2.t / 8 = T8 := ⟨_, rfl⟩
        have hq : ((st2.t : Int)).tdiv 8 = (T8 : Int) := by rw [Int.tdiv_eq_ediv_of_nonneg (by omega)]; omega
        have hT8l : T8 ≤ 140737488351232 := by have : st2.t ≤ 8 * s.size := t2; omega
        have hw8 : IntKind.i64.wrap (T8 : Int) = (T8 : Int) := IntWalk.i64_in _ (by omega)
        have hw9 : IntKind.i64.wrap ((st2.t : Int) / 8) = (T8 : Int) := by rw [show (st2.t : Int) / 8 = (T8 : Int) by omega, hw8]
        rw [hT8] at hres
        go_upto_region 6 with fail
        refine wp_region_bar 15 _ rfl (by kernel_rfl) (by kernel_rfl) ?_
        simp only [List.take_succ_cons, List.take_zero, List.drop_succ_cons, List.drop_zero]
        repeat (go_big_quiet_step ((go_at_call 28; exact (HTK.out _).mono fun e w'' ⟨he, hw⟩ => ⟨he, _, hw⟩)))
        refine wpQuiet_nil ?_
        rintro _ ⟨nq, rfl⟩ K hK
        obtain ⟨e0, e1, g0, g1⟩ := cells2 HFB.out.1
        have hh := heap_set (heap_set (show (w3.drewN nq).heap[fb]? = _ from HFB.out.1) 0 (.int .i64 (st2.er : Int))) 1 (.int .i64 ((from_ : Int) + (T8 : Int)))
        have hmm : Mut [] w (((w3.drewN nq).setCell ⟨fb, 0, none⟩ (.int .i64 (st2.er : Int))).setCell ⟨fb, 1, none⟩ (.int .i64 ((from_ : Int) + (T8 : Int)))) := (((HFB.out.2).drewN nq).setCell (.inr HBE.out) _).setCell (.inr HBE.out) _
        have HE := Lib.hid (And.intro hh hmm)
        have HRS := Lib.hid hres
        clear hh hmm hres
        go_simp
        refine hK _ _ ?_; clear hK K
        refine wpQuiet_nil ?_
        rintro _ ⟨nq2, rfl⟩
        go_wp2_with fail
        refine bodyPost_ret (results_fault (g := fb) (c0 := .int .i64 (st2.er : Int)) (c1 := .int .i64 ((from_ : Int) + (T8 : Int))) (by simpa using HE.out.1) rfl rfl rfl) rfl ⟨?_, HE.out.2.drewN nq2⟩
        rw [HRS.out, Int.natCast_add]
        rfl
      case pos =>
        have hI : ((st2.er : Int) == 0) = true := by rw [he2]; rfl
        have hI' : ((st2.er : Int) != 0) = false := by simp [bne, hI]
        have hres : unpRes from_ st2 = .tuple #[.string (strOf st2.out), .int .i64 ((from_ + (st2.t + 7) / 8 : Nat) : Int), .agg #[.int .i64 0, .int .i64 0]] := by unfold unpRes; rw [if_pos he2]
        obtain ⟨T8, hT8⟩ : ∃ T8, (st2.t + 7) / 8 = T8 := ⟨_, rfl⟩
        have htl : st2.t ≤ 1125899906809856 := by have : st2.t ≤ 8 * s.size := t2; omega
        have hq : ((st2.t : Int) + 7).tdiv 8 = (T8 : Int) := by rw [Int.tdiv_eq_ediv_of_nonneg (by omega)]; omega
        have hT8l : T8 ≤ 140737488351233 := by have : st2.t ≤ 8 * s.size := t2; omega
        have hw8 : IntKind.i64.wrap (T8 : Int) = (T8 : Int) := IntWalk.i64_in _ (by omega)
        have hw9 : IntKind.i64.wrap (((st2.t : Int) + 7) / 8) = (T8 : Int) := by rw [show ((st2.t : Int) + 7) / 8 = (T8 : Int) by omega, hw8]
        rw [hT8] at hres
        obtain ⟨ao, cap, rfl⟩ := row_form HU3.out.row
        have hc : ∀ q, (convert 33 9 (.slice ao st2.out.length cap)).run Try.prog (w3.drewN q) = .ok (.string (strOf st2.out)) (w3.drewN q) := by
          intro q
          have h : (w3.drewN q).ownsRow 0 5 1 (.slice ao st2.out.length cap) st2.out.length ((st2.out.map fun n : Nat => (n : Int)).map (Value.int .u8)) := by rw [List.map_map]; exact (HU3.out.mut ((Mut.refl [] w3).drewN q) (by simp) (by simp) (by simp)).row
          rw [conv_row Try.underlying33 Try.underlying5 Try.underlying9 h]
          simp only [List.map_map]
          rfl
        go_upto_region 7 with fail
        refine wp_region_bar 17 _ rfl (by kernel_rfl) (by kernel_rfl) ?_
        simp only [List.take_succ_cons, List.take_zero, List.drop_succ_cons, List.drop_zero]
        repeat (go_big_quiet_step ((go_at_call 28; exact (HTK.out _).mono fun e w'' ⟨he, hw⟩ => ⟨he, _, hw⟩)))
        refine wpQuiet_nil ?_
        rintro _ ⟨nq, rfl⟩ K hK
        obtain ⟨e0, e1, g0, g1⟩ := cells2 HFB.out.1
        have hh := heap_set (heap_set (show (w3.drewN nq).heap[fb]? = _ from HFB.out.1) 0 (.int .i64 0)) 1 (.int .i64 0)
        have hmm : Mut [] w (((w3.drewN nq).setCell ⟨fb, 0, none⟩ (.int .i64 0)).setCell ⟨fb, 1, none⟩ (.int .i64 0)) := (((HFB.out.2).drewN nq).setCell (.inr HBE.out) _).setCell (.inr HBE.out) _
        have HE := Lib.hid (And.intro hh hmm)
        have HRS := Lib.hid hres
        clear hh hmm hres
        go_simp
        refine hK _ _ ?_; clear hK K
        refine wpQuiet_nil ?_
        rintro _ ⟨nq2, rfl⟩
        go_wp2_with fail
        refine bodyPost_ret (results_fault (g := fb) (c0 := .int .i64 0) (c1 := .int .i64 0) (by simpa using HE.out.1) rfl rfl rfl) rfl ⟨?_, HE.out.2.drewN nq2⟩
        rw [HRS.out, Int.natCast_add]
        rfl

end Go.Proofs.Ytcdoamaljgjojaa
