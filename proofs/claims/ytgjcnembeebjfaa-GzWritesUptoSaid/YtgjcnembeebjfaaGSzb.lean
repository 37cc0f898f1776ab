/- Walks over package squeeze: the symbols of lengths and distances. Walks over package squeeze: coders. Walk over package squeeze: tokens are written. How long blocks are, and what the walks over Pack write of one, plain. No program. -/
import Derived.Test.YtgjcnembeebjfaaGPlain
import Derived.Test.YtgjcnembeebjfaaGIn1
import Derived.Test.YtgjcnembeebjfaaGSza
import Derived.Deep.DeepCutAuto
import Derived.Test.YtgjcnembeebjfaaGTok

namespace Go.Proofs.Ytgjcnembeebjfaa
open Go.RowKit
set_option linter.unusedVariables false

set_option maxHeartbeats 1600000 in
set_option maxRecDepth 100000 in
theorem length_sym (n : Nat) (h0 : 3 ≤ n) (h1 : n ≤ 258) (w : World) :
    Calls Try.prog 103 #[.int .i64 (n : Int), .int .i64 257, .int .i64 285, .func (.func 104) #[] #[]] w fun e w' => e = .returned (.tuple #[.int .i64 (lenSym n : Nat), .int .i64 ((n - (lenR (lenSym n)).1 : Nat) : Int), .int .i64 ((lenR (lenSym n)).2 : Nat)]) ∧ w = w' := by
  obtain ⟨S, hS⟩ : ∃ S, lenSym n = S := ⟨_, rfl⟩
  have hsp := lenSym_spec n h0 h1
  rw [hS] at hsp ⊢
  have HS := Lib.hid (show symDn lenR n 257 (28 + 1) = S from hS)
  have HSP := Lib.hid hsp
  clear hS hsp
  go_enter Try.func103, Try.ntmps103
  go_wp2_with fail
  go_loop [11] (fun c => ∃ k : Nat, c = .int .i64 ((257 + k : Nat) : Int) ∧ k + 1 ≤ 29 ∧ Hid (symDn lenR n 257 (k + 1) = S)) (fun c => (intOf c).toNat)
  case atStart => exact ⟨28, rfl, by omega, HS⟩
  case round =>
    obtain ⟨k, rfl, hk, HK⟩ := hrel
    obtain ⟨s, hs⟩ : ∃ s, 257 + k = s := ⟨_, rfl⟩
    rw [hs]
    have hs1 : ¬ (s : Int) < 257 := by omega
    have hs2 : s ≤ 285 := by omega
    have hkk := HK.out
    rw [symDn, hs] at hkk
    obtain ⟨A, hA⟩ : ∃ A, (lenR s).1 = A := ⟨_, rfl⟩
    obtain ⟨B, hB⟩ : ∃ B, (lenR s).2 = B := ⟨_, rfl⟩
    have hk0 : k = 0 → A ≤ n := fun h => by
      have e : s = 257 := by omega
      rw [← hA, e]
      exact h0
    have HG := Lib.hid (length_good s w (by omega) (by omega))
    rw [hA, hB] at HG
    rw [hA] at hkk
    have HA := Lib.hid (And.intro hA hB)
    clear HK hA hB
    by_cases hAn : A ≤ n
    · have hAI : (A : Int) ≤ (n : Int) := by omega
      rw [if_pos hAn] at hkk
      subst hkk
      have HE : Hid ((n : Int) - (A : Int) = ((n - A : Nat) : Int)) := Lib.hid (by omega)
      clear hk0 hAn hs
      go_wp2_with (first | (refine HG.out.mono ?_; rintro e w1 ⟨rfl, rfl⟩))
      refine bodyPost_ret (results_tmp3 rfl _ _ _) rfl ⟨?_, rfl⟩
      rw [HA.out.1, HA.out.2, ← HE.out]
      rfl
    · have hAI : ¬ (A : Int) ≤ (n : Int) := by omega
      rw [if_neg hAn] at hkk
      obtain ⟨j, rfl⟩ : ∃ j, k = j + 1 := ⟨k - 1, by have := fun h => hAn (hk0 h); omega⟩
      have HKK := Lib.hid hkk
      have HE : Hid ((s : Int) - 1 = ((257 + j : Nat) : Int) ∧ 1 ≤ s) := Lib.hid (by omega)
      clear hkk hk0 hAn hs
      go_wp2_with (first | (refine HG.out.mono ?_; rintro e w1 ⟨rfl, rfl⟩))
      exact ⟨⟨j, by rw [HE.out.1], by omega, HKK⟩, by have := HE.out; simp only [intOf]; omega⟩

set_option maxRecDepth 100000 in
theorem slength_any (n : Nat) (h0 : 3 ≤ n) (h1 : n ≤ 258) (w : World) :
    Calls Try.prog 83 #[.int .i64 (n : Int)] w fun e w' => e = .returned (.tuple #[.int .i64 (lenSym n : Nat), .int .i64 ((n - (lenR (lenSym n)).1 : Nat) : Int), .int .i64 ((lenR (lenSym n)).2 : Nat)]) ∧ w = w' := by
  have HS := Lib.hid (length_sym n h0 h1 w)
  generalize lenSym n = S at *
  go_enter Try.func83, Try.ntmps83
  go_wp2_with (first | (refine HS.out.mono ?_; rintro e w1 ⟨rfl, rfl⟩))
  refine bodyPost_ret (results_tmp3 rfl _ _ _) rfl ⟨rfl, rfl⟩

set_option maxHeartbeats 1600000 in
set_option maxRecDepth 100000 in
theorem distance_sym (n : Nat) (h0 : 1 ≤ n) (h1 : n ≤ 32768) (w : World) :
    Calls Try.prog 103 #[.int .i64 (n : Int), .int .i64 0, .int .i64 29, .func (.func 105) #[] #[]] w fun e w' => e = .returned (.tuple #[.int .i64 (distSym n : Nat), .int .i64 ((n - (distR (distSym n)).1 : Nat) : Int), .int .i64 ((distR (distSym n)).2 : Nat)]) ∧ w = w' := by
  obtain ⟨S, hS⟩ : ∃ S, distSym n = S := ⟨_, rfl⟩
  have hsp := distSym_spec n h0 h1
  rw [hS] at hsp ⊢
  have HS := Lib.hid (show symDn distR n 0 (29 + 1) = S from hS)
  have HSP := Lib.hid hsp
  clear hS hsp
  go_enter Try.func103, Try.ntmps103
  go_wp2_with fail
  go_loop [11] (fun c => ∃ k : Nat, c = .int .i64 ((0 + k : Nat) : Int) ∧ k + 1 ≤ 30 ∧ Hid (symDn distR n 0 (k + 1) = S)) (fun c => (intOf c).toNat)
  case atStart => exact ⟨29, rfl, by omega, HS⟩
  case round =>
    obtain ⟨k, rfl, hk, HK⟩ := hrel
    obtain ⟨s, hs⟩ : ∃ s, 0 + k = s := ⟨_, rfl⟩
    rw [hs]
    have hs1 : ¬ (s : Int) < 0 := by omega
    have hs2 : s ≤ 29 := by omega
    have hkk := HK.out
    rw [symDn, hs] at hkk
    obtain ⟨A, hA⟩ : ∃ A, (distR s).1 = A := ⟨_, rfl⟩
    obtain ⟨B, hB⟩ : ∃ B, (distR s).2 = B := ⟨_, rfl⟩
    have hk0 : k = 0 → A ≤ n := fun h => by
      have e : s = 0 := by omega
      rw [← hA, e]
      exact h0
    have HG := Lib.hid (distance_good s w (by omega))
    rw [hA, hB] at HG
    rw [hA] at hkk
    have HA := Lib.hid (And.intro hA hB)
    clear HK hA hB
    by_cases hAn : A ≤ n
    · have hAI : (A : Int) ≤ (n : Int) := by omega
      rw [if_pos hAn] at hkk
      subst hkk
      have HE : Hid ((n : Int) - (A : Int) = ((n - A : Nat) : Int)) := Lib.hid (by omega)
      clear hk0 hAn hs
      go_wp2_with (first | (refine HG.out.mono ?_; rintro e w1 ⟨rfl, rfl⟩))
      refine bodyPost_ret (results_tmp3 rfl _ _ _) rfl ⟨?_, rfl⟩
      rw [HA.out.1, HA.out.2, ← HE.out]
      rfl
    · have hAI : ¬ (A : Int) ≤ (n : Int) := by omega
      rw [if_neg hAn] at hkk
      obtain ⟨j, rfl⟩ : ∃ j, k = j + 1 := ⟨k - 1, by have := fun h => hAn (hk0 h); omega⟩
      have HKK := Lib.hid hkk
      have HE : Hid ((s : Int) - 1 = ((0 + j : Nat) : Int) ∧ 1 ≤ s) := Lib.hid (by omega)
      clear hkk hk0 hAn hs
      go_wp2_with (first | (refine HG.out.mono ?_; rintro e w1 ⟨rfl, rfl⟩))
      exact ⟨⟨j, by rw [HE.out.1], by omega, HKK⟩, by have := HE.out; simp only [intOf]; omega⟩

set_option maxRecDepth 100000 in
theorem sdistance_any (n : Nat) (h0 : 1 ≤ n) (h1 : n ≤ 32768) (w : World) :
    Calls Try.prog 84 #[.int .i64 (n : Int)] w fun e w' => e = .returned (.tuple #[.int .i64 (distSym n : Nat), .int .i64 ((n - (distR (distSym n)).1 : Nat) : Int), .int .i64 ((distR (distSym n)).2 : Nat)]) ∧ w = w' := by
  have HS := Lib.hid (distance_sym n h0 h1 w)
  generalize distSym n = S at *
  go_enter Try.func84, Try.ntmps84
  go_wp2_with (first | (refine HS.out.mono ?_; rintro e w1 ⟨rfl, rfl⟩))
  refine bodyPost_ret (results_tmp3 rfl _ _ _) rfl ⟨rfl, rfl⟩

end Go.Proofs.Ytgjcnembeebjfaa

namespace Go.Proofs.Ytgjcnembeebjfaa
open Go.RowKit
set_option linter.unusedVariables false

/-- a coder: lengths, and their codes -/
def CdIs (w : World) (c : Value) (ls : List Nat) : Prop := ∃ v1 v2, c = .agg #[v1, v2] ∧ IRow w v1 (toI ls) ∧ IRow w v2 (codesI ls)

theorem CdIs.mut {w w' : World} {c : Value} {ls : List Nat} (h : CdIs w c ls) (m : Mut [] w w') : CdIs w' c ls := by
  obtain ⟨v1, v2, rfl, h1, h2⟩ := h
  exact ⟨v1, v2, rfl, h1.mut m (by simp), h2.mut m (by simp)⟩

/-- a row beside a writer stays -/
theorem IRow.wr {w w' : World} {b : Nat} {r : Option Nat} {l l0 : List Bool} {v : Value} {xs : List Int} (h0 : WrIs w b r l0) (h : WrTo w b r l w') (hv : IRow w v xs) : IRow w' v xs := by
  obtain ⟨r', _, _, hm⟩ := h
  obtain ⟨wv, hb, hr, rfl⟩ := h0
  refine hv.mut hm fun g hg => ?_
  simp only [List.mem_cons, Option.mem_toList, not_or]
  refine ⟨fun e => row_ne hv hb (by decide) (e ▸ hg), fun e => ?_⟩
  rcases hr.2 with ⟨h1, _⟩ | ⟨g', cap, cur, h1, _, hh, _⟩
  · rw [h1] at e; simp [Value.ownBlock] at e
  · rw [h1] at e
    simp only [Value.ownBlock, Option.some.injEq] at e
    subst e
    exact row_ne hv hh (by decide) hg

theorem CdIs.wr {w w' : World} {b : Nat} {r : Option Nat} {l l0 : List Bool} {c : Value} {ls : List Nat} (h0 : WrIs w b r l0) (h : WrTo w b r l w') (hc : CdIs w c ls) : CdIs w' c ls := by
  obtain ⟨v1, v2, rfl, h1, h2⟩ := hc
  exact ⟨v1, v2, rfl, h1.wr h0 h, h2.wr h0 h⟩

theorem toI_len (ls : List Nat) : (toI ls).length = ls.length := by simp [toI]
theorem toI_get (ls : List Nat) (k : Nat) : (toI ls).getD k 0 = ((lenAt ls k : Nat) : Int) := by
  unfold lenAt toI
  simp only [List.getD, List.getElem?_map]
  cases ls[k]? <;> simp

theorem IRow.cellI' {w : World} {v : Value} {xs : List Int} (h : IRow w v xs) (k : Nat) (hk : k < xs.length) : ∃ g c, v = .slice (some ⟨g, 0, none⟩) xs.length c ∧ w.cell? ⟨g, k, none⟩ = some (.int .i64 (xs.getD k 0)) := by
  obtain ⟨g, cap, e, hc⟩ := h.at (by omega)
  exact ⟨g, cap, e, hc w (Mut.refl _ _) k hk⟩

set_option maxHeartbeats 1600000 in
set_option maxRecDepth 100000 in
theorem cput_to {w0 w : World} {b : Nat} {r : Option Nat} {l : List Bool} (h : WrTo w0 b r l w) {c : Value} {ls : List Nat} (hc : CdIs w c ls) (k : Nat) (hk : k < ls.length) (h15 : lenAt ls k ≤ 15) (hl : l.length ≤ 1125899906841000) :
    Calls Try.prog 82 #[c, .pointer (some ⟨b, 0, none⟩), .int .i64 (k : Int)] w fun e w' => e = .returned (.tuple #[]) ∧ WrTo w0 b r (l ++ hb ls k) w' := by
  obtain ⟨v1, v2, rfl, h1, h2⟩ := hc
  obtain ⟨g1, q1, e1, c1⟩ := h1.cellI' k (by rw [toI_len]; exact hk)
  obtain ⟨g2, q2, e2, c2⟩ := h2.cellI' k (by rw [codesI_length]; exact hk)
  rw [toI_get] at c1
  rw [codesI_get ls k hk] at c2
  rw [toI_len] at e1
  rw [codesI_length] at e2
  subst e1 e2
  unfold hb
  obtain ⟨n, hn⟩ : ∃ n, lenAt ls k = n := ⟨_, rfl⟩
  obtain ⟨cd, hcd⟩ : ∃ n, codeOf ls k = n := ⟨_, rfl⟩
  rw [hn] at c1 h15 ⊢
  rw [hcd] at c2 ⊢
  obtain ⟨N, hN⟩ : ∃ N, ls.length = N := ⟨_, rfl⟩
  rw [hN] at hk ⊢
  have HW := Lib.hid (WrTo.after h ((Mut.refl [] w).alloc (.cells #[.slice (some ⟨g1, 0, none⟩) N q1, .slice (some ⟨g2, 0, none⟩) N q2] 118)))
  have m0 : Mut [] w (w.alloc (.cells #[.slice (some ⟨g1, 0, none⟩) N q1, .slice (some ⟨g2, 0, none⟩) N q2] 118)) := (Mut.refl [] w).alloc _
  have d1 := m0.cell c1 (by simp)
  have d2 := m0.cell c2 (by simp)
  obtain ⟨d3, d4, -, -⟩ := cells2 (heap_alloc_new w (.cells #[.slice (some ⟨g1, 0, none⟩) N q1, .slice (some ⟨g2, 0, none⟩) N q2] 118))
  clear c1 c2 hn hcd hN h h1 h2 m0
  go_enter Try.func82, Try.ntmps82
  go_upto_region 1 with fail
  generalize w.alloc (.cells #[.slice (some ⟨g1, 0, none⟩) N q1, .slice (some ⟨g2, 0, none⟩) N q2] 118) = w1 at *
  generalize w.heap.size = gb at *
  have HC := Lib.hid (code_to (WrTo.after HW.out (Mut.refl [] w1).drew) (cd : Int) (n : Int) n rfl hl (by omega))
  clear HW
  go_still_tail 11, (by kernel_rfl)
  go_wp2_with (go_at_call 102; refine HC.out.mono ?_; rintro e w7 ⟨rfl, h7⟩; have H7 := Lib.hid h7; clear h7)
  go_end0
  exact ⟨rfl, H7.out⟩

theorem good_lens (ls : List Nat) (h : newErr (toI ls) = 0) : ls.length ≤ 1024 := by
  have := (newErr_len' _ h).1
  rwa [toI_len] at this

/-- a coder's result, out of its cell -/
theorem results_coder {tmps : Array Value} {w : World} {g : Nat} {a0 a1 : Value} (h1 : w.heap[g]? = some (.cells #[a0, a1] 118 (0, 0))) (p1 : tmps.getD 2 undef = .pointer (some ⟨g, 0, none⟩)) :
    (results Try.f81 tmps).run Try.prog w = .ok (.agg #[a0, a1]) w := by
  have q1 : tmps[2]?.getD undef = .pointer (some ⟨g, 0, none⟩) := by simpa using p1
  have e1 := run_loadVar_row (P := Try.prog) w g 118 118 #[a0, a1] (0, 0) _ h1 Try.underlying118 rfl (by kernel_rfl)
  simp [results, q1, asAddr, e1]

set_option maxHeartbeats 1600000 in
set_option maxRecDepth 100000 in
theorem coderOf_any (ls : List Nat) (h0 : newErr (toI ls) = 0) (v : Value) (w : World) (hv : IRow w v (toI ls)) :
    Calls Try.prog 81 #[v] w fun e w' => ∃ c, e = .returned c ∧ CdIs w' c ls ∧ Mut [] w w' := by
  have hlen := good_lens ls h0
  have HV := Lib.hid hv
  obtain ⟨p, cap, rfl, -⟩ := hv.read
  rw [toI_len]
  have hm0 : Mut [] w (w.alloc (.cells #[.slice none 0 0, .slice none 0 0] 118)) := (Mut.refl [] w).alloc _
  have hbx := heap_alloc_new w (.cells #[.slice none 0 0, .slice none 0 0] 118)
  have HB := Lib.hid (And.intro hm0 hbx)
  clear hv hm0 hbx
  go_enter Try.func81, Try.ntmps81
  go_upto_region 1 with fail
  generalize w.alloc (.cells #[.slice none 0 0, .slice none 0 0] 118) = w1 at *
  generalize hgb : w.heap.size = gb at *
  have HGB := Lib.hid hgb
  clear hgb
  have hn := new_row (toI ls) (by rw [toI_len]; omega) _ w1 (HV.out.mut HB.out.1 (by simp))
  rw [toI_len, lens_toI, h0] at hn
  have HN := Lib.hid hn
  clear hn
  go_wp2_with fail
  refine HN.out.mono ?_
  rintro e w2 ⟨(⟨hx, -⟩ | ⟨-, tb, rfl, hT⟩), hm2⟩
  · exact absurd rfl hx
  have HT := Lib.hid (codes_any _ _ tb ls w2 hT hlen)
  have HM2 := Lib.hid hm2
  clear hT hm2 HN
  go_wp2_with fail
  refine HT.out.mono ?_
  rintro e w3 ⟨vc, rfl, hr3, hm3, -⟩
  have HR3 := Lib.hid hr3
  have HM3 := Lib.hid (HM2.out.trans' hm3)
  have hb3 := HM3.out.get HB.out.2 (by simp)
  have HB3 := Lib.hid hb3
  obtain ⟨f0, f1, f2, f3⟩ := cells2 hb3
  obtain ⟨p3, l3, c3, rfl⟩ := hr3.form
  clear hr3 hm3 HT HM2 hb3
  go_wp2_with fail
  have hb3 := HB3.out
  have hm : Mut [] w w3 := HB.out.1.trans' HM3.out
  have hv3 : IRow w3 (.slice p ls.length cap) (toI ls) := by
    have := HV.out.mut hm (by simp)
    rwa [toI_len] at this
  have hs : Mut [gb] w3 ((w3.setCell ⟨gb, 0, none⟩ (.slice p ls.length cap)).setCell ⟨gb, 1, none⟩ (.slice p3 l3 c3)) := ((Mut.refl _ w3).setCell (by simp) _).setCell (by simp) _
  have hne : ∀ {v : Value} {xs : List Int}, IRow w3 v xs → ∀ g, v.ownBlock = some g → g ∉ [gb] := fun hv g hg e => by
    have : g = gb := by simpa using e
    exact row_ne hv hb3 (by decide) (this ▸ hg)
  exact bodyPost_ret (results_coder (heap_set (heap_set hb3 0 _) 1 _) rfl) rfl ⟨_, rfl, ⟨_, _, rfl, hv3.mut hs (hne hv3), HR3.out.mut hs (hne HR3.out)⟩, hm.trans hs (fun x hx => .inr (by
    have : x = gb := by simpa using hx
    have := HGB.out
    omega))⟩

end Go.Proofs.Ytgjcnembeebjfaa

namespace Go.Proofs.Ytgjcnembeebjfaa
open Go.RowKit
set_option linter.unusedVariables false

theorem WrTo.blk {w w' : World} {b : Nat} {r : Option Nat} {l l0 : List Bool} (h0 : WrIs w b r l0) (h : WrTo w b r l w') {g : Nat} {c : Array Value} {t : TypeId} {fr : Nat × Nat} (hg : w.heap[g]? = some (.cells c t fr)) (h1 : t ≠ 114) (h2 : t ≠ 5) : w'.heap[g]? = some (.cells c t fr) := by
  obtain ⟨r', _, _, hm⟩ := h
  obtain ⟨wv, hb, hr, rfl⟩ := h0
  refine hm.get hg ?_
  simp only [List.mem_cons, Option.mem_toList, not_or]
  refine ⟨fun e => ?_, fun e => row_ne hr hg (Ne.symm h2) e⟩
  rw [e, hb] at hg
  simp at hg
  exact h1 hg.2.1.symm

theorem TRow.wr {e : TypeId} {w w' : World} {b : Nat} {r : Option Nat} {l l0 : List Bool} {v : Value} {T : List Tok} (h1 : e ≠ 114) (h2 : e ≠ 5) (h0 : WrIs w b r l0) (h : WrTo w b r l w') (hv : TRow e w v T) : TRow e w' v T := by
  refine ⟨hv.1, ?_⟩
  rcases hv.2 with h3 | ⟨g, cap, cur, rfl, hg, hh, q⟩
  · exact .inl h3
  · exact .inr ⟨g, cap, cur, rfl, hg, h.blk h0 hh h1 h2, q⟩

/-- where tokens are written: the writer, the coders in their boxes, the row of tokens -/
structure TkF (w : World) (b : Nat) (r : Option Nat) (l : List Bool) (gA gB : Nat) (a1 a2 b1 b2 : Value) (la lb : List Nat) (v : Value) (T : List Tok) : Prop where
  wr : WrIs w b r l
  ca : CdIs w (.agg #[a1, a2]) la
  cb : CdIs w (.agg #[b1, b2]) lb
  boxA : w.heap[gA]? = some (.cells #[a1, a2] 118 (0, 0))
  boxB : w.heap[gB]? = some (.cells #[b1, b2] 118 (0, 0))
  row : TRow 146 w v T

theorem TkF.keep {w w' : World} {b : Nat} {r : Option Nat} {l l' : List Bool} {gA gB : Nat} {a1 a2 b1 b2 : Value} {la lb : List Nat} {v : Value} {T : List Tok} (h : TkF w b r l gA gB a1 a2 b1 b2 la lb v T) (k : WrTo w b r l' w') :
    ∃ r', TkF w' b r' l' gA gB a1 a2 b1 b2 la lb v T ∧ (∀ g, r' = some g → r = some g ∨ w.heap.size ≤ g) ∧ Mut (b :: r.toList) w w' := by
  have k0 := k
  obtain ⟨r', k1, k2, k3⟩ := k
  exact ⟨r', ⟨k1, h.ca.wr h.wr k0, h.cb.wr h.wr k0, k0.blk h.wr h.boxA (by decide) (by decide), k0.blk h.wr h.boxB (by decide) (by decide), h.row.wr (by decide) (by decide) h.wr k0⟩, k2, k3⟩

theorem TkF.mut {w w' : World} {b : Nat} {r : Option Nat} {l : List Bool} {gA gB : Nat} {a1 a2 b1 b2 : Value} {la lb : List Nat} {v : Value} {T : List Tok} (h : TkF w b r l gA gB a1 a2 b1 b2 la lb v T) (m : Mut [] w w') : TkF w' b r l gA gB a1 a2 b1 b2 la lb v T :=
  ⟨h.wr.mut m (by simp) (by simp), h.ca.mut m, h.cb.mut m, m.get h.boxA (by simp), m.get h.boxB (by simp), h.row.mut m (by simp)⟩

/-- .. and how it came from another world -/
def TkG (w0 : World) (r0 : Option Nat) (w : World) (b : Nat) (l : List Bool) (gA gB : Nat) (a1 a2 b1 b2 : Value) (la lb : List Nat) (v : Value) (T : List Tok) : Prop :=
  ∃ r, TkF w b r l gA gB a1 a2 b1 b2 la lb v T ∧ (∀ g, r = some g → r0 = some g ∨ w0.heap.size ≤ g) ∧ Mut (b :: r0.toList) w0 w

theorem TkG.mut {w0 w w' : World} {r0 : Option Nat} {b : Nat} {l : List Bool} {gA gB : Nat} {a1 a2 b1 b2 : Value} {la lb : List Nat} {v : Value} {T : List Tok} (h : TkG w0 r0 w b l gA gB a1 a2 b1 b2 la lb v T) (m : Mut [] w w') : TkG w0 r0 w' b l gA gB a1 a2 b1 b2 la lb v T := by
  obtain ⟨r, h1, h2, h3⟩ := h
  exact ⟨r, h1.mut m, h2, h3.trans m (by simp)⟩

/-- a call on the writer: what it leaves, with a block beside kept -/
theorem TkG.call {w0 w : World} {r0 : Option Nat} {b : Nat} {l l' : List Bool} {gA gB : Nat} {a1 a2 b1 b2 : Value} {la lb : List Nat} {v : Value} {T : List Tok} (h : TkG w0 r0 w b l gA gB a1 a2 b1 b2 la lb v T) {f : FuncId} {args : Array Value}
    (hc : ∀ r, TkF w b r l gA gB a1 a2 b1 b2 la lb v T → Calls Try.prog f args w fun e w' => e = .returned (.tuple #[]) ∧ WrTo w b r l' w') {g9 : Nat} {c9 : Array Value} {t9 : TypeId} {fr : Nat × Nat} (h9 : w.heap[g9]? = some (.cells c9 t9 fr)) (n1 : t9 ≠ 114) (n2 : t9 ≠ 5) :
    Calls Try.prog f args w fun e w' => e = .returned (.tuple #[]) ∧ TkG w0 r0 w' b l' gA gB a1 a2 b1 b2 la lb v T ∧ w'.heap[g9]? = some (.cells c9 t9 fr) := by
  obtain ⟨r, h1, h2, h3⟩ := h
  refine (hc r h1).mono fun e w' ⟨he, k⟩ => ⟨he, ?_, k.blk h1.wr h9 n1 n2⟩
  obtain ⟨r', k1, k2, k3⟩ := h1.keep k
  refine ⟨r', k1, fun g hg => ?_, h3.trans k3 fun x hx => ?_⟩
  · rcases k2 g hg with h4 | h4
    · exact h2 g h4
    · have := h3.size
      exact .inr (by omega)
  · rcases List.mem_cons.1 hx with rfl | hx
    · exact .inl (by simp)
    · rcases h2 x (by simpa using hx) with h4 | h4
      · exact .inl (by simp [h4])
      · exact .inr h4

theorem lenAt_15 (ls : List Nat) (h : ∀ n ∈ ls, n ≤ 15) (k : Nat) : lenAt ls k ≤ 15 := by
  unfold lenAt
  by_cases hk : k < ls.length
  · rw [show ls.getD k 0 = ls[k] by simp [List.getD, hk]]
    exact h _ (List.getElem_mem hk)
  · simp [List.getD, show ls.length ≤ k by omega]

theorem tok1_len (la lb : List Nat) (pa : ∀ n ∈ la, n ≤ 15) (pb : ∀ n ∈ lb, n ≤ 15) (x : Tok) {R o : Nat} (hR : R ≤ 32768) (hx : tokOk R o x) : (tok1 la lb x).length ≤ 60 := by
  unfold tok1
  rcases hx with ⟨k1, k2, k3⟩ | ⟨k1, k2, k3, k4, k5, k6⟩
  · rw [if_pos k1, hb_len]
    have := lenAt_15 la pa x.1
    omega
  · rw [if_neg (by omega)]
    obtain ⟨a1, a2, a3, a4⟩ := lenSym_spec x.2.1 k1 k2
    obtain ⟨b1, b2, b3⟩ := distSym_spec x.2.2 k3 (by omega)
    have := lenAt_15 la pa (lenSym x.2.1)
    have := lenAt_15 lb pb (distSym x.2.2)
    have := (lenR_small (lenSym x.2.1) (by omega) a1).2
    have := (distR_small (distSym x.2.2) (by omega)).2
    simp only [List.length_append, hb_len, lowBits_length]
    omega

theorem toks1_len (la lb : List Nat) (pa : ∀ n ∈ la, n ≤ 15) (pb : ∀ n ∈ lb, n ≤ 15) {R : Nat} (hR : R ≤ 32768) : ∀ (T : List Tok), (∀ x ∈ T, ∃ o, tokOk R o x) → (T.flatMap (tok1 la lb)).length ≤ 60 * T.length
  | [], _ => Nat.le_refl _
  | x :: T, h => by
    obtain ⟨o, ho⟩ := h x (by simp)
    have h1 := tok1_len la lb pa pb x hR ho
    have h2 := toks1_len la lb pa pb hR T (fun y hy => h y (by simp [hy]))
    rw [List.flatMap_cons, List.length_append, List.length_cons]
    omega

theorem TkG.cputA {w0 w : World} {r0 : Option Nat} {b : Nat} {l : List Bool} {gA gB : Nat} {a1 a2 b1 b2 : Value} {la lb : List Nat} {v : Value} {T : List Tok} (h : TkG w0 r0 w b l gA gB a1 a2 b1 b2 la lb v T) (k : Nat) (hk : k < la.length) (h15 : ∀ n ∈ la, n ≤ 15) (hl : l.length ≤ 1125899906841000) {g9 : Nat} {c9 : Array Value} {t9 : TypeId} {fr : Nat × Nat} (h9 : w.heap[g9]? = some (.cells c9 t9 fr)) (n1 : t9 ≠ 114) (n2 : t9 ≠ 5) :
    Calls Try.prog 82 #[.agg #[a1, a2], .pointer (some ⟨b, 0, none⟩), .int .i64 (k : Int)] w fun e w' => e = .returned (.tuple #[]) ∧ TkG w0 r0 w' b (l ++ hb la k) gA gB a1 a2 b1 b2 la lb v T ∧ w'.heap[g9]? = some (.cells c9 t9 fr) :=
  h.call (fun r hF => cput_to (WrTo.refl hF.wr) hF.ca k hk (lenAt_15 la h15 k) hl) h9 n1 n2
theorem TkG.cputB {w0 w : World} {r0 : Option Nat} {b : Nat} {l : List Bool} {gA gB : Nat} {a1 a2 b1 b2 : Value} {la lb : List Nat} {v : Value} {T : List Tok} (h : TkG w0 r0 w b l gA gB a1 a2 b1 b2 la lb v T) (k : Nat) (hk : k < lb.length) (h15 : ∀ n ∈ lb, n ≤ 15) (hl : l.length ≤ 1125899906841000) {g9 : Nat} {c9 : Array Value} {t9 : TypeId} {fr : Nat × Nat} (h9 : w.heap[g9]? = some (.cells c9 t9 fr)) (n1 : t9 ≠ 114) (n2 : t9 ≠ 5) :
    Calls Try.prog 82 #[.agg #[b1, b2], .pointer (some ⟨b, 0, none⟩), .int .i64 (k : Int)] w fun e w' => e = .returned (.tuple #[]) ∧ TkG w0 r0 w' b (l ++ hb lb k) gA gB a1 a2 b1 b2 la lb v T ∧ w'.heap[g9]? = some (.cells c9 t9 fr) :=
  h.call (fun r hF => cput_to (WrTo.refl hF.wr) hF.cb k hk (lenAt_15 lb h15 k) hl) h9 n1 n2
theorem TkG.put {w0 w : World} {r0 : Option Nat} {b : Nat} {l : List Bool} {gA gB : Nat} {a1 a2 b1 b2 : Value} {la lb : List Nat} {v : Value} {T : List Tok} (h : TkG w0 r0 w b l gA gB a1 a2 b1 b2 la lb v T) (x : Int) (n : Nat) (hn : n ≤ 32) (hl : l.length ≤ 1125899906841000) {g9 : Nat} {c9 : Array Value} {t9 : TypeId} {fr : Nat × Nat} (h9 : w.heap[g9]? = some (.cells c9 t9 fr)) (n1 : t9 ≠ 114) (n2 : t9 ≠ 5) :
    Calls Try.prog 57 #[.pointer (some ⟨b, 0, none⟩), .int .i64 x, .int .i64 (n : Int)] w fun e w' => e = .returned (.tuple #[]) ∧ TkG w0 r0 w' b (l ++ lowBits x n) gA gB a1 a2 b1 b2 la lb v T ∧ w'.heap[g9]? = some (.cells c9 t9 fr) :=
  h.call (fun r hF => put_to (WrTo.refl hF.wr) x (n : Int) n rfl hl hn) h9 n1 n2
theorem TkG.boxes {w0 w : World} {r0 : Option Nat} {b : Nat} {l : List Bool} {gA gB : Nat} {a1 a2 b1 b2 : Value} {la lb : List Nat} {v : Value} {T : List Tok} (h : TkG w0 r0 w b l gA gB a1 a2 b1 b2 la lb v T) : w.cell? ⟨gA, 0, none⟩ = some a1 ∧ w.cell? ⟨gA, 1, none⟩ = some a2 ∧ w.cell? ⟨gB, 0, none⟩ = some b1 ∧ w.cell? ⟨gB, 1, none⟩ = some b2 := by
  obtain ⟨r, hF, -, -⟩ := h
  obtain ⟨x1, x2, -, -⟩ := cells2 hF.boxA
  obtain ⟨y1, y2, -, -⟩ := cells2 hF.boxB
  exact ⟨x1, x2, y1, y2⟩

set_option maxHeartbeats 3200000 in
set_option maxRecDepth 100000 in
theorem tokens_to (la lb : List Nat) (pa : ∀ n ∈ la, n ≤ 15) (pb : ∀ n ∈ lb, n ≤ 15) (hla : 286 ≤ la.length) (hlb : 30 ≤ lb.length) (T : List Tok) {R : Nat} (hR : R ≤ 32768) (hT : ∀ x ∈ T, ∃ o, tokOk R o x) (hTl : T.length ≤ 1073741824)
    {w : World} {b : Nat} {r : Option Nat} {l : List Bool} (hl : l.length ≤ 562949953421312) (hw : WrIs w b r l) {ca cb : Value} (hca : CdIs w ca la) (hcb : CdIs w cb lb) {v : Value} (hv : TRow 146 w v T) :
    Calls Try.prog 60 #[.pointer (some ⟨b, 0, none⟩), v, ca, cb] w fun e w' => e = .returned (.tuple #[]) ∧ WrTo w b r (l ++ toks la lb T) w' := by
  obtain ⟨a1, a2, rfl, ha1, ha2⟩ := hca
  obtain ⟨b1, b2, rfl, hb1, hb2⟩ := hcb
  obtain ⟨pv, cv, rfl⟩ := hv.form
  have hw1 : Mut [] w ((w.alloc (.cells #[a1, a2] 118)).alloc (.cells #[b1, b2] 118)) := ((Mut.refl [] w).alloc _).alloc _
  have hbA : ((w.alloc (.cells #[a1, a2] 118)).alloc (.cells #[b1, b2] 118)).heap[w.heap.size]? = some (.cells #[a1, a2] 118 (0, 0)) := ((Mut.refl [] (w.alloc (.cells #[a1, a2] 118))).alloc _).get (heap_alloc_new w _) (by simp)
  have hbB : ((w.alloc (.cells #[a1, a2] 118)).alloc (.cells #[b1, b2] 118)).heap[w.heap.size + 1]? = some (.cells #[b1, b2] 118 (0, 0)) := by
    have := heap_alloc_new (w.alloc (.cells #[a1, a2] 118)) (.cells #[b1, b2] 118)
    simpa using this
  have HG : Hid (TkG w r ((w.alloc (.cells #[a1, a2] 118)).alloc (.cells #[b1, b2] 118)) b l w.heap.size (w.heap.size + 1) a1 a2 b1 b2 la lb (.slice pv T.length cv) T) :=
    Lib.hid ⟨r, ⟨hw.mut hw1 (by simp) (by simp), ⟨a1, a2, rfl, ha1.mut hw1 (by simp), ha2.mut hw1 (by simp)⟩, ⟨b1, b2, rfl, hb1.mut hw1 (by simp), hb2.mut hw1 (by simp)⟩, hbA, hbB, hv.mut hw1 (by simp)⟩, fun g hg => .inl hg, hw1.mono (by simp)⟩
  have HT := Lib.hid hT
  obtain ⟨pa1, la1, ca1, rfl⟩ := ha1.form
  obtain ⟨pa2, la2, ca2, rfl⟩ := ha2.form
  obtain ⟨pb1, lb1, cb1, rfl⟩ := hb1.form
  obtain ⟨pb2, lb2, cb2, rfl⟩ := hb2.form
  have HP := Lib.hid (And.intro pa pb)
  clear hw hv ha1 ha2 hb1 hb2 hw1 hbA hbB hT pa pb
  go_enter Try.func60, Try.ntmps60
  go_upto_region 1 with fail
  generalize (w.alloc (.cells #[.slice pa1 la1 ca1, .slice pa2 la2 ca2] 118)).alloc (.cells #[.slice pb1 lb1 cb1, .slice pb2 lb2 cb2] 118) = w1 at *
  generalize w.heap.size = gA at *
  generalize gA + 1 = gB at *
  go_wp2_with fail
  go_loopw [15] (fun c wx => ∃ i : Nat, c = .int .i64 (i : Int) ∧ i ≤ T.length ∧ Hid (TkG w r wx b (l ++ (T.take i).flatMap (tok1 la lb)) gA gB (.slice pa1 la1 ca1) (.slice pa2 la2 ca2) (.slice pb1 lb1 cb1) (.slice pb2 lb2 cb2) la lb (.slice pv T.length cv) T)) (fun c _ => T.length - (intOf c).toNat)
  case atStart => exact ⟨0, rfl, Nat.zero_le _, Lib.hid (by simpa using HG.out)⟩
  case round =>
    obtain ⟨i, rfl, hi, HR⟩ := hrel
    clear HG
    have hbl := toks1_len la lb HP.out.1 HP.out.2 hR (T.take i) (fun x hx => HT.out x (List.mem_of_mem_take hx))
    have hBL : (l ++ (T.take i).flatMap (tok1 la lb)).length ≤ 562949953421312 + 60 * T.length := by
      rw [List.length_append]
      have : (T.take i).length ≤ T.length := List.length_take_le' _ _
      omega
    obtain ⟨L, hL⟩ : ∃ L, l ++ (T.take i).flatMap (tok1 la lb) = L := ⟨_, rfl⟩
    rw [hL] at HR hBL
    have HL := Lib.hid hL
    have HBL := Lib.hid (show L.length ≤ 1000000000000000 by omega)
    clear hbl hL hBL
    by_cases hlt : i < T.length
    case neg =>
      have hiT : i = T.length := by omega
      subst hiT
      rw [List.take_length] at HL
      obtain ⟨x1, x2, y1, y2⟩ := HR.out.boxes
      have HC := Lib.hid (HR.out.cputA 256 (by omega) HP.out.1 (by have := HBL.out; omega) (HR.out.choose_spec.1.boxA) (by decide) (by decide))
      have hnI : ¬ (T.length : Int) < (T.length : Int) := by omega
      clear hlt HR hi
      go_wp2_with fail
      refine HC.out.mono ?_
      rintro e w2 ⟨rfl, hG, -⟩
      have HG := Lib.hid hG
      clear hG HC
      go_wp2_with fail
      go_end0
      refine ⟨rfl, ?_⟩
      obtain ⟨r2, g1, g2, g3⟩ := HG.out
      rw [← HL.out, List.append_assoc] at g1
      exact ⟨r2, g1.wr, g2, g3⟩
    case pos =>
      have hltI : (i : Int) < (T.length : Int) := by omega
      have hx := HT.out T[i] (List.getElem_mem hlt)
      have hsn : (T.take (i + 1)).flatMap (tok1 la lb) = (T.take i).flatMap (tok1 la lb) ++ tok1 la lb T[i] := by
        rw [List.take_succ_eq_append_getElem hlt, toks_snoc]
      have htl := tok1_len la lb HP.out.1 HP.out.2 T[i] hR hx.choose_spec
      obtain ⟨r', hF, -, -⟩ := HR.out
      obtain ⟨g1, c1', e1, -, -⟩ := row_some hF.row (by omega)
      simp only [Value.slice.injEq] at e1
      obtain ⟨rfl, -, rfl⟩ := e1
      obtain ⟨d0, d1, d2⟩ := hF.row.cells i hlt
      obtain ⟨⟨X1, X2, X3⟩, hX⟩ : ∃ x, T[i] = x := ⟨_, rfl⟩
      rw [hX, Nat.mul_comm] at d0 d1 d2
      rw [hX] at hx hsn htl
      dsimp only at d0 d1 d2
      have HX := Lib.hid hx
      have HSN : Hid (l ++ (T.take (i + 1)).flatMap (tok1 la lb) = L ++ tok1 la lb (X1, X2, X3)) := Lib.hid (by rw [hsn, ← HL.out, List.append_assoc])
      have HTL := Lib.hid htl
      clear hx hsn htl hF hX
      go_upto_region 4 with fail
      have HG2 := Lib.hid (HR.out.mut ((Mut.refl [] wr).alloc (.cells #[.int .u8 (X1 : Int), .int .i64 (X2 : Int), .int .i64 (X3 : Int)] 146)))
      have H9 := Lib.hid (heap_alloc_new wr (.cells #[.int .u8 (X1 : Int), .int .i64 (X2 : Int), .int .i64 (X3 : Int)] 146))
      clear HR d0 d1 d2
      generalize wr.alloc (.cells #[.int .u8 (X1 : Int), .int .i64 (X2 : Int), .int .i64 (X3 : Int)] 146) = w2 at *
      generalize wr.heap.size = g9 at *
      obtain ⟨c0, c1, c2, -, -, -⟩ := cells3 H9.out
      obtain ⟨x1, x2, y1, y2⟩ := HG2.out.boxes
      obtain ⟨o, ho⟩ := HX.out
      have hL0 := HBL.out
      rcases ho with ⟨k1, k2, k3⟩ | ⟨k1, k2, k3, k4, k5, k6⟩
      · simp only at k1 k2 k3
        have hxI : ((X2 : Int) == 0) = true := by rw [k1]; rfl
        have HC := Lib.hid (HG2.out.cputA X1 (by omega) HP.out.1 (by omega) H9.out (by decide) (by decide))
        have HSN2 : Hid (l ++ (T.take (i + 1)).flatMap (tok1 la lb) = L ++ hb la X1) := Lib.hid (by rw [HSN.out]; unfold tok1; rw [if_pos k1])
        have hw5 : IntKind.i64.wrap (X1 : Int) = (X1 : Int) := IntWalk.i64_in _ (by omega)
        have hw6 : wrap64 (X1 : Int) = (X1 : Int) := IntWalk.wrap64_in _ (by omega)
        clear k1 k2 k3 hL0 HG2
        go_wp2_with fail
        refine HC.out.mono ?_
        rintro e w3 ⟨rfl, hG, -⟩
        rw [← HSN2.out] at hG
        have HG3 := Lib.hid hG
        clear hG HC
        go_wp2_with fail
        exact ⟨⟨i + 1, by rw [Int.natCast_add]; rfl, hlt, HG3⟩, by simp only [intOf]; omega⟩
      · simp only at k1 k2 k3 k4
        have hxI : ((X2 : Int) == 0) = false := by rw [beq_eq_false_iff_ne]; omega
        obtain ⟨s1, s2, s3, s4⟩ := lenSym_spec X2 k1 k2
        obtain ⟨q1, q2, q3⟩ := distSym_spec X3 k3 (by omega)
        have s5 := (lenR_small (lenSym X2) (by omega) s1).2
        have q5 := (distR_small (distSym X3) (by omega)).2
        have HL1 := Lib.hid (fun w => slength_any X2 k1 k2 w)
        have HD1 := Lib.hid (fun w => sdistance_any X3 k3 (by omega) w)
        have hsn2 : l ++ (T.take (i + 1)).flatMap (tok1 la lb) = L ++ hb la (lenSym X2) ++ lowBits ((X2 - (lenR (lenSym X2)).1 : Nat) : Int) (lenR (lenSym X2)).2 ++ hb lb (distSym X3) ++ lowBits ((X3 - (distR (distSym X3)).1 : Nat) : Int) (distR (distSym X3)).2 := by
          rw [HSN.out]
          unfold tok1
          rw [if_neg (by simp only; omega)]
          simp only [List.append_assoc]
        obtain ⟨mL, hmL⟩ : ∃ m, X2 - (lenR (lenSym X2)).1 = m := ⟨_, rfl⟩
        obtain ⟨mK, hmK⟩ : ∃ m, X3 - (distR (distSym X3)).1 = m := ⟨_, rfl⟩
        obtain ⟨nL, hnL⟩ : ∃ m, (lenR (lenSym X2)).2 = m := ⟨_, rfl⟩
        obtain ⟨nK, hnK⟩ : ∃ m, (distR (distSym X3)).2 = m := ⟨_, rfl⟩
        rw [hmL, hmK, hnL, hnK] at hsn2
        rw [hmL, hnL] at HL1
        rw [hmK, hnK] at HD1
        rw [hnL] at s5
        rw [hnK] at q5
        generalize lenSym X2 = sL at *
        generalize distSym X3 = sK at *
        have HSN2 := Lib.hid hsn2
        have hA := lenAt_15 la HP.out.1 sL
        have hB := lenAt_15 lb HP.out.2 sK
        have HC := Lib.hid (HG2.out.cputA sL (by omega) HP.out.1 (by omega) H9.out (by decide) (by decide))
        have HQ := Lib.hid (show sK < lb.length ∧ nL ≤ 32 ∧ nK ≤ 32 ∧ L.length + 100 ≤ 1125899906841000 ∧ lenAt la sL ≤ 15 ∧ lenAt lb sK ≤ 15 ∧ nL ≤ 5 from ⟨by omega, by omega, by omega, by omega, hA, hB, s5⟩)
        clear hsn2 hmL hmK hnL hnK k1 k2 k3 k4 k5 k6 s1 s2 s3 s4 s5 q1 q2 q3 q5 hA hB hL0 HG2
        go_wp2_with fail
        refine (HL1.out _).mono ?_
        rintro e w3 ⟨rfl, rfl⟩
        go_wp2_with fail
        refine HC.out.mono ?_
        rintro e w3 ⟨rfl, hG, h9⟩
        have HG3 := Lib.hid hG
        have H93 := Lib.hid h9
        obtain ⟨c0, c1, c2, -, -, -⟩ := cells3 h9
        obtain ⟨x1, x2, y1, y2⟩ := hG.boxes
        have HC2 := Lib.hid (hG.put (mL : Int) nL HQ.out.2.1 (by have := HQ.out; rw [List.length_append, hb_len]; omega) h9 (by decide) (by decide))
        clear hG h9 HC H9
        go_wp2_with fail
        refine HC2.out.mono ?_
        rintro e w4 ⟨rfl, hG, h9⟩
        have HG4 := Lib.hid hG
        have H94 := Lib.hid h9
        obtain ⟨c0, c1, c2, -, -, -⟩ := cells3 h9
        obtain ⟨x1, x2, y1, y2⟩ := hG.boxes
        clear hG h9 HC2 H93 HG3
        go_wp2_with fail
        refine (HD1.out _).mono ?_
        rintro e w5 ⟨rfl, rfl⟩
        have HC3 := Lib.hid (HG4.out.cputB sK HQ.out.1 HP.out.2 (by have := HQ.out; rw [List.length_append, List.length_append, hb_len, lowBits_length]; omega) H94.out (by decide) (by decide))
        go_wp2_with fail
        refine HC3.out.mono ?_
        rintro e w5 ⟨rfl, hG, h9⟩
        have HG5 := Lib.hid hG
        have HC4 := Lib.hid (hG.put (mK : Int) nK HQ.out.2.2.1 (by have := HQ.out; simp only [List.length_append, hb_len, lowBits_length]; omega) h9 (by decide) (by decide))
        clear hG h9 HC3 H94 HG4
        go_wp2_with fail
        refine HC4.out.mono ?_
        rintro e w6 ⟨rfl, hG, -⟩
        rw [← HSN2.out] at hG
        have HG6 := Lib.hid hG
        clear hG HC4
        go_wp2_with fail
        exact ⟨⟨i + 1, by rw [Int.natCast_add]; rfl, hlt, HG6⟩, by simp only [intOf]; omega⟩

end Go.Proofs.Ytgjcnembeebjfaa

namespace Go.Proofs.Ytgjcnembeebjfaa
open Go.RowKit
set_option linter.unusedVariables false

theorem told4_len (x y : List Nat) : (told4 x y).length = 71 + 4 * (x.length + y.length) := by
  have : ∀ l : List Nat, (l.flatMap fun n : Nat => highBits (n : Int) 4).length = 4 * l.length := by
    intro l
    induction l with
    | nil => rfl
    | cons a r ih => simp only [List.flatMap_cons, List.length_append, ih, highBits_length, List.length_cons]; omega
  unfold told4
  simp only [List.length_append, lowBits_length, this]
  have e : (List.replicate 16 (lowBits 4 3)).flatten.length = 48 := by decide +kernel
  rw [e]

theorem span_ok (D : List Nat) (hD : ∀ x ∈ D, x < 256) (a n R : Nat) : (∀ x ∈ span D a n R, ∃ o, tokOk R o x) ∧ (span D a n R).length ≤ n := by
  refine ⟨toksOk_mem R _ a (tks_ok D hD (a + n) R (n + 1) a), ?_⟩
  have := tks_len D (a + n) R (n + 1) a
  unfold span
  omega

theorem toks_len (la lb : List Nat) (pa : ∀ n ∈ la, n ≤ 15) (pb : ∀ n ∈ lb, n ≤ 15) {R : Nat} (hR : R ≤ 32768) (T : List Tok) (h : ∀ x ∈ T, ∃ o, tokOk R o x) : (toks la lb T).length ≤ 60 * T.length + 15 := by
  have h1 := toks1_len la lb pa pb hR T h
  have h2 := lenAt_15 la pa 256
  unfold toks
  rw [List.length_append, hb_len]
  omega

theorem fixed_15 : (∀ n ∈ fixedL, n ≤ 15) ∧ (∀ n ∈ fixedD, n ≤ 15) := ⟨fixedL_good.h15, fixedD_good.h15⟩
theorem xy_15 (T : List Tok) : (∀ n ∈ xOf T, n ≤ 15) ∧ (∀ n ∈ yOf T, n ≤ 15) :=
  ⟨(good_even (useL T) (by rw [useL_len]; decide)).1.h15, (good_even (useE (useD T)) (by rw [useE_len, useD_len]; decide)).1.h15⟩
theorem xy_len (T : List Tok) : (xOf T).length = 286 ∧ (yOf T).length = 30 := by
  unfold xOf yOf
  exact ⟨by rw [evenOf_length, useL_len], by rw [evenOf_length, useE_len, useD_len]⟩

theorem blkB_len (D : List Nat) (hD : ∀ x ∈ D, x < 256) (k a n R : Nat) (hR : R ≤ 32768) (q : Bool) (B : List Bool) : (blkB D k a n R q B).length ≤ B.length + 60 * n + 1400 := by
  obtain ⟨s1, s2⟩ := span_ok D hD a n R
  unfold blkB
  simp only
  split
  · simp only [List.length_append, pad8_length, bytesBits_length, lowBits_length, List.length_take, List.length_drop, List.length_cons, List.length_nil]
    omega
  · split
    · have := toks_len fixedL fixedD fixed_15.1 fixed_15.2 hR _ s1
      simp only [List.length_append, lowBits_length]
      omega
    · have := toks_len _ _ (xy_15 (span D a n R)).1 (xy_15 (span D a n R)).2 hR _ s1
      have h2 := told4_len (xOf (span D a n R)) (yOf (span D a n R))
      rw [(xy_len _).1, (xy_len _).2] at h2
      simp only [List.length_append, lowBits_length, h2]
      omega

/-- what the walk writes of a block as it is -/
theorem blk0_eq (D : List Nat) (a n R lo hi : Nat) (q : Bool) (B : List Bool) (x : ByteArray) (hx : bytesOf x = (D.drop a).take n) (hlo : n % 256 = lo) (hhi : n / 256 = hi) (hn : n ≤ 65535) :
    pad8 (pad8 (B ++ lowBits (q.toNat : Int) 1 ++ lowBits 0 2) ++ strBits (strOf [lo, hi, 255 - lo, 255 - hi])) ++ strBits x = blkB D 0 a n R q B := by
  unfold blkB
  simp only [if_true]
  rw [hlo, hhi, strBits_strOf _ (by intro y hy; simp at hy; omega), strBits, hx, pad8_of _ (by rw [List.length_append, pad8_length, bytesBits_length]; omega)]
  rfl
theorem blk1_eq (D : List Nat) (a n R : Nat) (q : Bool) (B : List Bool) : B ++ lowBits (q.toNat : Int) 1 ++ lowBits 1 2 ++ toks fixedL fixedD (span D a n R) = blkB D 1 a n R q B := by
  unfold blkB
  simp only [if_neg (show ¬ (1 : Nat) = 0 by decide), if_true]
  rfl
theorem blk2_eq (D : List Nat) (a n R : Nat) (q : Bool) (B : List Bool) : B ++ lowBits (q.toNat : Int) 1 ++ lowBits 2 2 ++ told4 (xOf (span D a n R)) (yOf (span D a n R)) ++ toks (xOf (span D a n R)) (yOf (span D a n R)) (span D a n R) = blkB D 2 a n R q B := by
  unfold blkB
  simp only [if_neg (show ¬ (2 : Nat) = 0 by decide), if_neg (show ¬ (2 : Nat) = 1 by decide)]
  rfl

end Go.Proofs.Ytgjcnembeebjfaa
