/- Walk over package ferretref05: Read. -/
import Derived.Test.YtgjcnembeebjfaaGzR8
import Derived.Deep.LoopGhost
namespace Go.Proofs.Ytgjcnembeebjfaa
open Go.RowKit
set_option linter.unusedVariables false

theorem info_rp : (Try.prog.info? 44).map (fun i => (i.zero, i.size, i.bytes)) = some (some (gpV {}), 9, 96) := by kernel_rfl

/-- the parts so far -/
structure RRs (w0 : World) (v : Value) (l : List GPart) (w : World) : Prop where
  row : w.ownsRow 0 44 9 v l.length (gpL l)
  fresh : ∀ g, v.ownBlock = some g → w0.heap.size ≤ g
  kept : Mut [] w0 w

theorem RRs.mut {w0 w w' : World} {v : Value} {l : List GPart} (h : RRs w0 v l w) (m : Mut [] w w') : RRs w0 v l w' := ⟨h.row.mut' m (by simp), h.fresh, h.kept.trans' m⟩

/-- what the reference's Read answers -/
def rreadRes (w : World) (R : RR (List GPart)) (v : Value) (w' : World) : Prop :=
  match R with
  | .ok l _ => ∃ p c, v = .tuple #[.slice p l.length c, .int .i64 0, .int .i64 0] ∧ w'.ownsRow 0 44 9 (.slice p l.length c) l.length (gpL l) ∧ (∀ g, (Value.slice p l.length c).ownBlock = some g → w.heap.size ≤ g)
  | .bad c f => v = .tuple #[.slice none 0 0, .int .i64 (c : Int), .int .i64 (f : Int)]

set_option maxHeartbeats 3200000 in
set_option maxRecDepth 100000 in
theorem rread_any (fu : Nat) (D : ByteArray) (hfu : 8 * D.size < fu) (most : Nat) (hmost : most ≤ 9223372036854775807) (hD : D.size ≤ 268435456) (R : RR (List GPart)) (hR : readN fu D 1026 most 0 [] = R) (w : World) :
    Calls Try.prog 11 #[.string D, .int .i64 (most : Int)] w fun e w' => ∃ v, e = .returned v ∧ rreadRes w R v w' ∧ Mut [] w w' := by
  have HR := Lib.hid hR
  have hm0 : ¬ (most : Int) < 0 := by omega
  have HFU := Lib.hid hfu
  clear hR hfu
  have H0 : Hid (RRs w (.slice none 0 0) [] w) := Lib.hid ⟨World.ownsRow_nil _ _ _ _, by simp [Value.ownBlock], Mut.refl _ _⟩
  go_enter Try.func11, Try.ntmps11
  go_wp2_with fail
  go_loopg [1, 7, 8] 1026 (fun g mo out at_ wr => ∃ (m a n : Nat) (l : List GPart) (pp : Option Addr) (cc : Nat), mo = .int .i64 (m : Int) ∧ out = .slice pp n cc ∧ at_ = .int .i64 (a : Int) ∧ Hid (l.length = n ∧ g + n = 1026) ∧ m ≤ most ∧ a ≤ D.size ∧ n ≤ 1024 ∧ Hid (readN fu D g m a l = R) ∧ Hid (RRs w (.slice pp n cc) l wr))
  case atStart => exact ⟨most, 0, 0, [], none, 0, rfl, rfl, rfl, Lib.hid ⟨rfl, rfl⟩, Nat.le_refl _, Nat.zero_le _, Nat.zero_le _, HR, H0⟩
  case round =>
    obtain ⟨m, a, n, l, pp, cc, rfl, rfl, rfl, HL, hm, ha, hn, HRN, HS⟩ := hrel
    clear H0 HR hm0
    obtain ⟨g', hg'⟩ : ∃ g', gk = g' + 1 := ⟨gk - 1, by have := HL.out.2; omega⟩
    by_cases hgo : n = 0 ∨ a < D.size
    case neg =>
      have hn0 : ((n : Int) == 0) = false := by rw [beq_eq_false_iff_ne]; omega
      have haI : ¬ (a : Int) < (D.size : Int) := by omega
      have HE : Hid (RR.ok l a = R) := Lib.hid (by
        have := HRN.out
        rw [hg', readN, if_neg (by rw [HL.out.1]; exact hgo)] at this
        exact this)
      clear hgo hg' HRN
      go_wp2_with fail
      rw [← HE.out]
      have hl := HL.out.1
      subst hl
      exact bodyPost_ret (results_tmp3 rfl _ _ _) rfl ⟨_, rfl, ⟨pp, cc, rfl, HS.out.row, HS.out.fresh⟩, HS.out.kept⟩
    case pos =>
      have hgo' : ((n : Int) == 0) = true ∨ ((n : Int) == 0) = false ∧ (a : Int) < (D.size : Int) := by
        by_cases h : n = 0
        · left; rw [h]; rfl
        · right; exact ⟨by rw [beq_eq_false_iff_ne]; omega, by omega⟩
      have HRN2 : Hid ((if l.length = 1024 then RR.bad 16 a else (partN fu D m a).bind fun p a' => readN fu D g' (m - p.data.size) a' (l ++ [p])) = R) := Lib.hid (by
        have := HRN.out
        rw [hg', readN, if_pos (by rw [HL.out.1]; exact hgo)] at this
        exact this)
      have HG := Lib.hid hg'
      clear HRN hgo hg'
      go_upto_region 5 with fail
      go_cut [23] (fun t wx => t = .bool true ∧ wx = wr)
      case first =>
        rcases hgo' with h | ⟨h, h2⟩
        · go_wp2_with fail
          go_meet
          exact ⟨rfl, rfl⟩
        · go_wp2_with fail
          go_meet
          exact ⟨rfl, rfl⟩
      case rest =>
      obtain ⟨rfl, rfl⟩ := hcut
      clear hgo'
      by_cases hmany : n = 1024
      case pos =>
        have hb : (1024 : Int) ≤ (n : Int) := by omega
        have HE : Hid (RR.bad 16 a = R) := Lib.hid (by rw [← HRN2.out, if_pos (by rw [HL.out.1]; exact hmany)])
        clear hmany HRN2
        go_wp2_with fail
        rw [← HE.out]
        refine bodyPost_ret (results_tmp3 rfl _ _ _) rfl ⟨_, rfl, ?_, HS.out.kept⟩
        rfl
      case neg =>
        have hb : ¬ (1024 : Int) ≤ (n : Int) := by omega
        have hn3 : n + 1 ≤ 1024 := by omega
        have HRN3 : Hid (((partN fu D m a).bind fun p a' => readN fu D g' (m - p.data.size) a' (l ++ [p])) = R) := Lib.hid (by rw [← HRN2.out, if_neg (by rw [HL.out.1]; exact hmany)])
        have HPT := Lib.hid fun W => rpart_any fu D HFU.out a m (by omega) ha hD W
        clear hmany HRN2
        cases hp : partN fu D m a with
        | bad c f =>
          have hc : c ≠ 0 := by
            have := partN_in fu D m a
            rw [hp] at this
            exact RR.In.of_bad this
          have HE : Hid (RR.bad c f = R) := Lib.hid (by rw [← HRN3.out, hp, RR.bind])
          rw [hp] at HPT
          have HP2 : Hid (∀ W, Calls Try.prog 20 #[.string D, .int .i64 (a : Int), .int .i64 (m : Int)] W fun e w' => Mut [] W w' ∧ ∃ p : GPart, e = .returned (.tuple #[gpV p, .int .i64 0, .int .i64 (c : Int), .int .i64 (f : Int)])) := HPT
          have hc' : ((c : Int) != 0) = true := by simp only [bne_iff_ne, ne_eq]; omega
          clear HPT hp hc HRN3
          go_wp2_with fail
          refine (HP2.out _).mono ?_
          rintro e w7 ⟨hm7, p, rfl⟩
          have HM7 := Lib.hid (HS.out.kept.trans' hm7)
          clear hm7 HP2 HS
          rw [show gpV p = .agg #[.string p.name, .string p.comment, .string p.extra, .bool p.text, .bool p.headSum, .int .i64 p.time, .int .i64 p.more, .int .i64 p.system, .string p.data] from rfl]
          go_wp2_with fail
          rw [← HE.out]
          refine bodyPost_ret (results_tmp3 rfl _ _ _) rfl ⟨_, rfl, ?_, HM7.out.alloc _⟩
          rfl
        | ok p a1 =>
          have ha1 : a1 ≤ D.size := by
            have := partN_in fu D m a
            rw [hp] at this
            exact (RR.In.of_ok this).2
          have hpd := partN_data hp
          have HE : Hid (readN fu D g' (m - p.data.size) a1 (l ++ [p]) = R) := Lib.hid (by rw [← HRN3.out, hp, RR.bind])
          rw [hp] at HPT
          have HP2 : Hid (∀ W, Calls Try.prog 20 #[.string D, .int .i64 (a : Int), .int .i64 (m : Int)] W fun e w' => Mut [] W w' ∧ e = .returned (.tuple #[gpV p, .int .i64 (a1 : Int), .int .i64 0, .int .i64 0])) := HPT
          clear HPT hp HRN3
          go_wp2_with fail
          refine (HP2.out _).mono ?_
          rintro e w7 ⟨hm7, rfl⟩
          have HS7 := Lib.hid (HS.out.mut hm7)
          clear hm7 HP2 HS
          rw [show gpV p = .agg #[.string p.name, .string p.comment, .string p.extra, .bool p.text, .bool p.headSum, .int .i64 p.time, .int .i64 p.more, .int .i64 p.system, .string p.data] from rfl]
          go_upto_region 9 with fail
          have hpx := heap_alloc_new' w7 (.cells #[.string p.name, .string p.comment, .string p.extra, .bool p.text, .bool p.headSum, .int .i64 p.time, .int .i64 p.more, .int .i64 p.system, .string p.data] 44)
          have HS8 := Lib.hid (HS7.out.mut ((Mut.refl [] w7).alloc (.cells #[.string p.name, .string p.comment, .string p.extra, .bool p.text, .bool p.headSum, .int .i64 p.time, .int .i64 p.more, .int .i64 p.system, .string p.data] 44)))
          clear HS7
          generalize w7.alloc (.cells #[.string p.name, .string p.comment, .string p.extra, .bool p.text, .bool p.headSum, .int .i64 p.time, .int .i64 p.more, .int .i64 p.system, .string p.data] 44) = w8 at *
          generalize w7.heap.size = gp at *
          have e0 := cellOf hpx 0 (x := .string p.name) rfl
          have e1 := cellOf hpx 1 (x := .string p.comment) rfl
          have e2 := cellOf hpx 2 (x := .string p.extra) rfl
          have e3 := cellOf hpx 3 (x := .bool p.text) rfl
          have e4 := cellOf hpx 4 (x := .bool p.headSum) rfl
          have e5 := cellOf hpx 5 (x := .int .i64 p.time) rfl
          have e6 := cellOf hpx 6 (x := .int .i64 p.more) rfl
          have e7 := cellOf hpx 7 (x := .int .i64 p.system) rfl
          have e8 := cellOf hpx 8 (x := .string p.data) rfl
          have hmI : (p.data.size : Int) ≤ (m : Int) := by omega
          obtain ⟨i0, hi, hz0, hz1, hz2⟩ := info_parts info_rp
          obtain ⟨v, hv⟩ : ∃ v, Value.slice pp n cc = v := ⟨_, rfl⟩
          have HV := Lib.hid hv
          have hrow := HS8.out.row
          rw [hv] at hrow
          clear hpx
          go_upto_region 12 with fail
          rw [hv]
          clear hv
          go_wp2_with (at_builtin; refine wp_app rfl (.tmp 46) (.tmp 48) 29 29 rfl 44 i0 (gpV {}) 9 96 Try.underlying29 hi hz0 hz1 hz2 rfl (hrow.alloc _) rfl (src1 Try.underlying29 (heap_alloc_new w8 _) rfl (gp_one p)) rfl ?b1 ?b2 ?_)
          case b1 => have := HL.out.1; unfold maxLen; omega
          case b2 => have := HL.out.1; omega
          intro v2 w5 r1 r2 r3
          have hl := HL.out.1
          obtain ⟨G2, cp2, rfl, -, -⟩ := row_some r1 (by omega)
          have hm5 : Mut v.ownBlock.toList w8 w5 := ((Mut.refl _ w8).alloc (.cells (gpC p).toArray 44)).grown r2 (by intro g hg; simp [hg])
          have hfr : ∀ g, v.ownBlock = some g → w.heap.size ≤ g := by rw [← HV.out]; exact HS8.out.fresh
          have hrow5 : w5.ownsRow 0 44 9 (.slice (some ⟨G2, 0, none⟩) (n + 1) cp2) (l ++ [p]).length (gpL (l ++ [p])) := by
            rw [List.length_append, gpL_snoc]
            rw [hl] at r1 ⊢
            exact r1
          have hfr5 : ∀ g, (Value.slice (some ⟨G2, 0, none⟩) (n + 1) cp2).ownBlock = some g → w.heap.size ≤ g := fun g hg => by
            rcases r3 g hg with h | h
            · exact hfr g h
            · have h1 := HS8.out.kept.size
              have h2 : w8.heap.size + 1 ≤ g := h
              omega
          have HS5 : Hid (RRs w (.slice (some ⟨G2, 0, none⟩) (n + 1) cp2) (l ++ [p]) w5) := Lib.hid ⟨hrow5, hfr5, HS8.out.kept.trans hm5 (fun x hx => .inr (hfr x (by simpa using hx)))⟩
          rw [hl]
          clear r1 r2 r3 hm5 hfr hrow5 hfr5 hrow hi hz0 hz1 hz2 e0 e1 e2 e3 e4 e5 e6 e7 e8 HS8 hl
          go_wp2_with fail
          have hms : (m : Int) - (p.data.size : Int) = ((m - p.data.size : Nat) : Int) := by omega
          rw [hms]
          go_roundg g'
          case measure => rw [HG.out]; exact Nat.lt_succ_self _
          case rel => exact ⟨m - p.data.size, a1, n + 1, l ++ [p], _, _, rfl, rfl, rfl, Lib.hid ⟨by rw [List.length_append, HL.out.1]; rfl, by have := HL.out.2; have := HG.out; omega⟩, by omega, ha1, hn3, HE, HS5⟩

end Go.Proofs.Ytgjcnembeebjfaa
