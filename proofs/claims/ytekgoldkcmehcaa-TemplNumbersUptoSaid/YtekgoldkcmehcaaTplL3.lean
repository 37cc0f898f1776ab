/- The laws of templates: TemplNumbers. -/
import Derived.Test.YtekgoldkcmehcaaTplL2
import Derived.Test.YtekgoldkcmehcaaTplN
import Derived.Test.YtekgoldkcmehcaaBitsP
import Derived.Deep.DeepCutAuto
namespace Go.Proofs.Ytekgoldkcmehcaa
open Go.RowKit Go.Shelf
set_option linter.unusedVariables false

theorem info_strM : (Try.prog.info? 9).map (fun i => (i.zero, i.size, i.bytes)) = some (some (.string .empty), 1, 16) := by kernel_rfl

theorem run_make_strs (n : Nat) (hn : n ≤ 1073741824) (Z : Array Value) (hZ : madeCells #[.string .empty] n = Z) (W : World) :
    (Instr.makeSlice 33 (.int .i64 (n : Int)) (.int .i64 (n : Int))).run Try.prog W = .ok (.slice (some ⟨W.heap.size, 0, none⟩) n n) (W.alloc (.cells Z 9)) := by
  obtain ⟨i0, hi, hz0, hz1, hz2⟩ := info_parts info_strM
  have hbn : (i0.bytes : Int) * (n : Int) ≤ 281474976710656 := by rw [hz2]; omega
  have := run_make (P := Try.prog) W 33 9 i0 _ Try.underlying33 hi hz0 .i64 .i64 (n : Int) (n : Int) (by omega) (by omega) hbn (by omega)
  rw [show (Value.string ByteArray.empty).cells = #[.string .empty] from rfl, Int.toNat_natCast, hz1, Nat.mul_one, hZ] at this
  exact this

theorem Below.drewN' {n : Nat} {w w' : World} (h : Below n w w') (k : Nat) : Below n w (w'.drewN k) := ⟨h.os, h.tape, h.output, h.size, h.block⟩
theorem num_row0 {w : World} {n c : Nat} {p : Option Addr} {l : List Pc} (hl : l = [(.empty, (n : Int))]) (h : w.ownsRow 0 35 2 (.slice p l.length c) l.length (pcL l)) :
    ∃ g, p = some ⟨g, 0, none⟩ ∧ w.cell? ⟨g, 0, none⟩ = some (.string .empty) ∧ w.cell? ⟨g, 1, none⟩ = some (.int .i64 (n : Int)) := by
  subst hl
  obtain ⟨g, cap, e, -, -⟩ := row_some h (by simp)
  simp only [Value.slice.injEq] at e
  obtain ⟨rfl, -, rfl⟩ := e
  obtain ⟨h1, h2⟩ := rowAt2 h 0 (by simp)
  exact ⟨g, rfl, h1, h2⟩
theorem num_row1 {w : World} {n c : Nat} {p : Option Addr} {b : ByteArray} {l : List Pc} (hl : l = [(.empty, (n : Int)), (b, -1)]) (h : w.ownsRow 0 35 2 (.slice p l.length c) l.length (pcL l)) :
    ∃ g, p = some ⟨g, 0, none⟩ ∧ w.cell? ⟨g, 0, none⟩ = some (.string .empty) ∧ w.cell? ⟨g, 1, none⟩ = some (.int .i64 (n : Int)) ∧ w.cell? ⟨g, 2, none⟩ = some (.string b) ∧ w.cell? ⟨g, 3, none⟩ = some (.int .i64 (-1)) := by
  subst hl
  obtain ⟨g, cap, e, -, -⟩ := row_some h (by simp)
  simp only [Value.slice.injEq] at e
  obtain ⟨rfl, -, rfl⟩ := e
  obtain ⟨h1, h2⟩ := rowAt2 h 0 (by simp)
  obtain ⟨h3, h4⟩ := rowAt2 h 1 (by simp)
  exact ⟨g, rfl, h1, h2, h3, h4⟩

set_option maxHeartbeats 3200000 in
set_option maxRecDepth 100000 in
theorem lawTemplNumbers {w : World} (x : Int) (wx : (Lit.int .i64 x).wf = true) (y : Int) (wy : (Lit.int .i64 y).wf = true) (b : ByteArray) (wb : b.size ≤ maxLen) (zb : b.size ≤ 1048576) :
    Calls Try.prog 4 #[.int .i64 x, .int .i64 y, .string b] w fun e w' => e = .returned (.bool true) ∧ Below w.heap.size w w' := by
  clear wx wy wb
  obtain ⟨n, hn, hn9⟩ : ∃ n : Nat, bits .and .i64 x 1023 = (n : Int) ∧ n ≤ 1023 := by
    have := and_mask_i64 x 10 (by decide) 1023 (by decide)
    exact ⟨(x % 2 ^ 10).toNat, by rw [this]; omega, by omega⟩
  obtain ⟨m, hm, hm9⟩ : ∃ n : Nat, bits .and .i64 y 1023 = (n : Int) ∧ n ≤ 1023 := by
    have := and_mask_i64 y 10 (by decide) 1023 (by decide)
    exact ⟨(y % 2 ^ 10).toNat, by rw [this]; omega, by omega⟩
  go_enter Try.func4, Try.ntmps4
  go_wp2_with fail
  refine (speaks_any _).mono ?_
  rintro e w1 ⟨rfl, hm1⟩
  have HM1 := Lib.hid hm1
  clear hm1
  go_upto_region 4 with fail
  clear hn hm
  go_cut [39] (fun x wx => ∃ q : Bool, x = .bool q ∧ wx = w1 ∧ Hid (q = false → b.size ≤ 900 ∧ ∀ c, (bytesOf b).head? = some c → isDg c = false))
  case first =>
    by_cases h9 : 900 < b.size
    · have h9I : (900 : Int) < (b.size : Int) := by omega
      go_wp2_with fail
      go_meet
      exact ⟨_, rfl, rfl, Lib.hid fun h => by simp at h⟩
    · have h9I : ¬ (900 : Int) < (b.size : Int) := by omega
      by_cases h0 : 0 < b.size
      · have h0I : (0 : Int) < (b.size : Int) := by omega
        have hc := bytesOf_get b 0 h0
        have HH : Hid ((bytesOf b).head? = some (b[0]'h0).toNat) := Lib.hid (by
          rw [hc, List.head?_eq_getElem?, List.getElem?_eq_getElem])
        clear hc
        obtain ⟨c, hc⟩ : ∃ c : Nat, (b[0]'h0).toNat = c := ⟨_, rfl⟩
        rw [hc] at HH
        by_cases h1 : 48 ≤ c
        · have h1I : (48 : Int) ≤ (c : Int) := by omega
          by_cases h2 : c ≤ 57
          · have h2I : (c : Int) ≤ 57 := by omega
            go_wp2_with fail
            go_meet
            exact ⟨_, rfl, rfl, Lib.hid fun h => by simp at h⟩
          · have h2I : ¬ (c : Int) ≤ 57 := by omega
            have HG : Hid (b.size ≤ 900 ∧ ∀ c, (bytesOf b).head? = some c → isDg c = false) := Lib.hid ⟨by omega, fun d hd => by
              rw [HH.out] at hd
              cases hd
              simp [isDg, h2]⟩
            go_wp2_with fail
            go_meet
            exact ⟨_, rfl, rfl, Lib.hid fun h => HG.out⟩
        · have h1I : ¬ (48 : Int) ≤ (c : Int) := by omega
          have HG : Hid (b.size ≤ 900 ∧ ∀ c, (bytesOf b).head? = some c → isDg c = false) := Lib.hid ⟨by omega, fun d hd => by
            rw [HH.out] at hd
            cases hd
            simp [isDg, h1]⟩
          go_wp2_with fail
          go_meet
          exact ⟨_, rfl, rfl, Lib.hid fun h => HG.out⟩
      · have h0I : ¬ (0 : Int) < (b.size : Int) := by omega
        have HG : Hid (b.size ≤ 900 ∧ ∀ c, (bytesOf b).head? = some c → isDg c = false) := Lib.hid ⟨by omega, fun d hd => by
          have : bytesOf b = [] := List.eq_nil_of_length_eq_zero (by rw [bytesOf_length]; omega)
          rw [this] at hd
          simp at hd⟩
        go_wp2_with fail
        go_meet
        exact ⟨_, rfl, rfl, Lib.hid fun h => HG.out⟩
  case rest =>
    obtain ⟨q, rfl, rfl, HQ⟩ := hcut
    cases q
    · obtain ⟨hb9, hbh⟩ := HQ.out rfl
      have HBH := Lib.hid hbh
      clear HQ hbh
      go_wp2_with fail
      go_loopw [7] (fun a wx => ∃ i : Nat, a = .int .i64 (i : Int) ∧ i ≤ b.size ∧ Hid (36 ∉ (bytesOf b).take i) ∧ wx = wc) (fun a _ => b.size - (intOf a).toNat)
      case atStart => exact ⟨0, rfl, Nat.zero_le _, Lib.hid (by simp), rfl⟩
      case round =>
        obtain ⟨i, rfl, hi, HI, rfl⟩ := hrel
        by_cases hlt : i < b.size
        case pos =>
          have hI : (i : Int) < (b.size : Int) := by omega
          have hil : i < (bytesOf b).length := by rw [bytesOf_length]; exact hlt
          obtain ⟨c, hc⟩ : ∃ c : Nat, (b[i]'hlt).toNat = c := ⟨_, rfl⟩
          have HTK : Hid ((bytesOf b).take (i + 1) = (bytesOf b).take i ++ [c]) := Lib.hid (by
            rw [List.take_succ_eq_append_getElem hil, ← hc, bytesOf_get])
          clear hil
          by_cases h36 : c = 36
          · have hb' : ((c : Int) == 36) = true := by rw [h36]; rfl
            have HE := Lib.hid (mut_below HM1.out)
            go_wp2_with fail
            exact bodyPost_ret (results_tmp rfl _ _ _) rfl ⟨rfl, HE.out⟩
          · have hb' : ((c : Int) == 36) = false := by rw [beq_eq_false_iff_ne]; omega
            have HI2 : Hid (36 ∉ (bytesOf b).take (i + 1)) := Lib.hid (by
              rw [HTK.out]
              intro h
              rcases List.mem_append.1 h with h | h
              · exact HI.out h
              · simp at h
                omega)
            go_wp2_with fail
            exact ⟨⟨i + 1, by rw [Int.natCast_add]; rfl, hlt, HI2, trivial⟩, by simp only [intOf]; omega⟩
        case neg =>
          obtain rfl : i = b.size := by omega
          have hI : ¬ (b.size : Int) < (b.size : Int) := by omega
          have h36 : 36 ∉ bytesOf b := by
            have := HI.out
            rwa [List.take_of_length_le (by rw [bytesOf_length]; exact Nat.le_refl _)] at this
          have hds := decs_len4 n hn9
          have hds' := decs_ne n
          obtain ⟨d, hd⟩ : ∃ d, strOf (decs n) = d := ⟨_, rfl⟩
          have hdz : d.size ≤ 4 := by rw [← hd, strOf_size]; exact hds
          obtain ⟨L, hL⟩ : ∃ L : Nat, 1 + m = L := ⟨_, rfl⟩
          obtain ⟨s1, hs1⟩ : ∃ s1, (⟨#[36]⟩ : ByteArray) ++ strOf (decs n) ++ b = s1 := ⟨_, rfl⟩
          obtain ⟨s2, hs2⟩ : ∃ s2, (⟨#[36, 123]⟩ : ByteArray) ++ strOf (decs n) ++ (⟨#[125]⟩ : ByteArray) ++ b = s2 := ⟨_, rfl⟩
          have R1 := Lib.hid (runs1 L n hn9 b s1 hs1 h36 HBH.out)
          have R2 := Lib.hid (runs2 L n hn9 b s2 hs2 h36)
          have hz1 : s1.size ≤ 1024 := by rw [← hs1, hd]; simp only [ByteArray.size_append]; show 1 + d.size + b.size ≤ 1024; omega
          have hz2 : s2.size ≤ 1024 := by rw [← hs2, hd]; simp only [ByteArray.size_append]; show 2 + d.size + 1 + b.size ≤ 1024; omega
          have HN := Lib.hid fun w => number_any n (by omega) w
          rw [hd] at HN hs1 hs2
          have HS1 := Lib.hid hs1
          have HS2 := Lib.hid hs2
          have HL := Lib.hid hL
          have hLI : (1 : Int) + (m : Int) = (L : Int) := by omega
          have hLb : L ≤ 1024 := by omega
          have HP1 : ∀ np nc R at', Runs L s1.size s1 [] R at' → ∀ w, Calls Try.prog 6 #[.string s1, .slice np L nc] w fun e w' => ∃ v, e = .returned v ∧ parseRes w R at' v w' ∧ Mut [] w w' := fun np nc R at' h w => parse_any s1 R at' L np nc (by omega) h hz1 w
          have HP2 : ∀ np nc R at', Runs L s2.size s2 [] R at' → ∀ w, Calls Try.prog 6 #[.string s2, .slice np L nc] w fun e w' => ∃ v, e = .returned v ∧ parseRes w R at' v w' ∧ Mut [] w w' := fun np nc R at' h w => parse_any s2 R at' L np nc (by omega) h hz2 w
          have HPA := Lib.hid HP1
          have HPB := Lib.hid HP2
          clear HP1 HP2 hs1 hs2 hL h36 hds hds' HI HBH hd
          rw [hLI]
          clear hLI hi hlt hI HL
          go_wp2_with fail
          refine (HN.out _).mono ?_
          rintro e w2 ⟨rfl, hm2⟩
          have HM2 := Lib.hid (HM1.out.trans' hm2)
          clear hm2 HM1 HN
          obtain ⟨Z, hZ⟩ : ∃ Z, madeCells #[Value.string .empty] L = Z := ⟨_, rfl⟩
          have hmk := run_make_strs L (by omega) Z hZ w2
          have hs1 := HS1.out
          have hs2 := HS2.out
          have hu1 : (⟨#[36]⟩ : ByteArray).size = 1 := rfl
          have hu2 : (⟨#[36, 123]⟩ : ByteArray).size = 2 := rfl
          have hu3 : (⟨#[125]⟩ : ByteArray).size = 1 := rfl
          clear hZ
          go_wp2_with fail
          clear hmk
          have HM3 := Lib.hid (HM2.out.alloc (.cells Z 9))
          generalize w2.alloc (.cells Z 9) = w3 at *
          generalize w2.heap.size = gN at *
          by_cases hlt : n < L
          case neg =>
            have hge : (L : Int) ≤ (n : Int) := by omega
            refine (HPA.out _ _ _ _ (R1.out.2 (by omega)) _).mono ?_
            rintro e w4 ⟨v, rfl, hv, hm4⟩
            obtain rfl : v = .tuple #[.slice none 0 0, .agg #[.int .i64 27, .int .i64 ((0 : Nat) : Int)]] := hv
            have HM4 := Lib.hid (HM3.out.trans' hm4)
            clear hm4 HM3 HPA
            go_wp2_with fail
            have hF := heap_alloc_new' w4 (.cells #[.int .i64 27, .int .i64 0] 27)
            have HM5 := Lib.hid (HM4.out.alloc (.cells #[.int .i64 27, .int .i64 0] 27))
            generalize w4.alloc (.cells #[.int .i64 27, .int .i64 0] 27) = w5 at *
            generalize w4.heap.size = g4 at *
            refine (HPB.out _ _ _ _ (R2.out.2 (by omega)) _).mono ?_
            rintro e w6 ⟨v, rfl, hv, hm6⟩
            obtain rfl : v = .tuple #[.slice none 0 0, .agg #[.int .i64 27, .int .i64 ((0 : Nat) : Int)]] := hv
            have hF6 := ((hm6.alloc (.cells #[.int .i64 27, .int .i64 0] 27)).alloc (.cells #[.int .i64 27, .int .i64 0] 27)).get hF (by simp)
            have hG6 := ((Mut.refl [] (w6.alloc (.cells #[.int .i64 27, .int .i64 0] 27))).alloc (.cells #[.int .i64 27, .int .i64 0] 27)).get (heap_alloc_new' w6 (.cells #[.int .i64 27, .int .i64 0] 27)) (by simp)
            have hH6 := heap_alloc_new' (w6.alloc (.cells #[.int .i64 27, .int .i64 0] 27)) (.cells #[.int .i64 27, .int .i64 0] 27)
            have HE := Lib.hid (mut_below (((HM5.out.trans' hm6).alloc (.cells #[.int .i64 27, .int .i64 0] 27)).alloc (.cells #[.int .i64 27, .int .i64 0] 27)))
            clear hm6 hF HM5 HM4 HPB R1 R2
            go_upto_region 17 with fail
            rw [World.size_alloc] at hH6
            generalize (w6.alloc (.cells #[.int .i64 27, .int .i64 0] 27)).alloc (.cells #[.int .i64 27, .int .i64 0] 27) = w7 at *
            have a0 := cellOf hF6 0 (x := .int .i64 27) rfl
            have a1 := cellOf hF6 1 (x := .int .i64 0) rfl
            have b0 := cellOf hG6 0 (x := .int .i64 27) rfl
            have b1 := cellOf hG6 1 (x := .int .i64 0) rfl
            have d0 := cellOf hH6 0 (x := .int .i64 27) rfl
            have d1 := cellOf hH6 1 (x := .int .i64 0) rfl
            clear hF6 hG6 hH6 hs1 hs2 HS1 HS2
            go_wp2_with fail
            exact bodyPost_ret (results_tmp rfl _ _ _) rfl ⟨by simp, HE.out⟩
          case pos =>
            have hge : ¬ (L : Int) ≤ (n : Int) := by omega
            refine (HPA.out _ _ _ _ (R1.out.1 hlt) _).mono ?_
            rintro e w4 ⟨v, rfl, ⟨p1, c1, rfl, hr1, -⟩, hm4⟩
            have HM4 := Lib.hid (HM3.out.trans' hm4)
            have HR1 := Lib.hid hr1
            clear hm4 HM3 HPA hr1
            go_wp2_with fail
            have hF := heap_alloc_new' w4 (.cells #[.int .i64 0, .int .i64 0] 27)
            have hm5 := (Mut.refl [] w4).alloc (.cells #[.int .i64 0, .int .i64 0] 27)
            generalize w4.alloc (.cells #[.int .i64 0, .int .i64 0] 27) = w5 at *
            generalize w4.heap.size = g4 at *
            refine (HPB.out _ _ _ _ (R2.out.1 hlt) _).mono ?_
            rintro e w6 ⟨v, rfl, ⟨p2, c2, rfl, hr2, -⟩, hm6⟩
            have hm7 := (Mut.refl [] w6).alloc (.cells #[.int .i64 0, .int .i64 0] 27)
            have hF6 := (hm6.trans' hm7).get hF (by simp)
            have hG6 := heap_alloc_new' w6 (.cells #[.int .i64 0, .int .i64 0] 27)
            have hr1 := ((hm5.trans' hm6).trans' hm7).row HR1.out (by simp)
            have hr2' := hm7.row hr2 (by simp)
            have HE := Lib.hid (mut_below (((HM4.out.trans' hm5).trans' hm6).trans' hm7))
            clear hm6 hF HM4 HPB R1 R2 HR1 hr2 hm5 hm7
            by_cases hbe : b = .empty
            · have hl : numP n b = [(.empty, (n : Int))] := by
                rw [hbe]
                exact addText_g0 [] _ _ (by omega)
              obtain ⟨g1, rfl, x0, x1⟩ := num_row0 hl hr1
              obtain ⟨g2, rfl, y0, y1⟩ := num_row0 hl hr2'
              clear hr1 hr2'
              rw [hl]
              simp only [List.length_cons, List.length_nil, Nat.zero_add]
              clear hl
              go_upto_region 18 with fail
              generalize w6.alloc (.cells #[.int .i64 0, .int .i64 0] 27) = w7 at *
              have a0 := cellOf hF6 0 (x := .int .i64 0) rfl
              have a1 := cellOf hF6 1 (x := .int .i64 0) rfl
              have b0 := cellOf hG6 0 (x := .int .i64 0) rfl
              have b1 := cellOf hG6 1 (x := .int .i64 0) rfl
              clear hF6 hG6 hs1 hs2 HS1 HS2 hz1 hz2 hu1 hu2 hu3 hdz hb9 zb
              have hb0 : b.toList = [] := by rw [hbe, str_toList]; rfl
              have hb1 : b.toList.isEmpty = true := by rw [hb0]; rfl
              have hb2 : (b.toList == (⟨#[]⟩ : ByteArray).toList) = true := by rw [hb0, str_toList]; rfl
              have hb3 : (b.toList == []) = true := by rw [hb0]; rfl
              go_quiet (fail)
              have HE2 := Lib.hid (Below.drewN' HE.out nq)
              generalize w7.drewN nq = w8 at *
              go_upto_region 20 with fail
              go_quiet (fail)
              have HE3 := Lib.hid (Below.drewN' HE2.out nq)
              generalize w8.drewN nq = w9 at *
              go_wp2_with fail
              exact bodyPost_ret (results_tmp rfl _ _ _) rfl ⟨rfl, HE3.out⟩
            · have hl : numP n b = [(.empty, (n : Int)), (b, -1)] := addText_g [] _ _ _ (by omega) hbe
              obtain ⟨g1, rfl, x0, x1, x2, x3⟩ := num_row1 hl hr1
              obtain ⟨g2, rfl, y0, y1, y2, y3⟩ := num_row1 hl hr2'
              clear hr1 hr2'
              rw [hl]
              simp only [List.length_cons, List.length_nil, Nat.zero_add]
              clear hl
              go_upto_region 18 with fail
              generalize w6.alloc (.cells #[.int .i64 0, .int .i64 0] 27) = w7 at *
              have a0 := cellOf hF6 0 (x := .int .i64 0) rfl
              have a1 := cellOf hF6 1 (x := .int .i64 0) rfl
              have b0 := cellOf hG6 0 (x := .int .i64 0) rfl
              have b1 := cellOf hG6 1 (x := .int .i64 0) rfl
              clear hF6 hG6 hs1 hs2 HS1 HS2 hz1 hz2 hu1 hu2 hu3 hdz hb9 zb
              obtain ⟨hb0, hb1⟩ := nonempty_facts hbe
              have hb2 : (b.toList == (⟨#[]⟩ : ByteArray).toList) = false := by rw [beq_eq_false_iff_ne, str_toList ⟨#[]⟩]; exact hb0
              have hb3 : (b.toList == []) = false := by rw [beq_eq_false_iff_ne]; exact hb0
              go_quiet (fail)
              have HE2 := Lib.hid (Below.drewN' HE.out nq)
              have z0 : (w7.drewN nq).cell? ⟨g1, 2, none⟩ = some (.string b) := x2
              have z1 : (w7.drewN nq).cell? ⟨g1, 3, none⟩ = some (.int .i64 (-1)) := x3
              have z2 : (w7.drewN nq).cell? ⟨g2, 2, none⟩ = some (.string b) := y2
              have z3 : (w7.drewN nq).cell? ⟨g2, 3, none⟩ = some (.int .i64 (-1)) := y3
              clear x0 x1 x2 x3 y0 y1 y2 y3 a0 a1 b0 b1
              generalize w7.drewN nq = w8 at *
              go_upto_region 20 with fail
              go_quiet (fail)
              have HE3 := Lib.hid (Below.drewN' HE2.out nq)
              generalize w8.drewN nq = w9 at *
              go_wp2_with fail
              exact bodyPost_ret (results_tmp rfl _ _ _) rfl ⟨by simp, HE3.out⟩
    · have HE := Lib.hid (mut_below HM1.out)
      go_wp2_with fail
      exact bodyPost_ret (results_tmp rfl _ _ _) rfl ⟨rfl, HE.out⟩

end Go.Proofs.Ytekgoldkcmehcaa
