/- Walk over the law TopSqueezed. -/
import Derived.Test.YtcdoamaljgjojaaSqzW8
import Derived.Test.YtcdoamaljgjojaaGEnd
import Derived.Deep.DeepCutAuto
import Derived.Deep.RegionWith
namespace Go.Proofs.Ytcdoamaljgjojaa
open Go.RowKit
set_option linter.unusedVariables false

set_option maxRecDepth 100000 in
theorem info_ch : (Try.prog.info? 56).map (fun i => (i.zero, i.size, i.bytes)) = some (some (.agg #[.int .i64 0, .int .i64 0, .int .i64 0]), 3, 24) := by kernel_rfl

theorem z_run : runU 100 ⟨#[1, 1, 0, 254, 255, 122]⟩ 1 = ⟨48, [122], 0⟩ :=
  run_stored 100 ⟨#[1, 1, 0, 254, 255, 122]⟩ 1 [[122]] (by decide) (by decide) (by decide) (by decide) (by decide)

/-- the box that a region reads -/
def CX (gb : Nat) (t0 t1 t2 : ByteArray) (w' : World) : Prop := w'.heap[gb]? = some (.cells #[.string t0, .string t1, .string t2] 59 (0, 0))

/-- where the loop over the choices is -/
structure CpS (w0 wx : World) (gb : Nat) (t0 t1 t2 : ByteArray) (v : Value) (C : List Ch) : Prop where
  row : CRow 56 wx v C
  box : wx.heap[gb]? = some (.cells #[.string t0, .string t1, .string t2] 59 (0, 0))
  fr : ∀ g, v.ownBlock = some g → w0.heap.size ≤ g
  mu : Mut [] w0 wx

theorem CpS.app {w0 wx w1 : World} {gb : Nat} {t0 t1 t2 : ByteArray} {v v' : Value} {C : List Ch} {x : Ch} {o : Obj} (h : CpS w0 wx gb t0 t1 t2 v C)
    (hr1 : w1.ownsRow 0 56 3 v' (C.length + 1) (chCells C ++ chCell x)) (hg1 : (wx.alloc o).grownBy w1 v.ownBlock) (hf1 : ∀ g, v'.ownBlock = some g → v.ownBlock = some g ∨ wx.heap.size + 1 ≤ g) : CpS w0 w1 gb t0 t1 t2 v' (C ++ [x]) := by
  have hm : Mut v.ownBlock.toList wx w1 := ((Mut.refl _ wx).alloc o).grown hg1 (fun k hk => .inl (by simp [hk]))
  refine ⟨?_, hm.get h.box (fun hx => ?_), fun g hg => (hf1 g hg).elim (fun h' => h.fr g h') (fun h' => by have := h.mu.size; omega), h.mu.trans hm (fun y hy => .inr (h.fr y (by simpa using hy)))⟩
  · unfold CRow
    rw [List.length_append, chCells_snoc]
    exact hr1
  · exact row_ne h.row h.box (by decide) (by simpa using hx)

set_option maxHeartbeats 3200000 in
set_option maxRecDepth 100000 in
theorem lawTopSqueezed {w : World} (t0 t1 t2 : ByteArray) (z0 : t0.size + t1.size + t2.size ≤ 1048576) (v : Value) (C : List Ch) (hC : ChsT w v C) :
    Calls Try.prog 11 #[.agg #[.string t0, .string t1, .string t2], v] w fun e w' => e = .returned (.bool true) ∧ Below w.heap.size w w' := by
  obtain ⟨ao, cap, rfl, hcap, hmax, hcell, hCk⟩ := hC
  have HCELL := Lib.hid hcell
  have HCK := Lib.hid hCk
  have hmax' : cap ≤ 9223372036854775807 := by unfold maxLen at hmax; omega
  have hu := unpack_0 ⟨#[1, 1, 0, 254, 255, 122]⟩ 1 100
  have HU0 : Hid (∀ w, Calls Try.prog 17 #[.string ⟨#[1, 1, 0, 254, 255, 122]⟩, .int .i64 0, .int .i64 1] w fun e w' => e = .returned (.tuple #[.string ⟨#[122]⟩, .int .i64 6, .agg #[.int .i64 0, .int .i64 0]]) ∧ Mut [] w w') := Lib.hid fun w => by
    have h := hu w (by decide) (by decide) (by decide) 1 rfl
    rw [z_run, unpRes_ok rfl 6 rfl] at h
    have hs : strOf [122] = ⟨#[122]⟩ := by decide
    simp only [hs] at h
    exact h
  have hm0 : Mut [] w (w.alloc (.cells #[.string t0, .string t1, .string t2] 59)) := (Mut.refl [] w).alloc _
  have hb0 := heap_alloc_new w (.cells #[.string t0, .string t1, .string t2] 59)
  have HM0 := Lib.hid (And.intro hm0 hb0)
  clear hcell hCk hu hm0 hb0 hmax
  go_enter Try.func11, Try.ntmps11
  go_upto_region 1 with fail
  generalize w.alloc (.cells #[.string t0, .string t1, .string t2] 59) = W at *
  generalize w.heap.size = gb at *
  go_wp2_with fail
  refine (HU0.out _).mono ?_
  rintro e w1 ⟨rfl, hm⟩
  have HM1 := Lib.hid (And.intro (HM0.out.1.trans' hm) (hm.get HM0.out.2 (by simp)))
  clear hm HU0 HM0
  have HM2 := Lib.hid (And.intro (HM1.out.1.alloc (.cells #[.int .i64 0, .int .i64 0] 28)) (((Mut.refl [] w1).alloc (.cells #[.int .i64 0, .int .i64 0] 28)).get HM1.out.2 (by simp)))
  go_upto_region 2 with fail
  obtain ⟨e0, e1, -, -⟩ := cells2 (heap_alloc_new w1 (.cells #[.int .i64 0, .int .i64 0] 28))
  generalize w1.alloc (.cells #[.int .i64 0, .int .i64 0] 28) = w2 at *
  generalize w1.heap.size = g7 at *
  clear HM1
  go_upto_region 4 with fail
  clear e0 e1
  obtain ⟨b0, b1, b2, -, -, -⟩ := cells3 HM2.out.2
  by_cases hbig : 3000 < t0.size
  case pos =>
    have hbI : (3000 : Int) < (t0.size : Int) := by omega
    go_wp2_with fail
    go_ret
    exact ⟨rfl, HM2.out.1.nil (by simp)⟩
  case neg =>
    have hbI : ¬ (3000 : Int) < (t0.size : Int) := by omega
    have HS0 : Hid (CpS w w2 gb t0 t1 t2 (.slice none 0 0) (C.take 0)) := Lib.hid ⟨CRow.nil _ _, HM2.out.2, by simp [Value.ownBlock], HM2.out.1⟩
    clear HM2
    go_wp2_with fail
    go_loopw [9, 8] (fun c v wx => ∃ (i : Nat) (p : Option Addr) (q : Nat), c = .int .i64 (i : Int) ∧ v = .slice p i q ∧ i ≤ C.length ∧ i ≤ 50 ∧ Hid (CpS w wx gb t0 t1 t2 (.slice p i q) (C.take i))) (fun c _ _ => 50 - (intOf c).toNat)
    case atStart => exact ⟨0, none, 0, rfl, rfl, Nat.zero_le _, by omega, HS0⟩
    case round =>
      obtain ⟨i, p, q, rfl, rfl, hi, hi50, HR⟩ := hrel
      clear HS0
      by_cases hgo : i < C.length ∧ i < 50
      case pos =>
        obtain ⟨h1, h2⟩ := hgo
        have h1I : (i : Int) < (C.length : Int) := by omega
        have h2I : (i : Int) < 50 := by omega
        obtain ⟨b, off, rfl, hb, hcc⟩ := HCELL.out (by omega)
        obtain ⟨d0, d1, d2⟩ := hcc i h1
        have d0 := HR.out.mu.cell d0 (by simp)
        have d1 := HR.out.mu.cell d1 (by simp)
        have d2 := HR.out.mu.cell d2 (by simp)
        obtain ⟨⟨X1, X2, X3⟩, hX⟩ : ∃ x, C[i] = x := ⟨_, rfl⟩
        rw [hX] at d0 d1 d2
        dsimp only at d0 d1 d2
        have htk : C.take (i + 1) = C.take i ++ [(X1, X2, X3)] := by rw [List.take_succ_eq_append_getElem h1, hX]
        have hlen : (C.take i).length = i := by rw [List.length_take]; omega
        have HTK := Lib.hid (And.intro htk hlen)
        obtain ⟨i0, hi0, hz0, hz1, hz2⟩ := info_parts info_ch
        have hrow := HR.out.row.mut ((Mut.refl [] wr).alloc (.cells #[.int .i64 X1, .int .i64 X2, .int .i64 X3] 56)) (by simp)
        unfold CRow at hrow
        rw [hlen] at hrow
        clear hcc hX htk hlen
        go_upto_region 10 with fail
        go_wp2_with (at_builtin; refine wp_app rfl (.tmp 48) (.tmp 53) 50 50 rfl 56 i0 (.agg #[.int .i64 0, .int .i64 0, .int .i64 0]) 3 24 Try.underlying50 hi0 hz0 hz1 hz2 rfl hrow rfl (src1 Try.underlying50 (heap_alloc_new wr _) rfl (ch_one _ _ _)) rfl ?b1 ?b2 ?_)
        case b1 => unfold maxLen; omega
        case b2 => omega
        intro v' w5 hr5 hg5 hf5
        have hS5 : CpS w w5 gb t0 t1 t2 v' (C.take i ++ [(X1, X2, X3)]) := HR.out.app (by rw [HTK.out.2]; exact hr5) hg5 hf5
        rw [← HTK.out.1] at hS5
        obtain ⟨p5, c5, e5⟩ := hS5.row.form
        have hl5 : (C.take (i + 1)).length = i + 1 := by rw [List.length_take]; omega
        rw [hl5] at e5
        subst e5
        have HS5 := Lib.hid hS5
        clear hS5 hr5 hg5 hf5 hrow hi0 hz0 hz1 hz2 hl5 d0 d1 d2 HR
        go_wp2_with fail
        exact ⟨⟨i + 1, p5, c5, by rw [Int.natCast_add]; rfl, rfl, h1, h2, HS5⟩, by simp only [intOf]; omega⟩
      case neg =>
        obtain ⟨C', hC'⟩ : ∃ C', C.take i = C' := ⟨_, rfl⟩
        have hC'l : C'.length = i := by rw [← hC', List.length_take]; omega
        have hCk' : ∀ c ∈ C', -9223372036854775808 ≤ c.1 ∧ c.1 ≤ 9223372036854775807 := fun c hc => HCK.out c (by rw [← hC'] at hc; exact List.mem_of_mem_take hc)
        rw [hC'] at HR
        obtain ⟨D, hD⟩ : ∃ D, bytesOf t0 = D := ⟨_, rfl⟩
        have hDl : D.length = t0.size := by rw [← hD, bytesOf_length]
        have hDlt : ∀ x ∈ D, x < 256 := by rw [← hD]; exact bytesOf_lt t0
        have HPK := Lib.hid (spack_any t0 D hD (by omega) C' (by omega) hCk' _ wr HR.out.row)
        have hlen := packAll_len D hDlt C'
        have hpos := packAll_pos D C'
        have hps := packed_size D C'
        obtain ⟨P, hP⟩ : ∃ P, strOf (pack (packAll D C')) = P := ⟨_, rfl⟩
        obtain ⟨F, hF⟩ : ∃ F, 8 * (P.size + t2.size) + D.length + C'.length + 10 = F := ⟨_, rfl⟩
        have hrun := pack_run D hDlt C' t2 t0.size (by omega) F (by omega)
        have hcut := fun n hn => pack_cut D hDlt C' t0.size F (by omega) (by omega) n hn
        rw [hP] at HPK hps hrun hcut
        obtain ⟨FL, hFL⟩ : ∃ n, (packAll D C').length = n := ⟨_, rfl⟩
        rw [hFL] at hlen hpos hps hrun
        have hDs : strOf D = t0 := by rw [← hD, strOf_bytesOf]
        have hPb : P.size ≤ 1000000 := by omega
        have hPz : 1 ≤ P.size := by omega
        have hss : (t1 ++ P ++ t2).extract t1.size (t1 ++ P ++ t2).size = P ++ t2 := by
          apply bytesOf_inj
          rw [bytesOf_extract, List.take_of_length_le (by rw [bytesOf_length]; exact Nat.le_refl _), ByteArray.append_assoc, bytesOf_append, ← bytesOf_length t1, List.drop_left]
        have HU1 : Hid (∀ w, Calls Try.prog 17 #[.string (t1 ++ P ++ t2), .int .i64 (t1.size : Int), .int .i64 (t0.size : Int)] w fun e w' => e = .returned (.tuple #[.string t0, .int .i64 ((t1.size + P.size : Nat) : Int), .agg #[.int .i64 0, .int .i64 0]]) ∧ Mut [] w w') := Lib.hid fun w => by
          have h := unpack_any (t1 ++ P ++ t2) (P ++ t2) t1.size t0.size F w (by simp; omega) (by simp; omega) hss (by omega) (by simp; omega) (t1.size : Int) (t0.size : Int) rfl rfl
          rw [hrun, unpRes_ok rfl ((t1.size + P.size : Nat) : Int) (by rw [hps])] at h
          simp only [hDs] at h
          exact h
        have HU2 : Hid (∀ n, n < P.size → ∃ b : Int, ∀ w, Calls Try.prog 17 #[.string (P.extract 0 n), .int .i64 0, .int .i64 (t0.size : Int)] w fun e w' => e = .returned (.tuple #[.string ByteArray.empty, .int .i64 0, .agg #[.int .i64 3, .int .i64 b]]) ∧ Mut [] w w') := Lib.hid fun n hn => by
          have h3 := hcut n hn
          refine ⟨((0 + (runU F (P.extract 0 n) t0.size).t / 8 : Nat) : Int), fun w => ?_⟩
          have h := unpack_0 (P.extract 0 n) t0.size F w (by simp; omega) (by omega) (by simp; omega) (t0.size : Int) rfl
          rw [unpRes_bad (by rw [h3]; decide), h3] at h
          exact h
        have HPS := Lib.hid hps
        clear hcut hrun hss hDs hDlt hD hC' hCk' hlen hpos hps hFL hP hF HCK HCELL hC'l hDl
        obtain ⟨b0, b1, b2, -, -, -⟩ := cells3 HR.out.box
        have hexit : (¬ (i : Int) < (C.length : Int)) ∨ ((i : Int) < (C.length : Int) ∧ ¬ (i : Int) < 50) := by omega
        clear hgo
        go_upto_region 8 with fail
        go_cut [45] (fun x wx => x = .bool false ∧ wx = wr)
        case first =>
          rcases hexit with h1 | ⟨h1, h2⟩
          · go_wp2_with fail
            go_meet
            exact ⟨rfl, rfl⟩
          · go_wp2_with fail
            go_meet
            exact ⟨rfl, rfl⟩
        case rest =>
          obtain ⟨rfl, hwr⟩ := hcut
          obtain rfl := hwr.symm
          have HBX := Lib.hid HR.out.box
          have HMM := Lib.hid HR.out.mu
          have hsm1 : t1.size + P.size ≤ 9223372036854775807 := by omega
          have hsm2 : t1.size + P.size + t2.size ≤ 9223372036854775807 := by omega
          have hs12 : (t1 ++ P).size = t1.size + P.size := by simp
          have hs3 : (t1 ++ P).size + t2.size ≤ 9223372036854775807 := by omega
          clear hexit HR hwr
          go_wp2_with fail
          refine HPK.out.mono ?_
          rintro e w3 ⟨rfl, hm⟩
          have hbx := hm.get HBX.out (by simp)
          have HB3 := Lib.hid hbx
          have HM3 := Lib.hid (HMM.out.trans' hm)
          obtain ⟨b0, b1, b2, -, -, -⟩ := cells3 hbx
          clear hm hbx HPK HBX HMM
          go_wp2_with fail
          refine (HU1.out _).mono ?_
          rintro e w4 ⟨rfl, hm⟩
          have m5 := hm.trans' ((Mut.refl [] w4).alloc (.cells #[.int .i64 0, .int .i64 0] 28))
          have HB4 := Lib.hid (m5.get HB3.out (by simp))
          have HM4 := Lib.hid (HM3.out.trans' m5)
          obtain ⟨e0, e1, -, -⟩ := cells2 (heap_alloc_new w4 (.cells #[.int .i64 0, .int .i64 0] 28))
          clear hm m5 HB3 HM3 HU1
          go_upto_region 13 with fail
          generalize w4.alloc (.cells #[.int .i64 0, .int .i64 0] 28) = w5 at *
          generalize w4.heap.size = g13 at *
          clear b0 b1 b2
          obtain ⟨b0, b1, b2, -, -, -⟩ := cells3 HB4.out
          have hss := str_eq t0 t0
          rw [decide_eq_true rfl] at hss
          go_upto_region 15 with fail
          clear e0 e1 b1 b2 hss
          have HB5 := HB4
          have HST : Hid (Mut [] w w5 ∧ w5.heap[gb]? = some (.cells #[.string t0, .string t1, .string t2] 59 (0, 0))) := Lib.hid ⟨HM4.out, HB4.out⟩
          clear b0 HB4 HB5 HM4
          go_wp2_with fail
          go_loopw [14] (fun c wx => ∃ k : Nat, c = .int .i64 (k : Int) ∧ 1 ≤ k ∧ k ≤ 200 ∧ k ≤ P.size + 1 ∧ Hid (Mut [] w wx ∧ wx.heap[gb]? = some (.cells #[.string t0, .string t1, .string t2] 59 (0, 0)))) (fun c _ => 201 - (intOf c).toNat)
          case atStart => exact ⟨1, rfl, by omega, by omega, by omega, HST⟩
          case round =>
            obtain ⟨k, rfl, hk1, hk2, hk3, HR⟩ := hrel
            clear HST
            by_cases hgo : k ≤ P.size ∧ k < 200
            case neg =>
              rcases (show ¬ k ≤ P.size ∨ (k ≤ P.size ∧ ¬ k < 200) by omega) with h1 | ⟨h1, h2⟩
              · have h1I : ¬ (k : Int) ≤ (P.size : Int) := by omega
                clear hgo
                go_wp2_with fail
                go_ret
                exact ⟨rfl, HR.out.1.nil (by simp)⟩
              · have h1I : (k : Int) ≤ (P.size : Int) := by omega
                have h2I : ¬ (k : Int) < 200 := by omega
                clear hgo
                go_wp2_with fail
                go_ret
                exact ⟨rfl, HR.out.1.nil (by simp)⟩
            case pos =>
              obtain ⟨h1, h2⟩ := hgo
              have h1I : (k : Int) ≤ (P.size : Int) := by omega
              have h2I : (k : Int) < 200 := by omega
              obtain ⟨n, hn⟩ : ∃ n, P.size - k = n := ⟨_, rfl⟩
              have hnI : (P.size : Int) - (k : Int) = (n : Int) := by omega
              have hnP : (n : Int) ≤ (P.size : Int) := by omega
              have hn0 : (0 : Int) ≤ (n : Int) := by omega
              obtain ⟨bb, hb⟩ := HU2.out n (by omega)
              have HU3 := Lib.hid hb
              obtain ⟨b0, -, -, -, -, -⟩ := cells3 HR.out.2
              have HW := Lib.hid HR.out.1
              have HBB := Lib.hid HR.out.2
              clear hb hn HR
              go_upto_region 18 with fail
              go_cut [17] (fun q wx => ∃ g, q = .pointer (some ⟨g, 0, none⟩) ∧ wx.cell? ⟨g, 0, none⟩ = some (.int .i64 3) ∧ Hid (Mut [] w wx ∧ wx.heap[gb]? = some (.cells #[.string t0, .string t1, .string t2] 59 (0, 0))))
              case first =>
                obtain ⟨hwa, hwb⟩ : wrap64 ((P.size : Int) - (k : Int)) = (n : Int) ∧ IntKind.i64.wrap ((P.size : Int) - (k : Int)) = (n : Int) := ⟨by rw [hnI]; exact IntWalk.wrap64_in _ (by omega), by rw [hnI]; exact IntWalk.i64_in _ (by omega)⟩
                clear hnI
                have b0' : ∀ o, (wr.alloc o).cell? ⟨gb, 0, none⟩ = some (.string t0) := fun o => ((Mut.refl [] wr).alloc o).cell (cells3 HBB.out).1 (by simp)
                go_region_with (go_at_call 17; refine (HU3.out _).mono ?_; rintro e w7 ⟨rfl, hm⟩; (first | (have HFB := Lib.hid (hm.get (heap_alloc_new wr (.cells #[.int .i64 0, .int .i64 0] 28)) (by simp)); obtain ⟨f0, f1, f2, f3⟩ := cells2 HFB.out; have HMM : Hid (Mut [] wr w7) := Lib.hid (by first | exact ((Mut.refl [] wr).alloc _).trans' hm | exact (((Mut.refl [] wr).alloc _).drew).trans' hm | exact (((Mut.refl [] wr).drew).alloc _).trans' hm); clear hm) | (have HMM : Hid (Mut [] wr w7) := Lib.hid (by first | exact hm | exact ((Mut.refl [] wr).drew).trans' hm); clear hm)))
                all_goals
                  go_wp2_with fail
                  go_meet
                · have m := HMM.out.trans' ((Mut.refl [] w7).alloc (.cells #[.int .i64 3, .int .i64 bb] 28))
                  exact ⟨_, rfl, (cells2 (heap_alloc_new w7 (.cells #[.int .i64 3, .int .i64 bb] 28))).1, Lib.hid ⟨HW.out.trans' m, m.get HBB.out (by simp)⟩⟩
                all_goals
                  have m : Mut [] wr ((w7.setCell ⟨wr.heap.size, 0, none⟩ (.int .i64 3)).setCell ⟨wr.heap.size, 1, none⟩ (.int .i64 bb)) := (HMM.out.setCell (.inr (Nat.le_refl _)) _).setCell (.inr (Nat.le_refl _)) _
                  exact ⟨_, rfl, cellOf (heap_set (heap_set HFB.out 0 _) 1 _) 0 rfl, Lib.hid ⟨HW.out.trans' m, m.get HBB.out (by simp)⟩⟩
              case rest =>
                obtain ⟨g, rfl, c0, HQ⟩ := hcut
                clear b0 HW HBB HU3
                go_wp2_with fail
                exact ⟨⟨k + 1, by rw [Int.natCast_add]; rfl, by omega, by omega, by omega, HQ⟩, by simp only [intOf]; omega⟩

end Go.Proofs.Ytcdoamaljgjojaa
