/- The law CodingJoined. -/
import Derived.Test.YtkoheodcledcfaaCodL3
import Derived.Deep.RegionLaw
namespace Go.Proofs.Ytkoheodcledcfaa
open Go.RowKit

theorem Mut.then0 {S : List Nat} {a b c : World} (h : Mut S a b) (k : Mut [] b c) : Mut S a c := h.trans k (by simp)

theorem fresh_drew (W : World) : ∀ g, (Value.slice (some ⟨W.drew.heap.size, 0, none⟩) 0 0).ownBlock = some g → W.heap.size ≤ g := by
  intro g hg
  simp [Value.ownBlock] at hg
  subst hg
  exact Nat.le_refl W.heap.size

/-- an append of a row that came in, as a step of a region that draws -/
theorem step_app {ops : Array Oper} {o : Oper} {a : Act} {w w0 : World} {K : Act → World → Prop} {Q' : Exit → Act → World → Prop} {E : Prop} (hw : Region.wanted o (yielded ops a.tmps) = true) (s x : Operand)
    (ho : o.op = .call { callee := .builtin .append, args := #[s, x], argTypes := #[23, 23] }) {r v : Value} {R xs : List Int}
    (hs : a.eval s = r) (hx : a.eval x = v) (hr : IRow w r R) (hv : Src Try.prog 1 23 v xs.length (xs.map (Value.int .i64)) w) (m : Mut [] w0 w) (hf : ∀ g, r.ownBlock = some g → w0.heap.size ≤ g) (hl : R.length + xs.length ≤ 8388608)
    (hK : ∀ v' w', IRow w' v' (R ++ xs) → Mut [] w0 w' → (∀ g, v'.ownBlock = some g → w0.heap.size ≤ g) → K (a.put o.dst v') w') :
    if Region.wanted o (yielded ops a.tmps) = true then Oper.wp Try.prog o a w K Q' else E := by
  rw [if_pos hw]
  obtain ⟨i0, hi, hz0, hz1, hz2⟩ := info_parts info_int
  obtain ⟨v', w', hrun, r1, r2, r3⟩ := run_app (P := Try.prog) w 23 23 o.type 3 i0 (.int .i64 0) 1 8 Try.underlying23 hi hz0 hz1 hz2 rfl r R.length _ hr _ _ _ hv (by unfold maxLen; omega) (by omega)
  unfold Oper.wp
  simp [execOp, ho, resolve, invoke, builtin, hs, hx, hrun, Result.andThen]
  have hm : Mut r.ownBlock.toList w w' := (Mut.refl _ w).grown r2 (fun k hk => .inl (by simp [hk]))
  refine hK v' w' ?_ (m.trans hm (fun y hy => .inr (hf y (by simpa using hy)))) (fun g hg => ?_)
  · unfold IRow
    rw [List.length_append, List.map_append]
    exact r1
  · rcases r3 g hg with h | h
    · exact hf g h
    · have := m.size
      omega

theorem told_joined (c : Nat) (hc : 1 ≤ c ∧ c ≤ 4) (xs ys : List Int) (h1 : ∀ r ∈ xs, okRune r c) (h2 : ∀ r ∈ ys, okRune r c) :
    runesOf (told c ((markB c ++ encAll xs c) ++ encAll ys c)) = xs ++ ys ∧ badOf (told c ((markB c ++ encAll xs c) ++ encAll ys c)) = 0 := by
  rw [List.append_assoc, ← encAll_append]
  exact told_marked c hc (xs ++ ys) (fun r hr => by
    rcases List.mem_append.1 hr with h | h
    · exact h1 r h
    · exact h2 r h)

theorem strOf_append (a b : List Nat) : strOf a ++ strOf b = strOf (a ++ b) := by
  apply ByteArray.ext
  simp [strOf, ByteArray.data_append]

set_option maxHeartbeats 1600000 in
set_option maxRecDepth 1000000 in
theorem lawCodingJoined {w : World} (v : Value) (xs : List Int) (hx : Ints .i64 w v xs) (hs : xs.length ≤ 1048576) (v2 : Value) (ys : List Int) (hy : Ints .i64 w v2 ys) (hs2 : ys.length ≤ 1048576) (c : Int) (_ : (Lit.int .i64 c).wf = true) :
    Calls Try.prog 8 #[v, v2, .int .i64 c] w fun e w' => e = .returned (.bool true) ∧ Below w.heap.size w w' := by
  obtain ⟨p0, c0, rfl, k0⟩ := hx.read
  obtain ⟨p9, c9, rfl, k9⟩ := hy.read
  have HX := Lib.hid hx
  have HY := Lib.hid hy
  have K0 := Lib.hid k0
  have K9 := Lib.hid k9
  clear hx k0 hy k9
  obtain ⟨i0, hi, hz0, hz1, hz2⟩ := info_parts info_int
  go_enter Try.func8, Try.ntmps8
  go_wp2_with fail
  refine (speaks_any w).mono ?_
  rintro e w1 ⟨rfl, m1⟩
  have M1 := Lib.hid m1
  clear m1
  go_upto_region 3 with fail
  go_cut [31] (fun x wx => ∃ b : Bool, x = .bool b ∧ wx = w1 ∧ Hid (b = false → ∃ k : Nat, c = k ∧ 1 ≤ k ∧ k ≤ 3))
  case first =>
    by_cases h1 : c < 1
    · go_wp2_with fail
      go_meet
      exact ⟨_, rfl, rfl, Lib.hid fun h => by simp at h⟩
    · by_cases h3 : 3 < c
      · go_wp2_with fail
        go_meet
        exact ⟨_, rfl, rfl, Lib.hid fun h => by simp at h⟩
      · have HC : Hid (∃ k : Nat, c = k ∧ 1 ≤ k ∧ k ≤ 3) := Lib.hid ⟨c.toNat, by omega, by omega, by omega⟩
        by_cases hl : 0 < ys.length
        · have hlI : 0 < (ys.length : Int) := by omega
          obtain ⟨a, rfl, ca⟩ := K9.out w1 M1.out 0 hl
          have ca' : w1.cell? a = some (.int .i64 (ys.getD 0 0)) := ca
          generalize ys.getD 0 0 = y at *
          by_cases hf : y = 65279
          · have hfb : (y == 65279) = true := by simp [hf]
            go_wp2_with fail
            go_meet
            exact ⟨_, rfl, rfl, Lib.hid fun _ => HC.out⟩
          · have hfb : (y == 65279) = false := by rw [beq_eq_false_iff_ne]; exact hf
            go_wp2_with fail
            go_meet
            exact ⟨_, rfl, rfl, Lib.hid fun _ => HC.out⟩
        · have hlI : ¬ 0 < (ys.length : Int) := by omega
          go_wp2_with fail
          go_meet
          exact ⟨_, rfl, rfl, Lib.hid fun _ => HC.out⟩
  case rest =>
   obtain ⟨b, rfl, rfl, HBB⟩ := hcut
   go_upto_if 31 with fail
   go_cut [2] (fun x wx => ∃ k : Nat, x = .int .i64 (k : Int) ∧ 1 ≤ k ∧ k ≤ 3 ∧ wx = wc)
   case first =>
    cases b
    · obtain ⟨k, rfl, h1, h2⟩ := HBB.out rfl
      go_wp2_with fail
      go_meet
      exact ⟨k, rfl, h1, h2, rfl⟩
    · go_wp2_with fail
      go_meet
      exact ⟨1, rfl, by omega, by omega, rfl⟩
   case rest =>
    obtain ⟨k, rfl, hk1, hk3, rfl⟩ := hcut
    go_wp2_with (at_builtin; (refine wp_app rfl (.tmp 33) (.tmp 34) 23 23 rfl 3 i0 (.int .i64 0) 1 8 Try.underlying23 hi hz0 hz1 hz2 rfl (IRow.empty _) rfl (HX.out.src (M1.out.alloc _)) rfl (by rw [List.length_nil]; unfold maxLen; omega) (by rw [List.length_nil]; omega) ?_))
    intro v1 w2 g1 g2 g3
    have hv1 : IRow w2 v1 xs := g1
    have M2 := Lib.hid ((M1.out.alloc (.cells #[] 3)).grown g2 (fun k hk => .inr (by simp [Value.ownBlock] at hk; have := M1.out.size; omega)))
    clear g1 g2 g3
    go_wp2_with fail
    refine (encode_go xs k true ⟨hk1, by omega⟩ (by omega) v1 w2 hv1).mono ?_
    rintro e w3 ⟨rfl, m3⟩
    have M3 := Lib.hid (M2.out.trans m3 (by simp))
    clear m3 hv1 M2
    obtain ⟨sA, nA, hA⟩ : ∃ sA nA, encRes xs k true = .tuple #[.string sA, .int .i64 nA] ∧ ((nA = 0 ∧ sA = strOf (markB k ++ encAll xs k) ∧ ∀ r ∈ xs, okRune r k) ∨ nA = 17) := by
      by_cases h : ∀ r ∈ xs, okRune r k
      · exact ⟨_, _, by rw [encRes_ok h, if_pos rfl], .inl ⟨rfl, rfl, h⟩⟩
      · exact ⟨_, _, by unfold encRes; rw [if_neg h], .inr rfl⟩
    rw [hA.1]
    have HA := Lib.hid hA.2
    clear hA
    go_wp2_with (at_builtin; (refine wp_app rfl (.tmp 41) (.tmp 42) 23 23 rfl 3 i0 (.int .i64 0) 1 8 Try.underlying23 hi hz0 hz1 hz2 rfl (IRow.empty _) rfl (HY.out.src (M3.out.alloc _)) rfl (by rw [List.length_nil]; unfold maxLen; omega) (by rw [List.length_nil]; omega) ?_))
    intro v4 w4 g1 g2 g3
    have hv4 : IRow w4 v4 ys := g1
    have M4 := Lib.hid ((M3.out.alloc (.cells #[] 3)).grown g2 (fun k hk => .inr (by simp [Value.ownBlock] at hk; have := M3.out.size; omega)))
    clear g1 g2 g3 hi hz0 hz1 hz2
    go_wp2_with fail
    refine (encode_go ys k false ⟨hk1, by omega⟩ (by omega) v4 w4 hv4).mono ?_
    rintro e w5 ⟨rfl, m5⟩
    have M5 := Lib.hid (M4.out.trans m5 (by simp))
    clear m5 hv4 M4
    obtain ⟨sB, nB, hB⟩ : ∃ sB nB, encRes ys k false = .tuple #[.string sB, .int .i64 nB] ∧ ((nB = 0 ∧ sB = strOf (encAll ys k) ∧ ∀ r ∈ ys, okRune r k) ∨ nB = 17) := by
      by_cases h : ∀ r ∈ ys, okRune r k
      · exact ⟨_, _, by rw [encRes_ok h, if_neg (by decide), List.nil_append], .inl ⟨rfl, rfl, h⟩⟩
      · exact ⟨_, _, by unfold encRes; rw [if_neg h], .inr rfl⟩
    rw [hB.1]
    have HB := Lib.hid hB.2
    clear hB
    rcases HA.out with ⟨rfl, hsA, okA⟩ | rfl
    · rcases HB.out with ⟨rfl, hsB, okB⟩ | rfl
      · have OKA := Lib.hid okA
        have OKB := Lib.hid okB
        have HSA := Lib.hid hsA
        have HSB := Lib.hid hsB
        have hsum : bytesOf (sA ++ sB) = (markB k ++ encAll xs k) ++ encAll ys k := by
          rw [hsA, hsB, strOf_append]
          exact bytesOf_strOf _ (fun x hx => by
            rcases List.mem_append.1 hx with hx | hx
            · rcases List.mem_append.1 hx with hx | hx
              · exact markB_lt k x hx
              · exact encAll_lt xs k okA x hx
            · exact encAll_lt ys k okB x hx)
        have hlen : (sA ++ sB).size ≤ 16777216 := by
          rw [← bytesOf_length, hsum, List.length_append, List.length_append]
          have := markB_len k
          have := encAll_len xs k
          have := encAll_len ys k
          omega
        have hcat : sA.size + sB.size ≤ 16777216 := by rw [← ByteArray.size_append]; exact hlen
        obtain ⟨t1, t2⟩ := told_joined k ⟨hk1, by omega⟩ xs ys okA okB
        rw [← hsum] at t1 t2
        obtain ⟨zs, hzs⟩ : ∃ zs, xs ++ ys = zs := ⟨_, rfl⟩
        have HZ := Lib.hid hzs
        have hzl : zs.length ≤ 2097152 := by rw [← hzs, List.length_append]; omega
        rw [hzs] at t1
        clear hzs
        have T1 := Lib.hid t1
        have T2 := Lib.hid t2
        have hdec := decode_go (sA ++ sB) k true (by omega) hlen w5
        rw [show codingOf k (bytesOf (sA ++ sB)) = k from by unfold codingOf; rw [if_neg (by omega)]] at hdec
        have HDEC := Lib.hid hdec
        clear hdec okA okB hsA hsB hsum hlen t1 t2 HA HB HSA HSB
        go_wp2_with fail
        refine HDEC.out.mono ?_
        rintro e w6 ⟨x, rfl, hp, m6⟩
        obtain ⟨vr, vp, rfl, hr, hq⟩ := hp.whole T2.out
        rw [T1.out] at hr
        obtain ⟨p1, c1, rfl, k1⟩ := hr.read
        obtain ⟨p2, c2, rfl, -⟩ := hq.read
        generalize (((placesOf (told k (bytesOf (sA ++ sB)))).map fun n : Nat => (n : Int)) ++ [((sA ++ sB).size : Int)]).length = n2 at *
        have K1 := Lib.hid k1
        have M6 := Lib.hid (M5.out.trans m6 (by simp))
        obtain ⟨h7, m7⟩ := hold_new w6 (.int .i64 (k : Int)) (.slice p1 zs.length c1) (.slice p2 n2 c2) (.int .i64 0) (.int .i64 0) (.int .i64 0)
        have H7 := Lib.hid h7
        have M7 := Lib.hid m7
        clear hr hp hq k1 m6 h7 m7
        go_upto_region 10 with fail
        generalize ((w6.alloc (.cells #[.int .i64 (k : Int), .slice p1 zs.length c1, .slice p2 n2 c2, .int .i64 0] 25)).alloc (.cells #[.int .i64 0, .int .i64 0] 28)) = W at *
        have MW := Lib.hid (M6.out.trans M7.out (by simp))
        have K1W : Hid (∀ w', Mut [] W w' → ∀ i, i < zs.length → ∃ a : Addr, p1 = some a ∧ w'.cell? (a.add i) = some (.int .i64 (zs.getD i 0))) := Lib.hid fun w' m => K1.out w' (M7.out.trans m (by simp))
        obtain ⟨d0, d1, d2, d3, d4, d5⟩ := H7.out.cells
        have hWs := MW.out.size
        clear d0 d2 d3 K1 M1 M3 M5 OKA OKB HDEC T1 T2
        have d1' : ∀ o, (W.alloc o).cell? ⟨w6.heap.size, 1, none⟩ = some (.slice p1 zs.length c1) := fun o => cellOf (H7.out.step ((Mut.refl [] W).alloc o)).1 1 rfl
        go_region_law (first | (refine step_app rfl (.tmp 68) (.tmp 69) rfl rfl rfl (IRow.empty W.drew) (HX.out.src (MW.out.then0 (((Mut.refl [] W).drew).alloc _))) (((Mut.refl [] W).drew).alloc _) (fresh_drew W) (by simp only [List.length_nil]; omega) ?_; intro v7 w7 q1 q2 q3; obtain ⟨pA, lA, cA, rfl⟩ := q1.form; have Q1 := Lib.hid q1; have Q2 := Lib.hid q2; have Q3 := Lib.hid q3; have d1 : w7.cell? ⟨w6.heap.size, 1, none⟩ = some (.slice p1 zs.length c1) := cellOf (H7.out.step q2).1 1 rfl; clear q1 q2 q3) | (refine step_app rfl (.tmp 70) (.tmp 71) rfl rfl rfl Q1.out (HY.out.src (MW.out.then0 Q2.out)) Q2.out Q3.out (by simp only [List.length_nil, List.length_append]; omega) ?_; intro v8 w8 q1 q2 q3; rw [List.nil_append, HZ.out] at q1; obtain ⟨pB, cB, rfl, kB⟩ := q1.read; have KB := Lib.hid kB; have R2 := Lib.hid q2; have d1 : w8.cell? ⟨w6.heap.size, 1, none⟩ = some (.slice p1 zs.length c1) := cellOf (H7.out.step q2).1 1 rfl; clear q1 q2 q3 kB) | (go_simp; go_wp2_with (go_at_call 15; refine (ints_any _ _ p1 pB c1 cB zs zs (by omega) _ rfl rfl (fun i hi => K1W.out _ R2.out i hi) (fun i hi => KB.out _ (Mut.refl [] _) i hi)).mono ?_; rintro e w9 ⟨rfl, n, rfl⟩)))
        all_goals (try go_wp2)
        all_goals (try simp only [Exit.inBlock, Exit.then])
        all_goals exact bodyPost_ret (v := .bool true) (results_tmp (t := 6) rfl _ _ _) rfl ⟨rfl, ((MW.out.then0 R2.out).drewN n).nil (by simp)⟩
      · clear HA HB
        go_wp2_with fail
        exact bodyPost_ret (results_tmp rfl _ _ _) rfl ⟨rfl, M5.out.nil (by simp)⟩
    · clear HA HB
      go_wp2_with fail
      exact bodyPost_ret (results_tmp rfl _ _ _) rfl ⟨rfl, M5.out.nil (by simp)⟩

end Go.Proofs.Ytkoheodcledcfaa
