/- Walk: sort.Slice over one range. -/
import Derived.Test.YtcnckpglicfolaaBase
import Derived.Lib.ReflectliteSlice
import Derived.Deep.DeepCutAuto
import Derived.BigQuiet
namespace Go.Proofs.Ytcnckpglicfolaa
open Go.RowKit Go.Lib
set_option linter.unusedVariables false

set_option maxHeartbeats 1600000 in
set_option maxRecDepth 100000 in
theorem ins_one (x y : Value) (w : World) :
    Calls Try.prog 43 #[.agg #[x, y], .int .i64 0, .int .i64 1] w fun e w' => e = .returned (.tuple #[]) ∧ Mut [] w w' := by
  go_enter Try.func43, Try.ntmps43
  go_wp2_with fail
  refine wp_loop_rounds 1 ?_
  rw [rounds_succ]
  go_wp2_with fail
  go_end0
  exact ⟨rfl, (Mut.refl [] w).alloc _⟩

set_option maxHeartbeats 1600000 in
set_option maxRecDepth 100000 in
theorem pdq_one (x y : Value) (lim : Int) (w : World) :
    Calls Try.prog 28 #[.agg #[x, y], .int .i64 0, .int .i64 1, .int .i64 lim] w fun e w' => e = .returned (.tuple #[]) ∧ Mut [] w w' := by
  have HI := Lib.hid fun W => ins_one x y W
  go_enter Try.func28, Try.ntmps28
  go_wp2_with fail
  refine wp_loop_rounds 1 ?_
  rw [rounds_succ]
  go_wp2_with fail
  refine (HI.out _).mono ?_
  rintro e w2 ⟨rfl, hm⟩
  go_wp2_with fail
  exact bodyPost_ret (results_none rfl _ _ _) rfl ⟨rfl, ((Mut.refl [] w).alloc _).trans' hm⟩

set_option maxHeartbeats 1600000 in
set_option maxRecDepth 100000 in
theorem blen64_one (w : World) :
    Calls Try.prog 42 #[.int .u64 1] w fun e w' => e = .returned (.int .i64 1) ∧ w' = w := by
  go_enter Try.func42, Try.ntmps42
  go_wp2_with fail
  refine bodyPost_ret (results_tmp rfl _ _ _) rfl ⟨?_, rfl⟩
  kernel_rfl

set_option maxHeartbeats 1600000 in
set_option maxRecDepth 100000 in
theorem blen_one (w : World) :
    Calls Try.prog 27 #[.int .u64 1] w fun e w' => e = .returned (.int .i64 1) ∧ w' = w := by
  go_enter Try.func27, Try.ntmps27
  go_wp2_with fail
  refine (blen64_one w).mono ?_
  rintro e w2 ⟨rfl, rfl⟩
  go_wp2_with fail
  exact bodyPost_ret (results_tmp rfl _ _ _) rfl ⟨rfl, rfl⟩

noncomputable def tiS : TypeInfo := (Try.prog.info? 30).get (by kernel_rfl)
noncomputable def tiE : TypeInfo := (Try.prog.info? 34).get (by kernel_rfl)
theorem swK : swapperK 1 tiE 25 = 2 := rfl

set_option maxHeartbeats 1600000 in
set_option maxRecDepth 100000 in
theorem slice_one (p : Option Addr) (c : Nat) (lf : Fn) (la lb : Array Value) (w : World) :
    Calls Try.prog 13 #[.iface 30 (.slice p 1 c), .func lf la lb] w fun e w' => e = .returned (.tuple #[]) ∧ Mut [] w w' := by
  have hv := run_valueOf_slice (P := Try.prog) 30 34 tiS (by kernel_rfl) (by kernel_rfl) p 1 c w
  have hs := fun w => run_swapper_slice (P := Try.prog) 30 34 tiS tiE (by kernel_rfl) (by kernel_rfl) (by kernel_rfl) 25 (fun _ => by kernel_rfl) p 1 c 33 (by rw [swK]; kernel_rfl) w
  have hl := fun a w ha => run_valueLen_slice (P := Try.prog) 30 34 tiS (by kernel_rfl) (by kernel_rfl) (by kernel_rfl) a p 1 c w ha
  have wr : IntKind.u64.wrap (1 : Int) = 1 := by decide
  have hg : Try.prog.globals.size = 0 := by kernel_rfl
  simp only [typeHandle, hg] at hv hl
  go_enter Try.func13, Try.ntmps13
  go_wp2_with fail
  rw [run_callFunc_extern Try.func24 (by kernel_rfl) (by kernel_rfl) (by kernel_rfl) (e := fun args => Extern.ReflectliteValue.unpack (args.getD 0 (.tuple #[]))) (by kernel_rfl),
    show Sem.run Try.prog ((fun args : Array Value => Extern.ReflectliteValue.unpack (args.getD 0 (.tuple #[]))) #[.iface 30 (.slice p 1 c)]) w = _ from hv]
  simp only [Result.andThen]
  rw [Oper.upon_value]
  go_wp2_with fail
  rw [run_callFunc_extern Try.func25 (by kernel_rfl) (by kernel_rfl) (by kernel_rfl) (e := Extern.ReflectliteSwapper.swapper "internal/reflectlite" (Extern.ReflectliteValue.valueError "Swapper")) (by kernel_rfl), hs]
  simp only [Result.andThen]
  rw [Oper.upon_value]
  go_wp2_with fail
  rw [run_callFunc_extern Try.func26 (by kernel_rfl) (by kernel_rfl) (by kernel_rfl) (e := Extern.ReflectliteValue.method (Extern.ReflectliteValue.valueError "reflectlite.Value.Len" 0) Extern.ReflectliteValue.len) (by kernel_rfl),
    hl _ _ (by simp)]
  simp only [Result.andThen]
  rw [Oper.upon_value]
  go_wp2_with fail
  refine (blen_one _).mono ?_
  rintro e w2 ⟨rfl, rfl⟩
  go_wp2_with fail
  refine (pdq_one _ _ _ _).mono ?_
  rintro e w3 ⟨rfl, hm⟩
  have HM := Lib.hid hm
  go_wp2_with fail
  go_end0
  exact ⟨rfl, (((Mut.refl [] w).alloc _).alloc _).trans' HM.out⟩

end Go.Proofs.Ytcnckpglicfolaa
