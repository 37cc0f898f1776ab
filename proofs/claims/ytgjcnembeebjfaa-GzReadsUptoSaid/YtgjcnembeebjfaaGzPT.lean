/- Walk over the law's function parts: two rows of the same parts. -/
import Derived.Test.YtgjcnembeebjfaaGzK
import Derived.Deep.RegionWith
import Derived.BigQuiet
import Derived.Deep.LoopGhost
namespace Go.Proofs.Ytgjcnembeebjfaa
open Go.RowKit
set_option linter.unusedVariables false

set_option maxHeartbeats 1600000 in
set_option maxRecDepth 100000 in
theorem parts_any (L : List GPart) (n : Nat) (hn : L.length = n) (hn2 : n ≤ 1073741824) (pa pb : Option Addr) (ca cb : Nat) (w : World) (ra : w.ownsRow 0 37 9 (.slice pa n ca) n (gpL L)) (rb : w.ownsRow 0 44 9 (.slice pb n cb) n (gpL L)) :
    Calls Try.prog 12 #[.slice pa n ca, .slice pb n cb] w fun e w' => e = .returned (.bool true) ∧ Mut [] w w' := by
  have HA := Lib.hid ra
  have HB := Lib.hid rb
  have HN := Lib.hid hn
  have HM := Lib.hid (Mut.refl [] w)
  have hnn : ((n : Int) == (n : Int)) = true := by simp
  clear ra rb hn
  go_enter Try.func12, Try.ntmps12
  go_wp2_with fail
  go_loopg [5] n (fun g c wr => ∃ i : Nat, g = n - i ∧ i ≤ n ∧ c = .int .i64 (i : Int) ∧ Hid (Mut [] w wr))
  case atStart => exact ⟨0, rfl, Nat.zero_le _, rfl, HM⟩
  case round =>
    obtain ⟨i, rfl, hi, rfl, HR⟩ := hrel
    clear HM
    by_cases hlt : i < n
    case neg =>
      obtain rfl : i = n := by omega
      have hI : ¬ (i : Int) < (i : Int) := by omega
      go_wp2_with fail
      exact bodyPost_ret (results_tmp rfl _ _ _) rfl ⟨rfl, HR.out⟩
    case pos =>
      have hI : (i : Int) < (n : Int) := by omega
      have hI0 : (0 : Int) ≤ (i : Int) := by omega
      have hil : i < L.length := by rw [HN.out]; exact hlt
      obtain ⟨G1, cp1, e1, -, -⟩ := row_some HA.out (by omega)
      cases e1
      obtain ⟨G2, cp2, e2, -, -⟩ := row_some HB.out (by omega)
      cases e2
      have d := rowAt9 (n := n) (HA.out.mut' HR.out (by simp)) i hil
      have d' := rowAt9 (n := n) (HB.out.mut' HR.out (by simp)) i hil
      generalize L[i] = p at *
      have x0 : ∀ j, (wr.drewN j).cell? ⟨G1, i * 9, none⟩ = some (.string p.name) := fun j => d 0 (.string p.name) (by decide) rfl
      have x1 : ∀ j, (wr.drewN j).cell? ⟨G1, i * 9 + 1, none⟩ = some (.string p.comment) := fun j => d 1 (.string p.comment) (by decide) rfl
      have x2 : ∀ j, (wr.drewN j).cell? ⟨G1, i * 9 + 2, none⟩ = some (.string p.extra) := fun j => d 2 (.string p.extra) (by decide) rfl
      have x3 : ∀ j, (wr.drewN j).cell? ⟨G1, i * 9 + 3, none⟩ = some (.bool p.text) := fun j => d 3 (.bool p.text) (by decide) rfl
      have x4 : ∀ j, (wr.drewN j).cell? ⟨G1, i * 9 + 4, none⟩ = some (.bool p.headSum) := fun j => d 4 (.bool p.headSum) (by decide) rfl
      have x5 : ∀ j, (wr.drewN j).cell? ⟨G1, i * 9 + 5, none⟩ = some (.int .i64 p.time) := fun j => d 5 (.int .i64 p.time) (by decide) rfl
      have x6 : ∀ j, (wr.drewN j).cell? ⟨G1, i * 9 + 6, none⟩ = some (.int .i64 p.more) := fun j => d 6 (.int .i64 p.more) (by decide) rfl
      have x7 : ∀ j, (wr.drewN j).cell? ⟨G1, i * 9 + 7, none⟩ = some (.int .i64 p.system) := fun j => d 7 (.int .i64 p.system) (by decide) rfl
      have x8 : ∀ j, (wr.drewN j).cell? ⟨G1, i * 9 + 8, none⟩ = some (.string p.data) := fun j => d 8 (.string p.data) (by decide) rfl
      have y0 : ∀ j, (wr.drewN j).cell? ⟨G2, i * 9, none⟩ = some (.string p.name) := fun j => d' 0 (.string p.name) (by decide) rfl
      have y1 : ∀ j, (wr.drewN j).cell? ⟨G2, i * 9 + 1, none⟩ = some (.string p.comment) := fun j => d' 1 (.string p.comment) (by decide) rfl
      have y2 : ∀ j, (wr.drewN j).cell? ⟨G2, i * 9 + 2, none⟩ = some (.string p.extra) := fun j => d' 2 (.string p.extra) (by decide) rfl
      have y3 : ∀ j, (wr.drewN j).cell? ⟨G2, i * 9 + 3, none⟩ = some (.bool p.text) := fun j => d' 3 (.bool p.text) (by decide) rfl
      have y4 : ∀ j, (wr.drewN j).cell? ⟨G2, i * 9 + 4, none⟩ = some (.bool p.headSum) := fun j => d' 4 (.bool p.headSum) (by decide) rfl
      have y5 : ∀ j, (wr.drewN j).cell? ⟨G2, i * 9 + 5, none⟩ = some (.int .i64 p.time) := fun j => d' 5 (.int .i64 p.time) (by decide) rfl
      have y6 : ∀ j, (wr.drewN j).cell? ⟨G2, i * 9 + 6, none⟩ = some (.int .i64 p.more) := fun j => d' 6 (.int .i64 p.more) (by decide) rfl
      have y7 : ∀ j, (wr.drewN j).cell? ⟨G2, i * 9 + 7, none⟩ = some (.int .i64 p.system) := fun j => d' 7 (.int .i64 p.system) (by decide) rfl
      have y8 : ∀ j, (wr.drewN j).cell? ⟨G2, i * 9 + 8, none⟩ = some (.string p.data) := fun j => d' 8 (.string p.data) (by decide) rfl
      have hss : ∀ s : ByteArray, (s.toList == s.toList) = true := fun s => by simp
      have hbb : ∀ s : Bool, (s == s) = true := fun s => by simp
      have hii : ∀ s : Int, (s == s) = true := fun s => by simp
      clear d d' hil
      go_wp2_with fail
      go_quiet (fail)
      have HR9 := Lib.hid (HR.out.drewN nq)
      clear x0 x1 x2 x3 x4 x5 x6 x7 x8 y0 y1 y2 y3 y4 y5 y6 y7 y8 HR
      go_wp2_with fail
      go_roundg (n - (i + 1))
      case measure => omega
      case rel => exact ⟨i + 1, rfl, by omega, by rw [Int.natCast_add]; rfl, HR9⟩

end Go.Proofs.Ytgjcnembeebjfaa
