/-
  What the rows of this seat share. Conditions: none (definitions and lemmas).
-/
import Derived.Test.YteicnlniagbmgaaDoorRa
import Derived.Test.YteicnlniagbmgaaDoorTa
import Derived.Test.YteicnlniagbmgaaDoorCards
import Derived.Test.YteicnlniagbmgaaDoorTie
import Derived.WalkKit
import Derived.ProofKit
import Derived.OpenShut
import Derived.Deep.DeepHandedRow
import Derived.Lib.LaidTab
/-
  What the rows of this seat share: its variable, the sizes of what is read, a world that holds the variable. Conditions: none (lemmas).
-/
namespace Go.Proofs.YteicnlniagbmgaaDoor
open Go.ChangeShapes Go.WideShapes Go.ChangeAt Go.RowKit Go.Ab

theorem own : ownKnob Tryd.prog.godebug = none := by kernel_rfl
theorem laidOut : laidOutB Tryd.prog = true := by kernel_rfl
theorem gShapes : Tryd.prog.globalNamed "hurdle/ins.shapes" = some 0 := by kernel_rfl
theorem shapes_eq : toD (Rows.laid_hurdle_ins_shapes (H := Unit)) = shapesD := by kernel_rfl
theorem globs {W : World} (h : laidMetH Tryd.prog [("hurdle/ins.shapes", Rows.laid_hurdle_ins_shapes)] W) : ∀ n d, S0.glob n = some d → ∃ cs, RDc cid W M0 d cs ∧ cellsAt W M0 n 0 cs := by
  intro n d hn
  simp only [S0] at hn
  split at hn
  case isFalse => cases hn
  rename_i h0
  subst h0
  obtain rfl := Option.some.inj hn
  rw [← shapes_eq]
  exact laid_at gShapes (t := 136) (n := 8) (by kernel_rfl) (by kernel_rfl) (by kernel_rfl) h

mutual
theorem dB_le {H : Type} : ∀ d : DataW H, dB (toD d) ≤ Rows.uptoBulk d
  | .lit (.bool b) => by simp [toD, dB, Rows.uptoBulk]
  | .lit (.int k n) => by simp [toD, dB, Rows.uptoBulk]
  | .lit (.string s) => by simp [toD, dB, Rows.uptoBulk]
  | .lit (.float ..) => by simp [toD, dB, dBs, Rows.uptoBulk]
  | .lit .nil => by simp [toD, dB, dBs, Rows.uptoBulk]
  | .slice es sp => by
    have := dBs_le es
    simp only [toD, dB, Rows.uptoBulk]; omega
  | .agg ps => by
    have := dBc_le ps
    simp only [toD, dB, Rows.uptoBulk]; omega
  | .nil => by simp [toD, dB, dBs, Rows.uptoBulk]
  | .ptr d => by simp [toD, dB, dBs, Rows.uptoBulk]
  | .iface t d => by simp [toD, dB, dBs, Rows.uptoBulk]
  | .map en => by simp [toD, dB, dBs, Rows.uptoBulk]
  | .held h => by simp [toD, dB, dBs, Rows.uptoBulk]
theorem dBs_le {H : Type} : ∀ ds : List (DataW H), dBs (toDs ds) ≤ Rows.uptoBulkAll ds
  | [] => by simp [toDs, dBs, Rows.uptoBulkAll]
  | d :: r => by
    have h1 := dB_le d
    have h2 := dBs_le r
    simp only [toDs, dBs, Rows.uptoBulkAll]; omega
theorem dBc_le {H : Type} : ∀ ds : List (DataW H), dBs (toDc ds) ≤ Rows.uptoBulkAll ds
  | [] => by simp [toDc, dBs, Rows.uptoBulkAll]
  | d :: r => by
    have h1 := dB_le d
    have h2 := dBc_le r
    have h3 := dBs_cells (toD d)
    simp only [toDc, dBs_append, Rows.uptoBulkAll]; omega
end
theorem bulk {H : Type} {ds gs : List (DataW H)} (h : Rows.uptoSmall H (ds ++ gs) = true) : dBs (toDs ds) ≤ 1048576 := by
  have h1 := of_decide_eq_true h
  have h2 : ∀ a b : List (DataW H), Rows.uptoBulkAll (a ++ b) = Rows.uptoBulkAll a + Rows.uptoBulkAll b := by
    intro a b
    induction a with
    | nil => simp [Rows.uptoBulkAll]
    | cons x r ih => simp only [List.cons_append, Rows.uptoBulkAll, ih]; omega
  rw [h2] at h1
  have := dBs_le ds
  omega

/-- a world for the witness: the settled one, the variable (block 0) holding what its initialiser lays. -/
def cellOf : D → Value
  | .bool b => .bool b
  | .int k n => .int k n
  | .str s => .string ⟨s.toArray⟩
  | _ => .nilFunc
def shapeCells : Array Value := (shapes.flatMap fun s => (eShape s).map cellOf).toArray
noncomputable def laidWorld (os : Os) : World :=
  { World.holding Tryd.prog os ⟨#[], #[], []⟩ with heap := (World.holding Tryd.prog os ⟨#[], #[], []⟩).heap.modify 0 fun
      | .cells _ t frozen => .cells shapeCells t frozen
      | o => o }
theorem laid_met (os : Os) (args : Array Value) : laidMet Tryd.prog [("hurdle/ins.shapes", Rows.laid_hurdle_ins_shapes)] ((laidWorld os).forCall (fun _ _ => 0) ⟨#[], args, []⟩).memory :=
  laidMet_of_run' 8 (by kernel_rfl) (by kernel_rfl)
end Go.Proofs.YteicnlniagbmgaaDoor
