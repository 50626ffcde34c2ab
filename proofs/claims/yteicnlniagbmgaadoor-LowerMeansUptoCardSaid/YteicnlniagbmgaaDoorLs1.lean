/-
  LowerMeans: what the statement's function answers. Conditions: none.
-/
import Derived.Test.YteicnlniagbmgaaDoorHc
namespace Go.Ab
open Dig
set_option maxRecDepth 4000

theorem means_eq (p : Policy) (d : Data) (hp : p.rules.length ≤ 1099511627776) : ∃ r h', C0.imp 1 [.d (ePolicy p), .d (eData d)] {} = some (r, h') ∧ r = .d (eb true) := by
  refine impE_by (by rfl) rfl ?_
  have hg := great_eq p hp
  cases hgr : p.great with
  | true => simp [fd1, hg, hgr]
  | false =>
  have hs := small_of_not_great hgr
  have hl := lower_eq p hs
  have hr := refRight_eq p hs
  have hj := judge_eq p d hs
  cases hpr : p.right with
  | false =>
    have hf : lowerF p = ([], 1) := by simp [lowerF, hpr]
    rw [hf] at hl
    simp [fd1, hg, hgr, hl, hr, hpr]
  | true =>
  obtain ⟨m1, m2, m3, _, _, m4⟩ := lower_means hpr
  have hrun := run_eq (lowerF p).1 d (by omega)
  rw [if_pos m2, m4 d] at hrun
  rw [m1] at hl
  simp [fd1, hg, hgr, hl, hr, hpr, hrun, hj]
end Go.Ab
