/-
  Proved: hurdlelaw13.LowerMeans returns true for every policy and every record, and both read afterwards as they read before (the tied card, second form).
  Conditions: what is read is of bulk at most 1048576; the variable hurdle/ins.shapes holds what its initialiser lays.
-/
import Derived.Test.YteicnlniagbmgaaDoorTb
import Derived.Test.YteicnlniagbmgaaDoorLs1
namespace Go.Proofs.YteicnlniagbmgaaDoor.lowerMeans
open Go.ChangeShapes Go.WideShapes Go.ChangeAt Go.RowKit Go.Ab

/-- what the law answers, of whatever data. -/
theorem answers (ds : List D) (h : ShTs [tPolicy, tData] ds) (hb : dBs ds ≤ 1048576) : ∃ r h', C0.imp 1 (ds.map AV.d) {} = some (r, h') ∧ r = .d (.bool true) := by
  simp only [ShTs] at h
  obtain ⟨y, _, rfl, h1, z, _, rfl, h2, rfl⟩ := h
  obtain ⟨p, rfl⟩ := sh_policy h1
  obtain ⟨d, rfl⟩ := sh_data h2
  have := dB_rules p
  simp only [dBs] at hb
  exact means_eq p d (by omega)
set_option maxRecDepth 100000 in
theorem contract (H : Type) (enc : TypeId × Value → H) (W : World) (base : Nat) (args : Array Value) (ds gs : List (DataW H)) (before : List MemPlace)
    (hval : ∀ (j : Nat) t v, Tryd.f3.params[j]? = some t → args[j]? = some v → Value.okWide Tryd.prog W .any base t v)
    (hW : DataW.Whole enc Tryd.prog Tryd.f3.params.toList Rows.lowerMeansSpec.vars false W args.toList ds gs before) (hk : Rows.uptoSmall H (ds ++ gs) = true) (hL : laidMetH Tryd.prog Rows.lowerMeansRow.laid W) :
    Calls Tryd.prog 3 args W fun e W' => ∃ v, e = .returned v ∧ Rows.lowerMeansSpec.post enc Tryd.prog Tryd.f3 false true false false W args v W' := by
  have hA := hW
  obtain ⟨p, q, hA, hV, rfl, _, _⟩ := hA
  have g := args_of (P := Tryd.prog) (cid := cid) (w := W) (f := Tryd.f3) [tPolicy, tData] (by kernel_rfl) (by kernel_rfl) hval hA
  have hr := answers (toDs ds) g.2 (bulk hk)
  have walk := row_run sysOk (F := 3) (f := 1) (by kernel_rfl) (globs hL) g.1 hr
  have hl : ∃ d d', ds = [d, d'] := by
    have h0 := shTs_len _ _ g.2
    rw [toDs_len] at h0
    match ds, h0 with
    | [d, d'], _ => exact ⟨d, d', rfl⟩
  obtain ⟨d, d', rfl⟩ := hl
  obtain ⟨rfl, rfl⟩ := trodVars_none hV
  rw [Array.toArray_toList] at walk
  refine walk.mono fun e W' ⟨he, hg⟩ => ?_
  subst he
  exact ⟨_, rfl, post_bool (tb := 4) hW laidOut (by kernel_rfl) rfl (by kernel_rfl) Tryd.underlying4 ⟨rfl, rfl, rfl⟩ hg⟩
def args0 : Array Value := #[.agg #[.slice none 0 0, .int .u32 0], .agg #[.int .u32 0, .int .u32 0, .int .u64 0, .int .u64 0, .int .u64 0, .int .u64 0, .int .u64 0, .int .u64 0, .int .u64 0]]
theorem reads (os : Os) {H : Type} (enc : TypeId × Value → H) : ∃ places, DataW.whole enc Tryd.prog ((laidWorld os).forCall (fun _ _ => 0) ⟨#[], args0, []⟩).memory Tryd.f3.params.toList Rows.lowerMeansSpec.vars false args0.toList 8 = some ([.agg [.nil, .lit (.int .u32 0)], .agg [.lit (.int .u32 0), .lit (.int .u32 0), .lit (.int .u64 0), .agg [.lit (.int .u64 0), .lit (.int .u64 0), .lit (.int .u64 0), .lit (.int .u64 0), .lit (.int .u64 0), .lit (.int .u64 0)]]], [], places) :=
  ⟨[], by kernel_rfl⟩
set_option maxRecDepth 100000 in
theorem lifted (os : Os) (started : os.Started) (H : Type) (enc : TypeId × Value → H) (F : Stop.Interp) :
    ReturnsInHanded {} Tryd.checked os 3 .any ((Rows.OpenSpec.upto Rows.lowerMeansSpec).preRow enc Tryd.prog Tryd.f3 Rows.lowerMeansUptoRow.domain false Rows.lowerMeansUptoRow.laid) (((Rows.OpenSpec.upto Rows.lowerMeansSpec).at F).post enc Tryd.prog Tryd.f3 false true false false) := by
  obtain ⟨places, hx⟩ := reads os enc
  refine returnsInHanded_of_row (C := Tryd.checked) (s := Rows.OpenSpec.upto Rows.lowerMeansSpec) own started (by kernel_rfl) Tryd.func3
    (witness_row_at (enc := enc) (C := Tryd.checked) false (laidWorld os) args0 rfl (by kernel_rfl) (by kernel_rfl) (by kernel_rfl)
      (OpenSpec.preRow_of_cond 8 hx (by kernel_rfl) (fun k hk => by cases hk; kernel_rfl) (by kernel_rfl) (laid_met os args0))) ?_
  intro W base args ds gs before hval hW _ hcond _ hL _ _
  exact contract H enc W base args ds gs before hval hW (hcond _ rfl) hL
theorem said : Rows.LowerMeansUptoSaid :=
  OpenClaim.holds_of_cond 3 Tryd.f3 rfl rfl rfl rfl rfl rfl rfl ⟨rfl, rfl, rfl, rfl, rfl⟩ rfl rfl rfl rfl rfl (by kernel_rfl) Tryd.func3 (by kernel_rfl)
    (of_decide_eq_true (by kernel_rfl)) (by unfold Func.isWrapper; first | (rw [if_pos (by decide +kernel)]; kernel_rfl) | (rw [if_neg (by decide +kernel)]; exact ⟨rfl, rfl⟩))
    (fun os started H enc _ F => by rw [OpenClaim.pre_eq_preRow]; exact lifted os started H enc F)
theorem plain (f : FuncId) (fn : Func) (hf : Tryd.pinned.checked.prog.funcNamed "hurdle/hurdlelaw13.LowerMeans" = some f) (hfn : Tryd.pinned.checked.prog.funcs[f]? = some fn) :
    false = Tryd.pinned.checked.prog.looks [] ∧ ∀ (j : Nat) t, fn.params[j]? = some t → Tryd.pinned.checked.prog.wantsStandIn t = false := by
  obtain rfl : f = 3 := Option.some.inj ((show Tryd.prog.funcNamed "hurdle/hurdlelaw13.LowerMeans" = some 3 by kernel_rfl).symm.trans hf) |>.symm
  obtain rfl : fn = Tryd.f3 := (Option.some.inj (Tryd.func3.symm.trans hfn)).symm
  have key : (Tryd.f3.params.toList.all fun t => Tryd.prog.wantsStandIn t == false) = true := by kernel_rfl
  refine ⟨by kernel_rfl, fun j t ht => ?_⟩
  have := List.all_eq_true.1 key t (by simpa using Array.mem_of_getElem? ht)
  exact eq_of_beq this
/-- the card. -/
theorem card : Rows.LowerMeansUptoCardSaid :=
  Claim7.holds_tied_plain_at .later [] _ _ _ _ said (fun _ h => by cases h) (by kernel_rfl) (fun _ h => by cases h) lowerMeansUpto_row_tie rfl ⟨rfl, rfl⟩ (by kernel_rfl) rfl plain (by kernel_rfl)
end Go.Proofs.YteicnlniagbmgaaDoor.lowerMeans
