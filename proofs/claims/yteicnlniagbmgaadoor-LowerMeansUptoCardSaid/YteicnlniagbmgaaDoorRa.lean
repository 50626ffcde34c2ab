/-
  Arguments of this program's types, and the row's last step. Conditions: none (definitions and lemmas).
-/
import Derived.Test.YteicnlniagbmgaaDoorSe
import Derived.Test.YteicnlniagbmgaaDoorHa
import Derived.Below
/-
  The types of the program's values, with no program in sight; what of each type reads as. Conditions: none (definitions and lemmas).
-/
namespace Go.Ab

inductive Ty where
  | bool
  | int (k : IntKind)
  | str
  | lst (e : Ty)
  | agg (ts : List Ty)
  | arr (n : Nat) (e : Ty)
def tyAll (F : TypeId → Option Ty) : List Field → Option (List Ty)
  | [] => some []
  | f :: r => match F f.type, tyAll F r with
    | some a, some b => some (a :: b)
    | _, _ => none
def tyOf (P : Program) : Nat → TypeId → Option Ty
  | 0, _ => none
  | n + 1, t => match P.underlying t with
    | some .bool => some .bool
    | some (.int k) => some (.int k)
    | some .string => some .str
    | some (.slice e) => (tyOf P n e).map .lst
    | some (.struct fs) => (tyAll (tyOf P n) fs.toList).map .agg
    | some (.array k e) => (tyOf P n e).map (.arr k)
    | _ => none
mutual
def ShT : Ty → D → Prop
  | .bool, d => ∃ b, d = .bool b
  | .int k, d => ∃ z, d = .int k z ∧ (Lit.int k z).wf = true
  | .str, d => ∃ s, d = .str s
  | .lst e, d => ∃ xs, d = .lst xs ∧ ∀ x ∈ xs, ShT e x
  | .agg ts, d => ∃ ds, d = .agg (cat ds) ∧ ShTs ts ds
  | .arr n e, d => ∃ ds, d = .agg (cat ds) ∧ ds.length = n ∧ ∀ x ∈ ds, ShT e x
def ShTs : List Ty → List D → Prop
  | [], ds => ds = []
  | t :: ts, ds => ∃ y r, ds = y :: r ∧ ShT t y ∧ ShTs ts r
end
theorem shTs_of {P : Program} {n : Nat} (ih : ∀ t T d, tyOf P n t = some T → Shp P n t d → ShT T d) : ∀ (fs : List Field) (Ts : List Ty) (ds : List D), tyAll (tyOf P n) fs = some Ts → Shp.All2 (fun (f : Field) x => Shp P n f.type x) fs ds → ShTs Ts ds
  | [], Ts, ds, ht, h => by
    simp only [tyAll, Option.some.injEq] at ht
    subst ht
    simpa only [ShTs, Shp.All2] using h
  | f :: fs, Ts, ds, ht, h => by
    simp only [tyAll] at ht
    cases h1 : tyOf P n f.type with
    | none => simp [h1] at ht
    | some T =>
      cases h2 : tyAll (tyOf P n) fs with
      | none => simp [h1, h2] at ht
      | some r =>
        simp only [h1, h2, Option.some.injEq] at ht
        subst ht
        simp only [Shp.All2] at h
        obtain ⟨y, r', rfl, h3, h4⟩ := h
        exact ⟨y, r', rfl, ih _ _ _ h1 h3, shTs_of ih fs r r' h2 h4⟩
theorem shT_of {P : Program} : ∀ (n : Nat) (t : TypeId) (T : Ty) (d : D), tyOf P n t = some T → Shp P n t d → ShT T d
  | 0, t, T, d, ht, h => by simp [tyOf] at ht
  | n + 1, t, T, d, ht, h => by
    have ih := fun t T d => shT_of (P := P) n t T d
    simp only [tyOf] at ht
    simp only [Shp] at h
    cases hu : P.underlying t with
    | none => simp [hu] at h
    | some desc =>
      rw [hu] at ht h
      cases desc with
      | bool => simp only [Option.some.injEq] at ht; subst ht; exact h
      | int k => simp only [Option.some.injEq] at ht; subst ht; exact h
      | string => simp only [Option.some.injEq] at ht; subst ht; exact h
      | slice e =>
        simp only [Option.map_eq_some_iff] at ht
        obtain ⟨E, h1, rfl⟩ := ht
        obtain ⟨xs, rfl, h2⟩ := h
        exact ⟨xs, rfl, fun x hx => ih _ _ _ h1 (h2 x hx)⟩
      | struct fs =>
        simp only [Option.map_eq_some_iff] at ht
        obtain ⟨Ts, h1, rfl⟩ := ht
        obtain ⟨ds, rfl, h2⟩ := h
        exact ⟨ds, rfl, shTs_of ih _ _ _ h1 h2⟩
      | array k e =>
        simp only [Option.map_eq_some_iff] at ht
        obtain ⟨E, h1, rfl⟩ := ht
        obtain ⟨ds, rfl, h3, h2⟩ := h
        exact ⟨ds, rfl, h3, fun x hx => ih _ _ _ h1 (h2 x hx)⟩
      | _ => simp at h

/-! ### this program's types -/
def tU8 : Ty := .int .u8
def tU32 : Ty := .int .u32
def tU64 : Ty := .int .u64
def tI : Ty := .int .i64
def tIns : Ty := .agg [tI, tI, tI, tU32]
def tData : Ty := .agg [tU32, tU32, tU64, .arr 6 tU64]
def tState : Ty := .agg [tU32, tU32, .arr 16 tU32]
def tCond : Ty := .agg [tI, tI, tU64, tU64]
def tRule : Ty := .agg [tU32, tU32, .lst tCond, tU32]
def tPolicy : Ty := .agg [.lst tRule, tU32]

theorem list_of {α : Type} {f : α → D} {T : Ty} (h : ∀ d, ShT T d → ∃ x, d = f x) : ∀ (ds : List D), (∀ x ∈ ds, ShT T x) → ∃ l : List α, ds = l.map f
  | [], _ => ⟨[], rfl⟩
  | d :: r, hd => by
    obtain ⟨x, rfl⟩ := h d (hd d (by simp))
    obtain ⟨l, rfl⟩ := list_of h r fun y hy => hd y (by simp [hy])
    exact ⟨x :: l, rfl⟩
theorem sh_lst {α : Type} {f : α → D} {T : Ty} (h : ∀ d, ShT T d → ∃ x, d = f x) {d : D} (hd : ShT (.lst T) d) : ∃ l : List α, d = .lst (l.map f) := by
  obtain ⟨xs, rfl, h1⟩ := hd
  obtain ⟨l, rfl⟩ := list_of h xs h1
  exact ⟨l, rfl⟩
theorem sh_i {d : D} (h : ShT tI d) : ∃ z, d = ei z ∧ (-9223372036854775808 ≤ z ∧ z ≤ 9223372036854775807) := by
  obtain ⟨z, rfl, h⟩ := h
  refine ⟨z, rfl, ?_⟩
  simp only [Lit.wf, IntKind.min, IntKind.max, Bool.and_eq_true, decide_eq_true_eq] at h
  simpa [IntKind.signed, IntKind.bits] using h
theorem sh_32 {d : D} (h : ShT tU32 d) : ∃ z, d = e32 z := by
  obtain ⟨z, rfl, h⟩ := h
  simp only [Lit.wf, Bool.and_eq_true, decide_eq_true_eq] at h
  have h' : 0 ≤ z ∧ z ≤ 4294967295 := by simpa [IntKind.min, IntKind.max, IntKind.signed, IntKind.bits] using h
  refine ⟨BitVec.ofInt 32 z, ?_⟩
  simp only [e32, D.int.injEq, true_and]
  simp [BitVec.toNat_ofInt]; omega
theorem sh_64 {d : D} (h : ShT tU64 d) : ∃ z, d = e64 z := by
  obtain ⟨z, rfl, h⟩ := h
  simp only [Lit.wf, Bool.and_eq_true, decide_eq_true_eq] at h
  have h' : 0 ≤ z ∧ z ≤ 18446744073709551615 := by simpa [IntKind.min, IntKind.max, IntKind.signed, IntKind.bits] using h
  refine ⟨BitVec.ofInt 64 z, ?_⟩
  simp only [e64, D.int.injEq, true_and]
  simp [BitVec.toNat_ofInt]; omega
theorem sh_8 {d : D} (h : ShT tU8 d) : ∃ z, d = e8 z := by
  obtain ⟨z, rfl, h⟩ := h
  simp only [Lit.wf, Bool.and_eq_true, decide_eq_true_eq] at h
  have h' : 0 ≤ z ∧ z ≤ 255 := by simpa [IntKind.min, IntKind.max, IntKind.signed, IntKind.bits] using h
  refine ⟨UInt8.ofNat z.toNat, ?_⟩
  simp only [e8, D.int.injEq, true_and]
  simp; omega
theorem sh_ins {d : D} (h : ShT tIns d) : ∃ x, d = eIns x := by
  simp only [tIns, ShT, ShTs] at h
  obtain ⟨_, rfl, y1, _, rfl, h1, y2, _, rfl, h2, y3, _, rfl, h3, y4, _, rfl, h4, rfl⟩ := h
  obtain ⟨a, rfl, _⟩ := sh_i h1; obtain ⟨b, rfl, _⟩ := sh_i h2; obtain ⟨c, rfl, _⟩ := sh_i h3; obtain ⟨k, rfl⟩ := sh_32 h4
  exact ⟨⟨a, b, c, k⟩, rfl⟩
theorem sh_cond {d : D} (h : ShT tCond d) : ∃ x, d = eCond x := by
  simp only [tCond, ShT, ShTs] at h
  obtain ⟨_, rfl, y1, _, rfl, h1, y2, _, rfl, h2, y3, _, rfl, h3, y4, _, rfl, h4, rfl⟩ := h
  obtain ⟨a, rfl, _⟩ := sh_i h1; obtain ⟨b, rfl, _⟩ := sh_i h2; obtain ⟨c, rfl⟩ := sh_64 h3; obtain ⟨k, rfl⟩ := sh_64 h4
  exact ⟨⟨a, b, c, k⟩, rfl⟩
theorem sh_rule {d : D} (h : ShT tRule d) : ∃ x, d = eRule x := by
  simp only [tRule, ShT, ShTs] at h
  obtain ⟨_, rfl, y1, _, rfl, h1, y2, _, rfl, h2, y3, _, rfl, h3, y4, _, rfl, h4, rfl⟩ := h
  obtain ⟨a, rfl⟩ := sh_32 h1; obtain ⟨b, rfl⟩ := sh_32 h2; obtain ⟨k, rfl⟩ := sh_32 h4
  obtain ⟨l, rfl⟩ := sh_lst (T := tCond) (fun d h => sh_cond h) (by simpa only [ShT] using h3)
  exact ⟨⟨a, b, l, k⟩, rfl⟩
theorem sh_policy {d : D} (h : ShT tPolicy d) : ∃ x, d = ePolicy x := by
  simp only [tPolicy, ShT, ShTs] at h
  obtain ⟨_, rfl, y3, _, rfl, h3, y4, _, rfl, h4, rfl⟩ := h
  obtain ⟨k, rfl⟩ := sh_32 h4
  obtain ⟨l, rfl⟩ := sh_lst (T := tRule) (fun d h => sh_rule h) (by simpa only [ShT] using h3)
  exact ⟨⟨l, k⟩, rfl⟩
theorem cat_map {α : Type} {f : α → D} (hf : ∀ x, (f x).cells = [f x]) : ∀ l : List α, cat (l.map f) = l.map f
  | [] => rfl
  | x :: r => by simp only [List.map_cons, cat, hf, cat_map hf r, List.cons_append, List.nil_append]
theorem sh_arr {α : Type} {f : α → D} {T : Ty} {n : Nat} (hf : ∀ x, (f x).cells = [f x]) (h : ∀ d, ShT T d → ∃ x, d = f x) {d : D} (hd : ShT (.arr n T) d) : ∃ v : Vector α n, d = .agg (v.toList.map f) := by
  obtain ⟨ds, rfl, h1, h2⟩ := hd
  obtain ⟨l, rfl⟩ := list_of h ds h2
  rw [List.length_map] at h1
  exact ⟨⟨l.toArray, by simpa using h1⟩, by rw [cat_map hf]; rfl⟩
theorem sh_data {d : D} (h : ShT tData d) : ∃ x, d = eData x := by
  simp only [tData, ShTs, ShT.eq_5] at h
  obtain ⟨_, rfl, y1, _, rfl, h1, y2, _, rfl, h2, y3, _, rfl, h3, y4, _, rfl, h4, rfl⟩ := h
  obtain ⟨a, rfl⟩ := sh_32 h1; obtain ⟨b, rfl⟩ := sh_32 h2; obtain ⟨k, rfl⟩ := sh_64 h3
  obtain ⟨l, rfl⟩ := sh_arr (f := e64) (fun _ => rfl) (fun d h => sh_64 h) h4
  exact ⟨⟨a, b, k, l⟩, by simp [eData, cat, D.cells, e32, e64]⟩
theorem sh_state {d : D} (h : ShT tState d) : ∃ x, d = eState x := by
  simp only [tState, ShTs, ShT.eq_5] at h
  obtain ⟨_, rfl, y1, _, rfl, h1, y2, _, rfl, h2, y4, _, rfl, h4, rfl⟩ := h
  obtain ⟨a, rfl⟩ := sh_32 h1; obtain ⟨b, rfl⟩ := sh_32 h2
  obtain ⟨l, rfl⟩ := sh_arr (f := e32) (fun _ => rfl) (fun d h => sh_32 h) h4
  exact ⟨⟨a, b, l⟩, by simp [eState, cat, D.cells, e32]⟩
/-! ### sizes -/
theorem dB_cond (c : Cond) : dB (eCond c) = 4 := rfl
theorem dB_ins (c : Ins) : dB (eIns c) = 4 := rfl
theorem dB_rule (r : Rule) : dB (eRule r) = 4 + dBs (r.conds.map eCond) := by simp only [eRule, dB, dBs, e32]; omega
theorem dB_policy (p : Policy) : dB (ePolicy p) = 2 + dBs (p.rules.map eRule) := by simp only [ePolicy, dB, dBs, e32]; omega
theorem dB_rules (p : Policy) : p.rules.length ≤ dB (ePolicy p) := by
  have := dBs_map eRule (fun r => by rw [dB_rule]; omega) p.rules
  rw [dB_policy]; omega
theorem dB_conds {p : Policy} {r : Rule} (h : r ∈ p.rules) : r.conds.length ≤ dB (ePolicy p) := by
  have h1 := dBs_map eCond (fun r => by rw [dB_cond]; omega) r.conds
  have h2 := dBs_mem (List.mem_map_of_mem (f := eRule) h)
  rw [dB_rule] at h2
  rw [dB_policy]; omega
end Go.Ab

/-
  A call's arguments, all at once; and that they read behind the call as they read before. Conditions: none (lemmas).
-/
namespace Go.Ab
open Go.RowKit Go.WideShapes Go.ChangeShapes

def tys (P : Program) : List TypeId → Option (List Ty)
  | [] => some []
  | t :: r => match tyOf P 8 t, tys P r with
    | some a, some b => some (a :: b)
    | _, _ => none
theorem shTs_len : ∀ (Ts : List Ty) (ds : List D), ShTs Ts ds → ds.length = Ts.length
  | [], ds, h => by simp only [ShTs] at h; subst h; rfl
  | t :: Ts, ds, h => by
    simp only [ShTs] at h
    obtain ⟨y, r, rfl, _, h2⟩ := h
    simp only [List.length_cons, shTs_len Ts r h2]
section
variable {H : Type} {enc : TypeId × Value → H} {P : Program} {w : World}
theorem args_RV {cid : FuncId → Option Nat} {base b : Nat} {sp : Nat → Bool} {held : Bool} {r : Reach} : ∀ (ts : List TypeId) (Ts : List Ty) (vs : List Value) (ds : List (DataW H)) (ps : List MemPlace),
    (ts.all fun t => plainT P 8 t) = true → tys P ts = some Ts → (∀ (j : Nat) t v, ts[j]? = some t → vs[j]? = some v → Value.okWide P w r b t v) → DataW.TrodAll enc P w base sp held ts vs ds ps → RVs cid w M0 (toDs ds) vs ∧ ShTs Ts (toDs ds)
  | [], Ts, vs, ds, ps, _, ht, hv, h => by
    simp only [tys, Option.some.injEq] at ht
    subst ht
    cases vs <;> cases ds <;> simp_all [DataW.TrodAll, toDs, RVs, ShTs]
  | t :: ts, Ts, vs, ds, ps, hp, ht, hv, h => by
    cases vs with
    | nil => simp [DataW.TrodAll] at h
    | cons v vs =>
      cases ds with
      | nil => simp [DataW.TrodAll] at h
      | cons d ds =>
        simp only [DataW.TrodAll] at h
        obtain ⟨p, q, h1, h2, _⟩ := h
        simp only [List.all_cons, Bool.and_eq_true] at hp
        simp only [tys] at ht
        cases e1 : tyOf P 8 t with
        | none => simp [e1] at ht
        | some T =>
          cases e2 : tys P ts with
          | none => simp [e1, e2] at ht
          | some R =>
            simp only [e1, e2, Option.some.injEq] at ht
            subst ht
            obtain ⟨g1, g2⟩ := trod_RV (cid := cid) hp.1 (hv 0 t v rfl rfl) h1
            obtain ⟨g3, g4⟩ := args_RV ts R vs ds q hp.2 e2 (fun j t v h1 h2 => hv (j + 1) t v (by simpa using h1) (by simpa using h2)) h2
            simp only [toDs, RVs, ShTs]
            exact ⟨⟨v, vs, rfl, g1, g3⟩, _, _, rfl, shT_of _ _ _ _ e1 g2, g4⟩
theorem args_of {cid : FuncId → Option Nat} {base b : Nat} {sp : Nat → Bool} {held : Bool} {r : Reach} {f : Func} {args : Array Value} (Ts : List Ty) {ds : List (DataW H)} {ps : List MemPlace} (hp : (f.params.toList.all fun t => plainT P 8 t) = true) (ht : tys P f.params.toList = some Ts)
    (hv : ∀ (j : Nat) t v, f.params[j]? = some t → args[j]? = some v → Value.okWide P w r b t v) (h : DataW.TrodAll enc P w base sp held f.params.toList args.toList ds ps) : RVs cid w M0 (toDs ds) args.toList ∧ ShTs Ts (toDs ds) :=
  args_RV _ Ts _ ds ps hp ht (fun j t v h1 h2 => hv j t v (by simpa using h1) (by simpa using h2)) h
theorem trodAll_stays (hl : laidOutB P = true) {W W' : World} (hb : Below W.heap.size W W') {sp' : Nat → Bool} : ∀ (ts : List TypeId) (vs : List Value) (ds : List (DataW H)) (ps : List MemPlace),
    (ts.all fun t => P.readableRec t && decide (t < P.types.size)) = true → DataW.TrodAll enc P W 0 (fun _ => true) true ts vs ds ps → (∀ x ∈ ps, x.block < W.heap.size) → (∀ x ∈ ps, sp' x.block = true) → DataW.TrodAll enc P W' 0 sp' true ts vs ds ps
  | [], vs, ds, ps, _, h, _, _ => by cases vs <;> cases ds <;> simp_all [DataW.TrodAll]
  | t :: ts, vs, ds, ps, hr, h, hlt, hsp => by
    cases vs with
    | nil => simp [DataW.TrodAll] at h
    | cons v vs =>
      cases ds with
      | nil => simp [DataW.TrodAll] at h
      | cons d ds =>
        simp only [DataW.TrodAll] at h ⊢
        obtain ⟨p, q, h1, h2, rfl⟩ := h
        simp only [List.all_cons, Bool.and_eq_true, decide_eq_true_eq] at hr
        refine ⟨p, q, WideElems.Trod_stays hl hr.1.1 hr.1.2 h1 (fun x hx => hb.same (hlt x (by simp [hx]))) fun x hx => hsp x (by simp [hx]), ?_, rfl⟩
        exact trodAll_stays hl hb ts vs ds q hr.2 h2 (fun x hx => hlt x (by simp [hx])) fun x hx => hsp x (by simp [hx])
/-- the row's last step: the answer is one bool, the arguments read as they did. -/
theorem post_bool {f : Func} {s : ChangeSpec} {fresh handsOn : Bool} {W W' : World} {args : Array Value} {b : Bool} {tb : TypeId} {ds gs : List (DataW H)} {before : List MemPlace}
    (hW : DataW.Whole enc P f.params.toList s.vars false W args.toList ds gs before) (hl : laidOutB P = true) (hr : (f.params.toList.all fun t => P.readableRec t && decide (t < P.types.size)) = true) (hvars : s.vars = [])
    (hres : f.resultTypes = #[tb]) (htb : P.underlying tb = some .bool) (hfn : (s.fn H (ds ++ gs)).results = [.lit (.bool b)] ∧ (s.fn H (ds ++ gs)).args = ds ∧ (s.fn H (ds ++ gs)).vars = []) (hb : Below W.heap.size W W') :
    s.post enc P f false fresh handsOn false W args (.bool b) W' := by
  have hlt : ∀ p ∈ before, p.block < W.heap.size := fun p hp => hW.lt p hp
  have hW0 := hW
  obtain ⟨p, q, h1, h2, rfl, _, _⟩ := hW
  rw [hvars] at h2
  obtain ⟨rfl, rfl⟩ := trodVars_none h2
  simp only [List.append_nil] at hlt hfn hW0
  have hargs : ∀ sp : Nat → Bool, (∀ x ∈ p, sp x.block = true) → DataW.TrodAll enc P W' 0 sp true f.params.toList args.toList ds p := fun sp hsp => trodAll_stays hl hb _ _ _ _ hr h1 hlt hsp
  have hold : ∀ x ∈ p, (fun b => decide (b < W.heap.size)) x.block = true := fun x hx => by simpa using hlt x hx
  have hrs : ∀ (b' : Nat) (sp : Nat → Bool) (hd : Bool), DataW.TrodAll enc P W' b' sp hd f.resultTypes.toList ((Value.bool b).resultList f.resultTypes.size) [.lit (.bool b)] [] := by
    intro b' sp hd
    rw [hres]
    exact trodAll_cons_mk (shut_bool htb b) trodAll_mk0
  refine ⟨ds, [], p, [], p, [], by simpa using hW0, ?_, ?_, ?_, ?_, fun h => ?_⟩
  · rw [List.append_nil, hfn.1]; exact hrs _ _ _
  · rw [List.append_nil, hfn.2.1]; exact hargs _ hold
  · rw [List.append_nil, hfn.2.2, hvars]; rfl
  · exact World.keptBut_mono (fun x hx => ⟨hx, Or.inr (Or.inl hx)⟩) (hb.frame (· ∈ p))
  · cases h
end
end Go.Ab
