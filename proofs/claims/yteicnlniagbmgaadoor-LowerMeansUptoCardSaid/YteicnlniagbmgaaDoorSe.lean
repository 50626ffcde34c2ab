/-
  Arguments as data. Conditions: none (definitions and lemmas).
-/
import Derived.Test.YteicnlniagbmgaaDoorSd
import Derived.OpenShut
import Derived.DataReads
import Derived.Carry
import Derived.ChangeSame
import Derived.ChangeBears2
/-
  A call's arguments as data: what is read of memory stands there as the machine without memory has it. Conditions: none (definitions and lemmas).
-/
namespace Go.Ab

mutual
/-- data, as it is read. -/
def toD {H : Type} : DataW H → D
  | .lit (.bool b) => .bool b
  | .lit (.int k n) => .int k n
  | .lit (.string s) => .str s
  | .slice es _ => .lst (toDs es)
  | .agg ps => .agg (toDc ps)
  | _ => .lst []
def toDs {H : Type} : List (DataW H) → List D
  | [] => []
  | d :: r => toD d :: toDs r
def toDc {H : Type} : List (DataW H) → List D
  | [] => []
  | d :: r => (toD d).cells ++ toDc r
end
theorem toDs_len {H : Type} : ∀ l : List (DataW H), (toDs l).length = l.length
  | [] => rfl
  | d :: r => by simp only [toDs, List.length_cons, toDs_len r]
def tiles (P : Program) (total : Nat) : Nat → List Field → Bool
  | off, [] => off == total
  | off, f :: fs => f.offset == off && tiles P total (off + P.cellsOf f.type) fs
def plainT (P : Program) : Nat → TypeId → Bool
  | 0, _ => false
  | n + 1, t => match P.underlying t with
    | some .bool => true
    | some (.int _) => true
    | some .string => true
    | some (.slice e) => plainT P n e && decide (0 < P.cellsOf e)
    | some (.struct fs) => tiles P (P.cellsOf t) 0 fs.toList && fs.toList.all fun f => plainT P n f.type
    | some (.array k e) => plainT P n e && P.cellsOf t == k * P.cellsOf e
    | _ => false
abbrev M0 : MSet := fun _ _ => False
section
variable {cid : FuncId → Option Nat} {w : World}
theorem RDc_all {M : MSet} {x : D} {cs : List Value} (h : RDc cid w M x cs) : RDall cid w M x.cells cs := by
  cases hx : x.isAgg with
  | true =>
    cases x <;> simp [D.isAgg] at hx
    simpa only [RDc, D.cells] using h
  | false =>
    obtain ⟨v, rfl, _⟩ := RDc_one h hx
    have hc : x.cells = [x] := by cases x <;> simp [D.isAgg] at hx <;> rfl
    rw [hc]
    simp only [RDall]
    exact ⟨v, [], rfl, hx, h, rfl⟩
theorem RDall_append' {M : MSet} {ds es : List D} {us vs : List Value} (h1 : RDall cid w M ds us) (h2 : RDall cid w M es vs) : RDall cid w M (ds ++ es) (us ++ vs) :=
  (RDall_append _ _ _).2 ⟨us, vs, rfl, h1, h2⟩
variable {H : Type} {enc : TypeId × Value → H} {P : Program} {base : Nat} {sp : Nat → Bool} {held : Bool}
theorem mapM_cons_some {α β : Type} {f : α → Option β} {a : α} {l : List α} {ys : List β} (h : (a :: l).mapM f = some ys) : ∃ y r, ys = y :: r ∧ f a = some y ∧ l.mapM f = some r := by
  rw [List.mapM_cons] at h
  cases hy : f a with
  | none => simp [hy] at h
  | some y =>
    cases hr : l.mapM f with
    | none => simp [hy, hr] at h
    | some r => simp [hy, hr] at h; exact ⟨y, r, h.symm, rfl, rfl⟩
theorem fields_RD {n : Nat} {F : TypeId → List Value → Option (DataW H × List MemPlace)} (ih : ∀ t cs d ps, plainT P n t = true → F t cs = some (d, ps) → RDc cid w M0 (toD d) cs) {total : Nat} {cs : List Value} (hcs : cs.length = total) :
    ∀ (fs : List Field) (off : Nat) (xs : List (DataW H × List MemPlace)), tiles P total off fs = true → (fs.all fun f => plainT P n f.type) = true → (fs.mapM fun f => F f.type ((cs.drop f.offset).take (P.cellsOf f.type))) = some xs → RDall cid w M0 (toDc (xs.map (·.1))) (cs.drop off)
  | [], off, xs, ht, _, h => by
    simp only [List.mapM_nil, Option.pure_def, Option.some.injEq] at h
    subst h
    simp only [tiles, beq_iff_eq] at ht
    subst ht
    simp [toDc, RDall, ← hcs]
  | f :: fs, off, xs, ht, hp, h => by
    obtain ⟨⟨d, ps⟩, r, rfl, h1, h2⟩ := mapM_cons_some h
    simp only [tiles, Bool.and_eq_true, beq_iff_eq] at ht
    simp only [List.all_cons, Bool.and_eq_true] at hp
    obtain ⟨rfl, ht⟩ := ht
    have g1 := RDc_all (ih _ _ _ _ hp.1 h1)
    have g2 := fields_RD ih hcs fs _ r ht hp.2 h2
    simp only [List.map_cons, toDc]
    have e1 : cs.drop f.offset = (cs.drop f.offset).take (P.cellsOf f.type) ++ cs.drop (f.offset + P.cellsOf f.type) := by rw [← List.drop_drop, List.take_append_drop]
    rw [e1]
    exact RDall_append' g1 g2
theorem arr_RD {n : Nat} {F : TypeId → List Value → Option (DataW H × List MemPlace)} (ih : ∀ t cs d ps, plainT P n t = true → F t cs = some (d, ps) → RDc cid w M0 (toD d) cs) {e : TypeId} {sz : Nat} {cs : List Value} (hp : plainT P n e = true) :
    ∀ (m s : Nat) (xs : List (DataW H × List MemPlace)), ((List.range' s m).mapM fun i => F e ((cs.drop (i * sz)).take sz)) = some xs → RDall cid w M0 (toDc (xs.map (·.1))) ((cs.drop (s * sz)).take (m * sz))
  | 0, s, xs, h => by
    simp only [List.range'_zero, List.mapM_nil, Option.pure_def, Option.some.injEq] at h
    subst h
    simp [toDc, RDall]
  | m + 1, s, xs, h => by
    rw [List.range'_succ] at h
    obtain ⟨⟨d, ps⟩, r, rfl, h1, h2⟩ := mapM_cons_some h
    have g1 := RDc_all (ih _ _ _ _ hp h1)
    have g2 := arr_RD ih hp m (s + 1) r h2
    simp only [List.map_cons, toDc]
    have e1 : (cs.drop (s * sz)).take ((m + 1) * sz) = (cs.drop (s * sz)).take sz ++ (cs.drop ((s + 1) * sz)).take (m * sz) := by
      rw [Nat.add_mul, Nat.one_mul, Nat.add_comm (m * sz), List.take_add, List.drop_drop, Nat.add_mul, Nat.one_mul]
    rw [e1]
    exact RDall_append' g1 g2
theorem cell_add {a : Addr} {i j : Nat} {v : Value} (h : w.cell? ((a.add i).add j) = some v) : w.cell? ⟨a.block, a.off + i + j, none⟩ = some v := by
  have hs : ∀ b : Addr, w.cell? b = some v → w.cell? ⟨b.block, b.off, none⟩ = some v := by
    intro b hb
    unfold World.cell? at hb ⊢
    cases hh : w.heap[b.block]? with
    | none => simp [hh] at hb
    | some o =>
      rw [hh] at hb
      cases o <;> simp at hb ⊢
      exact hb.2
  have := hs _ h
  have e : ((a.add i).add j).block = a.block ∧ ((a.add i).add j).off = a.off + i + j := by
    unfold Addr.add; split <;> split <;> simp_all
  rw [e.1, e.2] at this
  exact this
theorem cell_spot {a : Addr} {v : Value} (h : w.cell? a = some v) : a = ⟨a.block, a.off, none⟩ := by
  unfold World.cell? at h
  cases hh : w.heap[a.block]? with
  | none => simp [hh] at h
  | some o =>
    rw [hh] at h
    cases o <;> simp at h
    obtain ⟨b, o, sp⟩ := a
    simp at h
    simp [h.1]
theorem els_RD {n : Nat} {F : TypeId → List Value → Option (DataW H × List MemPlace)} (ih : ∀ t cs d ps, plainT P n t = true → F t cs = some (d, ps) → RDc cid w M0 (toD d) cs) {e : TypeId} {a : Addr} {sz : Nat} (hp : plainT P n e = true) :
    ∀ (m s : Nat) (xs : List (DataW H × List MemPlace)), ((List.range' s m).mapM fun i => (w.cells? base (a.add (i * sz)) sz).bind (F e)) = some xs → RDels cid w M0 (toDs (xs.map (·.1))) a.block (a.off + s * sz) sz
  | 0, s, xs, h => by
    simp only [List.range'_zero, List.mapM_nil, Option.pure_def, Option.some.injEq] at h
    subst h
    simp [toDs, RDels]
  | m + 1, s, xs, h => by
    rw [List.range'_succ] at h
    obtain ⟨⟨d, ps⟩, r, rfl, h1, h2⟩ := mapM_cons_some h
    have g2 := els_RD ih hp m (s + 1) r h2
    simp only [Option.bind_eq_some_iff] at h1
    obtain ⟨cs, h3, h4⟩ := h1
    obtain ⟨_, h5, h6⟩ := World.cells?_some h3
    simp only [List.map_cons, toDs, RDels]
    refine ⟨⟨cs, h5, ih _ _ _ _ hp h4, fun j v hv => ⟨?_, fun h => h⟩⟩, ?_⟩
    · have hj : j < sz := by rw [← h5]; exact (List.getElem?_eq_some_iff.1 hv).1
      exact cell_add ((h6 j hj).trans hv)
    · rw [Nat.add_assoc, ← Nat.succ_mul]; exact g2
theorem trod_RD : ∀ (fuel : Nat) (t : TypeId) (cs : List Value) (d : DataW H) (ps : List MemPlace) (n : Nat), plainT P n t = true → DataW.trod enc P w base sp held fuel t cs = some (d, ps) → RDc cid w M0 (toD d) cs
  | 0, t, cs, d, ps, n, hp, h => by simp [DataW.trod] at h
  | fuel + 1, t, cs, d, ps, 0, hp, h => by simp [plainT] at hp
  | fuel + 1, t, cs, d, ps, n + 1, hp, h => by
    have ih := fun t cs d ps hp h => trod_RD fuel t cs d ps n hp h
    unfold DataW.trod at h
    simp only [plainT] at hp
    cases hu : P.underlying t with
    | none => simp [hu] at hp
    | some desc =>
      rw [hu] at h hp
      cases desc with
      | bool =>
        split at h <;> simp_all
        obtain ⟨rfl, rfl⟩ := h
        simp [toD, RDc]
      | int k =>
        split at h <;> simp_all
        obtain ⟨h1, rfl, rfl⟩ := h
        simp_all [toD, RDc]
      | string =>
        split at h <;> simp_all
        obtain ⟨h1, rfl, rfl⟩ := h
        simp_all [toD, RDc]
      | slice e =>
        simp only [Bool.and_eq_true, decide_eq_true_eq] at hp
        split at h <;> simp_all
        · obtain ⟨rfl, rfl⟩ := h
          simp only [toD, RDc]
          exact ⟨none, 0, 0, rfl, rfl, Nat.le_refl _, fun h => absurd rfl h⟩
        · rename_i e2 a len cap _
          obtain ⟨⟨h1, h2, _⟩, h3⟩ := h
          simp only [Option.bind_eq_some_iff, Option.map_eq_some_iff, Prod.mk.injEq] at h3
          obtain ⟨els, h4, rest, h5, rfl, _⟩ := h3
          have hl := mapM_some_length h4
          rw [List.length_range] at hl
          rw [List.range_eq_range'] at h4
          have g := els_RD ih hp.1 _ _ _ h4
          simp only [toD, RDc]
          have hlen : (toDs (els.map fun x => x.1)).length = len := by rw [toDs_len, List.length_map, hl]
          refine ⟨some a, len, cap, rfl, hlen.symm, h2, fun hne => ?_⟩
          have hpos : 0 < len := by
            rcases Nat.eq_zero_or_pos len with h0 | h0
            · exact absurd (List.length_eq_zero_iff.1 (hlen.trans h0)) hne
            · exact h0
          obtain ⟨m, rfl⟩ : ∃ m, len = m + 1 := ⟨len - 1, by omega⟩
          rw [List.range'_succ] at h4
          obtain ⟨y, r, rfl, h6, _⟩ := mapM_cons_some h4
          simp only [Option.bind_eq_some_iff] at h6
          obtain ⟨cs, h7, _⟩ := h6
          obtain ⟨_, h8, h9⟩ := World.cells?_some h7
          have h10 := h9 0 hp.2
          have hcs : cs[0]? = some (cs[0]'(by omega)) := by rw [List.getElem?_eq_getElem]
          rw [hcs] at h10
          have e0 : (a.add (0 * P.cellsOf e2)).add 0 = a := by simp [Addr.add]
          rw [e0] at h10
          have ha := cell_spot h10
          refine ⟨a.block, a.off, _, by rw [← ha], hp.2, ?_⟩
          simpa using g
      | struct fs =>
        simp only [Bool.and_eq_true] at hp
        simp only at h
        split at h
        case isFalse => simp at h
        rename_i hl
        simp only [Option.map_eq_some_iff, Prod.mk.injEq] at h
        obtain ⟨xs, h1, rfl, _⟩ := h
        have g := fields_RD ih hl fs.toList 0 xs hp.1 hp.2 h1
        simpa only [toD, RDc, List.drop_zero] using g
      | array k e =>
        simp only [Bool.and_eq_true, beq_iff_eq] at hp
        simp only at h
        split at h
        case isFalse => simp at h
        rename_i hl
        simp only [Option.map_eq_some_iff, Prod.mk.injEq] at h
        obtain ⟨xs, h1, rfl, _⟩ := h
        rw [List.range_eq_range'] at h1
        have g := arr_RD ih hp.1 _ _ _ h1
        rw [Nat.zero_mul, List.drop_zero, ← hp.2, ← hl, List.take_length] at g
        simpa only [toD, RDc] using g
      | _ => simp at hp
end
end Go.Ab

/-
  A call's arguments as data: their shapes and sizes; from an answer of the machine without memory to the program's call. Conditions: none (definitions and lemmas).
-/
namespace Go.Ab

/-! ### shapes -/
def cat : List D → List D
  | [] => []
  | d :: r => d.cells ++ cat r
def Shp (P : Program) : Nat → TypeId → D → Prop
  | 0, _, _ => False
  | n + 1, t, d => match P.underlying t with
    | some .bool => ∃ b, d = .bool b
    | some (.int k) => ∃ z, d = .int k z ∧ (Lit.int k z).wf = true
    | some .string => ∃ s, d = .str s
    | some (.slice e) => ∃ xs, d = .lst xs ∧ ∀ x ∈ xs, Shp P n e x
    | some (.struct fs) => ∃ ds, d = .agg (cat ds) ∧ All2 (fun (f : Field) x => Shp P n f.type x) fs.toList ds
    | some (.array k e) => ∃ ds, d = .agg (cat ds) ∧ ds.length = k ∧ ∀ x ∈ ds, Shp P n e x
    | _ => False
  where
  All2 {α β : Type} (R : α → β → Prop) : List α → List β → Prop
    | [], ys => ys = []
    | a :: as, ys => ∃ y r, ys = y :: r ∧ R a y ∧ All2 R as r
theorem toDc_cat {H : Type} : ∀ l : List (DataW H), toDc l = cat (toDs l)
  | [] => rfl
  | d :: r => by simp only [toDc, toDs, cat, toDc_cat r]
theorem mem_toDs {H : Type} : ∀ {l : List (DataW H)} {x : D}, x ∈ toDs l → ∃ d ∈ l, x = toD d
  | [], x, h => by simp [toDs] at h
  | d :: r, x, h => by
    simp only [toDs, List.mem_cons] at h
    rcases h with rfl | h
    · exact ⟨d, by simp, rfl⟩
    · obtain ⟨y, h1, h2⟩ := mem_toDs h
      exact ⟨y, by simp [h1], h2⟩
theorem mapM_mem {α β : Type} {f : α → Option β} : ∀ {l : List α} {ys : List β}, l.mapM f = some ys → ∀ y ∈ ys, ∃ a ∈ l, f a = some y
  | [], ys, h, y, hy => by simp at h; subst h; cases hy
  | a :: l, ys, h, y, hy => by
    obtain ⟨z, r, rfl, h1, h2⟩ := mapM_cons_some h
    rcases List.mem_cons.1 hy with rfl | hy
    · exact ⟨a, by simp, h1⟩
    · obtain ⟨b, hb, h3⟩ := mapM_mem h2 y hy
      exact ⟨b, by simp [hb], h3⟩
section
variable {w : World} {H : Type} {enc : TypeId × Value → H} {P : Program} {base : Nat} {sp : Nat → Bool} {held : Bool}
theorem fields_Shp {n : Nat} {F : TypeId → List Value → Option (DataW H × List MemPlace)} (ih : ∀ t cs d ps, plainT P n t = true → F t cs = some (d, ps) → Shp P n t (toD d)) {cs : List Value} :
    ∀ (fs : List Field) (xs : List (DataW H × List MemPlace)), (fs.all fun f => plainT P n f.type) = true → (fs.mapM fun f => F f.type ((cs.drop f.offset).take (P.cellsOf f.type))) = some xs → Shp.All2 (fun (f : Field) x => Shp P n f.type x) fs (toDs (xs.map (·.1)))
  | [], xs, _, h => by
    simp only [List.mapM_nil, Option.pure_def, Option.some.injEq] at h
    subst h
    simp [toDs, Shp.All2]
  | f :: fs, xs, hp, h => by
    obtain ⟨⟨d, ps⟩, r, rfl, h1, h2⟩ := mapM_cons_some h
    simp only [List.all_cons, Bool.and_eq_true] at hp
    simp only [List.map_cons, toDs, Shp.All2]
    exact ⟨_, _, rfl, ih _ _ _ _ hp.1 h1, fields_Shp ih fs r hp.2 h2⟩
theorem trod_Shp : ∀ (fuel : Nat) (t : TypeId) (cs : List Value) (d : DataW H) (ps : List MemPlace) (n : Nat), plainT P n t = true → DataW.trod enc P w base sp held fuel t cs = some (d, ps) → Shp P n t (toD d)
  | 0, t, cs, d, ps, n, hp, h => by simp [DataW.trod] at h
  | fuel + 1, t, cs, d, ps, 0, hp, h => by simp [plainT] at hp
  | fuel + 1, t, cs, d, ps, n + 1, hp, h => by
    have ih := fun t cs d ps hp h => trod_Shp fuel t cs d ps n hp h
    unfold DataW.trod at h
    simp only [plainT] at hp
    simp only [Shp]
    cases hu : P.underlying t with
    | none => simp [hu] at hp
    | some desc =>
      rw [hu] at h hp
      cases desc with
      | bool =>
        split at h <;> simp_all
        obtain ⟨rfl, rfl⟩ := h
        simp [toD]
      | int k =>
        split at h <;> simp_all
        obtain ⟨h1, rfl, rfl⟩ := h
        simp_all [toD]
      | string =>
        split at h <;> simp_all
        obtain ⟨h1, rfl, rfl⟩ := h
        simp_all [toD]
      | slice e =>
        simp only [Bool.and_eq_true, decide_eq_true_eq] at hp
        split at h <;> simp_all
        · obtain ⟨rfl, rfl⟩ := h
          simp [toD]
        · rename_i e2 a len cap _
          obtain ⟨⟨h1, h2, _⟩, h3⟩ := h
          simp only [Option.bind_eq_some_iff, Option.map_eq_some_iff, Prod.mk.injEq] at h3
          obtain ⟨els, h4, rest, h5, rfl, _⟩ := h3
          simp only [toD, D.lst.injEq]
          refine ⟨_, rfl, fun x hx => ?_⟩
          obtain ⟨y, hy, rfl⟩ := mem_toDs hx
          obtain ⟨z, hz, rfl⟩ := List.mem_map.1 hy
          obtain ⟨i, _, h6⟩ := mapM_mem h4 z hz
          simp only [Option.bind_eq_some_iff] at h6
          obtain ⟨cs, _, h7⟩ := h6
          exact ih _ _ _ _ hp.1 h7
      | struct fs =>
        simp only [Bool.and_eq_true] at hp
        simp only at h
        split at h
        case isFalse => simp at h
        rename_i hl
        simp only [Option.map_eq_some_iff, Prod.mk.injEq] at h
        obtain ⟨xs, h1, rfl, _⟩ := h
        have g := fields_Shp ih fs.toList xs hp.2 h1
        exact ⟨_, by rw [toD, toDc_cat], g⟩
      | array k e =>
        simp only [Bool.and_eq_true, beq_iff_eq] at hp
        simp only at h
        split at h
        case isFalse => simp at h
        rename_i hl
        simp only [Option.map_eq_some_iff, Prod.mk.injEq] at h
        obtain ⟨xs, h1, rfl, _⟩ := h
        refine ⟨_, by rw [toD, toDc_cat], ?_, fun x hx => ?_⟩
        · rw [toDs_len, List.length_map, mapM_some_length h1, List.length_range]
        · obtain ⟨y, hy, rfl⟩ := mem_toDs hx
          obtain ⟨z, hz, rfl⟩ := List.mem_map.1 hy
          obtain ⟨i, _, h6⟩ := mapM_mem h1 z hz
          exact ih _ _ _ _ hp.1 h6
      | _ => simp at hp
theorem trod_RV {cid : FuncId → Option Nat} {n : Nat} {t : TypeId} {v : Value} {d : DataW H} {ps : List MemPlace} {r : Reach} {b : Nat} (hp : plainT P n t = true) (hv : Value.okWide P w r b t v) (h : DataW.Trod enc P w base sp held t v d ps) : RV cid w M0 (toD d) v ∧ Shp P n t (toD d) := by
  obtain ⟨fuel, h⟩ := h
  have h1 := trod_RD (cid := cid) fuel t _ d ps n hp h
  have h2 := trod_Shp fuel t _ d ps n hp h
  refine ⟨?_, h2⟩
  have h3 : (toD d).fine = true ∧ (toD d).isAgg = isAggV v := by
    cases n with
    | zero => simp [plainT] at hp
    | succ n =>
      simp only [Shp] at h2
      simp only [Value.okWide] at hv
      cases hu : P.underlying t with
      | none => simp [hu] at h2
      | some desc =>
        rw [hu] at h2 hv
        cases desc with
        | bool =>
          obtain ⟨b, e⟩ := h2
          simp only [Cell.okWide, hu] at hv
          rw [e]
          cases v <;> simp_all [Cell.ok, D.fine, D.isAgg, isAggV]
        | int k =>
          obtain ⟨b, e, _⟩ := h2
          simp only [Cell.okWide, hu] at hv
          rw [e]
          cases v <;> simp_all [Cell.ok, D.fine, D.isAgg, isAggV]
        | string =>
          obtain ⟨b, e⟩ := h2
          simp only [Cell.okWide, hu] at hv
          rw [e]
          cases v <;> simp_all [Cell.ok, D.fine, D.isAgg, isAggV]
        | slice el =>
          obtain ⟨b, e, _⟩ := h2
          simp only [Cell.okWide, hu] at hv
          rw [e]
          cases v <;> simp_all [Cell.ok, D.fine, D.isAgg, isAggV]
        | struct fs =>
          obtain ⟨b, e, _⟩ := h2
          obtain ⟨cs, rfl, _⟩ := hv
          rw [e]
          simp [D.fine, D.isAgg, isAggV]
        | array k el =>
          obtain ⟨b, e, _⟩ := h2
          obtain ⟨cs, rfl, _⟩ := hv
          rw [e]
          simp [D.fine, D.isAgg, isAggV]
        | _ => simp at h2
  rw [RV_fine h3.1]
  exact ⟨h1, h3.2⟩
end

/-! ### sizes -/
mutual
def dB : D → Nat
  | .str s => s.length + 1
  | .lst xs => dBs xs + 1
  | .agg xs => dBs xs
  | _ => 1
def dBs : List D → Nat
  | [] => 0
  | d :: r => dB d + dBs r
end
theorem dBs_append (a b : List D) : dBs (a ++ b) = dBs a + dBs b := by
  induction a with
  | nil => simp [dBs]
  | cons x r ih => simp only [List.cons_append, dBs, ih]; omega
theorem dBs_cells (d : D) : dBs d.cells ≤ dB d := by
  cases d <;> simp [D.cells, dBs, dB]
theorem dBs_map {α : Type} (f : α → D) (hf : ∀ x, 1 ≤ dB (f x)) (l : List α) : l.length ≤ dBs (l.map f) := by
  induction l with
  | nil => simp [dBs]
  | cons x r ih => have := hf x; simp only [List.map_cons, List.length_cons, dBs]; omega
theorem dBs_mem {d : D} {l : List D} (h : d ∈ l) : dB d ≤ dBs l := by
  induction l with
  | nil => cases h
  | cons x r ih =>
    simp only [dBs]
    rcases List.mem_cons.1 h with rfl | h
    · omega
    · have := ih h; omega

/-! ### the call -/
section
variable {P : Program} {cid : FuncId → Option Nat} {S : Sys}
theorem no_own : ∀ b o, MOf M0 (fun _ => []) b o → M0 b o := by
  rintro b o (h | ⟨k, l, h, _⟩)
  · exact h
  · cases h
theorem RAs_none {M : MSet} {w : World} {ρ : Rho} : ∀ (ds : List D) (vs : List Value), RVs cid w M ds vs → RAs cid w M ρ (ds.map AV.d) vs []
  | [], vs, h => by simp only [RVs] at h; subst h; simp [RAs]
  | d :: ds, vs, h => by
    simp only [RVs] at h
    obtain ⟨v, r, rfl, h1, h2⟩ := h
    simp only [List.map_cons, RAs]
    exact ⟨v, r, [], [], rfl, by simpa only [RA, and_true] using h1, RAs_none ds r h2, rfl⟩
theorem SR.first {w : World} {G : Nat → Option D} (hG : ∀ n d, G n = some d → ∃ cs, RDc cid w M0 d cs ∧ cellsAt w M0 n 0 cs) :
    SR { cid := cid, M0 := M0, w0 := w, S0 := fun _ => True, G := G, nt := 0 } [] {} { tmps := #[], defers := [] } w (fun _ _ => none) (fun _ => []) where
  defers := rfl
  size := rfl
  slots := by intro t s h; simp [Env.get] at h
  heap := by
    intro tg i o h
    have e : ({} : Heap).at tg = [] := by unfold Heap.at; split <;> rfl
    simp [Heap.get, e] at h
  hdom := fun _ _ _ => rfl
  nodup := by intro k; simp [blocks]
  disj := by intro k k' b _ h; simp [blocks] at h
  lt := by intro k b h; simp [blocks] at h
  apart := by intro k b l o h; simp at h
  m0 := by intro b o h; exact h.elim
  ours := by intro k b h; simp [blocks] at h
  grow := Nat.le_refl _
  keep := fun _ _ _ => rfl
  os := ⟨rfl, rfl, rfl⟩
  globs := by
    intro n d h
    obtain ⟨cs, h1, h2⟩ := hG n d h
    exact ⟨cs, RDc_mono (Ext.shrink no_own) _ _ h1, cellsAt_mono (Ext.shrink no_own) h2⟩
/-- what the machine without memory answers, the program's call answers; what was in memory stays. -/
theorem row_run (hS : SysOk P cid S) {F f : Nat} (hF : cid F = some f) {ds : List D} {vs : List Value} {w : World} (hG : ∀ n d, S.glob n = some d → ∃ cs, RDc cid w M0 d cs ∧ cellsAt w M0 n 0 cs) (ha : RVs cid w M0 ds vs)
    {b : Bool} (hr : ∃ r h', (Clim S).imp f (ds.map AV.d) {} = some (r, h') ∧ r = .d (.bool b)) : Calls P F vs.toArray w fun e w' => e = .returned (.bool b) ∧ Go.RowKit.Below w.heap.size w w' := by
  obtain ⟨r, h', hr, rfl⟩ := hr
  have hs := SR.first (cid := cid) hG
  have h1 := lim_sound hS hr hF (g := { cid := cid, M0 := M0, w0 := w, S0 := fun _ => True, G := S.glob, nt := 0 }) rfl rfl hs (RAs_none ds vs (RVs_mono (Ext.shrink no_own) _ _ ha))
  refine h1.2.mono fun e w' h => ?_
  cases e with
  | returned v =>
    obtain ⟨ρ', own', s1, s2, _, _⟩ := h
    simp only [SlotR, RA] at s2
    rw [RV_fine (by rfl)] at s2
    obtain ⟨⟨s3, s4⟩, _⟩ := s2
    refine ⟨?_, s1.os.1, s1.os.2.1, s1.os.2.2, s1.grow, fun k hk => s1.keep k hk trivial⟩
    simp only [RDc, D.isAgg] at s3 s4
    cases v <;> simp [isAggV, Value.cells] at s3 s4 ⊢
    all_goals exact s3
  | _ => exact h.elim
/-- a variable that reads so lies so. -/
theorem laid_at {w : World} {name : String} {d : DataW Unit} {g : Nat} {t : TypeId} {n : Nat} (hg : P.globalNamed name = some g) (hty : (P.globals[g]?).map (·.type) = some t) (hp : plainT P n t = true) (hd : d.handleName? = none)
    (h : laidMetH P [(name, d)] w) : ∃ cs, RDc cid w M0 (toD d) cs ∧ cellsAt w M0 g 0 cs := by
  simp only [laidMetH, List.filter_cons, hd, Option.isSome_none, Bool.false_eq_true, ↓reduceIte, List.filter_nil] at h
  obtain ⟨ps, h1, _, _⟩ := h
  simp only [DataW.LaidVars] at h1
  obtain ⟨g', t', cs, fuel, p, q, e1, e2, h3, h4, _⟩ := h1
  rw [hg] at e1
  obtain rfl := Option.some.inj e1
  rw [hty] at e2
  obtain rfl := Option.some.inj e2
  refine ⟨cs.toList, trod_RD fuel t _ d p n hp h4, fun j v hv => ⟨?_, fun h => h⟩⟩
  rw [Nat.zero_add, World.var?_cell hg h3 j, ← Array.getElem?_toList]
  exact hv
end
end Go.Ab
