/-
  The machine without memory: one lemma for each operation. Conditions: none (definitions and lemmas).
-/
import Derived.Test.YteicnlniagbmgaaDoorSa
import Derived.Laws.Cells
import Derived.Laws.StructEq
import Derived.DeepKeys3
import Derived.Laws.BytesArg
/-
  A machine without memory (part 9): parts of values, read and written; types of the program. Conditions: none (lemmas).
-/
namespace Go.Ab

section
variable {cid : FuncId → Option Nat} {w : World} {M : MSet} {ρ : Rho}
theorem RAs_append : ∀ (as bs : List AV) (vs : List Value) (O : Own), RAs cid w M ρ (as ++ bs) vs O ↔ ∃ us ws O1 O2, vs = us ++ ws ∧ RAs cid w M ρ as us O1 ∧ RAs cid w M ρ bs ws O2 ∧ O = O1 ++ O2
  | [], bs, vs, O => by
    simp only [List.nil_append, RAs]
    constructor
    · intro h; exact ⟨[], vs, [], O, rfl, ⟨rfl, rfl⟩, h, rfl⟩
    · rintro ⟨us, ws, O1, O2, rfl, ⟨rfl, rfl⟩, h, rfl⟩; exact h
  | a :: as, bs, vs, O => by
    simp only [List.cons_append, RAs, RAs_append as bs]
    constructor
    · rintro ⟨v, r, O1, O2, rfl, h1, ⟨us, ws, O3, O4, rfl, h2, h3, rfl⟩, rfl⟩
      exact ⟨v :: us, ws, O1 ++ O3, O4, rfl, ⟨v, us, O1, O3, rfl, h1, h2, rfl⟩, h3, by rw [List.append_assoc]⟩
    · rintro ⟨us, ws, O1, O2, rfl, ⟨v, r, O3, O4, rfl, h1, h2, rfl⟩, h3, rfl⟩
      exact ⟨v, r ++ ws, O3, O4 ++ O2, rfl, h1, ⟨r, ws, O4, O2, rfl, h2, h3, rfl⟩, by rw [List.append_assoc]⟩
/-- three parts of a row of cells. -/
theorem RAs_split {as : List AV} {vs : List Value} {O : Own} (h : RAs cid w M ρ as vs O) (off n : Nat) :
    ∃ O1 O2 O3, O = O1 ++ O2 ++ O3 ∧ RAs cid w M ρ (as.take off) (vs.take off) O1 ∧ RAs cid w M ρ ((as.drop off).take n) ((vs.drop off).take n) O2 ∧
      RAs cid w M ρ (as.drop (off + n)) (vs.drop (off + n)) O3 := by
  have h0 : as = as.take off ++ ((as.drop off).take n ++ as.drop (off + n)) := by
    rw [← List.drop_drop, List.take_append_drop, List.take_append_drop]
  have hl := RAs_length _ _ _ h
  rw [h0] at h
  obtain ⟨us, ws, O1, O2, h1, h2, h3, rfl⟩ := (RAs_append _ _ _ _).1 h
  obtain ⟨us2, ws2, O3, O4, h4, h5, h6, rfl⟩ := (RAs_append _ _ _ _).1 h3
  have l1 := RAs_length _ _ _ h2
  have l2 := RAs_length _ _ _ h5
  have l3 := RAs_length _ _ _ h6
  simp only [List.length_take, List.length_drop] at l1 l2 l3
  refine ⟨O1, O3, O4, by rw [List.append_assoc], ?_, ?_, ?_⟩
  · have : vs.take off = us := by
      subst h1
      by_cases hc : off ≤ as.length
      · rw [List.take_append_of_le_length (by omega), List.take_of_length_le (by omega)]
      · have : ws = [] := List.length_eq_zero_iff.1 (by rw [h4, List.length_append]; omega)
        rw [this, List.append_nil, List.take_of_length_le (by omega)]
    rw [this]; exact h2
  · have : (vs.drop off).take n = us2 := by
      subst h1; subst h4
      by_cases hc : off ≤ as.length
      · rw [List.drop_append_of_le_length (by omega), List.drop_of_length_le (by omega), List.nil_append]
        by_cases hc2 : off + n ≤ as.length
        · rw [List.take_append_of_le_length (by omega), List.take_of_length_le (by omega)]
        · have : ws2 = [] := List.length_eq_zero_iff.1 (by omega)
          rw [this, List.append_nil, List.take_of_length_le (by omega)]
      · have e1 : us2 = [] := List.length_eq_zero_iff.1 (by omega)
        have e2 : ws2 = [] := List.length_eq_zero_iff.1 (by omega)
        rw [e1, e2, List.append_nil, List.append_nil, List.drop_of_length_le (by omega)]; simp
    rw [this]; exact h5
  · have : vs.drop (off + n) = ws2 := by
      subst h1; subst h4
      by_cases hc : off + n ≤ as.length
      · rw [← List.append_assoc, List.drop_append_of_le_length (by simp only [List.length_append]; omega), List.drop_of_length_le (by simp only [List.length_append]; omega), List.nil_append]
      · have e2 : ws2 = [] := List.length_eq_zero_iff.1 (by omega)
        rw [e2, List.append_nil, List.drop_of_length_le (by simp only [List.length_append]; omega)]
    rw [this]; exact h6
theorem all_take {as : List AV} (h : as.all AV.one = true) (n : Nat) : (as.take n).all AV.one = true := by
  rw [List.all_eq_true] at h ⊢
  exact fun x hx => h x (List.mem_of_mem_take hx)
theorem all_drop {as : List AV} (h : as.all AV.one = true) (n : Nat) : (as.drop n).all AV.one = true := by
  rw [List.all_eq_true] at h ⊢
  exact fun x hx => h x (List.mem_of_mem_drop hx)
theorem fine_cases {a : AV} (h : a.fine = true) : a.isAgg = true ∨ a.one = true := by
  cases a with
  | d x => cases x <;> simp_all [AV.fine, AV.isAgg, AV.one]
  | _ => simp_all [AV.fine, AV.isAgg, AV.one]
theorem fine_of_one {a : AV} (h : a.one = true) : a.fine = true := by
  cases a with
  | d x => cases x <;> simp_all [AV.fine, AV.one]
  | _ => simp_all [AV.fine, AV.one]
theorem cells_one {a : AV} (h : a.one = true) : a.cells = [a] := by
  cases a with
  | d x => cases x <;> simp_all [AV.one, AV.cells]
  | _ => simp_all [AV.one, AV.cells]
theorem mkAgg_fine (as : List AV) : (mkAgg as).fine = true := by unfold mkAgg; split <;> rfl
theorem weaken_fine {a : AV} (h : a.fine = true) : (weaken a).fine = true := by
  cases a with
  | agg as => simp only [weaken]; exact mkAgg_fine _
  | tup as => simp [AV.fine] at h
  | d x => simpa [weaken] using h
  | _ => rfl
theorem mkAgg_cells (as : List AV) : (mkAgg as).cells = as := by
  unfold mkAgg
  split
  · rename_i ds h; rw [allD_some _ _ h]; rfl
  · rfl
/-- what a block of cells holds, cell by cell. -/
theorem RBox_iff {a : AV} {cs : List Value} {O : Own} (hf : a.fine = true) : RBox cid w M ρ a cs O ↔ RAs cid w M ρ a.cells cs O ∧ a.cells.all AV.one = true := by
  unfold RBox
  rcases fine_cases hf with h1 | h1
  · rw [if_pos h1]
    constructor
    · intro h
      obtain ⟨cs', e1, e2, e3⟩ := RA_cells h h1
      simp only [Value.agg.injEq] at e1
      subst e1
      exact ⟨by simpa using e3, e2⟩
    · rintro ⟨h2, h3⟩
      exact RA_agg_of_cells h1 h3 (by simpa using h2)
  · rw [if_neg (by simp [one_isAgg h1]), cells_one h1]
    simp only [RAs, List.all_cons, List.all_nil, Bool.and_true, h1, and_true]
    constructor
    · rintro ⟨v, rfl, _, h⟩; exact ⟨v, [], O, [], rfl, h, ⟨rfl, rfl⟩, by simp⟩
    · rintro ⟨v, r, O1, O2, rfl, h, ⟨rfl, rfl⟩, rfl⟩; exact ⟨v, rfl, trivial, by simpa using h⟩
theorem RBox_fine {a : AV} {cs : List Value} {O : Own} (h : RBox cid w M ρ a cs O) : a.fine = true := by
  unfold RBox at h
  split at h
  · rename_i h1
    cases a with
    | d x => cases x <;> simp_all [AV.fine, AV.isAgg]
    | _ => simp_all [AV.fine, AV.isAgg]
  · obtain ⟨_, _, h1, _⟩ := h
    exact fine_of_one h1
/-- a value's own cells. -/
theorem RA_box {a : AV} {v : Value} {O : Own} (h : RA cid w M ρ a v O) (hf : a.fine = true) : RAs cid w M ρ a.cells v.cells.toList O ∧ a.cells.all AV.one = true ∧ v.cells.toList.length = a.cells.length ∧ isAggV v = a.isAgg := by
  obtain ⟨h1, h2, h3⟩ := RA_allCells h (fine_cases hf)
  refine ⟨h2, h1, h3, ?_⟩
  rcases fine_cases hf with h4 | h4
  · obtain ⟨cs, rfl, _⟩ := RA_cells h h4; simp [h4, isAggV]
  · rw [(RA_one h h4).2.2, one_isAgg h4]
/-- the value that cells are. -/
def valOf (agg : Bool) (us : List Value) : Value := if agg then .agg us.toArray else us.headD undef
theorem RA_of_cells {as : List AV} {us : List Value} {O : Own} (h : RAs cid w M ρ as us O) (h1 : as.all AV.one = true) : RA cid w M ρ (mkAgg as) (.agg us.toArray) O :=
  mkAgg_RA h1 (by simpa using h)

/-- cells that are read. -/
theorem readC_sound {as : List AV} {vs : List Value} {O : Own} (h : RAs cid w M ρ as vs O) (h1 : as.all AV.one = true) {off n : Nat} {agg : Bool} {r : AV} (hr : readC as off n agg = some r) :
    ∃ us O1 O2 O3, O = O1 ++ O2 ++ O3 ∧ us = (vs.drop off).take us.length ∧ us.length = (if agg then n else 1) ∧ off + us.length ≤ vs.length ∧ RA cid w M ρ r (valOf agg us) O2 ∧ r.fine = true ∧ r.isAgg = agg ∧ r.cells.length = us.length ∧
      RAs cid w M ρ (as.take off) (vs.take off) O1 ∧ RAs cid w M ρ (as.drop (off + us.length)) (vs.drop (off + us.length)) O3 := by
  have hl := RAs_length _ _ _ h
  unfold readC at hr
  cases agg with
  | true =>
    simp only [if_true] at hr
    split at hr <;> simp only [Option.some.injEq, reduceCtorEq] at hr
    subst hr
    obtain ⟨O1, O2, O3, rfl, a1, a2, a3⟩ := RAs_split h off n
    have hlen : ((vs.drop off).take n).length = n := by simp; omega
    refine ⟨(vs.drop off).take n, O1, O2, O3, rfl, by rw [hlen], by simpa using hlen, by rw [hlen]; omega, ?_, mkAgg_fine _, mkAgg_isAgg _, by rw [mkAgg_cells, hlen]; simp; omega, a1, by rw [hlen]; exact a3⟩
    exact RA_of_cells a2 (all_take (all_drop h1 _) _)
  | false =>
    simp only [Bool.false_eq_true, if_false] at hr
    obtain ⟨O1, O2, O3, rfl, a1, a2, a3⟩ := RAs_split h off 1
    obtain ⟨hlt, hget⟩ := List.getElem?_eq_some_iff.1 hr
    have hlt' : off < vs.length := by omega
    have e1 : (vs.drop off).take 1 = [vs[off]] := by rw [List.drop_eq_getElem_cons hlt']; rfl
    have e2 : (as.drop off).take 1 = [r] := by rw [List.drop_eq_getElem_cons hlt]; simp [hget]
    rw [e1, e2] at a2
    simp only [RAs] at a2
    obtain ⟨v, r', P1, P2, h3, h4, ⟨rfl, rfl⟩, rfl⟩ := a2
    simp only [List.cons.injEq, and_true] at h3
    have hone : r.one = true := by
      rw [List.all_eq_true] at h1
      exact h1 r (List.mem_of_getElem? hr)
    refine ⟨[vs[off]], O1, P1 ++ [], O3, rfl, by simp [e1], rfl, by simp; omega, ?_, fine_of_one hone, one_isAgg hone, by rw [cells_one hone]; rfl, a1, by simpa using a3⟩
    simp only [valOf, Bool.false_eq_true, if_false, List.headD_cons, List.append_nil]
    rw [h3]; exact h4
/-- likewise of a value. -/
theorem read_sound {c : AV} {vs : List Value} {O : Own} (hf : c.fine = true) (h : RAs cid w M ρ c.cells vs O) (h1 : c.cells.all AV.one = true) {off n : Nat} {agg : Bool} {r : AV} (hr : c.read off n agg = some r) :
    ∃ us O1 O2 O3, O = O1 ++ O2 ++ O3 ∧ us = (vs.drop off).take us.length ∧ us.length = (if agg then n else 1) ∧ off + us.length ≤ vs.length ∧ RA cid w M ρ r (valOf agg us) O2 ∧ r.fine = true ∧ r.isAgg = agg ∧ r.cells.length = us.length ∧
      RAs cid w M ρ (c.cells.take off) (vs.take off) O1 ∧ RAs cid w M ρ (c.cells.drop (off + us.length)) (vs.drop (off + us.length)) O3 := by
  have hl := RAs_length _ _ _ h
  unfold AV.read at hr
  cases agg with
  | true =>
    simp only [if_true] at hr
    split at hr
    · rename_i hc
      simp only [Option.some.injEq] at hr; subst hr
      obtain ⟨rfl, rfl, h3⟩ := hc
      refine ⟨vs, [], O, [], by simp, by simp, by simpa using hl, by simp, ?_, hf, h3, hl.symm, by simp [RAs], by rw [Nat.zero_add, hl]; rw [List.drop_of_length_le (Nat.le_refl _), List.drop_of_length_le (by omega)]; simp [RAs]⟩
      simp only [valOf, if_true]
      exact RA_agg_of_cells h3 h1 (by simpa using h)
    · exact readC_sound h h1 (n := n) (by simpa [readC] using hr)
  | false => exact readC_sound h h1 (n := n) (by simpa [readC] using hr)

/-- cells that are written. -/
def putCells (cs vs : List Value) (off : Nat) : List Value := cs.take off ++ vs ++ cs.drop (off + vs.length)
theorem writeC_sound {as bs cs' : List AV} {cs vs : List Value} {O1 O3 Ov : Own} {off : Nat} (hl : cs.length = as.length) (hlv : vs.length = bs.length)
    (a1 : RAs cid w M ρ (as.take off) (cs.take off) O1) (a3 : RAs cid w M ρ (as.drop (off + bs.length)) (cs.drop (off + bs.length)) O3) (hb : RAs cid w M ρ bs vs Ov)
    (h1 : as.all AV.one = true) (h2 : bs.all AV.one = true) (hr : writeC as bs off = some cs') :
    RAs cid w M ρ cs' (putCells cs vs off) (O1 ++ Ov ++ O3) ∧ cs'.all AV.one = true ∧ cs'.length = as.length ∧ off + vs.length ≤ cs.length := by
  unfold writeC at hr
  split at hr <;> simp only [Option.some.injEq, reduceCtorEq] at hr
  subst hr
  refine ⟨?_, ?_, ?_, by omega⟩
  · unfold putCells
    rw [hlv]
    exact (RAs_append _ _ _ _).2 ⟨_, _, _, _, rfl, (RAs_append _ _ _ _).2 ⟨_, _, _, _, rfl, a1, hb, rfl⟩, a3, rfl⟩
  · simp [all_take h1, all_drop h1, h2]
  · simp; omega
theorem write_sound {c v c' : AV} {cs vs : List Value} {O1 O3 Ov : Own} {off : Nat} (hf : c.fine = true) (hfv : v.fine = true) (hl : cs.length = c.cells.length) (hlv : vs.length = v.cells.length)
    (a1 : RAs cid w M ρ (c.cells.take off) (cs.take off) O1) (a3 : RAs cid w M ρ (c.cells.drop (off + v.cells.length)) (cs.drop (off + v.cells.length)) O3) (hb : RAs cid w M ρ v.cells vs Ov)
    (h1 : c.cells.all AV.one = true) (h2 : v.cells.all AV.one = true) (hr : c.write v off = some c') :
    RAs cid w M ρ c'.cells (putCells cs vs off) (O1 ++ Ov ++ O3) ∧ c'.cells.all AV.one = true ∧ c'.cells.length = c.cells.length ∧ off + vs.length ≤ cs.length ∧ c'.fine = true ∧ c'.isAgg = c.isAgg := by
  unfold AV.write at hr
  split at hr
  · rename_i hc
    split at hr
    · rename_i h3
      simp only [Option.some.injEq] at hr; subst hr
      obtain ⟨rfl, h4, h5⟩ := h3
      have hw : writeC c.cells v.cells 0 = some v.cells := by
        unfold writeC
        rw [if_pos (by omega)]
        simp only [List.take_zero, List.nil_append, Nat.zero_add]
        rw [List.drop_of_length_le (by omega), List.append_nil]
      obtain ⟨b1, b2, b3, b4⟩ := writeC_sound hl hlv a1 a3 hb h1 h2 hw
      exact ⟨b1, b2, b3, b4, hfv, by rw [h4, hc]⟩
    · split at hr <;> simp only [Option.some.injEq, reduceCtorEq] at hr
      subst hr
      have hw : writeC c.cells v.cells off = some (mkAgg (c.cells.take off ++ v.cells ++ c.cells.drop (off + v.cells.length))).cells := by
        unfold writeC; rw [if_pos (by assumption), mkAgg_cells]
      obtain ⟨b1, b2, b3, b4⟩ := writeC_sound hl hlv a1 a3 hb h1 h2 hw
      exact ⟨b1, b2, b3, b4, mkAgg_fine _, by rw [mkAgg_isAgg, hc]⟩
  · rename_i hc
    split at hr <;> simp only [Option.some.injEq, reduceCtorEq] at hr
    subst hr
    rename_i h3
    obtain ⟨rfl, h4⟩ := h3
    have hone : v.one = true := (fine_cases hfv).resolve_left (by simp [h4])
    have hcone : c.one = true := (fine_cases hf).resolve_left hc
    have hw : writeC c.cells v.cells 0 = some v.cells := by
      unfold writeC
      rw [cells_one hone, cells_one hcone]
      rfl
    obtain ⟨b1, b2, b3, b4⟩ := writeC_sound hl hlv a1 a3 hb h1 h2 hw
    exact ⟨b1, b2, b3, b4, hfv, by rw [h4]; simpa using hc⟩
end

/-! ### types -/
section
variable {P : Program} {w : World}
theorem run_sizeOf {t : TypeId} {n : Nat} (h : sizeT P t = some n) : (sizeOf t).run P w = .ok n w := by
  unfold sizeT at h
  rw [Option.map_eq_some_iff] at h
  obtain ⟨i, hi, rfl⟩ := h
  simp [sizeOf, typeInfo, hi]
theorem run_typeInfo {t : TypeId} {i : TypeInfo} (hi : P.info? t = some i) : (typeInfo t).run P w = .ok i w := by
  simp [typeInfo, hi]
theorem run_underlying {t : TypeId} {d : TypeDesc} (h : P.underlying t = some d) : (underlying t).run P w = .ok d w := by
  simp [underlying, h]
theorem run_isAgg {t : TypeId} {b : Bool} (h : isAggT P t = some b) : (isAgg t).run P w = .ok b w := by
  unfold isAggT at h
  split at h <;> simp only [Option.some.injEq, reduceCtorEq] at h <;> subst h <;> simp [isAgg, underlying, *]
theorem run_zeroValue {t : TypeId} {z : AV} (h : zeroT P t = some z) : ∃ v, constAV v = some z ∧ (zeroValue t).run P w = .ok v w := by
  unfold zeroT at h
  split at h
  case h_2 => simp at h
  rename_i i hi
  split at h
  case h_2 => simp at h
  rename_i v hv
  exact ⟨v, h, by simp [zeroValue, typeInfo, hi, hv]⟩
/-- a part of a struct or an array. -/
theorem run_part {t : TypeId} {n : Nat} {agg : Bool} (h1 : sizeT P t = some n) (h2 : isAggT P t = some agg) {cs : Array Value} {off : Nat} {us : List Value} (hu : us = (cs.toList.drop off).take us.length) (hl : us.length = if agg then n else 1) (hle : off + us.length ≤ cs.size) :
    (part t cs off).run P w = .ok (valOf agg us) w := by
  unfold part
  simp only [Sem.run_bind, run_isAgg h2, Result.andThen_ok]
  cases agg with
  | true =>
    simp only [if_true] at hl ⊢
    simp only [Sem.run_bind, run_sizeOf h1, Result.andThen_ok, Sem.run_pure, valOf, if_true]
    congr 2
    apply Array.ext'
    rw [hu, hl]
    simp [List.take_drop, Nat.add_comm]
  | false =>
    simp only [Bool.false_eq_true, if_false] at hl ⊢
    obtain ⟨u, rfl⟩ := List.length_eq_one_iff.1 hl
    have hlt : off < cs.size := by simp at hle; omega
    have : cs[off]? = some u := by
      rw [List.drop_eq_getElem_cons (by simpa using hlt)] at hu
      simp at hu
      rw [Array.getElem?_eq_getElem hlt, hu]
    rw [this]
    simp [valOf]
end
end Go.Ab

/-
  A machine without memory (part 10): memory that is read and written; the simple operations. Conditions: none (lemmas).
-/
namespace Go.Ab

theorem add_plain (b o n : Nat) : (⟨b, o, none⟩ : Addr).add n = ⟨b, o + n, none⟩ := by
  unfold Addr.add; split <;> simp_all
section
variable {P : Program} {w : World}
theorem putCells_length {cs vs : List Value} {off : Nat} (h : off + vs.length ≤ cs.length) : (putCells cs vs off).length = cs.length := by
  unfold putCells; simp; omega
theorem putCells_get {cs vs : List Value} {off : Nat} (h : off + vs.length ≤ cs.length) (j : Nat) : (putCells cs vs off)[j]? = if j < off then cs[j]? else if j < off + vs.length then vs[j - off]? else cs[j]? := by
  unfold putCells
  rw [List.append_assoc, List.getElem?_append]
  have h1 : (cs.take off).length = off := by simp; omega
  rw [h1]
  by_cases h2 : j < off
  · simp [h2]
  · rw [if_neg h2, if_neg h2, List.getElem?_append]
    by_cases h3 : j < off + vs.length
    · rw [if_pos (by omega), if_pos h3]
    · rw [if_neg (by omega), if_neg h3, List.getElem?_drop]
      congr 1; omega
theorem run_storeCells_at {b : Nat} {e : TypeId} {fr : Nat × Nat} : ∀ (vs : List Value) (w : World) (cs : List Value) (off i : Nat), w.heap[b]? = some (.cells cs.toArray e fr) → FrOk fr cs.length →
    (∀ v ∈ vs, v.oneCell' = true) → off + i + vs.length ≤ cs.length →
    (storeCells ⟨b, off, none⟩ vs i).run P w = .ok () { w with heap := w.heap.setIfInBounds b (.cells (putCells cs vs (off + i)).toArray e fr) }
  | [], w, cs, off, i, hb, _, _, _ => by
    obtain ⟨hlt, hget⟩ := Array.getElem?_eq_some_iff.1 hb
    simp only [storeCells, Sem.run_pure]
    congr 1
    have : putCells cs [] (off + i) = cs := by simp [putCells]
    rw [this, ← hget, Array.setIfInBounds_def, dif_pos hlt, Array.set_getElem_self]
  | v :: vs, w, cs, off, i, hb, hfr, hv, hle => by
    obtain ⟨hlt, hget⟩ := Array.getElem?_eq_some_iff.1 hb
    simp only [List.length_cons] at hle
    have hin : off + i < cs.length := by omega
    have hcell : w.cell? ⟨b, off + i, none⟩ = some cs[off + i] := by
      unfold World.cell?; rw [hb]; simp [hin]
    have hfz : w.frozen? ⟨b, off + i, none⟩ = false := by
      unfold World.frozen?; rw [hb]; exact hfr.not hin
    have hset : w.setCell ⟨b, off + i, none⟩ v = { w with heap := w.heap.setIfInBounds b (.cells (cs.set (off + i) v).toArray e fr) } := by
      unfold World.setCell
      congr 1
      apply Array.ext_getElem?
      intro j
      rw [Array.getElem?_modify, Array.getElem?_setIfInBounds]
      by_cases hj : b = j
      · subst hj
        simp [hlt, hget]
      · simp [hj]
    simp only [storeCells, Sem.run_bind, add_plain, run_store P w _ v .plain (hv v (by simp)), hcell, hfz, Bool.false_eq_true, if_false, Result.andThen_ok, hset]
    have hlen : (cs.set (off + i) v).length = cs.length := by simp
    rw [run_storeCells_at (e := e) (fr := fr) vs _ (cs.set (off + i) v) off (i + 1) (by simp [hlt]) (by rw [hlen]; exact hfr) (fun u hu => hv u (by simp [hu])) (by rw [hlen]; omega)]
    congr 2
    simp only [Array.setIfInBounds_setIfInBounds]
    congr 3
    apply List.ext_getElem?
    intro j
    rw [putCells_get (by rw [hlen]; omega), putCells_get (by simp; omega)]
    simp only [List.getElem?_set, List.length_cons]
    by_cases h1 : j < off + i
    · rw [if_pos (by omega), if_pos h1, if_neg (by omega)]
    · rw [if_neg h1]
      by_cases h2 : j = off + i
      · subst h2
        simp [hin]
      · rw [if_neg (by omega)]
        by_cases h3 : j < off + (i + 1) + vs.length
        · rw [if_pos h3, if_pos (by omega)]
          have : j - (off + i) = (j - (off + (i + 1))) + 1 := by omega
          rw [this, List.getElem?_cons_succ]
        · rw [if_neg h3, if_neg (by omega), if_neg (by omega)]

/-- the heap with a block that is told anew. -/
structure Rewritten (w : World) (b : Nat) (o : Obj) (w' : World) : Prop where
  same : ∀ b', b' ≠ b → w'.heap[b']? = w.heap[b']?
  new : w'.heap[b]? = some o
  size : w'.heap.size = w.heap.size
  os : w'.os = w.os ∧ w'.tape = w.tape ∧ w'.output = w.output
theorem run_storeCells {b : Nat} {e : TypeId} {fr : Nat × Nat} {cs vs : List Value} {off : Nat} (hb : w.heap[b]? = some (.cells cs.toArray e fr)) (hfr : FrOk fr cs.length)
    (hv : ∀ v ∈ vs, v.oneCell' = true) (hle : off + vs.length ≤ cs.length) :
    ∃ w', (storeCells ⟨b, off, none⟩ vs).run P w = .ok () w' ∧ Rewritten w b (.cells (putCells cs vs off).toArray e fr) w' := by
  refine ⟨_, run_storeCells_at vs w cs off 0 hb hfr hv (by omega), ?_⟩
  have hlt := (Array.getElem?_eq_some_iff.1 hb).1
  exact { same := fun b' hb' => by simp only []; rw [Array.getElem?_setIfInBounds, if_neg (fun h => hb' h.symm)], new := by simp [hlt], size := by simp, os := ⟨rfl, rfl, rfl⟩ }

theorem RAs_oneCell {cid : FuncId → Option Nat} {M : MSet} {ρ : Rho} : ∀ (as : List AV) (vs : List Value) (O : Own), RAs cid w M ρ as vs O → as.all AV.one = true → ∀ v ∈ vs, v.oneCell' = true
  | [], vs, O, h, _ => by simp only [RAs] at h; simp [h.1]
  | a :: as, vs, O, h, h1 => by
    simp only [RAs] at h
    simp only [List.all_cons, Bool.and_eq_true] at h1
    obtain ⟨v, r, O1, O2, rfl, h2, h3, _⟩ := h
    intro u hu
    rcases List.mem_cons.1 hu with rfl | hu
    · exact (RA_one h2 h1.1).2.1
    · exact RAs_oneCell as r O2 h3 h1.2 u hu
/-- a variable that is read. -/
theorem run_loadVar {t : TypeId} {n : Nat} {agg : Bool} (h1 : sizeT P t = some n) (h2 : isAggT P t = some agg) {b o : Nat} {us : List Value} (hl : us.length = if agg then n else 1)
    (hc : ∀ j u, us[j]? = some u → w.cell? ⟨b, o + j, none⟩ = some u) : (loadVar t ⟨b, o, none⟩).run P w = .ok (valOf agg us) w := by
  unfold loadVar
  simp only [Sem.run_bind, run_isAgg h2, Result.andThen_ok]
  cases agg with
  | true =>
    simp only [if_true] at hl ⊢
    simp only [Sem.run_bind, run_sizeOf h1, Result.andThen_ok, valOf, if_true]
    rw [← hl, run_loadCells_list w _ us (fun j v hv => by rw [add_plain]; exact hc j v hv)]
    simp
  | false =>
    simp only [Bool.false_eq_true, if_false] at hl ⊢
    obtain ⟨u, rfl⟩ := List.length_eq_one_iff.1 hl
    have := hc 0 u rfl
    simp only [Nat.add_zero] at this
    simp [this, valOf]
theorem Cells.cell {b : Nat} {cs : List Value} (h : Cells w b cs) (j : Nat) : w.cell? ⟨b, j, none⟩ = cs[j]? := by
  obtain ⟨e, fr, h1, _⟩ := h
  unfold World.cell?; rw [h1]; simp
theorem sub_get {cs us : List Value} {off : Nat} (hu : us = (cs.drop off).take us.length) {j : Nat} {u : Value} (h : us[j]? = some u) : cs[off + j]? = some u := by
  have hj := (List.getElem?_eq_some_iff.1 h).1
  rw [hu, List.getElem?_take, if_pos hj, List.getElem?_drop] at h
  exact h
end

section
variable {P : Program} {o : Oper} {g : Gh} {e e' : Env} {h h' : Heap} {a : Act} {w : World} {ρ : Rho} {own : OwnF} {C : Ctx} {s : Slot}
theorem goes_mov {x : Operand} {X : Opd} {take : Bool} (hop : o.op = .move x ∨ o.op = .assign x) (hX : opd g.cid x = some X) (hs : SR g e h a w ρ own) (hp : own .pend = [])
    (hr : opRun C (.mov X take) e h = some (s, e', h')) : Goes P o a w (Post g a w ρ own e' h' s) := by
  have hrun : (execOp a.eval o).run P w = .ok (.value (a.eval x)) w := by rcases hop with hop | hop <;> simp [execOp, hop]
  refine .value hrun ?_
  simp only [opRun] at hr
  cases hev : evS e X with
  | none => simp [hev] at hr
  | some s0 =>
    have hsl := hs.ev hX hev
    rw [hev] at hr
    cases s0 with
    | v c =>
      simp only at hr
      cases take with
      | true =>
        simp only [if_true] at hr
        split at hr <;> simp only [Option.some.injEq, Prod.mk.injEq, reduceCtorEq] at hr
        rename_i c1 e1 hevt
        obtain ⟨rfl, rfl, rfl⟩ := hr
        obtain ⟨own', O, k1, k2, k3, k4, _⟩ := hs.evt hX hevt
        rw [hp, List.nil_append] at k3
        exact ⟨ρ, own', k1, k3 ▸ k2, fun _ _ _ h => h, Ext.iff k4⟩
      | false =>
        simp only [Bool.false_eq_true, if_false, Option.some.injEq, Prod.mk.injEq] at hr
        obtain ⟨rfl, rfl, rfl⟩ := hr
        exact Post.same hs hp (RA_weaken _ _ _ hsl)
    | vp s0 st off =>
      simp only [Option.some.injEq, Prod.mk.injEq] at hr
      obtain ⟨rfl, rfl, rfl⟩ := hr
      exact Post.same hs hp ⟨rfl, hsl.2⟩
    | ep y off =>
      simp only [Option.some.injEq, Prod.mk.injEq] at hr
      obtain ⟨rfl, rfl, rfl⟩ := hr
      exact Post.same hs hp ⟨rfl, hsl.2⟩
    | gp y off =>
      simp only [Option.some.injEq, Prod.mk.injEq] at hr
      obtain ⟨rfl, rfl, rfl⟩ := hr
      exact Post.same hs hp ⟨rfl, hsl.2⟩
    | _ => simp at hr
theorem goes_pick {c x y : Operand} {X Y Z : Opd} (hop : o.op = .pick c x y) (hC : opd g.cid c = some X) (hX : opd g.cid x = some Y) (hY : opd g.cid y = some Z) (hs : SR g e h a w ρ own) (hp : own .pend = [])
    (hr : opRun C (.pick X Y Z) e h = some (s, e', h')) : Goes P o a w (Post g a w ρ own e' h' s) := by
  simp only [opRun] at hr
  split at hr
  case h_2 => simp at hr
  rename_i t ht
  have hc := hs.evB hC ht
  split at hr <;> simp only [Option.some.injEq, Prod.mk.injEq, reduceCtorEq] at hr
  rename_i r hev
  obtain ⟨rfl, rfl, rfl⟩ := hr
  have hrun : (execOp a.eval o).run P w = .ok (.value (if t then a.eval x else a.eval y)) w := by
    simp [execOp, hop, hc, asBool]
  refine .value hrun (Post.same hs hp ?_)
  cases t with
  | true => exact hs.evw hX hev
  | false => exact hs.evw hY hev
/-- a box that is laid as a register. -/
theorem Post.boxR {own1 : OwnF} {c : AV} {v : Value} {O : Own} {t : TypeId} {w' : World} {st : Nat} (hs : SR g e h a w ρ own1) (hpo : own1 .pend = O) (hf : c.fine = true) (hra : RA g.cid w (MOf g.M0 own1) ρ c v O)
    (hw : Pushed w (.cells v.cells t (0, 0)) w') : Post g a w ρ own1 e h (.var st c) (.pointer (some ⟨w.heap.size, 0, none⟩)) w' := by
  obtain ⟨h1, h2⟩ := hs.alloc hw (O := [(w.heap.size, 0)]) (.inr ⟨0, rfl⟩)
  refine ⟨ρ, _, h1, ?_, fun _ _ _ h => h, h2⟩
  rw [OwnF.upd_same]
  obtain ⟨b1, b2, b3, b4⟩ := RA_box hra hf
  refine ⟨w.heap.size, v.cells.toList, O, rfl, ⟨t, (0, 0), by rw [hw.new], .inl rfl⟩, ?_, by rw [hpo]; rfl⟩
  refine RBox_mono h2 (fun _ _ _ h => h) (fun b hb => hw.old (hs.lt .pend b (by rw [hpo]; exact hb))) ((RBox_iff hf).2 ⟨b1, b2⟩)
theorem run_newVar {t : TypeId} {v : Value} : ∃ w', (newVar t v).run P w = .ok ⟨w.heap.size, 0, none⟩ w' ∧ Pushed w (.cells v.cells t (0, 0)) w' :=
  ⟨_, rfl, ⟨rfl, rfl, rfl, rfl⟩⟩
theorem goes_boxR {own1 : OwnF} {e1 : Env} {c : AV} {v : Value} {t : TypeId} {st : Nat} (hop : (∃ x, o.op = .box t x ∧ a.eval x = v) ∨ (o.op = .alloc t ∧ (zeroValue t).run P w = .ok v w))
    (hs : SR g e1 h a w ρ own1) (hM : ∀ b o, MOf g.M0 own1 b o ↔ MOf g.M0 own b o) (hf : c.fine = true) (hra : RA g.cid w (MOf g.M0 own1) ρ c v (own1 .pend)) :
    Goes P o a w (Post g a w ρ own e1 h (.var st c)) := by
  obtain ⟨w', h1, h2⟩ := run_newVar (P := P) (w := w) (t := t) (v := v)
  have hrun : (execOp a.eval o).run P w = .ok (.value (.pointer (some ⟨w.heap.size, 0, none⟩))) w' := by
    rcases hop with ⟨x, hop, rfl⟩ | ⟨hop, hz⟩
    · simp [execOp, hop, Instr.box, h1]
    · simp [execOp, hop, Instr.alloc, hz, h1]
  exact .value hrun ((Post.boxR hs rfl hf hra h2).from hM)

/-! ### the heap's lists -/
theorem Heap.at_with (h : Heap) (tg : Nat) (l : List HObj) (tg' : Nat) : (h.with tg l).at tg' = if tg' = tg ∧ tg < 4 then l else h.at tg' := by
  match tg with
  | 0 => match tg' with
    | 0 => rfl
    | 1 => rfl
    | 2 => rfl
    | 3 => rfl
    | n + 4 => rfl
  | 1 => match tg' with
    | 0 => rfl
    | 1 => rfl
    | 2 => rfl
    | 3 => rfl
    | n + 4 => rfl
  | 2 => match tg' with
    | 0 => rfl
    | 1 => rfl
    | 2 => rfl
    | 3 => rfl
    | n + 4 => rfl
  | 3 => match tg' with
    | 0 => rfl
    | 1 => rfl
    | 2 => rfl
    | 3 => rfl
    | n + 4 => rfl
  | n + 4 => rw [if_neg (by omega)]; rfl
theorem Heap.get_push (h : Heap) {tg : Nat} (htg : tg < 4) (o : HObj) (tg' i : Nat) : (h.push tg o).get tg' i = if tg' = tg ∧ i = h.next tg then some o else h.get tg' i := by
  unfold Heap.get Heap.push Heap.next
  rw [Heap.at_with]
  by_cases h1 : tg' = tg
  · subst h1
    rw [if_pos ⟨rfl, htg⟩, List.getElem?_append]
    by_cases h2 : i = (h.at tg').length
    · subst h2; simp
    · rw [if_neg (fun h : tg' = tg' ∧ i = (h.at tg').length => h2 h.2)]
      by_cases h3 : i < (h.at tg').length
      · rw [if_pos h3]
      · rw [if_neg h3, List.getElem?_eq_none (by simp; omega), List.getElem?_eq_none (by omega)]
  · rw [if_neg (fun h => h1 h.1), if_neg (fun h => h1 h.1)]
theorem Heap.at_big (h : Heap) {tg : Nat} (htg : 4 ≤ tg) : h.at tg = [] := by
  match tg, htg with
  | n + 4, _ => rfl
theorem Heap.get_set (h : Heap) {tg i : Nat} {o0 : HObj} (hi : h.get tg i = some o0) (o : HObj) (tg' i' : Nat) : (h.set tg i o).get tg' i' = if tg' = tg ∧ i' = i then some o else h.get tg' i' := by
  have htg : tg < 4 := by
    rcases Nat.lt_or_ge tg 4 with h1 | h1
    · exact h1
    · unfold Heap.get at hi; rw [Heap.at_big h h1] at hi; simp at hi
  unfold Heap.get at hi ⊢
  unfold Heap.set
  rw [Heap.at_with]
  by_cases h1 : tg' = tg
  · subst h1
    rw [if_pos ⟨rfl, htg⟩, List.getElem?_set]
    by_cases h2 : i = i'
    · subst h2
      simp [(List.getElem?_eq_some_iff.1 hi).1]
    · rw [if_neg h2, if_neg (fun h => h2 h.2.symm)]
  · rw [if_neg (fun h => h1 h.1), if_neg (fun h => h1 h.1)]
theorem Heap.get_next (h : Heap) (tg : Nat) : h.get tg (h.next tg) = none := by
  unfold Heap.get Heap.next; simp

/-- a block is laid, and it is an object of the heap; what was pending lies in it. -/
theorem SR.pushObj (hs : SR g e h a w ρ own) {tg : Nat} (htg : tg < 4) {ob : Obj} {w' : World} (hw : Pushed w ob w') {ho : HObj}
    (hr : ∀ M' ρ', Ext w (MOf g.M0 own) w' M' → (∀ tg i b, ρ tg i = some b → ρ' tg i = some b) → (∀ o, ¬ M' w.heap.size o → False) → HR g.cid w' M' ρ' ho w.heap.size ((w.heap.size, 0) :: own .pend)) :
    ∃ ρ' own', SR g e (h.push tg ho) a w' ρ' own' ∧ own' .pend = [] ∧ ρ' tg (h.next tg) = some w.heap.size ∧ (∀ tg i b, ρ tg i = some b → ρ' tg i = some b) ∧ Ext w (MOf g.M0 own) w' (MOf g.M0 own') := by
  let ρ' : Rho := fun t i => if t = tg ∧ i = h.next tg then some w.heap.size else ρ t i
  have hn : ρ tg (h.next tg) = none := hs.hdom tg _ (h.get_next tg)
  have hρ : ∀ t i b, ρ t i = some b → ρ' t i = some b := by
    intro t i b hb
    simp only [ρ']
    split
    · rename_i hc; rw [hc.1, hc.2, hn] at hb; simp at hb
    · exact hb
  have hlt : ∀ k b l, (b, l) ∈ own k → b < w.heap.size := fun k b l hb => hs.lt k b (List.mem_map.2 ⟨_, hb, rfl⟩)
  have hnoobj : own (.obj tg (h.next tg)) = own (.obj tg (h.next tg)) := rfl
  obtain ⟨h1, h2⟩ := hs.trans2 (e' := e) (h' := h.push tg ho) (w' := w') (ρ' := ρ') (.obj tg (h.next tg)) (by simp) ((w.heap.size, 0) :: own .pend) [] hρ
    (by have := hw.size; omega) (fun b hb _ _ => hw.old hb)
    (fun b l o v _ _ hc => by unfold World.cell? at hc ⊢; rw [hw.old (lt_of_cell hc)]; exact hc)
    (fun b l es c _ _ hc => by rw [hw.old (Array.getElem?_eq_some_iff.1 hc).1]; exact hc)
    ⟨hw.os, hw.tape, hw.output⟩ (fun _ _ h _ => h) (fun _ _ _ _ h => by simp at h)
    (fun t i o ho hk => by rw [Heap.get_push _ htg] at ho; split at ho <;> simp_all)
    (fun t i hno => by
      rw [Heap.get_push _ htg] at hno
      split at hno
      · simp at hno
      · rename_i hc
        simp only [ρ', if_neg hc]
        exact hs.hdom _ _ hno)
    (by
      rw [List.append_nil]
      simp only [blocks, List.map_cons, List.nodup_cons]
      refine ⟨fun hm => ?_, hs.nodup .pend⟩
      have := hs.lt .pend _ hm; omega)
    (fun b l hb => by
      rw [List.append_nil, List.mem_cons] at hb
      rcases hb with hb | hb
      · simp only [Prod.mk.injEq] at hb
        have := hw.size
        exact .inr ⟨by omega, by omega⟩
      · exact .inl ⟨l, List.mem_append.2 (.inr hb), Nat.le_refl _⟩)
    (fun hx => ⟨fun t s ht hk => by simp at hk, fun t i o ho' hk => by
      simp only [Key.obj.injEq] at hk
      obtain ⟨rfl, rfl⟩ := hk
      rw [Heap.get_push _ htg, if_pos ⟨rfl, rfl⟩] at ho'
      simp only [Option.some.injEq] at ho'
      subst ho'
      refine ⟨w.heap.size, by simp [ρ'], hr _ _ hx hρ ?_⟩
      intro o hno
      exact hno (.inr ⟨.obj t (h.next t), 0, by rw [OwnF.upd_other _ _ (by simp), OwnF.upd_same]; simp, Nat.zero_le _⟩)⟩)
  exact ⟨ρ', _, h1, by simp, by simp [ρ'], hρ, h2⟩
end
end Go.Ab

/-
  A machine without memory (part 11): addresses, parts, numbers. Conditions: none (lemmas).
-/
namespace Go.Ab

section
variable {P : Program} {o : Oper} {g : Gh} {e e' : Env} {h h' : Heap} {a : Act} {w : World} {ρ : Rho} {own : OwnF} {C : Ctx} {s : Slot}
theorem Goes.same {v : Value} (hs : SR g e h a w ρ own) (hp : own .pend = []) (hrun : (execOp a.eval o).run P w = .ok (.value v) w) (hr : SlotR g.cid w (MOf g.M0 own) ρ e a.tmps s v []) : Goes P o a w (Post g a w ρ own e h s) :=
  .value hrun (Post.same hs hp hr)
theorem Goes.data {v : Value} {d : D} (hs : SR g e h a w ρ own) (hp : own .pend = []) (hrun : (execOp a.eval o).run P w = .ok (.value v) w) (hr : RV g.cid w (MOf g.M0 own) d v) : Goes P o a w (Post g a w ρ own e h (vD d)) :=
  .value hrun (Post.data hs hp hr)
theorem RV_intI {k : IntKind} {n : Int} {cid : FuncId → Option Nat} {M : MSet} : RV cid w M (.int k n) (.int k n) := RV_mk (by simp [RDc]) rfl
theorem RV_boolI {b : Bool} {cid : FuncId → Option Nat} {M : MSet} : RV cid w M (.bool b) (.bool b) := RV_mk (by simp [RDc]) rfl
theorem RV_strI {bs : ByteArray} {cid : FuncId → Option Nat} {M : MSet} : RV cid w M (.str bs.data.toList) (.string bs) := RV_mk (by simp [RDc]) rfl

/-- an address, and one behind it. -/
theorem faddr_sound {x : Operand} {X : Opd} {off : Nat} (hX : opd g.cid x = some X) (hs : SR g e h a w ρ own) (hr : faddr e X off = some s) :
    ∃ b k, a.eval x = .pointer (some ⟨b, k, none⟩) ∧ SlotR g.cid w (MOf g.M0 own) ρ e a.tmps s (.pointer (some ⟨b, k + off, none⟩)) [] := by
  unfold faddr at hr
  split at hr
  · rename_i st c hev
    have hsl := hs.ev hX hev
    split at hr <;> simp only [Option.some.injEq, reduceCtorEq] at hr
    subst hr
    rename_i n
    obtain ⟨b, cs, O', h1, _⟩ := hsl
    refine ⟨b, 0, h1, rfl, b, by simp, fun a' _ => ?_⟩
    have : x = .tmp n := by cases x <;> simp_all [opd]
    subst this
    exact h1
  · rename_i s0 st o0 hev
    have hsl := hs.ev hX hev
    simp only [Option.some.injEq] at hr; subst hr
    obtain ⟨_, b, h1, h2⟩ := hsl
    exact ⟨b, o0, h1, rfl, b, rfl, h2⟩
  · rename_i y o0 hev
    have hsl := hs.ev hX hev
    simp only [Option.some.injEq] at hr; subst hr
    obtain ⟨_, b, k, vs, h1, h2, h3⟩ := hsl
    exact ⟨b, k + o0, h1, rfl, b, k, vs, by rw [Nat.add_assoc], h2, h3⟩
  · rename_i n o0 hev
    have hsl := hs.ev hX hev
    simp only [Option.some.injEq] at hr; subst hr
    exact ⟨n, o0, hsl.2, rfl, rfl⟩
  · rename_i tg i o0 hev
    have hsl := hs.evV hX hev
    simp only [Option.some.injEq] at hr; subst hr
    simp only [RA] at hsl
    obtain ⟨b, h1, h2, _⟩ := hsl
    exact ⟨b, o0, h2, by simp only [SlotR, RA]; exact ⟨b, h1, rfl, trivial⟩⟩
  · simp at hr
theorem goes_faddr {t : TypeId} {x : Operand} {f n : Nat} {fs : Array Field} {fl : Field} {X : Opd} (hop : o.op = .fieldAddr t x f) (h1 : P.underlying t = some (.struct fs)) (h2 : fs[f]? = some fl) (h3 : sizeT P fl.type = some n) (h4 : 0 < n)
    (hX : opd g.cid x = some X) (hs : SR g e h a w ρ own) (hp : own .pend = []) (hr : opRun C (.faddr X fl.offset) e h = some (s, e', h')) : Goes P o a w (Post g a w ρ own e' h' s) := by
  simp only [opRun] at hr
  split at hr <;> simp only [Option.some.injEq, Prod.mk.injEq, reduceCtorEq] at hr
  obtain ⟨rfl, rfl, rfl⟩ := hr
  obtain ⟨b, k, k1, k2⟩ := faddr_sound hX hs ‹_›
  refine Goes.same hs hp ?_ k2
  have h5 : n ≠ 0 := by omega
  simp [execOp, hop, Instr.fieldAt, run_underlying h1, h2, k1, Instr.sureAddr, fieldPlace, run_sizeOf h3, h5, add_plain]
theorem goes_idxA {t el : TypeId} {x ix : Operand} {n len : Nat} {X I : Opd} (hop : o.op = .indexAddr t x ix) (h1 : P.underlying t = some (.array len el)) (h3 : sizeT P el = some n)
    (hX : opd g.cid x = some X) (hI : opd g.cid ix = some I) (hs : SR g e h a w ρ own) (hp : own .pend = []) (hr : opRun C (.idxA X I len n) e h = some (s, e', h')) : Goes P o a w (Post g a w ρ own e' h' s) := by
  simp only [opRun] at hr
  split at hr
  case h_2 => simp at hr
  rename_i i hi
  split at hr
  case isFalse => simp at hr
  rename_i hb
  split at hr <;> simp only [Option.some.injEq, Prod.mk.injEq, reduceCtorEq] at hr
  obtain ⟨rfl, rfl, rfl⟩ := hr
  obtain ⟨b, k, k1, k2⟩ := faddr_sound hX hs ‹_›
  obtain ⟨q, hq⟩ := hs.evI hI hi
  refine Goes.same hs hp ?_ k2
  simp [execOp, hop, Instr.indexAt, run_underlying h1, k1, hq, asIntOf, Instr.sureAddr, run_sizeOf h3, hb, add_plain]
/-- the elements of a slice. -/
theorem elems_RDc {c : AV} {v : Value} {O : Own} {xs : List D} {cid : FuncId → Option Nat} {M : MSet} (h : RA cid w M ρ c v O) (he : elems c = some xs) : RDc cid w M (.lst xs) [v] := by
  cases c with
  | d x =>
    cases x <;> simp [elems] at he
    subst he
    simp only [RA] at h
    exact RV_lst h.1
  | acc sz ys => simp only [elems, Option.some.injEq] at he; subst he; simp only [RA] at h; obtain ⟨_, _, _, rfl, h, _⟩ := h; exact h
  | full sz ys => simp only [elems, Option.some.injEq] at he; subst he; simp only [RA] at h; obtain ⟨_, _, rfl, h, _⟩ := h; exact h
  | _ => simp [elems] at he
theorem RDc_lst {cid : FuncId → Option Nat} {M : MSet} {xs : List D} {v : Value} (h : RDc cid w M (.lst xs) [v]) : ∃ p cap, v = .slice p xs.length cap ∧ xs.length ≤ cap ∧ (xs ≠ [] → ∃ b o sz, p = some ⟨b, o, none⟩ ∧ 0 < sz ∧ RDels cid w M xs b o sz) := by
  simp only [RDc] at h
  obtain ⟨p, len, cap, h1, rfl, h3, h4⟩ := h
  exact ⟨p, cap, by simpa using h1, h3, h4⟩
theorem goes_idxS {t el : TypeId} {x ix : Operand} {n : Nat} {X I : Opd} (hop : o.op = .indexAddr t x ix) (h1 : P.underlying t = some (.slice el)) (h3 : sizeT P el = some n)
    (hX : opd g.cid x = some X) (hI : opd g.cid ix = some I) (hs : SR g e h a w ρ own) (hp : own .pend = []) (hr : opRun C (.idxS X I n) e h = some (s, e', h')) : Goes P o a w (Post g a w ρ own e' h' s) := by
  simp only [opRun] at hr
  split at hr
  case h_2 => simp at hr
  rename_i i hi
  obtain ⟨q, hq⟩ := hs.evI hI hi
  split at hr
  case isFalse => simp at hr
  rename_i hb
  split at hr
  · rename_i tg j off len hev
    split at hr <;> simp only [Option.some.injEq, Prod.mk.injEq, reduceCtorEq] at hr
    rename_i hlt
    obtain ⟨rfl, rfl, rfl⟩ := hr
    have hra := hs.evV hX hev
    simp only [RA] at hra
    obtain ⟨p, cap, k2, k3, k0, _⟩ := hra
    obtain ⟨b, k1, rfl⟩ := k0 (by omega)
    refine Goes.same hs hp (v := .pointer (some ⟨b, off + i.toNat * n, none⟩)) ?_ ?_
    · simp [execOp, hop, Instr.indexAt, run_underlying h1, k2, hq, asIntOf, run_sizeOf h3, hb, hlt, add_plain]
    · simp only [SlotR, RA]; exact ⟨b, k1, rfl, trivial⟩
  · rename_i c hnot hev
    split at hr
    case h_2 => simp at hr
    rename_i xs hxs
    split at hr
    case h_2 => simp at hr
    rename_i y hy
    split at hr <;> simp only [Option.some.injEq, Prod.mk.injEq, reduceCtorEq] at hr
    rename_i hsz
    obtain ⟨rfl, rfl, rfl⟩ := hr
    obtain ⟨p, cap, rfl', hcap, hels⟩ := RDc_lst (elems_RDc (hs.evV hX hev) hxs)
    have hlt := (List.getElem?_eq_some_iff.1 hy).1
    obtain ⟨b, k, sz, rfl, hpos, hels⟩ := hels (by intro hn; subst hn; simp at hy)
    obtain ⟨vs, l1, l2, l3⟩ := RDels_get _ _ _ _ _ _ hels hy
    have : sz = n := by rw [← l1, RDc_length l2]; exact hsz
    subst this
    refine Goes.same hs hp (v := .pointer (some ⟨b, k + i.toNat * sz, none⟩)) ?_ ⟨rfl, b, k + i.toNat * sz, vs, rfl, l2, l3⟩
    have hlt2 : i < (xs.length : Int) := by omega
    simp [execOp, hop, Instr.indexAt, run_underlying h1, rfl', hq, asIntOf, run_sizeOf h3, hb, hlt2, add_plain]
  · simp at hr
theorem goes_index {t el : TypeId} {x ix : Operand} {n len : Nat} {agg : Bool} {X I : Opd} (hop : o.op = .index t x ix) (h1 : P.underlying t = some (.array len el)) (h3 : sizeT P el = some n) (h4 : isAggT P el = some agg)
    (hX : opd g.cid x = some X) (hI : opd g.cid ix = some I) (hs : SR g e h a w ρ own) (hp : own .pend = []) (hr : opRun C (.index X I len n agg) e h = some (s, e', h')) : Goes P o a w (Post g a w ρ own e' h' s) := by
  simp only [opRun] at hr
  split at hr
  case h_2 => simp at hr
  rename_i i c hi hev
  obtain ⟨q, hq⟩ := hs.evI hI hi
  split at hr
  case isFalse => simp at hr
  rename_i hb
  split at hr <;> simp only [Option.some.injEq, Prod.mk.injEq, reduceCtorEq] at hr
  rename_i r hrd
  obtain ⟨rfl, rfl, rfl⟩ := hr
  obtain ⟨cs, k1, k2, k3⟩ := RA_cells (hs.evw hX hev) hb.1
  have hf : c.fine = true := by
    cases c with
    | d x => cases x <;> simp_all [AV.isAgg, AV.fine]
    | _ => simp_all [AV.isAgg, AV.fine]
  obtain ⟨us, O1, O2, O3, e1, e2, e3, e4, e5, _⟩ := read_sound hf k3 k2 hrd
  have hO2 : O2 = [] := by
    have := e1.symm
    simp only [List.append_eq_nil_iff] at this
    exact this.1.2
  refine Goes.same hs hp (v := valOf agg us) ?_ (by simp only [SlotR]; rw [← hO2]; exact e5)
  simp [execOp, hop, Instr.index, run_underlying h1, k1, hq, asIntOf, run_sizeOf h3, hb.2, run_part h3 h4 e2 e3 e4]
theorem goes_field {t : TypeId} {x : Operand} {f n : Nat} {agg : Bool} {fs : Array Field} {fl : Field} {X : Opd} (hop : o.op = .field t x f) (h1 : P.underlying t = some (.struct fs)) (h2 : fs[f]? = some fl) (h3 : sizeT P fl.type = some n) (h4 : isAggT P fl.type = some agg)
    (hX : opd g.cid x = some X) (hs : SR g e h a w ρ own) (hp : own .pend = []) (hr : opRun C (.field X fl.offset n agg) e h = some (s, e', h')) : Goes P o a w (Post g a w ρ own e' h' s) := by
  simp only [opRun] at hr
  split at hr
  case h_2 => simp at hr
  rename_i c hev
  split at hr
  case isFalse => simp at hr
  rename_i hb
  split at hr <;> simp only [Option.some.injEq, Prod.mk.injEq, reduceCtorEq] at hr
  rename_i r hrd
  obtain ⟨rfl, rfl, rfl⟩ := hr
  obtain ⟨cs, k1, k2, k3⟩ := RA_cells (hs.evw hX hev) hb
  have hf : c.fine = true := by
    cases c with
    | d x => cases x <;> simp_all [AV.isAgg, AV.fine]
    | _ => simp_all [AV.isAgg, AV.fine]
  obtain ⟨us, O1, O2, O3, e1, e2, e3, e4, e5, _⟩ := read_sound hf k3 k2 hrd
  have hO2 : O2 = [] := by
    have := e1.symm
    simp only [List.append_eq_nil_iff] at this
    exact this.1.2
  refine Goes.same hs hp (v := valOf agg us) ?_ (by simp only [SlotR]; rw [← hO2]; exact e5)
  simp [execOp, hop, Instr.field, run_underlying h1, k1, asAgg, h2, run_part h3 h4 e2 e3 e4]
theorem goes_sindex {t : TypeId} {x ix : Operand} {X I : Opd} (hop : o.op = .index t x ix) (h1 : P.underlying t = some .string)
    (hX : opd g.cid x = some X) (hI : opd g.cid ix = some I) (hs : SR g e h a w ρ own) (hp : own .pend = []) (hr : opRun C (.sindex X I) e h = some (s, e', h')) : Goes P o a w (Post g a w ρ own e' h' s) := by
  simp only [opRun] at hr
  split at hr
  case h_2 => simp at hr
  rename_i i str hi hev
  obtain ⟨q, hq⟩ := hs.evI hI hi
  split at hr
  case isFalse => simp at hr
  rename_i hb
  split at hr <;> simp only [Option.some.injEq, Prod.mk.injEq, reduceCtorEq] at hr
  rename_i b hbb
  obtain ⟨rfl, rfl, rfl⟩ := hr
  have hra := hs.evV hX hev
  simp only [RA] at hra
  obtain ⟨bs, k1, rfl⟩ := RV_str hra.1
  refine Goes.data hs hp (v := .int .u8 (b.toNat : Int)) ?_ RV_intI
  have : bs[i.toNat]? = some b := by
    obtain ⟨hlt, hget⟩ := List.getElem?_eq_some_iff.1 hbb
    have hlt' : i.toNat < bs.size := by simpa using hlt
    rw [getElem?_pos bs i.toNat hlt', ← hget]
    rfl
  simp [execOp, hop, Instr.index, run_underlying h1, k1, hq, asIntOf, hb, this]
theorem goes_extract {x : Operand} {i : Nat} {X : Opd} {take : Bool} (hop : o.op = .extract x i)
    (hX : opd g.cid x = some X) (hs : SR g e h a w ρ own) (hp : own .pend = []) (hr : opRun C (.extract X i take) e h = some (s, e', h')) : Goes P o a w (Post g a w ρ own e' h' s) := by
  have key : ∀ (own1 : OwnF) (c : AV) (O : Own) (e1 : Env), SR g e1 h a w ρ own1 → RA g.cid w (MOf g.M0 own1) ρ c (a.eval x) O → own1 .pend = O → (∀ b o, MOf g.M0 own1 b o ↔ MOf g.M0 own b o) →
      (match some (c, e1) with
        | some (.tup as, e') => match as[i]? with
          | some a => some (Slot.v a, e', h)
          | none => none
        | some (.d (.tup ds), e') => match ds[i]? with
          | some a => some (vD a, e', h)
          | none => none
        | _ => none) = some (s, e', h') → Goes P o a w (Post g a w ρ own e' h' s) := by
    intro own1 c O e1 hs1 hra hpo hM hr
    split at hr
    · rename_i as e2 heq
      simp only [Option.some.injEq, Prod.mk.injEq] at heq
      obtain ⟨rfl, rfl⟩ := heq
      split at hr <;> simp only [Option.some.injEq, Prod.mk.injEq, reduceCtorEq] at hr
      rename_i c1 hc1
      obtain ⟨rfl, rfl, rfl⟩ := hr
      simp only [RA] at hra
      obtain ⟨vs, k1, k2⟩ := hra
      obtain ⟨O1, O2, O3, e1', _, e3, _⟩ := RAs_split k2 i 1
      obtain ⟨hlt, hget⟩ := List.getElem?_eq_some_iff.1 hc1
      have hl := RAs_length _ _ _ k2
      have hlt' : i < vs.toList.length := by omega
      rw [List.drop_eq_getElem_cons hlt, List.drop_eq_getElem_cons hlt', List.take_succ_cons, List.take_succ_cons, List.take_zero, List.take_zero, hget] at e3
      simp only [RAs] at e3
      obtain ⟨v, r, P1, P2, q1, q2, ⟨rfl, rfl⟩, rfl⟩ := e3
      simp only [List.cons.injEq, and_true] at q1
      have hv : vs[i]? = some v := by
        rw [← q1]; simp at hlt'; simp [hlt']
      have hrun : (execOp a.eval o).run P w = .ok (.value v) w := by simp [execOp, hop, Instr.extract, k1, hv]
      refine .value hrun ?_
      -- what else the tuple owned is dropped
      obtain ⟨b1, b2⟩ := hs1.pendSub (O := P1 ++ []) (fun p hp => by
        rw [hpo, e1']; simp only [List.append_nil] at hp; simp [hp]) (by
        have := hs1.nodup .pend
        rw [hpo, e1'] at this
        simp only [blocks, List.map_append, List.nodup_append, List.map_nil, List.append_nil] at this ⊢
        exact this.1.2.1)
      rw [List.append_nil] at b1 b2
      refine Post.from hM ⟨ρ, _, b1, ?_, fun _ _ _ h => h, b2⟩
      simp only [OwnF.upd_same, SlotR]
      exact RA_mono b2 (fun _ _ _ h => h) _ _ _ (fun _ _ => rfl) q2
    · rename_i ds e2 heq
      simp only [Option.some.injEq, Prod.mk.injEq] at heq
      obtain ⟨rfl, rfl⟩ := heq
      split at hr <;> simp only [Option.some.injEq, Prod.mk.injEq, reduceCtorEq] at hr
      rename_i c1 hc1
      obtain ⟨rfl, rfl, rfl⟩ := hr
      simp only [RA, RV] at hra
      obtain ⟨⟨vs, k1, k2⟩, rfl⟩ := hra
      obtain ⟨v, hv, hrv⟩ := RVs_get _ _ _ _ k2 hc1
      have hrun : (execOp a.eval o).run P w = .ok (.value v) w := by simp [execOp, hop, Instr.extract, k1, by simpa using hv]
      exact .value hrun (Post.from hM (Post.data hs1 hpo hrv))
    · simp at hr
  simp only [opRun] at hr
  cases take with
  | true =>
    simp only [if_true] at hr
    cases hev : evt e X with
    | none => simp [hev] at hr
    | some p =>
      obtain ⟨c, e1⟩ := p
      rw [hev] at hr
      obtain ⟨own', O, k1, k2, k3, k4, _⟩ := hs.evt hX hev
      rw [hp, List.nil_append] at k3
      exact key own' c O e1 k1 k2 k3 k4 hr
  | false =>
    simp only [Bool.false_eq_true, if_false] at hr
    cases hev : evw e X with
    | none => simp [hev] at hr
    | some c =>
      rw [hev] at hr
      exact key own c [] e hs (hs.evw hX hev) hp (fun _ _ => Iff.rfl) hr
end
end Go.Ab

/-
  A machine without memory (part 12): arithmetic, comparisons, conversions, slices of slices. Conditions: none (lemmas).
-/
namespace Go.Ab

section
variable {P : Program} {w : World}
theorem eqGuard_plain {op : BinOp} {t : TypeId} {x y : Operand} {a b : Value} (h1 : a ≠ .nilIface) (h2 : isAggV a = false) : (eqGuard op t x y a b).run P w = .ok () w := by
  unfold eqGuard
  cases a <;> simp_all [isAggV]
theorem intBin_sound {op : BinOp} {k : IntKind} {a b : Int} {r : D} (h : intBin op k a b = some r) {t : TypeId} : ∃ v, (binOp op t (.int k a) (.int k b)).run P w = .ok v w ∧ ∀ {cid : FuncId → Option Nat} {M : MSet}, RV cid w M r v := by
  cases op <;> simp only [intBin, Option.some.injEq, reduceCtorEq] at h
  case quo =>
    split at h <;> simp only [Option.some.injEq, reduceCtorEq] at h
    subst h
    exact ⟨_, by simp [binOp, Op.intDiv, *], RV_intI⟩
  case rem =>
    split at h <;> simp only [Option.some.injEq, reduceCtorEq] at h
    subst h
    exact ⟨_, by simp [binOp, Op.intDiv, *], RV_intI⟩
  all_goals subst h
  all_goals first
    | exact ⟨_, by simp [binOp, Op.intArith, Op.intBits, Op.intCmp], RV_intI⟩
    | exact ⟨_, by simp [binOp, Op.intArith, Op.intBits, Op.intCmp], RV_boolI⟩
theorem shiftBin_sound {op : BinOp} {k k' : IntKind} {a b : Int} {r : D} (h : shiftBin op k a b = some r) {t : TypeId} : ∃ v, (binOp op t (.int k a) (.int k' b)).run P w = .ok v w ∧ ∀ {cid : FuncId → Option Nat} {M : MSet}, RV cid w M r v := by
  unfold shiftBin at h
  split at h
  · simp at h
  rename_i hb
  split at h <;> simp only [Option.some.injEq, reduceCtorEq] at h <;> subst h
  · exact ⟨_, by simp [binOp, Op.shift, hb], RV_intI⟩
  · exact ⟨_, by simp [binOp, Op.shift, hb], RV_intI⟩
theorem equalIn_ptr (d : Nat) {t el : TypeId} (ht : P.underlying t = some (.pointer el)) (p : Option Addr) : (Op.equalIn (d + 1) t (.pointer p) (.pointer none)).run P w = .ok p.isNone w := by
  cases p <;> simp [Op.equalIn, run_underlying ht]
theorem equalIn_nilf (d : Nat) {t : TypeId} {ps rs : Array TypeId} {v : Bool} (ht : P.underlying t = some (.func ps rs v)) : (Op.equalIn (d + 1) t .nilFunc .nilFunc).run P w = .ok true w := by
  simp [Op.equalIn, run_underlying ht]
theorem equalIn_func (d : Nat) {t : TypeId} {ps rs : Array TypeId} {v : Bool} (ht : P.underlying t = some (.func ps rs v)) (f : Fn) (a b : Array Value) : (Op.equalIn (d + 1) t (.func f a b) .nilFunc).run P w = .ok false w := by
  simp [Op.equalIn, run_underlying ht]
theorem bytes_data (a b : ByteArray) : (a ++ b).data.toList = a.data.toList ++ b.data.toList := by simp
theorem strBin_sound {op : BinOp} {a b : ByteArray} {r : D} (h : strBin op a.data.toList b.data.toList = some r) {t : TypeId} : ∃ v, (binOp op t (.string a) (.string b)).run P w = .ok v w ∧ ∀ {cid : FuncId → Option Nat} {M : MSet}, RV cid w M r v := by
  cases op <;> simp only [strBin, Option.some.injEq, reduceCtorEq] at h
  case add =>
    split at h <;> simp only [Option.some.injEq, reduceCtorEq] at h
    rename_i hlim
    subst h
    refine ⟨.string (a ++ b), ?_, by rw [← bytes_data]; exact RV_strI⟩
    have : ¬ ((a.size + b.size : Nat) : Int) > IntKind.i64.max := by
      simpa [ByteArray.size_data] using hlim
    simp only [binOp, Op.stringOp, if_neg this]; rfl
  all_goals subst h
  all_goals exact ⟨_, by simp only [binOp, Op.stringOp, ByteArray.toList_eq]; rfl, RV_boolI⟩
end

section
variable {P : Program} {o : Oper} {g : Gh} {e e' : Env} {h h' : Heap} {a : Act} {w : World} {ρ : Rho} {own : OwnF} {C : Ctx} {s : Slot}
theorem goes_bin {op : BinOp} {t yt : TypeId} {x y : Operand} {X Y : Opd} (hop : o.op = .binOp op t x y yt)
    (hX : opd g.cid x = some X) (hY : opd g.cid y = some Y) (hs : SR g e h a w ρ own) (hp : own .pend = []) (hr : opRun C (.bin op X Y) e h = some (s, e', h')) : Goes P o a w (Post g a w ρ own e' h' s) := by
  simp only [opRun] at hr
  split at hr
  case h_2 => simp at hr
  rename_i da db h1 h2
  split at hr <;> simp only [Option.some.injEq, Prod.mk.injEq, reduceCtorEq] at hr
  rename_i r hb
  obtain ⟨rfl, rfl, rfl⟩ := hr
  have ra := hs.evD hX h1
  have rb := hs.evD hY h2
  unfold binD at hb
  split at hb
  · rename_i k x1 k' y1
    have ea := RV_int ra
    have eb := RV_int rb
    split at hb
    · obtain ⟨v, hv, hrv⟩ := shiftBin_sound (P := P) (w := w) (k' := k') hb (t := t)
      refine Goes.data hs hp (v := v) ?_ hrv
      simp only [execOp, hop, ea, eb, Sem.run_bind, eqGuard_plain (P := P) (w := w) (op := op) (t := t) (x := x) (y := y) (a := .int k x1) (b := .int k' y1) (by simp) rfl, Result.andThen_ok, hv, Sem.run_pure]
    · split at hb
      · rename_i hkk
        subst hkk
        obtain ⟨v, hv, hrv⟩ := intBin_sound (P := P) (w := w) hb (t := t)
        refine Goes.data hs hp (v := v) ?_ hrv
        simp only [execOp, hop, ea, eb, Sem.run_bind, eqGuard_plain (P := P) (w := w) (op := op) (t := t) (x := x) (y := y) (a := .int k x1) (b := .int k y1) (by simp) rfl, Result.andThen_ok, hv, Sem.run_pure]
      · simp at hb
  · obtain ⟨as, ea, rfl⟩ := RV_str ra
    obtain ⟨bs, eb, rfl⟩ := RV_str rb
    obtain ⟨v, hv, hrv⟩ := strBin_sound (P := P) (w := w) hb (t := t)
    refine Goes.data hs hp (v := v) ?_ hrv
    simp only [execOp, hop, ea, eb, Sem.run_bind, eqGuard_plain (P := P) (w := w) (op := op) (t := t) (x := x) (y := y) (a := .string as) (b := .string bs) (by simp) rfl, Result.andThen_ok, hv, Sem.run_pure]
  · simp at hb
theorem goes_un {op : UnOp} {t : TypeId} {x : Operand} {X : Opd} (hop : o.op = .unOp op t x)
    (hX : opd g.cid x = some X) (hs : SR g e h a w ρ own) (hp : own .pend = []) (hr : opRun C (.un op X) e h = some (s, e', h')) : Goes P o a w (Post g a w ρ own e' h' s) := by
  simp only [opRun] at hr
  split at hr
  case h_2 => simp at hr
  rename_i da h1
  split at hr <;> simp only [Option.some.injEq, Prod.mk.injEq, reduceCtorEq] at hr
  rename_i r hb
  obtain ⟨rfl, rfl, rfl⟩ := hr
  have ra := hs.evD hX h1
  unfold unD at hb
  split at hb
  · have ea := RV_bool ra
    split at hb <;> simp only [Option.some.injEq, reduceCtorEq] at hb
    subst hb
    exact Goes.data hs hp (by simp [execOp, hop, ea, Op.unary]) RV_boolI
  · have ea := RV_int ra
    split at hb
    · simp only [Option.some.injEq] at hb
      subst hb
      exact Goes.data hs hp (by simp [execOp, hop, ea, Op.unary, Op.intArith]) RV_intI
    · simp only [intBin, Option.some.injEq] at hb
      subst hb
      exact Goes.data hs hp (by simp only [execOp, hop, ea, Op.unary, Op.intBits, Sem.run_bind, Sem.run_pure, Result.andThen_ok]) RV_intI
    · simp at hb
  · simp at hb
theorem goes_nilEq {op : BinOp} {t yt : TypeId} {x y : Operand} {X Y : Opd} {neg fn : Bool} (hop : o.op = .binOp op t x y yt) (hneg : op = if neg then .neq else .eql)
    (ht : if fn then ∃ ps rs v, P.underlying t = some (.func ps rs v) else ∃ el, P.underlying t = some (.pointer el))
    (hX : opd g.cid x = some X) (hY : opd g.cid y = some Y) (hs : SR g e h a w ρ own) (hp : own .pend = []) (hr : opRun C (.nilEq neg fn X Y) e h = some (s, e', h')) : Goes P o a w (Post g a w ρ own e' h' s) := by
  simp only [opRun] at hr
  split at hr
  case h_2 => simp at hr
  rename_i ca cb h1 h2
  split at hr <;> simp only [Option.some.injEq, Prod.mk.injEq, reduceCtorEq] at hr
  rename_i r hb
  obtain ⟨rfl, rfl, rfl⟩ := hr
  have ra := hs.evw hX h1
  have rb := hs.evw hY h2
  have key : ∀ (va vb : Value), a.eval x = va → a.eval y = vb → va ≠ .nilIface → isAggV va = false → (∀ k n, (va ≠ .int k n)) → (∀ k n, (va ≠ .float k n)) → (∀ k m n, (va ≠ .complex k m n)) → (∀ q, (va ≠ .string q)) → (Op.equal t va vb).run P w = .ok r w → Goes P o a w (Post g a w ρ own e h (vD (.bool (if neg then !r else r)))) := by
    intro va vb e1 e2 h3 h4 h5 h6 h7 h8 h9
    refine Goes.data hs hp (v := .bool (if neg then !r else r)) ?_ RV_boolI
    simp only [execOp, hop, e1, e2, Sem.run_bind, eqGuard_plain (P := P) (w := w) (op := op) (t := t) (x := x) (y := y) (a := va) (b := vb) h3 h4, Result.andThen_ok]
    subst hneg
    cases neg with
    | true =>
      have : binOp .neq t va vb = (do pure (.bool (!(← Op.equal t va vb)))) := by
        cases va <;> first | rfl | (exact absurd rfl (h5 _ _)) | (exact absurd rfl (h6 _ _)) | (exact absurd rfl (h7 _ _ _)) | (exact absurd rfl (h8 _))
      simp [this, h9]
    | false =>
      have : binOp .eql t va vb = (do pure (.bool (← Op.equal t va vb))) := by
        cases va <;> first | rfl | (exact absurd rfl (h5 _ _)) | (exact absurd rfl (h6 _ _)) | (exact absurd rfl (h7 _ _ _)) | (exact absurd rfl (h8 _))
      simp [this, h9]
  unfold isNil at hb
  split at hb
  · split at hb <;> simp only [Option.some.injEq, reduceCtorEq] at hb
    rename_i hfn; subst hb
    simp only [hfn, if_false, Bool.false_eq_true] at ht
    obtain ⟨el, ht⟩ := ht
    simp only [RA] at ra rb
    exact key _ _ (RV_nilp ra.1) (RV_nilp rb.1) (by simp) rfl (by simp) (by simp) (by simp) (by simp) (equalIn_ptr 9999 ht none)
  · split at hb <;> simp only [Option.some.injEq, reduceCtorEq] at hb
    rename_i hfn; subst hb
    simp only [hfn, if_false, Bool.false_eq_true] at ht
    obtain ⟨el, ht⟩ := ht
    simp only [RA] at ra rb
    obtain ⟨b, _, ea, _⟩ := ra
    exact key _ _ ea (RV_nilp rb.1) (by simp) rfl (by simp) (by simp) (by simp) (by simp) (equalIn_ptr 9999 ht _)
  · split at hb <;> simp only [Option.some.injEq, reduceCtorEq] at hb
    rename_i hfn; subst hb
    simp only [hfn, if_true] at ht
    obtain ⟨_, _, _, ht⟩ := ht
    simp only [RA] at ra rb
    exact key _ _ (RV_nilf ra.1) (RV_nilf rb.1) (by simp) rfl (by simp) (by simp) (by simp) (by simp) (equalIn_nilf 9999 ht)
  · split at hb <;> simp only [Option.some.injEq, reduceCtorEq] at hb
    rename_i hfn; subst hb
    simp only [hfn, if_true] at ht
    obtain ⟨_, _, _, ht⟩ := ht
    simp only [RA] at ra rb
    obtain ⟨F, _, ea⟩ := RV_fnc ra.1
    exact key _ _ ea (RV_nilf rb.1) (by simp) rfl (by simp) (by simp) (by simp) (by simp) (equalIn_func 9999 ht _ _ _)
  · split at hb <;> simp only [Option.some.injEq, reduceCtorEq] at hb
    rename_i hfn; subst hb
    simp only [hfn, if_true] at ht
    obtain ⟨_, _, _, ht⟩ := ht
    simp only [RA] at ra rb
    obtain ⟨F, cs, _, ea, _⟩ := ra
    exact key _ _ ea (RV_nilf rb.1) (by simp) rfl (by simp) (by simp) (by simp) (by simp) (equalIn_func 9999 ht _ _ _)
  · simp at hb
theorem goes_mkfn {F : FuncId} {f : Nat} {first caps : Array Operand} {Xs : List Opd} (hop : o.op = .makeFunc (.func F) first caps) (hf : first.isEmpty = true) (hF : g.cid F = some f) (hX : opds g.cid caps.toList = some Xs)
    (hs : SR g e h a w ρ own) (hp : own .pend = []) (hr : opRun C (.mkfn f Xs) e h = some (s, e', h')) : Goes P o a w (Post g a w ρ own e' h' s) := by
  have hf0 : first = #[] := by simpa using hf
  have hrun : (execOp a.eval o).run P w = .ok (.value (.func (.func F) #[] (caps.map a.eval))) w := by simp [execOp, hop, Instr.makeFunc, hf0]
  simp only [opRun] at hr
  split at hr
  case h_2 => simp at hr
  rename_i as h1
  have hras := hs.evws hX h1
  have hmap : (caps.map a.eval).toList = caps.toList.map a.eval := by simp
  split at hr
  · simp only [Option.some.injEq, Prod.mk.injEq] at hr
    obtain ⟨rfl, rfl, rfl⟩ := hr
    simp only [RAs, and_true] at hras
    have h0 : caps.map a.eval = #[] := by
      apply Array.ext'; rw [hmap, hras]
    rw [h0] at hrun
    exact Goes.data hs hp hrun (RV_mk (by simp only [RDc]; exact ⟨F, hF, rfl⟩) rfl)
  · simp only [Option.some.injEq, Prod.mk.injEq] at hr
    obtain ⟨rfl, rfl, rfl⟩ := hr
    refine Goes.same hs hp hrun ?_
    simp only [SlotR, RA]
    exact ⟨F, _, hF, rfl, by rw [hmap]; exact hras, trivial⟩
theorem goes_nilchk {x : Operand} {X : Opd} (hop : o.op = .nilCheck x) (hX : opd g.cid x = some X) (hs : SR g e h a w ρ own) (hp : own .pend = []) (hr : opRun C (.nilchk X) e h = some (s, e', h')) : Goes P o a w (Post g a w ρ own e' h' s) := by
  simp only [opRun] at hr
  split at hr <;> simp only [Option.some.injEq, Prod.mk.injEq, reduceCtorEq] at hr
  rename_i hev
  obtain ⟨rfl, rfl, rfl⟩ := hr
  have ra := hs.evV hX hev
  simp only [RA] at ra
  obtain ⟨b, h1, h2, _⟩ := ra
  refine Goes.same hs hp (v := a.eval x) (by simp [execOp, hop, h2]) ?_
  simp only [SlotR, RA]
  exact ⟨b, h1, h2, trivial⟩
theorem arr_of_list {α : Type} {xs : Array α} {l : List α} (h : xs.toList = l) : xs = l.toArray := by
  apply Array.ext'; simpa using h
theorem goes_builtin {c : Call} {b : Builtin} {v : Value} {w' : World} {f : Array TypeId → TypeId → Array Value → Sem Value} (hop : o.op = .call c) (hc : c.callee = .builtin b)
    (hb : ∀ ats t cs vs, builtin b ats t cs vs = (do pure (.value (← f ats t vs)))) (hr : (f c.argTypes o.type (c.args.map a.eval)).run P w = .ok v w') : (execOp a.eval o).run P w = .ok (.value v) w' := by
  simp [execOp, hop, resolve, hc, invoke, hb, hr]
theorem goes_len {c : Call} {x : Operand} {t : TypeId} {X : Opd} {str : Bool} (hop : o.op = .call c) (hc : c.callee = .builtin .len) (hargs : c.args.toList = [x]) (hts : c.argTypes.toList = [t]) (ht : if str then P.underlying t = some .string else ∃ el, P.underlying t = some (.slice el))
    (hX : opd g.cid x = some X) (hs : SR g e h a w ρ own) (hp : own .pend = []) (hr : opRun C (.len str X) e h = some (s, e', h')) : Goes P o a w (Post g a w ρ own e' h' s) := by
  simp only [opRun] at hr
  split at hr
  case h_2 => simp at hr
  rename_i c1 hev
  split at hr <;> simp only [Option.some.injEq, Prod.mk.injEq, reduceCtorEq] at hr
  rename_i n hn
  obtain ⟨rfl, rfl, rfl⟩ := hr
  have ra := hs.evV hX hev
  have key : (Builtin.len_ c.argTypes o.type (c.args.map a.eval)).run P w = .ok (.int .i64 (n : Int)) w → Goes P o a w (Post g a w ρ own e h (vD (.int .i64 (n : Int)))) := fun hk =>
    Goes.data hs hp (goes_builtin hop hc (f := Builtin.len_) (fun _ _ _ _ => rfl) hk) RV_intI
  simp only [arr_of_list hargs, arr_of_list hts, List.map_toArray, List.map_cons, List.map_nil] at key
  have sl : ∀ xs p cap, str = false → a.eval x = .slice p xs cap → (Builtin.len_ #[t] o.type #[a.eval x]).run P w = .ok (.int .i64 (xs : Int)) w := by
    intro xs p cap h1 h2
    simp only [h1, Bool.false_eq_true, if_false] at ht
    obtain ⟨el, ht⟩ := ht
    simp [Builtin.len_, run_underlying ht, h2, goInt]
  have lst : ∀ xs : List D, str = false → elems c1 = some xs → n = xs.length → Goes P o a w (Post g a w ρ own e h (vD (.int .i64 (n : Int)))) := by
    intro xs h1 h2 h3
    obtain ⟨p, cap, h4, _⟩ := RDc_lst (elems_RDc ra h2)
    exact key (by rw [h3]; exact sl xs.length p cap h1 h4)
  cases c1 with
  | d d =>
    cases d <;> simp [lenA] at hn
    · rename_i str'
      obtain ⟨h1, rfl⟩ := hn
      simp only [h1, if_true] at ht
      simp only [RA] at ra
      obtain ⟨bs, h2, rfl⟩ := RV_str ra.1
      refine key ?_
      simp [Builtin.len_, run_underlying ht, h2, goInt]
    · exact lst _ hn.1 rfl hn.2.symm
  | acc sz xs => simp [lenA] at hn; exact lst _ hn.1 rfl hn.2.symm
  | full sz xs => simp [lenA] at hn; exact lst _ hn.1 rfl hn.2.symm
  | arr tg i off len =>
    simp [lenA] at hn
    simp only [RA] at ra
    obtain ⟨p, cap, h2, _⟩ := ra
    exact key (by rw [← hn.2]; exact sl _ _ _ hn.1 h2)
  | _ => simp [lenA] at hn

/-! ### minimum and maximum -/
theorem mnmx_min (k : IntKind) (m n : Int) (k' : IntKind) : (Builtin.min2 (.int k m) (.int k' n)).run P w = .ok (.int k (mnmx false m n)) w := by
  simp [Builtin.min2, mnmx]
theorem mnmx_max (k : IntKind) (m n : Int) (k' : IntKind) : (Builtin.max2 (.int k m) (.int k' n)).run P w = .ok (.int k (mnmx true m n)) w := by
  simp [Builtin.max2, mnmx]
theorem mnmxGo_sound {mx : Bool} (hs : SR g e h a w ρ own) {k : IntKind} : ∀ {xs : List Operand} {Xs : List Opd} {m r : Int}, opds g.cid xs = some Xs → mnmxGo mx e m Xs = some r →
    ((xs.map a.eval).foldlM (if mx then Builtin.max2 else Builtin.min2) (.int k m)).run P w = .ok (.int k r) w
  | [], Xs, m, r, hX, hr => by
    simp only [opds, Option.some.injEq] at hX; subst hX
    simp only [mnmxGo, Option.some.injEq] at hr; subst hr
    simp
  | x :: xs, Xs, m, r, hX, hr => by
    obtain ⟨X, Ys, rfl, h1, h2⟩ := opds_cons hX
    simp only [mnmxGo] at hr
    split at hr
    case h_2 => simp at hr
    rename_i n hn
    obtain ⟨k', hk'⟩ := hs.evI h1 hn
    have ih := mnmxGo_sound hs (k := k) h2 hr
    simp only [List.map_cons, List.foldlM_cons, Sem.run_bind, hk']
    cases mx with
    | true => simp only [if_true, mnmx_max, Result.andThen_ok] at ih ⊢; exact ih
    | false => simp only [Bool.false_eq_true, if_false, mnmx_min, Result.andThen_ok] at ih ⊢; exact ih
theorem goes_mnmx {c : Call} {mx : Bool} {Xs : List Opd} (hop : o.op = .call c) (hc : c.callee = .builtin (if mx then .max else .min)) (hX : opds g.cid c.args.toList = some Xs)
    (hs : SR g e h a w ρ own) (hp : own .pend = []) (hr : opRun C (.mnmx mx Xs) e h = some (s, e', h')) : Goes P o a w (Post g a w ρ own e' h' s) := by
  cases hl : c.args.toList with
  | nil =>
    rw [hl] at hX
    simp only [opds, Option.some.injEq] at hX; subst hX
    simp [opRun] at hr
  | cons x xs =>
    rw [hl] at hX
    obtain ⟨X, Ys, rfl, h1, h2⟩ := opds_cons hX
    simp only [opRun] at hr
    split at hr
    case h_2 => simp at hr
    rename_i k n hev
    split at hr <;> simp only [Option.some.injEq, Prod.mk.injEq, reduceCtorEq] at hr
    rename_i m hm
    obtain ⟨rfl, rfl, rfl⟩ := hr
    have ra := hs.evV h1 hev
    simp only [RA] at ra
    have hk := RV_int ra.1
    have hgo := mnmxGo_sound (P := P) hs (k := k) h2 hm
    have hmap : (c.args.map a.eval).toList = .int k n :: xs.map a.eval := by simp [hl, hk]
    refine Goes.data hs hp (v := .int k m) ?_ RV_intI
    cases mx with
    | true =>
      refine goes_builtin hop hc (f := Builtin.max_) (fun _ _ _ _ => rfl) ?_
      unfold Builtin.max_
      rw [hmap]; simpa using hgo
    | false =>
      refine goes_builtin hop hc (f := Builtin.min_) (fun _ _ _ _ => rfl) ?_
      unfold Builtin.min_
      rw [hmap]; simpa using hgo

/-! ### slices of slices -/
def OptInt : Option Int → Option Value → Prop
  | none, v => v = none
  | some i, v => ∃ k, v = some (.int k i)
theorem evO_sound (hs : SR g e h a w ρ own) {x : Option Operand} {X : Option Opd} {n : Option Int} (hX : opdO g.cid x = some X) (he : evO e X = some n) : ∃ v : Option Value, x.map a.eval = v ∧ OptInt n v := by
  cases x with
  | none =>
    simp only [opdO, Option.some.injEq] at hX; subst hX
    simp only [evO, Option.some.injEq] at he; subst he
    exact ⟨none, rfl, rfl⟩
  | some x =>
    simp only [opdO, Option.map_eq_some_iff] at hX
    obtain ⟨Y, hY, rfl⟩ := hX
    simp only [evO] at he
    split at he <;> simp only [Option.some.injEq, reduceCtorEq] at he
    rename_i i hi
    subst he
    obtain ⟨k, hk⟩ := hs.evI hY hi
    exact ⟨_, rfl, k, by simp [hk]⟩
theorem sliceBounds_sound {isSl : Bool} {len cap : Nat} {lo hi : Option Int} {vl vh : Option Value} {l r : Nat} (hcap : len ≤ cap)
    (hl : OptInt lo vl) (hh : OptInt hi vh)
    (hb : bounds lo hi len = some (l, r)) : (Instr.sliceBounds isSl len cap vl vh none).run P w = .ok (l, r, cap) w ∧ l ≤ r ∧ r ≤ len := by
  unfold bounds at hb
  split at hb <;> simp only [Option.some.injEq, Prod.mk.injEq, reduceCtorEq] at hb
  rename_i hc
  obtain ⟨rfl, rfl⟩ := hb
  have e2 : (hi.getD (len : Int)).toNat ≤ len := by omega
  have e1 : (lo.getD 0).toNat ≤ (hi.getD (len : Int)).toNat := by omega
  refine ⟨?_, e1, e2⟩
  cases hi with
  | none =>
    simp only [OptInt] at hh; subst hh
    cases lo with
    | none =>
      simp only [OptInt] at hl; subst hl
      simp [Instr.sliceBounds]
    | some i =>
      obtain ⟨k, rfl⟩ := hl
      simp only [Option.getD_some, Option.getD_none] at hc
      have : 0 ≤ i ∧ i ≤ (len : Int) := ⟨hc.1, hc.2.1⟩
      simp [Instr.sliceBounds, Instr.sliceBound, asIntOf, this]
  | some j =>
    obtain ⟨k', rfl⟩ := hh
    simp only [Option.getD_some] at hc
    have hj : 0 ≤ j ∧ j ≤ (cap : Int) := by omega
    have hj2 : max j 0 = j := by omega
    cases lo with
    | none =>
      simp only [OptInt] at hl; subst hl
      simp [Instr.sliceBounds, Instr.sliceBound, asIntOf, hj]
    | some i =>
      obtain ⟨k, rfl⟩ := hl
      simp only [Option.getD_some] at hc
      have : 0 ≤ i ∧ i ≤ j := ⟨hc.1, hc.2.1⟩
      simp [Instr.sliceBounds, Instr.sliceBound, asIntOf, hj, this, hj2]
theorem sliceBounds3_sound {isSl : Bool} {len cap : Nat} {lo hi : Option Int} {vl vh : Option Value} {l r : Nat} {k3 : IntKind} (hcap : len ≤ cap)
    (hl : OptInt lo vl) (hh : OptInt hi vh) (hne : vh ≠ none)
    (hb : bounds lo hi len = some (l, r)) : (Instr.sliceBounds isSl len cap vl vh (some (.int k3 (r : Int)))).run P w = .ok (l, r, r) w ∧ l ≤ r ∧ r ≤ len := by
  unfold bounds at hb
  split at hb <;> simp only [Option.some.injEq, Prod.mk.injEq, reduceCtorEq] at hb
  rename_i hc
  obtain ⟨rfl, rfl⟩ := hb
  have e2 : (hi.getD (len : Int)).toNat ≤ len := by omega
  have e1 : (lo.getD 0).toNat ≤ (hi.getD (len : Int)).toNat := by omega
  refine ⟨?_, e1, e2⟩
  cases hi with
  | none => exact absurd hh hne
  | some j =>
    obtain ⟨k', rfl⟩ := hh
    simp only [Option.getD_some] at hc
    have hj : 0 ≤ j ∧ j ≤ (cap : Int) := by omega
    have hj2 : max j 0 = j := by omega
    cases lo with
    | none =>
      simp only [OptInt] at hl; subst hl
      simp [Instr.sliceBounds, Instr.sliceBound, asIntOf, hj, hj2]
    | some i =>
      obtain ⟨k, rfl⟩ := hl
      simp only [Option.getD_some] at hc
      have : 0 ≤ i ∧ i ≤ j := ⟨hc.1, hc.2.1⟩
      simp [Instr.sliceBounds, Instr.sliceBound, asIntOf, hj, hj2, this]
theorem RDels_cut {cid : FuncId → Option Nat} {M : MSet} {xs : List D} {b o sz l r : Nat} (h : RDels cid w M xs b o sz) (hlr : l ≤ r) (hr : r ≤ xs.length) : RDels cid w M (cut l r xs) b (o + l * sz) sz := by
  have h1 : xs = xs.take l ++ (cut l r xs ++ xs.drop r) := by
    unfold cut
    rw [← List.append_assoc]
    have : xs.take l = (xs.take r).take l := by rw [List.take_take, Nat.min_eq_left hlr]
    rw [this, List.take_append_drop, List.take_append_drop]
  rw [h1] at h
  have h2 := ((RDels_append _ _ _ _ _).1 h).2
  have h3 := ((RDels_append _ _ _ _ _).1 h2).1
  rwa [List.length_take, Nat.min_eq_left (by omega)] at h3
theorem cut_length {α : Type} {xs : List α} {l r : Nat} (hr : r ≤ xs.length) : (cut l r xs).length = r - l := by unfold cut; simp; omega
theorem headOk_sz {cid : FuncId → Option Nat} {M : MSet} {xs : List D} {b o sz n : Nat} (h : RDels cid w M xs b o sz) (hne : xs ≠ []) (hh : headOk n xs = true) : sz = n := by
  cases xs with
  | nil => exact absurd rfl hne
  | cons x xs =>
    simp only [RDels] at h
    obtain ⟨⟨vs, h1, h2, _⟩, _⟩ := h
    simp only [headOk, beq_iff_eq] at hh
    rw [← h1, RDc_length h2, hh]
theorem str_extract (bs : ByteArray) (l r : Nat) (hr : r ≤ bs.data.toList.length) : (bs.extract l r).data.toList = cut l r bs.data.toList := by
  unfold cut
  simp [ByteArray.data_extract, List.extract_eq_take_drop, List.drop_take]
theorem goes_sliceS {t : TypeId} {x : Operand} {lo hi : Option Operand} {X : Opd} {L H K : Option Opd} {n : Nat} {mx : Option Operand} (hop : o.op = .slice t x lo hi mx) (ht : P.underlying t = some .string)
    (hX : opd g.cid x = some X) (hL : opdO g.cid lo = some L) (hH : opdO g.cid hi = some H) (hK : opdO g.cid mx = some K) (hs : SR g e h a w ρ own) (hp : own .pend = []) (hr : opRun C (.slice true X n L H K) e h = some (s, e', h')) : Goes P o a w (Post g a w ρ own e' h' s) := by
  simp only [opRun] at hr
  split at hr
  case h_2 => simp at hr
  rename_i l hh str h1 h2 hev
  split at hr <;> simp only [Option.some.injEq, Prod.mk.injEq, reduceCtorEq] at hr
  rename_i l' r' hb
  obtain ⟨rfl, rfl, rfl⟩ := hr
  have hmx : mx = none := by
    cases mx with
    | none => rfl
    | some y => simp [opdO] at hK
  subst hmx
  obtain ⟨vl, el, hl⟩ := evO_sound hs hL h1
  obtain ⟨vh, eh, hh'⟩ := evO_sound hs hH h2
  have ra := hs.evV hX hev
  simp only [RA] at ra
  obtain ⟨bs, ex, rfl⟩ := RV_str ra.1
  obtain ⟨hrun, hlr, hrn⟩ := sliceBounds_sound (P := P) (w := w) (isSl := false) (cap := bs.data.toList.length) (Nat.le_refl _) hl hh' hb
  have hsz : bs.data.toList.length = bs.size := by simp
  refine Goes.data hs hp (v := .string (bs.extract l' r')) ?_ (by rw [← str_extract _ _ _ hrn]; exact RV_strI)
  rw [hsz] at hrun
  simp [execOp, hop, Instr.sliceAt, Instr.slice, run_underlying ht, ex, el, eh, hrun]
theorem goes_slice {t el : TypeId} {x : Operand} {lo hi mx : Option Operand} {X : Opd} {L H K : Option Opd} {n : Nat} (hop : o.op = .slice t x lo hi mx) (ht : P.underlying t = some (.slice el)) (hsz : sizeT P el = some n)
    (hX : opd g.cid x = some X) (hL : opdO g.cid lo = some L) (hH : opdO g.cid hi = some H) (hK : opdO g.cid mx = some K) (hs : SR g e h a w ρ own) (hp : own .pend = []) (hr : opRun C (.slice false X n L H K) e h = some (s, e', h')) : Goes P o a w (Post g a w ρ own e' h' s) := by
  -- the run, once the slice and the bounds are known
  have run0 : ∀ (p : Option Addr) (len cap l r m : Nat) (vl vh vm : Option Value), a.eval x = .slice p len cap → lo.map a.eval = vl → hi.map a.eval = vh → mx.map a.eval = vm →
      (Instr.sliceBounds true len cap vl vh vm).run P w = .ok (l, r, m) w →
      (execOp a.eval o).run P w = .ok (.value (.slice (if m = l then p else p.map (·.add (l * n))) (r - l) (m - l))) w := by
    intro p len cap l r m vl vh vm e1 e2 e3 e4 e5
    simp [execOp, hop, Instr.sliceAt, Instr.slice, run_underlying ht, e1, e2, e3, e4, e5, run_sizeOf hsz]
  -- what comes of data
  have data : ∀ (c : AV) (xs : List D) (l r : Nat) (p : Option Addr) (cap m : Nat) (O : Own), RA g.cid w (MOf g.M0 own) ρ c (a.eval x) O → elems c = some xs → headOk n xs = true → a.eval x = .slice p xs.length cap → l ≤ r → r ≤ xs.length → r ≤ m →
      RDc g.cid w (MOf g.M0 own) (.lst (cut l r xs)) [.slice (if m = l then p else p.map (·.add (l * n))) (r - l) (m - l)] ∧
      (cut l r xs ≠ [] → ∃ b o, (if m = l then p else p.map (·.add (l * n))) = some ⟨b, o, none⟩ ∧ 0 < n ∧ RDels g.cid w (MOf g.M0 own) (cut l r xs) b o n) := by
    intro c xs l r p cap m O ra hel hhd ex hlr hrn hrm
    obtain ⟨p', cap', ex', _, hels⟩ := RDc_lst (elems_RDc ra hel)
    rw [ex] at ex'
    simp only [Value.slice.injEq] at ex'
    obtain ⟨rfl, _, rfl⟩ := ex'
    have hlen := cut_length (l := l) hrn
    have hne : cut l r xs ≠ [] → ∃ b o, (if m = l then p else p.map (·.add (l * n))) = some ⟨b, o, none⟩ ∧ 0 < n ∧ RDels g.cid w (MOf g.M0 own) (cut l r xs) b o n := by
      intro hc
      have h3 : xs ≠ [] := by rintro rfl; simp [cut] at hc
      have h4 : l < r := by
        rcases Nat.lt_or_ge l r with h | h
        · exact h
        · exact absurd (List.length_eq_zero_iff.1 (by omega)) hc
      obtain ⟨b, k, sz, rfl, hpos, h5⟩ := hels h3
      have h6 := headOk_sz h5 h3 hhd
      subst h6
      refine ⟨b, k + l * sz, ?_, hpos, RDels_cut h5 hlr hrn⟩
      rw [if_neg (by omega)]
      simp [add_plain]
    refine ⟨?_, hne⟩
    simp only [RDc]
    refine ⟨_, _, _, rfl, hlen.symm, by omega, fun hc => ?_⟩
    obtain ⟨b, k, h1, h2, h3⟩ := hne hc
    exact ⟨b, k, n, h1, h2, h3⟩
  cases K with
  | none =>
    have hmx : mx = none := by
      cases mx with
      | none => rfl
      | some y => simp [opdO] at hK
    subst hmx
    simp only [opRun] at hr
    split at hr
    · rename_i l hh tg i off len h1 h2 hev
      split at hr <;> simp only [Option.some.injEq, Prod.mk.injEq, reduceCtorEq] at hr
      rename_i l' r' hb
      obtain ⟨rfl, rfl, rfl⟩ := hr
      obtain ⟨vl, el', hl⟩ := evO_sound hs hL h1
      obtain ⟨vh, eh, hh'⟩ := evO_sound hs hH h2
      have ra := hs.evV hX hev
      simp only [RA] at ra
      obtain ⟨p, cap, ex, hcap, hp', _⟩ := ra
      obtain ⟨hrun, hlr, hrn⟩ := sliceBounds_sound (P := P) (w := w) (isSl := true) hcap hl hh' hb
      refine Goes.same hs hp (run0 p len cap l' r' cap vl vh none ex el' eh rfl hrun) ?_
      simp only [SlotR, RA]
      refine ⟨_, _, rfl, by omega, fun hlt => ?_, trivial⟩
      obtain ⟨b, h3, rfl⟩ := hp' (by omega)
      refine ⟨b, h3, ?_⟩
      rw [if_neg (by omega)]
      simp [add_plain]
    · rename_i l hh c hnot h1 h2 hev
      split at hr
      case h_2 => simp at hr
      rename_i xs hel
      split at hr
      case isFalse => simp at hr
      rename_i hhd
      split at hr <;> simp only [Option.some.injEq, Prod.mk.injEq, reduceCtorEq] at hr
      rename_i l' r' hb
      obtain ⟨rfl, rfl, rfl⟩ := hr
      obtain ⟨vl, el', hl⟩ := evO_sound hs hL h1
      obtain ⟨vh, eh, hh'⟩ := evO_sound hs hH h2
      have ra := hs.evV hX hev
      obtain ⟨p, cap, ex, hcap, _⟩ := RDc_lst (elems_RDc ra hel)
      obtain ⟨hrun, hlr, hrn⟩ := sliceBounds_sound (P := P) (w := w) (isSl := true) hcap hl hh' hb
      exact Goes.data hs hp (run0 p xs.length cap l' r' cap vl vh none ex el' eh rfl hrun) (RV_mk (data c xs l' r' p cap cap _ ra hel hhd ex hlr hrn (by omega)).1 rfl)
    · simp at hr
  | some k =>
    cases H with
    | none => simp [opRun] at hr
    | some H =>
    simp only [opRun] at hr
    split at hr
    case h_2 => simp at hr
    rename_i l hh m c h1 h2 h3 hev
    split at hr
    case h_2 => simp at hr
    rename_i xs hel
    split at hr
    case isFalse => simp at hr
    rename_i hhd
    split at hr
    case h_2 => simp at hr
    rename_i l' r' hb
    split at hr <;> simp only [Option.some.injEq, Prod.mk.injEq, reduceCtorEq] at hr
    rename_i hm
    obtain ⟨rfl, rfl, rfl⟩ := hr
    obtain ⟨vl, el', hl⟩ := evO_sound hs hL h1
    obtain ⟨vh, eh, hh'⟩ := evO_sound hs hH h2
    obtain ⟨vm, em, hm'⟩ := evO_sound hs hK (n := some m) (by simp [evO, h3])
    obtain ⟨k3, rfl⟩ := hm'
    have ra := hs.evV hX hev
    obtain ⟨p, cap, ex, hcap, _⟩ := RDc_lst (elems_RDc ra hel)
    have hne : vh ≠ none := by
      cases hi with
      | none => simp [opdO] at hH
      | some y => rw [← eh]; simp
    obtain ⟨hrun, hlr, hrn⟩ := sliceBounds3_sound (P := P) (w := w) (isSl := true) (k3 := k3) hcap hl hh' hne hb
    rw [← hm] at hrun
    obtain ⟨d1, d2⟩ := data c xs l' r' p cap r' _ ra hel hhd ex hlr hrn (Nat.le_refl _)
    refine Goes.same hs hp (run0 p xs.length cap l' r' r' vl vh _ ex el' eh em hrun) ?_
    simp only [SlotR, RA]
    exact ⟨_, _, rfl, d1, d2, trivial⟩
theorem goes_sliceA {t el : TypeId} {x : Operand} {lo hi : Option Operand} {X : Opd} {L H : Option Opd} {n len : Nat} (hop : o.op = .slice t x lo hi none) (ht : P.underlying t = some (.array len el)) (hsz : sizeT P el = some n)
    (hX : opd g.cid x = some X) (hL : opdO g.cid lo = some L) (hH : opdO g.cid hi = some H) (hs : SR g e h a w ρ own) (hp : own .pend = []) (hr : opRun C (.sliceA X len n L H) e h = some (s, e', h')) : Goes P o a w (Post g a w ρ own e' h' s) := by
  simp only [opRun] at hr
  split at hr
  case h_2 => simp at hr
  rename_i l hh tg i off h1 h2 hev
  split at hr <;> simp only [Option.some.injEq, Prod.mk.injEq, reduceCtorEq] at hr
  rename_i l' r' hb
  obtain ⟨rfl, rfl, rfl⟩ := hr
  obtain ⟨vl, el', hl⟩ := evO_sound hs hL h1
  obtain ⟨vh, eh, hh'⟩ := evO_sound hs hH h2
  have ra := hs.evV hX hev
  simp only [RA] at ra
  obtain ⟨b, hb', ex, _⟩ := ra
  obtain ⟨hrun, hlr, hrn⟩ := sliceBounds_sound (P := P) (w := w) (isSl := false) (Nat.le_refl len) hl hh' hb
  refine Goes.same hs hp (v := .slice (some (if len = l' then ⟨b, off, none⟩ else ⟨b, off + l' * n, none⟩)) (r' - l') (len - l')) ?_ ?_
  · simp [execOp, hop, Instr.sliceAt, run_underlying ht, ex, el', eh, hrun, run_sizeOf hsz, Instr.sureAddr, add_plain]
  · simp only [SlotR, RA]
    refine ⟨_, _, rfl, by omega, fun hlt => ⟨b, hb', ?_⟩, trivial⟩
    rw [if_neg (by omega)]
end
end Go.Ab

/-
  A machine without memory (part 13): comparisons of structs, cell by cell; conversions. Conditions: none (lemmas).
-/
namespace Go.Ab

section
variable {P : Program} {w : World} {cid : FuncId → Option Nat} {M : MSet}
theorem scEq_sound {t : Sc} {x y : D} {r : Bool} (h : scEq t x y = some r) {vx vy : Value} (hx : RDc cid w M x [vx]) (hy : RDc cid w M y [vy]) {ty : TypeId} {d : Nat} (hs : shT P d ty = some [t]) (hag : isAggT P ty = some false) :
    (∀ d', (Op.equalIn (d' + 1) ty vx vy).run P w = .ok r w) ∧ isAggV vx = false ∧ isAggV vy = false ∧ vx ≠ .nilIface := by
  cases d with
  | zero => simp [shT] at hs
  | succ d =>
    unfold shT at hs
    unfold scEq at h
    split at h <;> (try simp only [Option.some.injEq, reduceCtorEq] at h)
    · simp only [RDc, List.cons.injEq, and_true] at hx hy
      subst hx; subst hy; subst h
      split at hs <;> (try simp at hs)
      · rename_i hu
        exact ⟨fun d' => by simp [Op.equalIn, run_underlying hu], rfl, rfl, by simp⟩
      · rename_i fs hu
        simp [isAggT, hu] at hag
    · split at h <;> simp only [Option.some.injEq, reduceCtorEq] at h
      rename_i hkk
      simp only [RDc, List.cons.injEq, and_true] at hx hy
      subst hx; subst hy; subst h; subst hkk
      split at hs <;> (try simp at hs)
      · rename_i hu
        exact ⟨fun d' => by simp [Op.equalIn, run_underlying hu], rfl, rfl, by simp⟩
      · rename_i fs hu
        simp [isAggT, hu] at hag
    · simp only [RDc] at hx hy
      obtain ⟨bx, h1, rfl⟩ := hx
      obtain ⟨bY, h2, rfl⟩ := hy
      simp only [List.cons.injEq, and_true] at h1 h2
      subst h1; subst h2; subst h
      split at hs <;> (try simp at hs)
      · rename_i hu
        refine ⟨fun d' => ?_, rfl, rfl, by simp⟩
        simp only [Op.equalIn, run_underlying hu, Sem.run_bind, Result.andThen_ok, Sem.run_pure]
        rw [beq_toListBytes, ByteArray.toList_eq, ByteArray.toList_eq]
      · rename_i fs hu
        simp [isAggT, hu] at hag
theorem scEqs_append : ∀ (l1 l2 : List Sc) (as bs : List D) (r : Bool), scEqs (l1 ++ l2) as bs = some r → ∃ as1 as2 bs1 bs2 r1 r2, as = as1 ++ as2 ∧ bs = bs1 ++ bs2 ∧ scEqs l1 as1 bs1 = some r1 ∧ scEqs l2 as2 bs2 = some r2 ∧ r = (r1 && r2) ∧ as1.length = l1.length ∧ bs1.length = l1.length
  | [], l2, as, bs, r, h => ⟨[], as, [], bs, true, r, rfl, rfl, rfl, by simpa using h, by simp, rfl, rfl⟩
  | t :: l1, l2, as, bs, r, h => by
    cases as with
    | nil => simp [scEqs] at h
    | cons x as =>
      cases bs with
      | nil => simp [scEqs] at h
      | cons y bs =>
        simp only [List.cons_append, scEqs] at h
        split at h <;> simp only [Option.some.injEq, reduceCtorEq] at h
        rename_i q1 q2 e1 e2
        obtain ⟨as1, as2, bs1, bs2, r1, r2, rfl, rfl, e3, e4, rfl, e5, e6⟩ := scEqs_append l1 l2 as bs q2 e2
        refine ⟨x :: as1, as2, y :: bs1, bs2, q1 && r1, r2, rfl, rfl, by simp [scEqs, e1, e3], e4, ?_, by simp [e5], by simp [e6]⟩
        rw [← h, Bool.and_assoc]
theorem shT_agg {d : Nat} {t : TypeId} {l : List Sc} (h : shT P d t = some l) : (isAggT P t = some false ∧ ∃ c, l = [c]) ∨ (isAggT P t = some true ∧ ∃ fs d', d = d' + 1 ∧ P.underlying t = some (.struct fs) ∧ P.stoodInHeld t = false ∧ P.cutTypes.any (·.2 == t) = false ∧ shGo P (shT P d') 0 fs.toList = some l) := by
  cases d with
  | zero => simp [shT] at h
  | succ d =>
    unfold shT at h
    split at h
    · rename_i hu; simp only [Option.some.injEq] at h; exact .inl ⟨by simp [isAggT, hu], _, h.symm⟩
    · rename_i hu; simp only [Option.some.injEq] at h; exact .inl ⟨by simp [isAggT, hu], _, h.symm⟩
    · rename_i hu; simp only [Option.some.injEq] at h; exact .inl ⟨by simp [isAggT, hu], _, h.symm⟩
    · rename_i fs hu
      split at h
      · simp at h
      rename_i hc
      simp only [Bool.or_eq_true, not_or, Bool.not_eq_true] at hc
      exact .inr ⟨by simp [isAggT, hu], fs, d, rfl, hu, hc.1, hc.2, h⟩
    · simp at h
/-- equality of what stands in memory, by its cells. -/
theorem eqAgg_run : ∀ (d : Nat),
    (∀ (t : TypeId) (l : List Sc) (as bs : List D) (r : Bool) (xs ys : List Value) (D' : Nat), shT P d t = some l → isAggT P t = some true → scEqs l as bs = some r → RDall cid w M as xs → RDall cid w M bs ys → d ≤ D' →
      (Op.equalIn D' t (.agg xs.toArray) (.agg ys.toArray)).run P w = .ok r w) ∧
    (∀ (fs : List Field) (off : Nat) (l : List Sc) (as bs : List D) (r : Bool) (xs ys xs0 ys0 : List Value) (D' : Nat), shGo P (shT P d) off fs = some l → scEqs l as bs = some r → RDall cid w M as xs → RDall cid w M bs ys → xs0.length = off → ys0.length = off → d ≤ D' →
      (Op.eqFields D' (xs0 ++ xs).toArray (ys0 ++ ys).toArray fs).run P w = .ok r w)
  | 0 => by
    refine ⟨fun t l as bs r xs ys D' h => by simp [shT] at h, fun fs off l as bs r xs ys xs0 ys0 D' h h1 hx hy _ _ _ => ?_⟩
    cases fs with
    | nil =>
      simp only [shGo, Option.some.injEq] at h; subst h
      cases as <;> cases bs <;> simp [scEqs] at h1
      subst h1
      simp [Op.eqFields]
    | cons f fs =>
      simp only [shGo, shT] at h
      split at h <;> simp at h
  | d + 1 => by
    obtain ⟨ih1, ih2⟩ := eqAgg_run d
    have part1 : ∀ (t : TypeId) (l : List Sc) (as bs : List D) (r : Bool) (xs ys : List Value) (D' : Nat), shT P (d + 1) t = some l → isAggT P t = some true → scEqs l as bs = some r → RDall cid w M as xs → RDall cid w M bs ys → d + 1 ≤ D' →
      (Op.equalIn D' t (.agg xs.toArray) (.agg ys.toArray)).run P w = .ok r w := by
      intro t l as bs r xs ys D' h hag h1 hx hy hD
      rcases shT_agg h with ⟨h2, _⟩ | ⟨_, fs, d', hd, hu, hp, _, hgo⟩
      · rw [h2] at hag; simp at hag
      · simp only [Nat.add_right_cancel_iff] at hd; subst hd
        obtain ⟨D'', rfl⟩ : ∃ k, D' = k + 1 := ⟨D' - 1, by omega⟩
        have hf : P.fieldsOf t = fs := by simp [Program.fieldsOf, hu]
        rw [run_equalIn_struct w D'' t _ _ (by rw [hf]; exact hu) hp, hf]
        have := ih2 fs.toList 0 l as bs r xs ys [] [] D'' hgo h1 hx hy rfl rfl (by omega)
        simpa using this
    refine ⟨part1, ?_⟩
    intro fs
    induction fs with
    | nil =>
      intro off l as bs r xs ys xs0 ys0 D' h h1 hx hy _ _ _
      simp only [shGo, Option.some.injEq] at h; subst h
      cases as <;> cases bs <;> simp [scEqs] at h1
      subst h1
      simp [Op.eqFields]
    | cons f fs ihf =>
      intro off l as bs r xs ys xs0 ys0 D' h h1 hx hy hx0 hy0 hD
      simp only [shGo] at h
      split at h
      case isFalse => simp at h
      rename_i hname
      simp only [Bool.and_eq_true, bne_iff_ne, ne_eq, beq_iff_eq] at hname
      split at h
      case h_2 => simp at h
      rename_i lf hlf
      split at h
      case isFalse => simp at h
      rename_i hsz
      split at h <;> simp only [Option.some.injEq, reduceCtorEq] at h
      rename_i lr hlr
      subst h
      obtain ⟨as1, as2, bs1, bs2, r1, r2, rfl, rfl, e3, e4, rfl, e5, e6⟩ := scEqs_append lf lr as bs r h1
      obtain ⟨xs1, xs2, rfl, hx1, hx2⟩ := (RDall_append _ _ _).1 hx
      obtain ⟨ys1, ys2, rfl, hy1, hy2⟩ := (RDall_append _ _ _).1 hy
      have lx1 := RDall_length _ _ hx1
      have ly1 := RDall_length _ _ hy1
      -- the field's own comparison
      have hfield : ∃ va vb, (part f.type (xs0 ++ (xs1 ++ xs2)).toArray f.offset).run P w = .ok va w ∧ (part f.type (ys0 ++ (ys1 ++ ys2)).toArray f.offset).run P w = .ok vb w ∧ (Op.equalIn D' f.type va vb).run P w = .ok r1 w := by
        have ux : xs1 = ((xs0 ++ (xs1 ++ xs2)).drop f.offset).take xs1.length := by
          rw [hname.2, ← hx0, List.drop_left, List.take_left]
        have uy : ys1 = ((ys0 ++ (ys1 ++ ys2)).drop f.offset).take ys1.length := by
          rw [hname.2, ← hy0, List.drop_left, List.take_left]
        rcases shT_agg hlf with ⟨hag, c, rfl⟩ | ⟨hag, _⟩
        · refine ⟨_, _, run_part hsz hag ux (by rw [lx1, e5]; rfl) (by simp; omega), run_part hsz hag uy (by rw [ly1, e6]; rfl) (by simp; omega), ?_⟩
          obtain ⟨u, rfl⟩ := List.length_eq_one_iff.1 (show xs1.length = 1 by rw [lx1, e5]; rfl)
          obtain ⟨v, rfl⟩ := List.length_eq_one_iff.1 (show ys1.length = 1 by rw [ly1, e6]; rfl)
          obtain ⟨da, rfl⟩ := List.length_eq_one_iff.1 (show as1.length = 1 by simpa using e5)
          obtain ⟨db, rfl⟩ := List.length_eq_one_iff.1 (show bs1.length = 1 by simpa using e6)
          simp only [scEqs, Bool.and_true] at e3
          split at e3 <;> simp only [Option.some.injEq, reduceCtorEq] at e3
          rename_i q1 q2 hq hq2
          simp only [Option.some.injEq] at hq2
          subst hq2
          simp only [Bool.and_true] at e3
          subst e3
          obtain ⟨k, rfl⟩ : ∃ k, D' = k + 1 := ⟨D' - 1, by omega⟩
          simp only [RDall] at hx1 hy1
          obtain ⟨u', _, hu', _, hx1, _⟩ := hx1
          obtain ⟨v', _, hv', _, hy1, _⟩ := hy1
          simp only [List.cons.injEq] at hu' hv'
          simp only [valOf, Bool.false_eq_true, if_false, List.headD_cons]
          exact (scEq_sound hq (hu'.1 ▸ hx1) (hv'.1 ▸ hy1) hlf hag).1 k
        · refine ⟨_, _, run_part hsz hag ux (by rw [lx1, e5]; rfl) (by simp; omega), run_part hsz hag uy (by rw [ly1, e6]; rfl) (by simp; omega), ?_⟩
          simp only [valOf, if_true]
          exact part1 f.type lf as1 bs1 r1 xs1 ys1 D' hlf hag e3 hx1 hy1 hD
      obtain ⟨va, vb, p1, p2, p3⟩ := hfield
      have rest := ihf (off + lf.length) lr as2 bs2 r2 xs2 ys2 (xs0 ++ xs1) (ys0 ++ ys1) D' hlr e4 hx2 hy2 (by simp; omega) (by simp; omega) hD
      rw [List.append_assoc, List.append_assoc] at rest
      simp only [Op.eqFields, hname.1, ne_eq, not_false_eq_true, if_true, Sem.run_bind, p1, p2, p3, Result.andThen_ok]
      cases r1 with
      | true => simpa using rest
      | false => simp
theorem RV0_of_RV {d : D} {v : Value} (h : RV cid w M d v) (hf : d.fine = true) : RV0 cid w M d v := (RV_fine hf).1 h
/-- equality of data, by its shape. -/
theorem shEq_run {t : TypeId} {sh : Sh} (ht : shOf P t = some sh) {x y : D} {r : Bool} (h : shEq sh x y = some r) {vx vy : Value} (hx : RV0 cid w M x vx) (hy : RV0 cid w M y vy) :
    (Op.equal t vx vy).run P w = .ok r w ∧ vx ≠ .nilIface ∧ ((isAggV vx = false) ∨ (∃ xs ys, vx = .agg xs ∧ vy = .agg ys ∧ P.eqGuardType P.depth t = false)) := by
  unfold shOf at ht
  split at ht
  · rename_i c h1 h2
    simp only [Option.some.injEq] at ht; subst ht
    simp only [shEq] at h
    have hxa : x.isAgg = false := by unfold scEq at h; split at h <;> first | rfl | simp at h
    have hya : y.isAgg = false := by unfold scEq at h; split at h <;> first | rfl | simp at h
    obtain ⟨e1, _, _⟩ := RV0_one hx hxa
    obtain ⟨e2, _, _⟩ := RV0_one hy hya
    obtain ⟨q1, q2, _, q3⟩ := scEq_sound h e1 e2 h1 h2
    exact ⟨q1 9999, q3, .inl q2⟩
  · rename_i l h1 h2
    split at ht <;> simp only [Option.some.injEq, reduceCtorEq] at ht
    rename_i hc
    subst ht
    unfold shEq at h
    split at h
    · rename_i hbad; simp at hbad
    · rename_i ts as bs heq
      simp only [Sh.many.injEq] at heq
      subst heq
      obtain ⟨xs, rfl, hxs⟩ := RV0_agg hx
      obtain ⟨ys, rfl, hys⟩ := RV0_agg hy
      have := (eqAgg_run (P := P) (w := w) (cid := cid) (M := M) 12).1 t l as bs r xs.toList ys.toList 10000 h1 h2 h hxs hys (by omega)
      exact ⟨by simpa [Op.equal, Op.maxDepth] using this, by simp, .inr ⟨_, _, rfl, rfl, hc.2⟩⟩
    · simp at h
  · simp at ht
end

section
variable {P : Program} {o : Oper} {g : Gh} {e e' : Env} {h h' : Heap} {a : Act} {w : World} {ρ : Rho} {own : OwnF} {C : Ctx} {s : Slot}
theorem binOp_eql {t : TypeId} {vx vy : Value} {r : Bool} (h : (Op.equal t vx vy).run P w = .ok r w) (hv : (∃ b, vx = .bool b) ∨ ∃ xs, vx = .agg xs) (neg : Bool) :
    (binOp (if neg then .neq else .eql) t vx vy).run P w = .ok (.bool (if neg then !r else r)) w := by
  rcases hv with ⟨b, rfl⟩ | ⟨xs, rfl⟩
  · cases neg
    · simp only [Bool.false_eq_true, if_false]
      have : binOp .eql t (.bool b) vy = (do pure (.bool (← Op.equal t (.bool b) vy))) := rfl
      simp [this, h]
    · simp only [if_true]
      have : binOp .neq t (.bool b) vy = (do pure (.bool (!(← Op.equal t (.bool b) vy)))) := rfl
      simp [this, h]
  · cases neg
    · simp only [Bool.false_eq_true, if_false]
      have : binOp .eql t (.agg xs) vy = (do pure (.bool (← Op.equal t (.agg xs) vy))) := rfl
      simp [this, h]
    · simp only [if_true]
      have : binOp .neq t (.agg xs) vy = (do pure (.bool (!(← Op.equal t (.agg xs) vy)))) := rfl
      simp [this, h]
theorem goes_eqAgg {op : BinOp} {t yt : TypeId} {x y : Operand} {X Y : Opd} {neg : Bool} {sh : Sh} (hop : o.op = .binOp op t x y yt) (hneg : op = if neg then .neq else .eql) (ht : shOf P t = some sh) (hsh : sh = .one .b ∨ ∃ l, sh = .many l)
    (hX : opd g.cid x = some X) (hY : opd g.cid y = some Y) (hs : SR g e h a w ρ own) (hp : own .pend = []) (hr : opRun C (.eqAgg neg sh X Y) e h = some (s, e', h')) : Goes P o a w (Post g a w ρ own e' h' s) := by
  simp only [opRun] at hr
  split at hr
  case h_2 => simp at hr
  rename_i da db h1 h2
  split at hr <;> simp only [Option.some.injEq, Prod.mk.injEq, reduceCtorEq] at hr
  rename_i r hb
  obtain ⟨rfl, rfl, rfl⟩ := hr
  have ra := hs.evD hX h1
  have rb := hs.evD hY h2
  have fa : da.fine = true := by rcases hsh with rfl | ⟨l, rfl⟩ <;> cases da <;> first | rfl | (simp [shEq, scEq] at hb; done)
  have fb : db.fine = true := by rcases hsh with rfl | ⟨l, rfl⟩ <;> cases da <;> first | (simp [shEq, scEq] at hb; done) | (cases db <;> first | rfl | (simp [shEq, scEq] at hb; done))
  obtain ⟨k1, k2, k3⟩ := shEq_run ht hb ((RV_fine fa).1 ra) ((RV_fine fb).1 rb)
  have hv : (∃ b, a.eval x = .bool b) ∨ ∃ xs, a.eval x = .agg xs := by
    rcases hsh with rfl | ⟨l, rfl⟩
    · cases da <;> first | (simp [shEq, scEq] at hb; done) | skip
      exact .inl ⟨_, RV_bool ra⟩
    · cases da <;> first | (simp [shEq, scEq] at hb; done) | skip
      obtain ⟨xs, hx, _⟩ := RV0_agg ((RV_fine rfl).1 ra)
      exact .inr ⟨xs, hx⟩
  refine Goes.data hs hp (v := .bool (if neg then !r else r)) ?_ RV_boolI
  have hg : (eqGuard op t x y (a.eval x) (a.eval y)).run P w = .ok () w := by
    rcases k3 with k3 | ⟨xs, ys, e1, e2, k3⟩
    · exact eqGuard_plain k2 k3
    · rw [e1, e2]; exact run_eqGuard_agg w op t x y xs ys k3
  subst hneg
  simp only [execOp, hop, Sem.run_bind, hg, Result.andThen_ok, binOp_eql k1 hv neg, Sem.run_pure]

/-! ### conversions -/
theorem bytes_RDels {cid : FuncId → Option Nat} {M : MSet} {b : Nat} : ∀ (s : List UInt8) (o : Nat), cellsAt w M b o (s.map fun x => Value.int .u8 (x.toNat : Int)) → RDels cid w M (bytesD s) b o 1
  | [], _, _ => by simp [bytesD, RDels]
  | x :: s, o, h => by
    simp only [bytesD, List.map_cons, RDels]
    refine ⟨⟨[.int .u8 (x.toNat : Int)], rfl, by simp [RDc], ?_⟩, ?_⟩
    · intro j v hj
      cases j with
      | zero => simp at hj; subst hj; exact h 0 _ (by simp)
      | succ j => simp at hj
    · refine bytes_RDels s (o + 1) fun j v hj => ?_
      have := h (j + 1) v (by simpa using hj)
      rwa [show o + (j + 1) = o + 1 + j by omega] at this
theorem RDels_bytes {cid : FuncId → Option Nat} {M : MSet} {b sz : Nat} : ∀ (xs : List D) (s : List UInt8) (o : Nat), numsByte xs = some s → RDels cid w M xs b o sz → ∃ cs : List Value, cs.length = xs.length ∧ (xs ≠ [] → sz = 1) ∧ cellsAt w M b o cs ∧ ∃ ns : List Int, cs = ns.map (Value.int .u8) ∧ s = ns.map fun n => UInt8.ofNat n.toNat
  | [], s, o, h, _ => by
    simp only [numsByte, Option.some.injEq] at h; subst h
    exact ⟨[], rfl, by simp, fun j v hj => by simp at hj, [], rfl, rfl⟩
  | x :: xs, s, o, h, hd => by
    unfold numsByte at h
    split at h
    case h_1 => rename_i heq; simp at heq
    case h_3 => simp at h
    rename_i n r heq
    simp only [List.cons.injEq] at heq
    obtain ⟨rfl, rfl⟩ := heq
    split at h <;> simp only [Option.some.injEq, reduceCtorEq] at h
    rename_i s' hs'
    subst h
    simp only [RDels] at hd
    obtain ⟨⟨vs, h1, h2, h3⟩, h4⟩ := hd
    simp only [RDc] at h2
    subst h2
    simp only [List.length_cons, List.length_nil, Nat.zero_add] at h1
    subst h1
    obtain ⟨cs, c1, _, c3, ns, c4, c5⟩ := RDels_bytes xs s' (o + 1) hs' h4
    refine ⟨.int .u8 n :: cs, by simp [c1], fun _ => rfl, ?_, n :: ns, by simp [c4], by simp [c5]⟩
    intro j v hj
    cases j with
    | zero => simp at hj; subst hj; exact h3 0 _ rfl
    | succ j =>
      have := c3 j v (by simpa using hj)
      rwa [show o + 1 + j = o + (j + 1) by omega] at this
theorem goes_conv_int {sT dT : TypeId} {k k0 : IntKind} {x : Operand} {X : Opd} (hop : o.op = .convert sT dT x) (h1 : P.underlying sT = some (.int k0)) (h2 : P.underlying dT = some (.int k))
    (hX : opd g.cid x = some X) (hs : SR g e h a w ρ own) (hp : own .pend = []) (hr : opRun C (.conv (.int k) X) e h = some (s, e', h')) : Goes P o a w (Post g a w ρ own e' h' s) := by
  simp only [opRun] at hr
  split at hr
  case h_2 => simp at hr
  rename_i c hev
  have ra := hs.evw hX hev
  cases c with
  | d x1 =>
    cases x1 <;> simp only [conv, reduceCtorEq] at hr
    simp only [Option.some.injEq, Prod.mk.injEq] at hr
    obtain ⟨rfl, rfl, rfl⟩ := hr
    simp only [RA] at ra
    have ea := RV_int ra.1
    exact Goes.data hs hp (by simp [execOp, hop, convert, run_underlying h1, run_underlying h2, ea, Conv.intToInt]) RV_intI
  | _ => simp [conv] at hr
theorem goes_conv_rune {sT dT : TypeId} {k0 : IntKind} {x : Operand} {X : Opd} (hop : o.op = .convert sT dT x) (h1 : P.underlying sT = some (.int k0)) (h2 : P.underlying dT = some .string)
    (hX : opd g.cid x = some X) (hs : SR g e h a w ρ own) (hp : own .pend = []) (hr : opRun C (.conv .runeStr X) e h = some (s, e', h')) : Goes P o a w (Post g a w ρ own e' h' s) := by
  simp only [opRun] at hr
  split at hr
  case h_2 => simp at hr
  rename_i c hev
  have ra := hs.evw hX hev
  cases c with
  | d x1 =>
    cases x1 <;> simp only [conv, reduceCtorEq] at hr
    simp only [Option.some.injEq, Prod.mk.injEq] at hr
    obtain ⟨rfl, rfl, rfl⟩ := hr
    simp only [RA] at ra
    have ea := RV_int ra.1
    exact Goes.data hs hp (by simp [execOp, hop, convert, run_underlying h1, run_underlying h2, ea, Conv.intToString]) RV_strI
  | _ => simp [conv] at hr
theorem goes_conv_bytesStr {sT dT el : TypeId} {x : Operand} {X : Opd} (hop : o.op = .convert sT dT x) (h1 : P.underlying sT = some (.slice el)) (he : P.underlying el = some (.int .u8)) (h2 : P.underlying dT = some .string)
    (hX : opd g.cid x = some X) (hs : SR g e h a w ρ own) (hp : own .pend = []) (hr : opRun C (.conv .bytesStr X) e h = some (s, e', h')) : Goes P o a w (Post g a w ρ own e' h' s) := by
  simp only [opRun] at hr
  split at hr
  case h_2 => simp at hr
  rename_i c hev
  have ra := hs.evw hX hev
  cases c with
  | d x1 =>
    cases x1 <;> simp only [conv, reduceCtorEq] at hr
    rename_i xs
    split at hr <;> simp only [Option.some.injEq, Prod.mk.injEq, reduceCtorEq] at hr
    rename_i r hr'
    simp only [Option.map_eq_some_iff] at hr'
    obtain ⟨bs, hbs, rfl⟩ := hr'
    obtain ⟨rfl, rfl, rfl⟩ := hr
    simp only [RA] at ra
    obtain ⟨p, cap, ex, hcap, hels⟩ := RDc_lst (RV_lst ra.1)
    have run0 : ∀ v, (Conv.bytesToString (.slice p xs.length cap)).run P w = .ok v w → (execOp a.eval o).run P w = .ok (.value v) w := by
      intro v hv
      simp [execOp, hop, ex, run_convert_bytes_string w sT dT el p xs.length cap h1 he h2, hv]
    cases p with
    | none =>
      have hxs : xs = [] := by
        cases xs with
        | nil => rfl
        | cons y ys =>
          obtain ⟨_, _, _, h3, _⟩ := hels (by simp)
          simp at h3
      subst hxs
      simp only [numsByte, Option.some.injEq] at hbs; subst hbs
      exact Goes.data hs hp (run0 (.string .empty) (by simp [Conv.bytesToString])) (RV_mk (by simp only [RDc]; exact ⟨_, rfl, rfl⟩) rfl)
    | some ad =>
      have hload : ∃ ns : List Int, (loadCells ad xs.length).run P w = .ok (ns.map (Value.int .u8)).toArray w ∧ bs = ns.map fun n => UInt8.ofNat n.toNat := by
        by_cases hne : xs = []
        · subst hne
          simp only [numsByte, Option.some.injEq] at hbs; subst hbs
          exact ⟨[], by simp [loadCells, loadCellsFrom], rfl⟩
        · obtain ⟨b, k, sz, h3, h4, h5⟩ := hels hne
          simp only [Option.some.injEq] at h3; subst h3
          obtain ⟨cs, c1, _, c3, ns, rfl, c5⟩ := RDels_bytes xs bs k hbs h5
          refine ⟨ns, ?_, c5⟩
          have := run_loadCells_list (P := P) w ⟨b, k, none⟩ (ns.map (Value.int .u8)) (fun j v hj => by rw [add_plain]; exact (c3 j v hj).1)
          rwa [c1] at this
      obtain ⟨ns, hl, rfl⟩ := hload
      refine Goes.data hs hp (run0 _ (run_bytesToString w ad xs.length cap ns hl)) (RV_mk ?_ rfl)
      simp only [RDc]
      refine ⟨_, rfl, ?_⟩
      rw [foldl_push_bytes]
      simp
  | _ => simp [conv] at hr
theorem goes_conv_strBytes {sT dT el : TypeId} {x : Operand} {X : Opd} (hop : o.op = .convert sT dT x) (h1 : P.underlying sT = some .string) (h2 : P.underlying dT = some (.slice el)) (he : P.underlying el = some (.int .u8))
    (hX : opd g.cid x = some X) (hs : SR g e h a w ρ own) (hp : own .pend = []) (hr : opRun C (.conv .strBytes X) e h = some (s, e', h')) : Goes P o a w (Post g a w ρ own e' h' s) := by
  simp only [opRun] at hr
  split at hr
  case h_2 => simp at hr
  rename_i c hev
  have ra := hs.evw hX hev
  cases c with
  | d x1 =>
    cases x1 <;> simp only [conv, reduceCtorEq] at hr
    rename_i str
    simp only [Option.some.injEq, Prod.mk.injEq] at hr
    obtain ⟨rfl, rfl, rfl⟩ := hr
    simp only [RA] at ra
    obtain ⟨bs, ex, rfl⟩ := RV_str ra.1
    -- the block that is laid
    let capn := (Question.appendCap bs.size 0 el).cut (w.tape w.drawn (.appendCap bs.size 0 el))
    have hcap : bs.size ≤ capn := by simp only [capn, Question.cut]; omega
    let cells : Array Value := (bs.data.map fun b => Value.int .u8 (b.toNat : Int)) ++ Array.replicate (capn - bs.size) (.int .u8 0)
    have hrun : ∃ w', (execOp a.eval o).run P w = .ok (.value (.slice (some ⟨w.heap.size, 0, none⟩) bs.size capn)) w' ∧ Pushed w (.cells cells el (cells.size, cells.size + 1)) w' := by
      refine ⟨({ w with heap := w.heap.push (.cells cells el), drawn := w.drawn + 1 } : World).freeze { block := w.heap.size, off := cells.size } 1, ?_, ?_⟩
      · simp only [execOp, hop, convert, run_underlying h1, run_underlying h2, run_underlying he, ex, Conv.stringToBytes, Sem.run_bind, Result.andThen_ok, run_choose, Question.forced, Bool.false_eq_true, if_false, newRow, run_newObj, Sem.run_pure, markStringish, run_shape, World.shape?, Array.getElem?_push_size, run_freeze]
        rfl
      · refine ⟨?_, rfl, rfl, rfl⟩
        simp only [World.freeze, Nat.one_ne_zero, if_false]
        apply Array.ext_getElem?
        intro j
        rw [Array.getElem?_modify]
        by_cases hj : w.heap.size = j
        · subst hj
          simp [cells, capn]
        · simp only [hj, if_false]
          rw [Array.getElem?_push, Array.getElem?_push, if_neg (fun h => hj h.symm), if_neg (fun h => hj h.symm)]
    obtain ⟨w', hrun, hw⟩ := hrun
    refine .value hrun (Post.new hs hw hp (O := []) (.inl rfl) fun own' hs' hx hnew => ?_)
    simp only [SlotR, RA, and_true]
    refine RV_mk ?_ rfl
    simp only [RDc]
    refine ⟨_, _, _, rfl, by simp [bytesD], hcap, fun _ => ⟨w.heap.size, 0, 1, rfl, Nat.one_pos, bytes_RDels _ 0 ?_⟩⟩
    intro j v hj
    refine ⟨?_, fun hm => by obtain ⟨l, hl, _⟩ := hnew _ _ hm rfl; simp at hl⟩
    unfold World.cell?
    rw [hw.new]
    have hj' := (List.getElem?_eq_some_iff.1 hj).1
    simp only [Option.isSome_none, Bool.false_eq_true, if_false, Nat.zero_add, cells]
    simp only [List.length_map] at hj'
    rw [Array.getElem?_append_left (by simpa using hj')]
    rw [← hj]
    simp
  | _ => simp [conv] at hr
theorem goes_conv_bytesBytes {sT el : TypeId} {x : Operand} {X : Opd} (hop : o.op = .convert sT sT x) (h1 : P.underlying sT = some (.slice el)) (he : P.underlying el = some (.int .u8))
    (hX : opd g.cid x = some X) (hs : SR g e h a w ρ own) (hp : own .pend = []) (hr : opRun C (.conv .bytesBytes X) e h = some (s, e', h')) : Goes P o a w (Post g a w ρ own e' h' s) := by
  simp only [opRun] at hr
  split at hr
  case h_2 => simp at hr
  rename_i c e1 hev
  obtain ⟨own1, O, s1, ra, hpo, hM, _⟩ := hs.evt hX hev
  rw [hp, List.nil_append] at hpo
  unfold conv at hr
  split at hr <;> simp only [Option.some.injEq, Prod.mk.injEq, reduceCtorEq] at hr
  rename_i r hb
  obtain ⟨rfl, rfl, rfl⟩ := hr
  split at hb <;> simp only [Option.map_eq_some_iff, Option.some.injEq, reduceCtorEq] at hb
  case h_5 heq =>
    subst hb
    rename_i y ys
    simp only [RA] at ra
    obtain ⟨p, len, cap, ex, k1, k2⟩ := ra
    obtain ⟨p', cap', ex', hcap, _⟩ := RDc_lst (ex ▸ k1)
    simp only [Value.slice.injEq] at ex'
    obtain ⟨rfl, rfl, rfl⟩ := ex'
    rcases k2 with ⟨rfl, _⟩ | ⟨hpos, b, rfl, rfl, hels, cs, ty, fr, hb, hsz, hfr⟩
    · simp at hcap
    have hblt := (Array.getElem?_eq_some_iff.1 hb).1
    let fr' : Nat × Nat := if fr.1 == fr.2 then (cs.size, cs.size + 1) else (min fr.1 cs.size, max fr.2 (cs.size + 1))
    have hfr' : FrOk fr' cs.size := by
      simp only [fr']
      rcases hfr with hfr | hfr
      · rw [if_pos (by simpa using hfr)]; exact .inr (Nat.le_refl _)
      · split
        · exact .inr (Nat.le_refl _)
        · exact .inr (by simp only; omega)
    have hrun : ∃ w', (execOp a.eval o).run P w = .ok (.value (.slice (some ⟨b, 0, none⟩) (y :: ys).length cap)) w' ∧ Rewritten w b (.cells cs ty fr') w' := by
      refine ⟨w.freeze { block := b, off := cs.size } 1, ?_, ?_⟩
      · simp only [execOp, hop, convert, run_underlying h1, run_underlying he, ex, Sem.run_bind, Result.andThen_ok, beq_self_eq_true, Sem.run_pure, markStringish, run_shape, World.shape?, hb, run_freeze]
      · refine ⟨fun b' hb' => ?_, ?_, by simp [World.freeze], by simp [World.freeze]⟩
        · simp only [World.freeze, Nat.one_ne_zero, if_false]
          rw [Array.getElem?_modify, if_neg (fun h => hb' h.symm)]
        · simp only [World.freeze, Nat.one_ne_zero, if_false]
          rw [Array.getElem?_modify, if_pos rfl, hb]
          simp only [Option.map_some, fr']
    obtain ⟨w', hrun, hw⟩ := hrun
    refine .value hrun (Post.from hM ?_)
    have hcells : ∀ b' o', w'.cell? ⟨b', o', none⟩ = w.cell? ⟨b', o', none⟩ := by
      intro b' o'
      unfold World.cell?
      by_cases hbb : b' = b
      · subst hbb
        simp only [hw.new, hb]
      · simp only [hw.same b' hbb]
    have hx : Ext w (MOf g.M0 own1) w' (MOf g.M0 own1) :=
      { size := by rw [hw.size]; exact Nat.le_refl _, m := fun _ _ _ h => h, cell := fun b' o' v _ hc => by rw [hcells]; exact hc
        map := fun b' es cl _ hc => by
          by_cases hbb : b' = b
          · subst hbb; rw [hb] at hc; simp at hc
          · rw [hw.same b' hbb]; exact hc }
    have hs' : SR g e1 h a w' ρ own1 := by
      refine s1.trans (fun k => k = .pend) (fun _ _ _ h => h) hx (fun _ _ => rfl) (fun b' _ hk => ?_) hw.os (fun _ _ h _ => h) (fun _ _ _ _ h => by simp at h) (fun _ _ _ h => by simp at h) (fun _ _ _ h _ => h) (fun _ _ _ _ h => by simp at h) s1.hdom (fun k _ => s1.nodup k) (fun k k' b' _ _ hne => s1.disj k k' b' hne) (fun k b' l hk hm => .inl ⟨k, l, hk, hm, Nat.le_refl _⟩)
      refine hw.same b' ?_
      rintro rfl
      exact hk .pend rfl (by rw [hpo]; simp [blocks])
    refine ⟨ρ, own1, hs', ?_, fun _ _ _ h => h, hx⟩
    rw [hpo]
    simp only [SlotR, RA]
    exact ⟨_, _, _, rfl, by rw [← ex]; exact RDc_mono hx _ _ k1, .inr ⟨hpos, b, rfl, rfl, RDels_mono hx _ _ _ _ hels, cs, ty, fr', hw.new, hsz, hfr'⟩⟩
  all_goals (try (simp_all; done))
end
end Go.Ab

/-
  A machine without memory (part 14): structs, arrays and slices that are built; boxes. Conditions: none (lemmas).
-/
namespace Go.Ab

/-- two lists, part by part. -/
inductive Two {α β : Type} (R : α → β → Prop) : List α → List β → Prop
  | nil : Two R [] []
  | cons {a : α} {b : β} {as : List α} {bs : List β} : R a b → Two R as bs → Two R (a :: as) (b :: bs)
/-! ### rows of cells -/
section
theorem foldl_put : ∀ (vs : List Value) (k off : Nat) (cs : Array Value), off + k + vs.length ≤ cs.size →
    ((vs.zipIdx k).foldl (fun (cs : Array Value) (p : Value × Nat) => cs.setIfInBounds (off + p.2) p.1) cs).toList = putCells cs.toList vs (off + k)
  | [], k, off, cs, _ => by simp [putCells]
  | v :: vs, k, off, cs, h => by
    simp only [List.length_cons] at h
    simp only [List.zipIdx_cons, List.foldl_cons]
    rw [foldl_put vs (k + 1) off _ (by simp; omega)]
    apply List.ext_getElem?
    intro j
    rw [putCells_get (by simp; omega), putCells_get (by simp; omega)]
    simp only [Array.toList_setIfInBounds, List.getElem?_set, List.length_cons]
    by_cases h1 : j < off + k
    · rw [if_pos (by omega), if_pos h1, if_neg (by omega)]
    · rw [if_neg h1]
      by_cases h2 : j = off + k
      · subst h2
        have : off + k < cs.size := by omega
        simp [this]
      · rw [if_neg (by omega)]
        by_cases h3 : j < off + (k + 1) + vs.length
        · rw [if_pos h3, if_pos (by omega)]
          have : j - (off + k) = (j - (off + (k + 1))) + 1 := by omega
          rw [this, List.getElem?_cons_succ]
        · rw [if_neg h3, if_neg (by omega), if_neg (by omega)]
theorem fill_step {place : Nat → Option (Nat × Nat)} {cells : Array Value} {i off size : Nat} {v : Value} {rest : List (Nat × Value)} (hp : place i = some (off, size)) (hs : v.cells.size = size) (hle : off + size ≤ cells.size) :
    ∃ cells' : Array Value, cells'.toList = putCells cells.toList v.cells.toList off ∧ cells'.size = cells.size ∧ Instr.fill place cells ((i, v) :: rest) = Instr.fill place cells' rest := by
  refine ⟨v.cells.zipIdx.foldl (fun cs (c, j) => cs.setIfInBounds (off + j) c) cells, ?_, ?_, ?_⟩
  · rw [← Array.foldl_toList, Array.toList_zipIdx]
    have := foldl_put v.cells.toList 0 off cells (by simp; omega)
    simpa using this
  · have h1 : (v.cells.zipIdx.foldl (fun (cs : Array Value) (p : Value × Nat) => cs.setIfInBounds (off + p.2) p.1) cells).toList.length = cells.size := by
      rw [← Array.foldl_toList, Array.toList_zipIdx, foldl_put v.cells.toList 0 off cells (by simp; omega), putCells_length (by simp; omega)]
      simp
    simpa using h1
  · simp only [Instr.fill, hp]
    rw [if_neg]
    simp [hs]; omega
theorem mapM_run {α β : Type} {P : Program} {w : World} {f : α → Sem β} {g : α → β} : ∀ (xs : List α), (∀ x ∈ xs, (f x).run P w = .ok (g x) w) → (xs.mapM f).run P w = .ok (xs.map g) w
  | [], _ => by simp
  | x :: xs, h => by
    rw [List.mapM_cons]
    simp only [Sem.run_bind, h x (by simp), Result.andThen_ok, mapM_run xs (fun y hy => h y (by simp [hy])), Sem.run_pure, List.map_cons]
theorem arr_mapM_run {α β : Type} {P : Program} {w : World} {f : α → Sem β} {g : α → β} (xs : Array α) (h : ∀ x ∈ xs.toList, (f x).run P w = .ok (g x) w) : (xs.mapM f).run P w = .ok (xs.map g) w := by
  rw [Array.mapM_eq_mapM_toList]
  simp only [Sem.run_map, mapM_run (g := g) xs.toList h, Result.andThen_ok]
  congr 1
  apply Array.ext'; simp
end

section
variable {P : Program} {o : Oper} {g : Gh} {e e' : Env} {h h' : Heap} {a : Act} {w : World} {ρ : Rho} {own : OwnF} {C : Ctx} {s : Slot}
theorem buildGo_sound (hs : SR g e h a w ρ own) {place : Nat → Option (Nat × Nat)} : ∀ {ps : List (Nat × Operand)} {qs : List (Nat × Nat × Opd)} {c r : AV} {cells : Array Value},
    (Two (fun (p : Nat × Operand) (q : Nat × Nat × Opd) => place p.1 = some (q.1, q.2.1) ∧ opd g.cid p.2 = some q.2.2) ps qs) → c.fine = true → RAs g.cid w (MOf g.M0 own) ρ c.cells cells.toList [] → c.cells.all AV.one = true → buildGo e c qs = some r →
    ∃ cells', Instr.fill place cells (ps.map fun p => (p.1, a.eval p.2)) = some cells' ∧ RAs g.cid w (MOf g.M0 own) ρ r.cells cells'.toList [] ∧ r.cells.all AV.one = true ∧ r.fine = true ∧ r.isAgg = c.isAgg
  | [], _, c, r, cells, hf, hfc, hra, h1, hr => by
    cases hf
    simp only [buildGo, Option.some.injEq] at hr; subst hr
    exact ⟨cells, rfl, hra, h1, hfc, rfl⟩
  | (i, x) :: ps, _, c, r, cells, hf, hfc, hra, h1, hr => by
    cases hf with
    | cons hq hf =>
      rename_i q qs
      obtain ⟨off, n, X⟩ := q
      obtain ⟨hp, hX⟩ := hq
      simp only at hp hX
      simp only [buildGo] at hr
      split at hr
      case h_2 => simp at hr
      rename_i v hev
      split at hr
      case isFalse => simp at hr
      rename_i hc
      split at hr
      case h_2 => simp at hr
      rename_i c' hw
      have rv := hs.evw hX hev
      obtain ⟨b1, b2, b3, b4⟩ := RA_box rv hc.1
      have hl := RAs_length _ _ _ hra
      obtain ⟨O1, O2, O3, eO, a1, _, a3⟩ := RAs_split hra off v.cells.length
      obtain ⟨rfl, rfl, rfl⟩ : O1 = [] ∧ O2 = [] ∧ O3 = [] := by
        have := eO.symm; simp only [List.append_eq_nil_iff] at this; exact ⟨this.1.1, this.1.2, this.2⟩
      obtain ⟨d1, d2, d3, d4, d5, d6⟩ := write_sound hfc hc.1 hl b3 a1 a3 b1 h1 b2 hw
      have hsz : (a.eval x).cells.size = n := by rw [← hc.2, ← b3]; simp
      obtain ⟨cells', e1, e2, e3⟩ := fill_step (cells := cells) (rest := ps.map fun p => (p.1, a.eval p.2)) (v := a.eval x) hp hsz (by simp at d4; omega)
      obtain ⟨cells'', f1, f2, f3, f4, f5⟩ := buildGo_sound hs (cells := cells') hf d5 (by rw [e1]; simpa using d1) d2 hr
      exact ⟨cells'', by rw [List.map_cons, e3]; exact f1, f2, f3, f4, f5.trans d6⟩
theorem RAs_zero {z : AV} {v : Value} {cid : FuncId → Option Nat} {M : MSet} (hz : constAV v = some z) : RAs cid w M ρ z.cells v.cells.toList [] ∧ z.cells.all AV.one = true ∧ z.fine = true ∧ v.cells.toList.length = z.cells.length := by
  obtain ⟨h1, h2⟩ := constAV_RA (cid := cid) (w := w) (M := M) (ρ := ρ) hz
  obtain ⟨h3, h4, h5, _⟩ := RA_box h1 h2
  exact ⟨h3, h4, h2, h5⟩
theorem goes_build_struct {t : TypeId} {parts : Array (Nat × Operand)} {fs : Array Field} {z : AV} {qs : List (Nat × Nat × Opd)} (hop : o.op = .build t parts) (h1 : P.underlying t = some (.struct fs)) (hz : zeroT P t = some z) (hza : z.isAgg = true) (hall : fs.toList.all (fun f => (sizeT P f.type).isSome) = true)
    (hq : bparts P g.cid fs parts.toList = some qs) (hs : SR g e h a w ρ own) (hp : own .pend = []) (hr : opRun C (.build z qs) e h = some (s, e', h')) : Goes P o a w (Post g a w ρ own e' h' s) := by
  simp only [opRun] at hr
  split at hr <;> simp only [Option.some.injEq, Prod.mk.injEq, reduceCtorEq] at hr
  rename_i r hb
  obtain ⟨rfl, rfl, rfl⟩ := hr
  obtain ⟨zv, hzc, hzr⟩ := run_zeroValue (w := w) hz
  obtain ⟨z1, z2, z3, z4⟩ := RAs_zero (w := w) (ρ := ρ) (cid := g.cid) (M := MOf g.M0 own) hzc
  have hsize : ∀ f ∈ fs.toList, ((fun f : Field => (do pure (f.offset, ← sizeOf f.type) : Sem (Nat × Nat))) f).run P w = .ok (f.offset, (sizeT P f.type).getD 0) w := by
    intro f hf
    rw [List.all_eq_true] at hall
    obtain ⟨n, hn⟩ := Option.isSome_iff_exists.1 (hall f hf)
    simp [run_sizeOf hn, hn]
  have hplaces := arr_mapM_run (P := P) (w := w) fs hsize
  have hrel : ∀ (ps : List (Nat × Operand)) (qs : List (Nat × Nat × Opd)), bparts P g.cid fs ps = some qs →
      Two (fun (p : Nat × Operand) (q : Nat × Nat × Opd) => (fs.map fun f => (f.offset, (sizeT P f.type).getD 0))[p.1]? = some (q.1, q.2.1) ∧ opd g.cid p.2 = some q.2.2) ps qs := by
    intro ps
    induction ps with
    | nil => intro qs hq; simp only [bparts, Option.some.injEq] at hq; subst hq; exact .nil
    | cons p ps ih =>
      obtain ⟨i, x⟩ := p
      intro qs hq
      simp only [bparts] at hq
      split at hq
      case h_2 => simp at hq
      rename_i f X rs hf hX hrs
      split at hq <;> simp only [Option.some.injEq, reduceCtorEq] at hq
      rename_i n hn
      subst hq
      exact .cons ⟨by simp [hf, hn], hX⟩ (ih _ hrs)
  obtain ⟨cells', f1, f2, f3, f4, f5⟩ := buildGo_sound hs (hrel _ _ hq) z3 z1 z2 hb
  refine Goes.same hs hp (v := .agg cells') ?_ ?_
  · have hmap : (parts.map fun (p : Nat × Operand) => (p.1, a.eval p.2)).toList = parts.toList.map fun p => (p.1, a.eval p.2) := by simp
    simp only [execOp, hop, Instr.build, Sem.run_bind, hzr, Result.andThen_ok, run_underlying h1, hplaces, Sem.run_pure]
    rw [hmap, f1]
    simp
  · simp only [SlotR]
    exact RA_agg_of_cells (f5.trans hza) f3 f2
theorem goes_build_array {t el : TypeId} {len n : Nat} {parts : Array (Nat × Operand)} {z : AV} {qs : List (Nat × Nat × Opd)} (hop : o.op = .build t parts) (h1 : P.underlying t = some (.array len el)) (hz : zeroT P t = some z) (hza : z.isAgg = true) (hn : sizeT P el = some n)
    (hq : aparts g.cid n parts.toList = some qs) (hs : SR g e h a w ρ own) (hp : own .pend = []) (hr : opRun C (.build z qs) e h = some (s, e', h')) : Goes P o a w (Post g a w ρ own e' h' s) := by
  simp only [opRun] at hr
  split at hr <;> simp only [Option.some.injEq, Prod.mk.injEq, reduceCtorEq] at hr
  rename_i r hb
  obtain ⟨rfl, rfl, rfl⟩ := hr
  obtain ⟨zv, hzc, hzr⟩ := run_zeroValue (w := w) hz
  obtain ⟨z1, z2, z3, z4⟩ := RAs_zero (w := w) (ρ := ρ) (cid := g.cid) (M := MOf g.M0 own) hzc
  have hrel : ∀ (ps : List (Nat × Operand)) (qs : List (Nat × Nat × Opd)), aparts g.cid n ps = some qs →
      Two (fun (p : Nat × Operand) (q : Nat × Nat × Opd) => (fun i => some (i * n, n)) p.1 = some (q.1, q.2.1) ∧ opd g.cid p.2 = some q.2.2) ps qs := by
    intro ps
    induction ps with
    | nil => intro qs hq; simp only [aparts, Option.some.injEq] at hq; subst hq; exact .nil
    | cons p ps ih =>
      obtain ⟨i, x⟩ := p
      intro qs hq
      simp only [aparts] at hq
      split at hq <;> simp only [Option.some.injEq, reduceCtorEq] at hq
      rename_i X rs hX hrs
      subst hq
      exact .cons ⟨rfl, hX⟩ (ih _ hrs)
  obtain ⟨cells', f1, f2, f3, f4, f5⟩ := buildGo_sound (place := fun i => some (i * n, n)) hs (hrel _ _ hq) z3 z1 z2 hb
  refine Goes.same hs hp (v := .agg cells') ?_ ?_
  · have hmap : (parts.map fun (p : Nat × Operand) => (p.1, a.eval p.2)).toList = parts.toList.map fun p => (p.1, a.eval p.2) := by simp
    simp only [execOp, hop, Instr.build, Sem.run_bind, hzr, Result.andThen_ok, run_underlying h1, run_sizeOf hn, Sem.run_pure]
    rw [hmap, f1]
    simp
  · simp only [SlotR]
    exact RA_agg_of_cells (f5.trans hza) f3 f2

/-! ### rows of elements -/
def RDflat (cid : FuncId → Option Nat) (w : World) (M : MSet) : List D → Nat → List Value → Prop
  | [], _, cs => cs = []
  | x :: xs, sz, cs => ∃ us r, cs = us ++ r ∧ us.length = sz ∧ RDc cid w M x us ∧ RDflat cid w M xs sz r
section
variable {cid : FuncId → Option Nat} {M : MSet}
theorem RDflat_length : ∀ (xs : List D) (sz : Nat) (cs : List Value), RDflat cid w M xs sz cs → cs.length = xs.length * sz
  | [], sz, cs, h => by simp only [RDflat] at h; simp [h]
  | x :: xs, sz, cs, h => by
    simp only [RDflat] at h
    obtain ⟨us, r, rfl, h1, _, h2⟩ := h
    simp [RDflat_length xs sz r h2, h1, Nat.add_mul, Nat.add_comm]
theorem RDflat_append : ∀ (xs ys : List D) (sz : Nat) (cs ds : List Value), RDflat cid w M xs sz cs → RDflat cid w M ys sz ds → RDflat cid w M (xs ++ ys) sz (cs ++ ds)
  | [], ys, sz, cs, ds, h, h2 => by simp only [RDflat] at h; subst h; simpa using h2
  | x :: xs, ys, sz, cs, ds, h, h2 => by
    simp only [RDflat] at h
    obtain ⟨us, r, rfl, h1, h3, h4⟩ := h
    simp only [List.cons_append, RDflat]
    exact ⟨us, r ++ ds, by rw [List.append_assoc], h1, h3, RDflat_append xs ys sz r ds h4 h2⟩
theorem RDflat_set : ∀ (xs : List D) (sz : Nat) (cs : List Value) (i : Nat) (x : D) (vs : List Value), RDflat cid w M xs sz cs → i < xs.length → vs.length = sz → RDc cid w M x vs → RDflat cid w M (xs.set i x) sz (putCells cs vs (i * sz))
  | [], sz, cs, i, x, vs, _, hi, _, _ => by simp at hi
  | y :: xs, sz, cs, 0, x, vs, h, hi, hl, hx => by
    simp only [RDflat] at h
    obtain ⟨us, r, rfl, h1, _, h2⟩ := h
    simp only [List.set_cons_zero, RDflat]
    refine ⟨vs, r, ?_, hl, hx, h2⟩
    unfold putCells
    simp [hl, ← h1]
  | y :: xs, sz, cs, i + 1, x, vs, h, hi, hl, hx => by
    simp only [RDflat] at h
    obtain ⟨us, r, rfl, h1, h0, h2⟩ := h
    simp only [List.set_cons_succ, RDflat]
    refine ⟨us, putCells r vs (i * sz), ?_, h1, h0, RDflat_set xs sz r i x vs h2 (by simpa using hi) hl hx⟩
    unfold putCells
    have e1 : (i + 1) * sz = us.length + i * sz := by rw [h1, Nat.add_mul]; omega
    rw [e1, List.take_append, List.take_of_length_le (by omega), Nat.add_sub_cancel_left, Nat.add_assoc, List.drop_append, List.drop_of_length_le (by omega)]
    simp
theorem RDflat_els {b : Nat} : ∀ (xs : List D) (sz : Nat) (cs : List Value) (o : Nat), RDflat cid w M xs sz cs → cellsAt w M b o cs → RDels cid w M xs b o sz
  | [], _, _, _, _, _ => by simp [RDels]
  | x :: xs, sz, cs, o, h, hc => by
    simp only [RDflat] at h
    obtain ⟨us, r, rfl, h1, h0, h2⟩ := h
    simp only [RDels]
    refine ⟨⟨us, h1, h0, fun j v hj => hc j v (by rw [List.getElem?_append_left (List.getElem?_eq_some_iff.1 hj).1]; exact hj)⟩, RDflat_els xs sz r (o + sz) h2 fun j v hj => ?_⟩
    have := hc (us.length + j) v (by rw [List.getElem?_append_right (by omega)]; simpa using hj)
    rwa [h1, ← Nat.add_assoc] at this
theorem RDels_flat {b : Nat} : ∀ (xs : List D) (sz o : Nat), RDels cid w M xs b o sz → ∃ cs, RDflat cid w M xs sz cs ∧ cellsAt w M b o cs
  | [], _, _, _ => ⟨[], by simp [RDflat], fun j v hj => by simp at hj⟩
  | x :: xs, sz, o, h => by
    simp only [RDels] at h
    obtain ⟨⟨vs, h1, h2, h3⟩, h4⟩ := h
    obtain ⟨cs, h5, h6⟩ := RDels_flat xs sz (o + sz) h4
    refine ⟨vs ++ cs, by simp only [RDflat]; exact ⟨vs, cs, rfl, h1, h2, h5⟩, fun j v hj => ?_⟩
    by_cases hlt : j < vs.length
    · rw [List.getElem?_append_left hlt] at hj
      exact h3 j v hj
    · rw [List.getElem?_append_right (by omega)] at hj
      have := h6 _ _ hj
      rwa [show o + sz + (j - vs.length) = o + j by omega] at this
theorem RDflat_replicate {z : D} {vs : List Value} (hz : RDc cid w M z vs) : ∀ n, RDflat cid w M (List.replicate n z) vs.length (List.replicate n vs).flatten
  | 0 => by simp [RDflat]
  | n + 1 => by
    simp only [List.replicate_succ, RDflat, List.flatten_cons]
    exact ⟨vs, _, rfl, rfl, hz, RDflat_replicate hz n⟩
theorem RDc_oneCell : ∀ {x : D} {us : List Value}, RDc cid w M x us → ∀ v ∈ us, v.oneCell' = true := by
  intro x us h
  by_cases hx : x.isAgg = true
  · cases x <;> simp [D.isAgg] at hx
    rename_i ds
    simp only [RDc] at h
    induction ds generalizing us with
    | nil => simp only [RDall] at h; simp [h]
    | cons d ds ih =>
      simp only [RDall] at h
      obtain ⟨v, r, rfl, h2, h3, h4⟩ := h
      intro u hu
      rcases List.mem_cons.1 hu with rfl | hu
      · obtain ⟨v', e1, _, _, e4⟩ := RDc_one h3 h2
        simp only [List.cons.injEq, and_true] at e1
        rw [e1]; exact e4
      · exact ih h4 u hu
  · obtain ⟨v, rfl, _, _, h4⟩ := RDc_one h (by simpa using hx)
    simpa using h4
theorem RDflat_one : ∀ (xs : List D) (sz : Nat) (cs : List Value), RDflat cid w M xs sz cs → ∀ v ∈ cs, v.oneCell' = true
  | [], _, _, h => by simp only [RDflat] at h; simp [h]
  | x :: xs, sz, cs, h => by
    simp only [RDflat] at h
    obtain ⟨us, r, rfl, _, h2, h3⟩ := h
    intro v hv
    rcases List.mem_append.1 hv with hv | hv
    · exact RDc_oneCell h2 v hv
    · exact RDflat_one xs sz r h3 v hv
theorem RDflat_mono {w' : World} {M' : MSet} (hx : Ext w M w' M') : ∀ (xs : List D) (sz : Nat) (cs : List Value), RDflat cid w M xs sz cs → RDflat cid w' M' xs sz cs
  | [], _, _, h => by simpa [RDflat] using h
  | x :: xs, sz, cs, h => by
    simp only [RDflat] at h ⊢
    obtain ⟨us, r, h1, h2, h3, h4⟩ := h
    exact ⟨us, r, h1, h2, RDc_mono hx x us h3, RDflat_mono hx xs sz r h4⟩
end
theorem flatten_get (l : List Value) : ∀ (n k : Nat), (List.replicate n l).flatten[k]? = if k < n * l.length then l[k % l.length]? else none
  | 0, k => by simp
  | n + 1, k => by
    simp only [List.replicate_succ, List.flatten_cons, List.getElem?_append]
    have hm : (n + 1) * l.length = n * l.length + l.length := Nat.succ_mul _ _
    by_cases h1 : k < l.length
    · rw [if_pos h1, if_pos (by omega), Nat.mod_eq_of_lt h1]
    · rw [if_neg h1, flatten_get l n]
      by_cases h2 : k < n * l.length + l.length
      · rw [if_pos (by omega), if_pos (by omega), Nat.mod_eq_sub_mod (a := k) (b := l.length) (by omega)]
      · rw [if_neg (by omega), if_neg (by omega)]
theorem zero_cells (zero : Array Value) (n : Nat) : ((Array.range (n * zero.size)).map (zero[· % zero.size]!)).toList = (List.replicate n zero.toList).flatten := by
  apply List.ext_getElem?
  intro k
  rw [flatten_get]
  simp only [Array.length_toList]
  by_cases hk : k < n * zero.size
  · have hz : 0 < zero.size := by
      rcases Nat.eq_zero_or_pos zero.size with h | h
      · rw [h] at hk; omega
      · exact h
    have hm := Nat.mod_lt k hz
    simp [hk, hm]
  · simp [hk]
end
end Go.Ab

/-
  A machine without memory (part 15): slices that are built; boxes; what is loaded and stored. Conditions: none (lemmas).
-/
namespace Go.Ab

section
variable {P : Program} {o : Oper} {g : Gh} {e e' : Env} {h h' : Heap} {a : Act} {w : World} {ρ : Rho} {own : OwnF} {C : Ctx} {s : Slot}
theorem run_newRow {t : TypeId} {cs : Array Value} : ∃ w', (newRow t cs).run P w = .ok ⟨w.heap.size, 0, none⟩ w' ∧ Pushed w (.cells cs t (0, 0)) w' :=
  ⟨_, rfl, ⟨rfl, rfl, rfl, rfl⟩⟩
theorem sparts_two {cid : FuncId → Option Nat} : ∀ (ps : List (Nat × Operand)) (qs : List (Nat × Opd)), sparts cid ps = some qs → Two (fun (p : Nat × Operand) (q : Nat × Opd) => p.1 = q.1 ∧ opd cid p.2 = some q.2) ps qs
  | [], qs, h => by simp only [sparts, Option.some.injEq] at h; subst h; exact .nil
  | (i, x) :: ps, qs, h => by
    simp only [sparts] at h
    split at h <;> simp only [Option.some.injEq, reduceCtorEq] at h
    rename_i X rs hX hrs
    subst h
    exact .cons ⟨rfl, hX⟩ (sparts_two ps rs hrs)
theorem bsliceGo_sound (hs : SR g e h a w ρ own) {sz : Nat} : ∀ {ps : List (Nat × Operand)} {qs : List (Nat × Opd)} {xs r : List D} {cells : Array Value},
    Two (fun (p : Nat × Operand) (q : Nat × Opd) => p.1 = q.1 ∧ opd g.cid p.2 = some q.2) ps qs → RDflat g.cid w (MOf g.M0 own) xs sz cells.toList → bsliceGo e sz xs qs = some r →
    ∃ cells', Instr.fill (fun i => some (i * sz, sz)) cells (ps.map fun p => (p.1, a.eval p.2)) = some cells' ∧ RDflat g.cid w (MOf g.M0 own) r sz cells'.toList ∧ r.length = xs.length
  | [], _, xs, r, cells, hf, hra, hr => by
    cases hf
    simp only [bsliceGo, Option.some.injEq] at hr; subst hr
    exact ⟨cells, rfl, hra, rfl⟩
  | (i, x) :: ps, _, xs, r, cells, hf, hra, hr => by
    cases hf with
    | cons hq hf =>
      rename_i q qs
      obtain ⟨i', X⟩ := q
      obtain ⟨rfl, hX⟩ := hq
      simp only at hX
      simp only [bsliceGo] at hr
      split at hr
      case h_2 => simp at hr
      rename_i d hev
      split at hr
      case isFalse => simp at hr
      rename_i hc
      have rv := (RV_fine hc.1).1 (hs.evD hX hev)
      have hlen := RDflat_length _ _ _ hra
      have hvl : (a.eval x).cells.toList.length = sz := (RDc_length rv.1).trans hc.2.1
      have hle : i * sz + sz ≤ cells.size := by
        have : (i + 1) * sz ≤ xs.length * sz := Nat.mul_le_mul_right sz hc.2.2
        rw [Nat.add_mul, Nat.one_mul] at this
        simp only [Array.length_toList] at hlen
        omega
      obtain ⟨cells', e1, e2, e3⟩ := fill_step (cells := cells) (place := fun i => some (i * sz, sz)) (rest := ps.map fun p => (p.1, a.eval p.2)) (v := a.eval x) (i := i) rfl (by simpa using hvl) hle
      obtain ⟨cells'', f1, f2, f3⟩ := bsliceGo_sound hs (cells := cells') hf (by rw [e1]; exact RDflat_set xs sz _ i d _ hra hc.2.2 hvl rv.1) hr
      exact ⟨cells'', by rw [List.map_cons, e3]; exact f1, f2, by simpa using f3⟩
/-- a slice with all its cells in a new block. -/
theorem acc_new {cid : FuncId → Option Nat} {M : MSet} {xs : List D} {sz cap : Nat} {cells : Array Value} {t : TypeId} {b : Nat} (hsz : 0 < sz) (hf : RDflat cid w M xs sz (cells.toList.take (xs.length * sz))) (hb : w.heap[b]? = some (.cells cells t (0, 0))) (hcs : cells.size = cap * sz) (hcap : xs.length ≤ cap)
    (hM : ∀ o, M b o → xs.length * sz ≤ o) : RA cid w M ρ (.acc sz xs) (.slice (some ⟨b, 0, none⟩) xs.length cap) [(b, xs.length * sz)] := by
  have hc : cellsAt w M b 0 (cells.toList.take (xs.length * sz)) := by
    intro j v hj
    have hlt := (List.getElem?_eq_some_iff.1 hj).1
    simp only [List.length_take] at hlt
    refine ⟨?_, fun hm => by have := hM _ hm; omega⟩
    unfold World.cell?
    rw [hb]
    rw [List.getElem?_take, if_pos (by omega)] at hj
    simp only [Option.isSome_none, Bool.false_eq_true, if_false, Nat.zero_add]
    simpa using hj
  have hels := RDflat_els xs sz _ 0 hf hc
  simp only [RA]
  refine ⟨_, _, _, rfl, ?_, .inr ⟨hsz, b, rfl, rfl, hels, cells, t, (0, 0), hb, by omega, .inl rfl⟩⟩
  simp only [RDc]
  exact ⟨_, _, _, rfl, rfl, hcap, fun _ => ⟨b, 0, sz, rfl, hsz, hels⟩⟩
theorem goes_bslice {t el : TypeId} {len n : Nat} {parts : Array (Nat × Operand)} {z : AV} {d : D} {qs : List (Nat × Opd)} (hop : o.op = .buildSlice t len parts) (h1 : P.underlying t = some (.slice el)) (hn : sizeT P el = some n) (hz : zeroT P el = some z) (hzd : zeroD z = some d)
    (hlim : len * n ≤ 16777216) (hpos : 0 < n) (hdl : d.cells.length = n) (hdf : d.fine = true) (hq : sparts g.cid parts.toList = some qs) (hs : SR g e h a w ρ own) (hp : own .pend = []) (hr : opRun C (.bslice n d len qs) e h = some (s, e', h')) : Goes P o a w (Post g a w ρ own e' h' s) := by
  simp only [opRun] at hr
  split at hr <;> simp only [Option.some.injEq, Prod.mk.injEq, reduceCtorEq] at hr
  rename_i xs hb
  obtain ⟨rfl, rfl, rfl⟩ := hr
  obtain ⟨zv, hzc, hzr⟩ := run_zeroValue (w := w) hz
  have hz0 : RDc g.cid w (MOf g.M0 own) d zv.cells.toList := by
    have h2 := RA_freeze (ρ := ρ) z zv [] d (constAV_RA (cid := g.cid) (w := w) (M := MOf g.M0 own) (ρ := ρ) hzc).1 hzd
    simp only [RA, and_true] at h2
    exact ((RV_fine hdf).1 h2).1
  have hzl : zv.cells.toList.length = n := (RDc_length hz0).trans hdl
  have hzs : zv.cells.size = n := by simpa using hzl
  -- the cells at first
  let c0 : Array Value := (Array.range (len * n)).map (zv.cells[· % zv.cells.size]!)
  have hc0 : c0.toList = (List.replicate len zv.cells.toList).flatten := by
    have := zero_cells zv.cells len
    simp only [c0]
    rw [hzs] at this ⊢
    exact this
  have hfl : RDflat g.cid w (MOf g.M0 own) (List.replicate len d) n c0.toList := by
    rw [hc0]
    have := RDflat_replicate hz0 len
    rwa [hzl] at this
  obtain ⟨cells', f1, f2, f3⟩ := bsliceGo_sound hs (sparts_two _ _ hq) hfl hb
  simp only [List.length_replicate] at f3
  obtain ⟨w', hrow, hw⟩ := run_newRow (P := P) (w := w) (t := el) (cs := cells')
  have hcs : cells'.size = len * n := by have := RDflat_length _ _ _ f2; rw [f3] at this; simpa using this
  have hmap : (parts.map fun (p : Nat × Operand) => (p.1, a.eval p.2)).toList = parts.toList.map fun p => (p.1, a.eval p.2) := by simp
  have hlim' : ¬ len * n > 2 ^ 24 := by omega
  have hrun : (execOp a.eval o).run P w = .ok (.value (.slice (some ⟨w.heap.size, 0, none⟩) len len)) w' := by
    by_cases h0 : len * n = 0
    · have hc : (Array.range (len * n)).map ((#[] : Array Value)[· % (#[] : Array Value).size]!) = c0 := by simp [c0, h0]
      simp only [execOp, hop, Instr.buildSlice, Sem.run_bind, run_underlying h1, Result.andThen_ok, run_sizeOf hn, if_neg hlim', if_pos h0, Sem.run_pure]
      rw [hmap, hc, f1]
      simp [hrow]
    · simp only [execOp, hop, Instr.buildSlice, Sem.run_bind, run_underlying h1, Result.andThen_ok, run_sizeOf hn, if_neg hlim', if_neg h0, hzr, Sem.run_pure]
      rw [hmap, f1]
      simp [hrow]
  refine .value hrun (Post.new hs hw hp (O := [(w.heap.size, len * n)]) (.inr ⟨_, rfl⟩) fun own' hs' hx hnew => ?_)
  simp only [SlotR]
  have := acc_new (w := w') (ρ := ρ) (cid := g.cid) (M := MOf g.M0 own') (xs := xs) (sz := n) (cap := len) (cells := cells') (t := el) (b := w.heap.size) hpos
    (by rw [List.take_of_length_le (by rw [f3]; simp [hcs])]; exact RDflat_mono hx _ _ _ f2) hw.new hcs (by omega) (fun o hm => by
      obtain ⟨l, hl, hle⟩ := hnew _ _ hm rfl
      simp only [List.mem_singleton, Prod.mk.injEq] at hl
      rw [f3]; omega)
  rwa [f3] at this
/-- a box in the heap. -/
theorem goes_boxH {own1 : OwnF} {e1 : Env} {c : AV} {v : Value} {t : TypeId} {tg : Nat} (hop : (∃ x, o.op = .box t x ∧ a.eval x = v) ∨ (o.op = .alloc t ∧ (zeroValue t).run P w = .ok v w)) (htg : tg < 4)
    (hs : SR g e1 h a w ρ own1) (hM : ∀ b o, MOf g.M0 own1 b o ↔ MOf g.M0 own b o) (hf : c.fine = true) (hra : RA g.cid w (MOf g.M0 own1) ρ c v (own1 .pend)) :
    Goes P o a w (Post g a w ρ own e1 (h.push tg (.cells c.cells)) (.v (.ptr tg (h.next tg) 0))) := by
  obtain ⟨w', h1, h2⟩ := run_newVar (P := P) (w := w) (t := t) (v := v)
  have hrun : (execOp a.eval o).run P w = .ok (.value (.pointer (some ⟨w.heap.size, 0, none⟩))) w' := by
    rcases hop with ⟨x, hop, rfl⟩ | ⟨hop, hz⟩
    · simp [execOp, hop, Instr.box, h1]
    · simp [execOp, hop, Instr.alloc, hz, h1]
  obtain ⟨b1, b2, b3, _⟩ := RA_box hra hf
  obtain ⟨ρ', own', k1, k2, k3, k4, k5⟩ := hs.pushObj htg h2 (ho := .cells c.cells) (fun M' ρ' hx hρ _ => by
    refine ⟨v.cells.toList, own1 .pend, ⟨t, (0, 0), by rw [h2.new], .inl rfl⟩, b2, ?_, rfl⟩
    exact RAs_mono hx hρ _ _ _ (fun b hb => h2.old (hs.lt .pend b hb)) b1)
  refine .value hrun ⟨ρ', own', k1, ?_, k4, (Ext.iff hM).trans k5⟩
  rw [k2]
  simp only [SlotR, RA]
  exact ⟨_, k3, rfl, trivial⟩

theorem Heap.set_other {h : Heap} {tg i : Nat} {o0 : HObj} (hi : h.get tg i = some o0) {o : HObj} {t' i' : Nat} {o' : HObj} (hg : (h.set tg i o).get t' i' = some o') (hk : Key.obj t' i' ≠ Key.obj tg i) : h.get t' i' = some o' := by
  rw [Heap.get_set h hi, if_neg] at hg
  · exact hg
  · rintro ⟨rfl, rfl⟩; exact hk rfl
theorem Heap.set_none {h : Heap} {tg i : Nat} {o0 : HObj} (hi : h.get tg i = some o0) {o : HObj} {t' i' : Nat} (hg : (h.set tg i o).get t' i' = none) : h.get t' i' = none := by
  rw [Heap.get_set h hi] at hg
  split at hg
  · simp at hg
  · exact hg

/-! ### what is loaded -/
/-- a register's place. -/
theorem regAt_sound {sl : Nat} {x : Operand} {X : Opd} {st off : Nat} {c : AV} (hX : opd g.cid x = some X) (hs : SR g e h a w ρ own) (hr : regAt e sl X = some (st, c, off)) :
    e.get sl = some (.var st c) ∧ ∃ b cs O', a.eval x = .pointer (some ⟨b, off, none⟩) ∧ a.tmps.getD sl undef = .pointer (some ⟨b, 0, none⟩) ∧ Cells w b cs ∧ RBox g.cid w (MOf g.M0 own) ρ c cs O' ∧ own (.slot sl) = (b, 0) :: O' := by
  unfold regAt at hr
  split at hr
  · rename_i st' c' hev
    split at hr
    case h_2 => simp at hr
    rename_i n
    split at hr <;> simp only [Option.some.injEq, Prod.mk.injEq, reduceCtorEq] at hr
    rename_i hn
    subst hn
    obtain ⟨rfl, rfl, rfl⟩ := hr
    have hx : x = .tmp n := by cases x <;> simp_all [opd]
    subst hx
    simp only [evS] at hev
    obtain ⟨_, b, cs, O', h1, h2, h3, h4⟩ := hs.slots _ _ hev
    exact ⟨hev, b, cs, O', h1, h1, h2, h3, h4⟩
  · rename_i s' st' off' hev
    split at hr
    case isFalse => simp at hr
    rename_i hsl
    subst hsl
    split at hr
    case h_2 => simp at hr
    rename_i st2 c2 hget
    split at hr <;> simp only [Option.some.injEq, Prod.mk.injEq, reduceCtorEq] at hr
    rename_i hst
    subst hst
    obtain ⟨rfl, rfl, rfl⟩ := hr
    obtain ⟨_, b, h1, h2⟩ := hs.ev hX hev
    obtain ⟨_, b', cs, O', h3, h4, h5, h6⟩ := hs.slots _ _ hget
    have := h2 _ hget
    rw [h3] at this
    simp only [Value.pointer.injEq, Option.some.injEq, Addr.mk.injEq, and_true] at this
    subst this
    exact ⟨hget, b', cs, O', h1, h3, h4, h5, h6⟩
  · simp at hr
theorem goes_load {t : TypeId} {x : Operand} {X : Opd} {n : Nat} {agg take : Bool} {loc : Loc} (hop : o.op = .load t x) (h1 : sizeT P t = some n) (h2 : isAggT P t = some agg) (hG : C.glob = g.G)
    (hX : opd g.cid x = some X) (hs : SR g e h a w ρ own) (hp : own .pend = []) (hr : opRun C (.load loc X n agg take) e h = some (s, e', h')) : Goes P o a w (Post g a w ρ own e' h' s) := by
  have hrun : ∀ (b k : Nat) (us : List Value), a.eval x = .pointer (some ⟨b, k, none⟩) → us.length = (if agg then n else 1) → (∀ j u, us[j]? = some u → w.cell? ⟨b, k + j, none⟩ = some u) → (execOp a.eval o).run P w = .ok (.value (valOf agg us)) w := by
    intro b k us e1 e2 e3
    simp [execOp, hop, Instr.loadAt, Instr.sureAddr, e1, run_loadVar h1 h2 e2 e3]
  -- what is loaded of data
  have imm : ∀ (y : D) (off b k : Nat) (vs : List Value) (r : AV), RDc g.cid w (MOf g.M0 own) y vs → cellsAt w (MOf g.M0 own) b k vs → (AV.d y).read off n agg = some r → a.eval x = .pointer (some ⟨b, k + off, none⟩) →
      Goes P o a w (Post g a w ρ own e h (.v r)) := by
    intro y off b k vs r hy hc hrd hx
    have hfine : (AV.d y).fine = true := by cases y <;> first | rfl | (simp [RDc] at hy; done)
    have hras : RAs g.cid w (MOf g.M0 own) ρ (AV.d y).cells vs [] ∧ (AV.d y).cells.all AV.one = true := by
      by_cases hag : y.isAgg = true
      · cases y <;> simp [D.isAgg] at hag
        rename_i ds
        simp only [RDc] at hy
        exact ⟨(RAs_of_d ds vs hy).1, ones_of_d ds vs hy⟩
      · have hag' : y.isAgg = false := by simpa using hag
        obtain ⟨v, rfl, _, _, _⟩ := RDc_one hy hag'
        have hone := one_of_d hy hag'
        rw [cells_one hone]
        refine ⟨?_, by simp [hone]⟩
        simp only [RAs]
        exact ⟨v, [], [], [], rfl, by simp only [RA, and_true]; exact RV_mk hy hag', ⟨rfl, rfl⟩, rfl⟩
    obtain ⟨us, O1, O2, O3, e1, e2, e3, e4, e5, _⟩ := read_sound hfine hras.1 hras.2 hrd
    have hO2 : O2 = [] := by have := e1.symm; simp only [List.append_eq_nil_iff] at this; exact this.1.2
    refine Goes.same hs hp (hrun b (k + off) us hx e3 fun j u hj => ?_) (by simp only [SlotR]; rw [← hO2]; exact e5)
    have := (hc (off + j) u (sub_get e2 hj)).1
    rwa [← Nat.add_assoc] at this
  simp only [opRun] at hr
  unfold loadOp at hr
  split at hr
  · rename_i sl
    split at hr
    case h_2 => simp at hr
    rename_i st c off hreg
    obtain ⟨hget, b, cs, O', k1, k2, k3, k4, k5⟩ := regAt_sound hX hs hreg
    split at hr
    case h_2 => simp at hr
    rename_i r hrd
    have hfine := RBox_fine k4
    obtain ⟨m1, m2⟩ := (RBox_iff hfine).1 k4
    obtain ⟨us, O1, O2, O3, e1, e2, e3, e4, e5, f1, f2, f3, f4, f5⟩ := read_sound hfine m1 m2 hrd
    have hload := hrun b off us k1 e3 (fun j u hj => by rw [k3.cell]; exact sub_get e2 hj)
    split at hr
    · split at hr <;> simp only [Option.some.injEq, Prod.mk.injEq, reduceCtorEq] at hr
      rename_i c' hw
      obtain ⟨rfl, rfl, rfl⟩ := hr
      -- the part is weakened where it lies
      have hweak := RA_weaken _ _ _ e5
      have hwf : (weaken r).fine = true := weaken_fine f1
      obtain ⟨b1, b2, b3, b4⟩ := RA_box hweak hwf
      have hval : (valOf agg us).cells.toList = us := by
        cases agg with
        | true => simp [valOf, Value.cells]
        | false =>
          simp only [Bool.false_eq_true, if_false] at e3
          obtain ⟨u, rfl⟩ := List.length_eq_one_iff.1 e3
          have : r.one = true := (fine_cases f1).resolve_left (by simp [f2])
          simp only [valOf, Bool.false_eq_true, if_false, List.headD_cons] at e5 ⊢
          rw [(RA_one e5 this).1]
      rw [hval] at b1 b3
      have hcl : (weaken r).cells.length = us.length := by rw [← b3]
      have hl := RAs_length _ _ _ m1
      obtain ⟨d1, d2, d3, d4, d5, d6⟩ := write_sound (v := weaken r) (off := off) hfine hwf hl b3 f4 (by rw [hcl]; exact f5) b1 m2 b2 hw
      have hput : putCells cs us off = cs := by
        apply List.ext_getElem?
        intro j
        rw [putCells_get (by omega)]
        split
        · rfl
        · split
          · have : us[j - off]? = cs[off + (j - off)]? := by
              rw [e2, List.getElem?_take, if_pos (by omega), List.getElem?_drop]
            rw [this]; congr 1; omega
          · rfl
      rw [hput] at d1
      have hperm : (own (.slot sl)).Perm (O2 ++ ((b, 0) :: (O1 ++ [] ++ O3))) := by
        rw [k5, e1, List.append_nil]
        have h1 : ((b, 0) :: (O1 ++ O2 ++ O3)).Perm (O2 ++ ((b, 0) :: (O1 ++ O3))) := by
          have h2 : (O1 ++ O2 ++ O3).Perm (O2 ++ (O1 ++ O3)) := by
            rw [List.append_assoc]
            exact List.perm_append_comm_assoc O1 O2 O3
          exact (h2.cons (b, 0)).trans (List.perm_middle.symm)
        exact h1
      obtain ⟨t1, t2⟩ := hs.take (s' := .var st c') (O := O2) (O' := (b, 0) :: (O1 ++ [] ++ O3)) hget hperm (fun st' x' hx' => by
        simp only [Slot.var.injEq] at hx'
        exact ⟨c, by rw [hx'.1]⟩) ⟨b, cs, _, k2, k3, (RBox_iff d5).2 ⟨d1, d2⟩, rfl⟩
      rw [hp, List.nil_append] at t1 t2
      refine .value hload ⟨ρ, _, t1, ?_, fun _ _ _ h => h, Ext.iff t2⟩
      rw [OwnF.upd_same]
      simp only [SlotR]
      exact RA_mono (Ext.iff t2) (fun _ _ _ h => h) _ _ _ (fun _ _ => rfl) e5
    · simp only [Option.some.injEq, Prod.mk.injEq] at hr
      obtain ⟨rfl, rfl, rfl⟩ := hr
      exact .value hload (Post.same hs hp (RA_weaken _ _ _ e5))
  · split at hr
    · rename_i y off hev
      split at hr <;> simp only [Option.some.injEq, Prod.mk.injEq, reduceCtorEq] at hr
      rename_i r hrd
      obtain ⟨rfl, rfl, rfl⟩ := hr
      obtain ⟨_, b, k, vs, q1, q2, q3⟩ := hs.ev hX hev
      exact imm y off b k vs r q2 q3 hrd q1
    · rename_i n' off hev
      split at hr
      case h_2 => simp at hr
      rename_i y hy
      split at hr <;> simp only [Option.some.injEq, Prod.mk.injEq, reduceCtorEq] at hr
      rename_i r hrd
      obtain ⟨rfl, rfl, rfl⟩ := hr
      rw [hG] at hy
      obtain ⟨vs, q2, q3⟩ := hs.globs _ _ hy
      exact imm y off n' 0 vs r q2 q3 hrd (by rw [Nat.zero_add]; exact (hs.ev hX hev).2)
    · simp at hr
  · rename_i tg'
    split at hr
    case h_2 => simp at hr
    rename_i tg i off hev
    split at hr
    case isFalse => simp at hr
    split at hr
    case h_2 => simp at hr
    rename_i cs0 hget
    split at hr
    case h_2 => simp at hr
    rename_i r hrd
    have ra := hs.evV hX hev
    simp only [RA] at ra
    obtain ⟨b, hρb, k1, _⟩ := ra
    obtain ⟨b', hρb', cs, O', k3, m2, m1, k5⟩ := hs.heap _ _ _ hget
    rw [hρb] at hρb'
    simp only [Option.some.injEq] at hρb'
    subst hρb'
    obtain ⟨us, O1, O2, O3, e1, e2, e3, e4, e5, f1, f2, f3, f4, f5⟩ := readC_sound m1 m2 hrd
    have hload := hrun b off us k1 e3 (fun j u hj => by rw [k3.cell]; exact sub_get e2 hj)
    split at hr
    · split at hr <;> simp only [Option.some.injEq, Prod.mk.injEq, reduceCtorEq] at hr
      rename_i cs' hw
      obtain ⟨rfl, rfl, rfl⟩ := hr
      have hweak := RA_weaken _ _ _ e5
      have hwf : (weaken r).fine = true := weaken_fine f1
      obtain ⟨b1, b2, b3, b4⟩ := RA_box hweak hwf
      have hval : (valOf agg us).cells.toList = us := by
        cases agg with
        | true => simp [valOf, Value.cells]
        | false =>
          simp only [Bool.false_eq_true, if_false] at e3
          obtain ⟨u, rfl⟩ := List.length_eq_one_iff.1 e3
          have : r.one = true := (fine_cases f1).resolve_left (by simp [f2])
          simp only [valOf, Bool.false_eq_true, if_false, List.headD_cons] at e5 ⊢
          rw [(RA_one e5 this).1]
      rw [hval] at b1 b3
      have hcl : (weaken r).cells.length = us.length := by rw [← b3]
      have hl := RAs_length _ _ _ m1
      obtain ⟨d1, d2, d3, d4⟩ := writeC_sound (off := off) hl b3 f4 (by rw [hcl]; exact f5) b1 m2 b2 hw
      have hput : putCells cs us off = cs := by
        apply List.ext_getElem?
        intro j
        rw [putCells_get (by omega)]
        split
        · rfl
        · split
          · have : us[j - off]? = cs[off + (j - off)]? := by
              rw [e2, List.getElem?_take, if_pos (by omega), List.getElem?_drop]
            rw [this]; congr 1; omega
          · rfl
      rw [hput] at d1
      have hperm : (own (.obj tg i)).Perm (O2 ++ ((b, 0) :: (O1 ++ [] ++ O3))) := by
        rw [k5, e1, List.append_nil]
        have h2 : (O1 ++ O2 ++ O3).Perm (O2 ++ (O1 ++ O3)) := by
          rw [List.append_assoc]
          exact List.perm_append_comm_assoc O1 O2 O3
        exact (h2.cons (b, 0)).trans (List.perm_middle.symm)
      obtain ⟨t1, t2⟩ := hs.move (k0 := .obj tg i) (by simp) (O := O2) (O' := (b, 0) :: (O1 ++ [] ++ O3)) (e' := e) (h' := h.set tg i (.cells cs')) hperm (fun _ _ h _ => h) (fun _ _ _ _ h => by simp at h)
        (fun t' i' o' ho hk => Heap.set_other hget ho hk)
        (fun t' i' ho => Heap.set_none hget ho)
        (fun _ _ _ h => by simp at h)
        (fun t' i' o' ho hk => by
          simp only [Key.obj.injEq] at hk
          obtain ⟨rfl, rfl⟩ := hk
          rw [Heap.get_set h hget, if_pos ⟨rfl, rfl⟩] at ho
          simp only [Option.some.injEq] at ho
          subst ho
          exact ⟨b, hρb, cs, _, k3, d2, d1, rfl⟩)
      rw [hp, List.nil_append] at t1 t2
      refine .value hload ⟨ρ, _, t1, ?_, fun _ _ _ h => h, Ext.iff t2⟩
      rw [OwnF.upd_same]
      simp only [SlotR]
      exact RA_mono (Ext.iff t2) (fun _ _ _ h => h) _ _ _ (fun _ _ => rfl) e5
    · simp only [Option.some.injEq, Prod.mk.injEq] at hr
      obtain ⟨rfl, rfl, rfl⟩ := hr
      exact .value hload (Post.same hs hp (RA_weaken _ _ _ e5))
end
end Go.Ab

/-
  A machine without memory (part 16): what is stored; what is appended. Conditions: none (lemmas).
-/
namespace Go.Ab

section
variable {P : Program} {o : Oper} {g : Gh} {e e' : Env} {h h' : Heap} {a : Act} {w : World} {ρ : Rho} {own : OwnF} {C : Ctx} {s : Slot}
/-- a block that a key owns is written; what was pending may lie in it. -/
theorem SR.write {w' : World} {ob : Obj} (hs : SR g e h a w ρ own) {k0 : Key} (hk0 : k0 ≠ .pend) {b : Nat} {O' O2 : Own} (hown : own k0 = (b, 0) :: O') (hw : Rewritten w b ob w')
    (hnd : (blocks O2).Nodup) (hmem : ∀ p, p ∈ O2 → p ∈ O' ∨ p ∈ own .pend)
    (he : ∀ t s, e'.get t = some s → Key.slot t ≠ k0 → e.get t = some s)
    (hv : ∀ t st x, e'.get t = some (.var st x) → Key.slot t = k0 → ∃ x0, e.get t = some (.var st x0))
    (hh : ∀ tg i o, h'.get tg i = some o → Key.obj tg i ≠ k0 → h.get tg i = some o)
    (hdom : ∀ tg i, h'.get tg i = none → h.get tg i = none)
    (hT : ∀ M', Ext w (MOf g.M0 own) w' M' → (∀ b' ∈ blocks O2, w'.heap[b']? = w.heap[b']?) →
      (∀ t s, e'.get t = some s → Key.slot t = k0 → t < g.nt ∧ SlotR g.cid w' M' ρ e' a.tmps s (a.tmps.getD t undef) ((b, 0) :: O2)) ∧
      (∀ tg i o, h'.get tg i = some o → Key.obj tg i = k0 → ∃ b', ρ tg i = some b' ∧ HR g.cid w' M' ρ o b' ((b, 0) :: O2))) :
    SR g e' h' a w' ρ ((own.upd k0 ((b, 0) :: O2)).upd .pend []) ∧ Ext w (MOf g.M0 own) w' (MOf g.M0 ((own.upd k0 ((b, 0) :: O2)).upd .pend [])) := by
  have hnd0 := hs.nodup k0
  rw [hown] at hnd0
  simp only [blocks, List.map_cons, List.nodup_cons] at hnd0
  have hb0 : b ∈ blocks (own k0) := by rw [hown]; simp [blocks]
  have hbp : b ∉ blocks (own .pend) := hs.disj k0 .pend b hk0 hb0
  have hbO2 : b ∉ blocks O2 := by
    intro hm
    obtain ⟨⟨b', l⟩, hp, hb'⟩ := List.mem_map.1 hm
    simp only at hb'
    subst hb'
    rcases hmem _ hp with h1 | h1
    · exact hnd0.1 (List.mem_map.2 ⟨_, h1, rfl⟩)
    · exact hbp (List.mem_map.2 ⟨_, h1, rfl⟩)
  have hl0 : ∀ l, ((b, l) ∈ own k0 ∨ (b, l) ∈ own .pend) → l = 0 := by
    rintro l (h1 | h1)
    · rw [hown, List.mem_cons] at h1
      rcases h1 with h1 | h1
      · simpa using h1
      · exact absurd (List.mem_map.2 ⟨_, h1, rfl⟩) hnd0.1
    · exact absurd (List.mem_map.2 ⟨_, h1, rfl⟩) hbp
  refine hs.trans2 k0 hk0 ((b, 0) :: O2) [] (fun _ _ _ h => h) (by rw [hw.size]; exact Nat.le_refl _) (fun b' _ h1 _ => hw.same b' (fun hbb => h1 (hbb ▸ hb0))) ?_ ?_ hw.os he hv hh (fun tg i hn => hs.hdom tg i (hdom tg i hn)) ?_ ?_ ?_
  · intro b' l o v h1 h2 hc
    by_cases hbb : b' = b
    · subst hbb; have := hl0 l h1; omega
    · unfold World.cell? at hc ⊢; rw [hw.same b' hbb]; exact hc
  · intro b' l es c h1 h2 hc
    by_cases hbb : b' = b
    · subst hbb; have := hl0 l h1; omega
    · rw [hw.same b' hbb]; exact hc
  · rw [List.append_nil]
    simp only [blocks, List.map_cons, List.nodup_cons]
    exact ⟨hbO2, hnd⟩
  · intro b' l hp
    rw [List.append_nil, List.mem_cons] at hp
    refine .inl ⟨l, ?_, Nat.le_refl _⟩
    rw [List.mem_append, hown]
    rcases hp with hp | hp
    · exact .inl (by rw [hp]; exact List.mem_cons_self ..)
    · rcases hmem _ hp with h1 | h1
      · exact .inl (List.mem_cons_of_mem _ h1)
      · exact .inr h1
  · intro hx
    exact hT _ hx fun b' hb' => hw.same b' (fun hbb => hbO2 (hbb ▸ hb'))

/-- parts of what two keys own. -/
theorem nodup_parts {own : OwnF} {O1 O2 O3 Ov O' : Own} {b : Nat} {k0 : Key} (hs : SR g e h a w ρ own) (hk0 : k0 ≠ .pend) (hown : own k0 = (b, 0) :: O') (hO : O' = O1 ++ O2 ++ O3) (hp : own .pend = Ov) :
    (blocks (O1 ++ Ov ++ O3)).Nodup ∧ ∀ p, p ∈ O1 ++ Ov ++ O3 → p ∈ O' ∨ p ∈ own .pend := by
  have h1 := hs.nodup k0
  have h2 := hs.nodup .pend
  rw [hown, hO] at h1
  rw [hp] at h2
  have h3 : ∀ x, x ∈ blocks O1 ∨ x ∈ blocks O3 → x ∉ blocks Ov := by
    intro x hx
    rw [← hp]
    refine hs.disj k0 .pend x hk0 ?_
    rw [hown, hO]
    simp only [blocks, List.map_cons, List.map_append, List.mem_cons, List.mem_append] at hx ⊢
    rcases hx with hx | hx
    · exact .inr (.inl (.inl hx))
    · exact .inr (.inr hx)
  simp only [blocks, List.map_cons, List.map_append, List.nodup_cons, List.nodup_append, List.mem_append] at h1 h2 h3 ⊢
  refine ⟨⟨⟨h1.2.1.1, h2, fun x hx y hy hxy => h3 x (.inl hx) (hxy ▸ hy)⟩, h1.2.2.1, ?_⟩, ?_⟩
  · rintro x (hx | hx) y hy hxy
    · exact h1.2.2.2 x (.inl hx) y hy hxy
    · exact h3 y (.inr hy) (hxy ▸ hx)
  · rintro p ((hx | hx) | hx)
    · exact .inl (by rw [hO]; simp [hx])
    · exact .inr (hp ▸ hx)
    · exact .inl (by rw [hO]; simp [hx])

theorem goes_store {t : TypeId} {x v : Operand} {X V : Opd} {n : Nat} {take : Bool} {loc : Loc} (hop : o.op = .store t x v) (h1 : sizeT P t = some n)
    (hX : opd g.cid x = some X) (hV : opd g.cid v = some V) (hs : SR g e h a w ρ own) (hp : own .pend = []) (hr : opRun C (.store loc X V n take) e h = some (s, e', h')) : Goes P o a w (Post g a w ρ own e' h' s) := by
  have key : ∀ (own1 : OwnF) (c : AV) (e1 : Env), SR g e1 h a w ρ own1 → RA g.cid w (MOf g.M0 own1) ρ c (a.eval v) (own1 .pend) → (∀ b o, MOf g.M0 own1 b o ↔ MOf g.M0 own b o) →
      (if c.fine = true ∧ c.cells.length = n then match loc with
        | .reg s => match regAt e1 s X with
          | some (st, d, off) => match d.write c off with
            | some d' => some (Slot.undef, e1.set s (.var st d'), h)
            | none => none
          | none => none
        | .heap tg' => match evS e1 X with
          | some (.v (.ptr tg i off)) => if tg = tg' then match h.get tg i with
            | some (.cells cs) => match writeC cs c.cells off with
              | some cs' => some (.undef, e1, h.set tg i (.cells cs'))
              | none => none
            | _ => none else none
          | _ => none
        | .imm => none else none) = some (s, e', h') → Goes P o a w (Post g a w ρ own e' h' s) := by
    intro own1 c e1 s1 hra hM hq
    split at hq
    case isFalse => simp at hq
    rename_i hc
    obtain ⟨b1, b2, b3, b4⟩ := RA_box hra hc.1
    have hsz : (a.eval v).cells.size = n := by rw [← hc.2, ← b3]; simp
    have hone := RAs_oneCell _ _ _ b1 b2
    have hrun : ∀ (b k : Nat) (w' : World), a.eval x = .pointer (some ⟨b, k, none⟩) → (storeCells ⟨b, k, none⟩ (a.eval v).cells.toList).run P w = .ok () w' → (execOp a.eval o).run P w = .ok .skip w' := by
      intro b k w' q1 q2
      simp [execOp, hop, Instr.storeAt, Instr.sureAddr, q1, storeVar, run_sizeOf h1, hsz, q2]
    split at hq
    · rename_i sl
      split at hq
      case h_2 => simp at hq
      rename_i st d off hreg
      obtain ⟨hget, b, cs, O', k1, k2, k3, k4, k5⟩ := regAt_sound hX s1 hreg
      split at hq <;> simp only [Option.some.injEq, Prod.mk.injEq, reduceCtorEq] at hq
      rename_i d' hw
      obtain ⟨rfl, rfl, rfl⟩ := hq
      have hfine := RBox_fine k4
      obtain ⟨m1, m2⟩ := (RBox_iff hfine).1 k4
      have hl := RAs_length _ _ _ m1
      obtain ⟨O1, O2, O3, eO, a1, _, a3⟩ := RAs_split m1 off c.cells.length
      obtain ⟨d1, d2, d3, d4, d5, d6⟩ := write_sound hfine hc.1 hl b3 a1 a3 b1 m2 b2 hw
      obtain ⟨ty, fr, hb, hfr⟩ := k3
      obtain ⟨w', hst, hrw⟩ := run_storeCells (P := P) hb hfr hone d4
      obtain ⟨n1, n2⟩ := nodup_parts s1 (by simp) k5 eO rfl
      obtain ⟨t1, t2⟩ := s1.write (k0 := .slot sl) (e' := e1.set sl (.var st d')) (h' := h) (by simp) k5 hrw n1 n2
        (fun t' s0 q1 q2 => by
          rw [Env.get_set] at q1
          split at q1
          · subst_vars; simp at q2
          · exact q1)
        (fun t' st' x' q1 q2 => by
          have : t' = sl := by simpa using q2
          subst this
          rw [Env.get_set, if_pos rfl] at q1
          simp only [Option.some.injEq, Slot.var.injEq] at q1
          exact ⟨d, by rw [← q1.1]; exact hget⟩)
        (fun _ _ _ h _ => h) (fun _ _ h => h)
        (fun M' hx hsame => ⟨fun t' s0 q1 q2 => by
          have : t' = sl := by simpa using q2
          subst this
          rw [Env.get_set, if_pos rfl] at q1
          simp only [Option.some.injEq] at q1
          subst q1
          refine ⟨(s1.slots _ _ hget).1, b, putCells cs (a.eval v).cells.toList off, _, k2, ⟨ty, fr, hrw.new, by rw [putCells_length d4]; exact hfr⟩, ?_, rfl⟩
          exact RBox_mono hx (fun _ _ _ h => h) hsame ((RBox_iff d5).2 ⟨d1, d2⟩), fun _ _ _ _ q => by simp at q⟩)
      refine .skip (hrun b off w' k1 hst) ⟨ρ, _, t1, ?_, fun _ _ _ h => h, (Ext.iff hM).trans t2⟩
      rw [OwnF.upd_same]
      exact ⟨rfl, rfl⟩
    · rename_i tg'
      split at hq
      case h_2 => simp at hq
      rename_i tg i off hev
      split at hq
      case isFalse => simp at hq
      split at hq
      case h_2 => simp at hq
      rename_i cs0 hget
      split at hq <;> simp only [Option.some.injEq, Prod.mk.injEq, reduceCtorEq] at hq
      rename_i cs' hw
      obtain ⟨rfl, rfl, rfl⟩ := hq
      have ra := s1.evV hX hev
      simp only [RA] at ra
      obtain ⟨b, hρb, k1, _⟩ := ra
      obtain ⟨b', hρb', cs, O', k3, m2, m1, k5⟩ := s1.heap _ _ _ hget
      rw [hρb] at hρb'
      simp only [Option.some.injEq] at hρb'
      subst hρb'
      have hl := RAs_length _ _ _ m1
      obtain ⟨O1, O2, O3, eO, a1, _, a3⟩ := RAs_split m1 off c.cells.length
      obtain ⟨d1, d2, d3, d4⟩ := writeC_sound hl b3 a1 a3 b1 m2 b2 hw
      obtain ⟨ty, fr, hb, hfr⟩ := k3
      obtain ⟨w', hst, hrw⟩ := run_storeCells (P := P) hb hfr hone d4
      obtain ⟨n1, n2⟩ := nodup_parts s1 (by simp) k5 eO rfl
      obtain ⟨t1, t2⟩ := s1.write (k0 := .obj tg i) (e' := e1) (h' := h.set tg i (.cells cs')) (by simp) k5 hrw n1 n2
        (fun _ _ h _ => h) (fun _ _ _ _ q => by simp at q)
        (fun t' i' o' ho hk => Heap.set_other hget ho hk) (fun t' i' ho => Heap.set_none hget ho)
        (fun M' hx hsame => ⟨fun _ _ _ q => by simp at q, fun t' i' o' ho hk => by
          simp only [Key.obj.injEq] at hk
          obtain ⟨rfl, rfl⟩ := hk
          rw [Heap.get_set h hget, if_pos ⟨rfl, rfl⟩] at ho
          simp only [Option.some.injEq] at ho
          subst ho
          refine ⟨b, hρb, putCells cs (a.eval v).cells.toList off, _, ⟨ty, fr, hrw.new, by rw [putCells_length d4]; exact hfr⟩, d2, ?_, rfl⟩
          exact RAs_mono hx (fun _ _ _ h => h) _ _ _ hsame d1⟩)
      refine .skip (hrun b off w' k1 hst) ⟨ρ, _, t1, ?_, fun _ _ _ h => h, (Ext.iff hM).trans t2⟩
      rw [OwnF.upd_same]
      exact ⟨rfl, rfl⟩
    · simp at hq
  simp only [opRun] at hr
  unfold storeOp at hr
  cases take with
  | true =>
    simp only [if_true] at hr
    split at hr
    case h_2 => simp at hr
    rename_i c e1 hev
    obtain ⟨own1, O, s1, ra, hpo, hM, _⟩ := hs.evt hV hev
    rw [hp, List.nil_append] at hpo
    rw [← hpo] at ra
    exact key own1 c e1 s1 ra hM hr
  | false =>
    simp only [Bool.false_eq_true, if_false] at hr
    cases hev : evw e V with
    | none => simp [hev] at hr
    | some c =>
      simp only [hev, Option.map_some] at hr
      exact key own c e hs (hp ▸ hs.evw hV hev) (fun _ _ => Iff.rfl) hr
end
end Go.Ab
