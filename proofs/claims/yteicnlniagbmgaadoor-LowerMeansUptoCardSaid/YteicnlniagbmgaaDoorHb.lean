/-
  What the program's functions answer: lowering, check, runs. Conditions: none (definitions and lemmas).
-/
import Derived.Test.YteicnlniagbmgaaDoorHa
/-
  The maker of filters: a machine's calls. Conditions: none.
-/
namespace Go.Ab
open Dig
set_option maxRecDepth 4000

/-! ### maps -/
def kidx {κ : Type} [DecidableEq κ] : List κ → κ → Option Nat
  | [], _ => none
  | x :: r, k => if k = x then some 0 else (kidx r k).map (· + 1)
theorem findKey_of {κ : Type} [DecidableEq κ] {sh : Sh} {ek : κ → D} (hek : ∀ a b, shEq sh (ek a) (ek b) = some (decide (a = b))) (k : κ) :
    ∀ (ks : List κ) (i : Nat), findKey sh (ek k) (ks.map ek) i = some ((kidx ks k).map (· + i))
  | [], _ => rfl
  | x :: r, i => by
    simp only [List.map_cons, findKey, hek, kidx]
    by_cases h : k = x
    · simp [h]
    · simp only [h, decide_false, if_false, findKey_of hek k r (i + 1), Option.map_map]
      congr 2; funext n; simp; omega
theorem kidx_some {κ : Type} [DecidableEq κ] {k : κ} : ∀ {ks : List κ} {j : Nat}, kidx ks k = some j → ks[j]? = some k
  | [], _, h => by simp [kidx] at h
  | x :: r, j, h => by
    simp only [kidx] at h
    split at h
    · rename_i he; simp only [Option.some.injEq] at h; subst h he; rfl
    · cases hr : kidx r k with
      | none => simp [hr] at h
      | some i => simp only [hr, Option.map_some, Option.some.injEq] at h; subst h; simpa using kidx_some hr
theorem kidx_none {κ : Type} [DecidableEq κ] {k : κ} : ∀ {ks : List κ}, kidx ks k = none ↔ k ∉ ks
  | [] => by simp [kidx]
  | x :: r => by
    simp only [kidx, List.mem_cons, not_or]
    by_cases h : k = x
    · simp [h]
    · simp [h, kidx_none (ks := r)]
abbrev TM (κ β : Type) := List (κ × List β)
section
variable {κ β : Type} [DecidableEq κ]
def mget (g : TM κ β) (k : κ) : List β := match kidx (g.map (·.1)) k with
  | some j => ((g[j]?).map (·.2)).getD []
  | none => []
def mput (g : TM κ β) (k : κ) (v : List β) : TM κ β := match kidx (g.map (·.1)) k with
  | some j => g.set j (k, v)
  | none => g ++ [(k, v)]
end
def eMap {κ β : Type} (ek : κ → D) (sz : Nat) (eb : β → D) (g : TM κ β) : HObj := .map (g.map fun p => ek p.1) (g.map fun p => .acc sz (p.2.map eb))
def eCall (c : BitVec 32 × BitVec 32) : D := .agg [e32 c.1, e32 c.2]
@[simp] theorem scEq32 (a b : BitVec 32) : scEq .i (e32 a) (e32 b) = some (decide (a = b)) := by
  show (if IntKind.u32 = IntKind.u32 then some ((a.toNat : Int) == (b.toNat : Int)) else none) = _
  rw [if_pos rfl]; congr 1; rw [Bool.eq_iff_iff]; simp [BitVec.toNat_eq]; omega
theorem find32 (k : BitVec 32) (ks : List (BitVec 32)) : findK (.one .i) (e32 k) (ks.map e32) = some (kidx ks k) := by
  have := findKey_of (sh := .one .i) (ek := e32) (by intro a b; simp) k ks 0
  simp only [findK, shFit, dfine_32, if_true, this]; simp
theorem findCall (k : BitVec 32 × BitVec 32) (ks : List (BitVec 32 × BitVec 32)) : findK (.many [.i, .i]) (.agg [e32 k.1, e32 k.2]) (ks.map eCall) = some (kidx ks k) := by
  have := findKey_of (sh := .many [.i, .i]) (ek := eCall) (by
    intro a b
    obtain ⟨a1, a2⟩ := a
    obtain ⟨b1, b2⟩ := b
    simp only [eCall, shEq, scEqs, scEq32]
    by_cases h1 : a1 = b1 <;> by_cases h2 : a2 = b2 <;> simp [h1, h2]) k ks 0
  show (if shFit (.many [.i, .i]) (eCall k) then findKey (.many [.i, .i]) (eCall k) (ks.map eCall) 0 else none) = _
  rw [if_pos (show shFit (.many [.i, .i]) (eCall k) = true from rfl), this]; simp

/-! ### a policy's rules, by machines and calls -/
structure Groups where
  calls : TM (BitVec 32 × BitVec 32) Rule
  nrs : TM (BitVec 32) (BitVec 32)
  ms : List (BitVec 32)
abbrev mapOf (g : Groups) : HObj := eMap eCall 4 eRule g.calls
abbrev mapNr (g : Groups) : HObj := eMap e32 1 e32 g.nrs
def Mk.numbers (g : Groups) (arch : BitVec 32) (other : Int) (s : Mk × List Entry) (nr : BitVec 32) : Mk × List Entry :=
  ((s.1.rules (mget g.calls (arch, nr)) other).1, s.2 ++ [⟨nr, (s.1.rules (mget g.calls (arch, nr)) other).2⟩])
def Mk.begin (m : Mk) (g : Groups) (arch : BitVec 32) (other : Int) : Mk × Int :=
  let s := (inOrder (mget g.nrs arch)).foldl (Mk.numbers g arch other) (m, [])
  (s.1.tree s.2 other).1.add 32 0#32
abbrev baseA (other : Int) : List HObj := [.cells [.ptr 1 0 0], .cells [.d (ei other)], .cells [.mapr 3 0], .cells [.mapr 3 1]]
/-- of a row of groups: there are not too many, and what is numbered is there. -/
structure Groups.Ok (g : Groups) : Prop where
  short : ∀ k, (mget g.calls k).length ≤ 64
  conds : ∀ k, ∀ x ∈ mget g.calls k, x.conds.length ≤ 64
  nums : ∀ k, (mget g.nrs k).length ≤ 64
  there : ∀ a n, n ∈ mget g.nrs a → ∃ j, kidx (g.calls.map (·.1)) (a, n) = some j
  some : ∀ a ∈ g.ms, ∃ j, kidx (g.nrs.map (·.1)) a = some j ∧ mget g.nrs a ≠ []
theorem putIn_mem (x y : BitVec 32) (out : List (BitVec 32)) : y ∈ putIn x out ↔ y = x ∨ y ∈ out := by
  have h : out = out.takeWhile (fun y => decide (y ≤ x)) ++ out.drop (out.takeWhile fun y => decide (y ≤ x)).length := by
    have := List.takeWhile_append_dropWhile (p := fun y => decide (y ≤ x)) (l := out)
    have h2 : out.drop (out.takeWhile fun y => decide (y ≤ x)).length = out.dropWhile fun y => decide (y ≤ x) := by
      conv => lhs; arg 2; rw [← this]
      exact List.drop_left
    rw [h2, this]
  unfold putIn
  conv => rhs; rw [h]
  simp only [List.mem_append, List.mem_cons]
  constructor
  · rintro (h | h | h) <;> simp [h]
  · rintro (h | h | h) <;> simp [h]
theorem inOrder_mem (y : BitVec 32) (l : List (BitVec 32)) : y ∈ inOrder l ↔ y ∈ l := by
  unfold inOrder
  suffices h : ∀ out, y ∈ l.foldl (fun out x => putIn x out) out ↔ y ∈ l ∨ y ∈ out by simpa using h []
  induction l with
  | nil => simp
  | cons x l ih => intro out; simp only [List.foldl_cons, ih, putIn_mem, List.mem_cons]; grind
theorem inOrder_len (l : List (BitVec 32)) : (inOrder l).length = l.length := by
  unfold inOrder
  suffices h : ∀ out, (l.foldl (fun out x => putIn x out) out).length = l.length + out.length by simpa using h []
  induction l with
  | nil => simp
  | cons x l ih => intro out; simp only [List.foldl_cons, ih, putIn_len, List.length_cons]; omega
theorem Mk.numbers_len (g : Groups) (arch : BitVec 32) (other : Int) : ∀ (l : List (BitVec 32)) (s : Mk × List Entry), s.1.c.length ≤ 4096 → (l.foldl (Mk.numbers g arch other) s).1.c.length ≤ 4096 ∧ (l.foldl (Mk.numbers g arch other) s).2.length = s.2.length + l.length
  | [], s, h => by simp [h]
  | x :: l, s, h => by
    have := Mk.numbers_len g arch other l (Mk.numbers g arch other s x) (Mk.rules_len _ _ h)
    simp only [List.foldl_cons, List.length_cons]
    refine ⟨this.1, ?_⟩
    rw [this.2]; simp [Mk.numbers]; omega
theorem Mk.begin_len (m : Mk) (g : Groups) (arch : BitVec 32) (other : Int) (h : m.c.length ≤ 4096) : (m.begin g arch other).1.c.length ≤ 4096 :=
  Mk.add_len _ _ _ (Mk.tree_len _ _ _ (Mk.numbers_len g arch other _ _ h).1)
theorem mget_at {κ β : Type} [DecidableEq κ] {g : TM κ β} {k : κ} {j : Nat} (h : kidx (g.map (·.1)) k = some j) : ∃ v, g[j]? = some (k, v) ∧ mget g k = v := by
  have h1 := kidx_some h
  rw [List.getElem?_map] at h1
  cases hg : g[j]? with
  | none => simp [hg] at h1
  | some p =>
    obtain ⟨k', v⟩ := p
    simp only [hg, Option.map_some, Option.some.injEq] at h1
    subst h1
    exact ⟨v, rfl, by simp [mget, h, hg]⟩
theorem begin_eq (a c d : List HObj) (m : Mk) (g : Groups) (arch : BitVec 32) (other : Int) (hm : m.c.length ≤ 4096) (hg : g.Ok) (ha : arch ∈ g.ms) :
    ∃ r h', C0.imp 26 [.d (e32 arch), .ptr 0 3 0, .ptr 0 0 0, .ptr 0 2 0, .ptr 0 1 0] (hp (baseA other ++ a) m c (mapOf g :: mapNr g :: d)) = some (r, h') ∧ r = .d (ei (m.begin g arch other).2) ∧
      ∃ a' c' d', h' = hp (baseA other ++ (a ++ a')) (m.begin g arch other).1 (c ++ c') (mapOf g :: mapNr g :: (d ++ d')) := by
  refine impE_by (by rfl) rfl ?_
  obtain ⟨j, hj, hne⟩ := hg.some arch ha
  obtain ⟨v, hv, hgv⟩ := mget_at hj
  have hn := hg.nums arch
  have hsort := sorted_eq (mget g.nrs arch) (by omega)
  have hlen := inOrder_len (mget g.nrs arch)
  have hf1 : findK (.one .i) (e32 arch) (g.nrs.map fun p => e32 p.1) = some (some j) := by
    have := find32 arch (g.nrs.map (·.1)); rw [List.map_map] at this; rw [← hj]; exact this
  rw [hgv] at hsort
  simp [fd26, eMap, hf1, hv, hsort]
  have hS : ∀ y ∈ inOrder v, ∃ i w, kidx (g.calls.map (·.1)) (arch, y) = some i ∧ g.calls[i]? = some ((arch, y), w) ∧ mget g.calls (arch, y) = w := by
    intro y hy
    obtain ⟨i, hi⟩ := hg.there arch y (by rw [hgv]; exact (inOrder_mem y v).1 hy)
    obtain ⟨w, h1, h2⟩ := mget_at hi
    exact ⟨i, w, hi, h1, h2⟩
  have hSl : (inOrder v).length ≤ 64 := by rw [hgv] at hlen hn; omega
  have hSne : inOrder v ≠ [] := by rw [hgv] at hlen hne; intro hc; rw [hc] at hlen; exact hne (List.length_eq_zero_iff.1 hlen.symm)
  have hb : m.begin g arch other = ((((inOrder v).foldl (Mk.numbers g arch other) (m, [])).1.tree ((inOrder v).foldl (Mk.numbers g arch other) (m, [])).2 other).1.add 32 0#32) := by rw [Mk.begin, hgv]
  have hlens := fun l => Mk.numbers_len g arch other l (m, []) hm
  generalize inOrder v = S at *
  have e0 : hp (baseA other ++ a) m c (mapOf g :: mapNr g :: d) = hp (baseA other ++ (a ++ [])) m (c ++ []) (mapOf g :: mapNr g :: (d ++ [])) := by simp
  show Goes' C0 _ _ (hp (baseA other ++ a) m c (mapOf g :: mapNr g :: d)) _
  rw [e0]
  refine loop_by (σ := Nat × Nat × Hs) (fun s => S.length - s.1) (fun s => [(0, .v (.d (e32 arch))), (2, .v (.ptr 0 0 0)), (3, .v (.ptr 0 2 0)), (4, .v (.ptr 0 1 0)), (7, .v (.acc s.2.1 (((S.take s.1).foldl (Mk.numbers g arch other) (m, [])).2.map eEntry))), (13, .v (.d (.lst (S.map e32)))), (14, .v (.d (ei S.length))), (15, .v (.d (ei s.1)))])
    (fun s => hp (baseA other ++ (a ++ s.2.2.1)) ((S.take s.1).foldl (Mk.numbers g arch other) (m, [])).1 (c ++ s.2.2.2.1) (mapOf g :: mapNr g :: (d ++ s.2.2.2.2))) (fun s => s.1 ≤ S.length ∧ (s.2.1 = 0 ∨ s.2.1 = 2)) ?_ (0, 0, [], [], []) (by simp)
  rintro ⟨i, z, a', c', d'⟩ ⟨hi, hz⟩ B again
  simp only at hi again ⊢
  have hl1 := hlens (S.take i)
  by_cases h : i < S.length
  · obtain ⟨x, hx, hx', _⟩ := drop_at S i h
    obtain ⟨q, w, hq, hw, hgw⟩ := hS x (List.mem_of_getElem? hx)
    have hfc : findK (.many [.i, .i]) (.agg [e32 arch, e32 x]) (g.calls.map fun p => eCall p.1) = some (some q) := by
      have := findCall (arch, x) (g.calls.map (·.1)); rw [List.map_map] at this; rw [← hq]; exact this
    have hnx := fold_snoc (Mk.numbers g arch other) (m, []) S i x hx
    generalize (S.take i).foldl (Mk.numbers g arch other) (m, []) = s at *
    obtain ⟨r, h', p, hr, a2, c2, d2, hh⟩ := rules_eq (baseA other ++ (a ++ a')) (c ++ c') (mapOf g :: mapNr g :: (d ++ d')) s.1 w other hl1.1 (by have := hg.short (arch, x); rw [hgw] at this; omega)
      (by intro y hy; have := hg.conds (arch, x) y (by rw [hgw]; exact hy); omega)
    have wi := wrap_succ h (show S.length ≤ 4611686018427387904 by omega)
    have hsz : (s.2.length + 1) * 16 ≤ 70368744177664 := by have := hl1.2; simp at this; omega
    have g2 := again (i + 1, 2, a' ++ a2, c' ++ c2, d' ++ d2) ⟨by simp; omega, by simp⟩ (by simp; omega)
    simp only [hnx, Mk.numbers, hgw] at g2
    subst hr hh
    simp [eMap] at p g2
    rcases hz with rfl | rfl
    · simp [l26_0, h, hx', eMap, hfc, hw, p, wi, hsz]
      simpa using g2
    · simp [l26_0, h, hx', eMap, hfc, hw, p, wi, hsz]
      simpa using g2
  · have : i = S.length := by omega
    subst this
    simp only [List.take_length] at hl1 again ⊢
    rw [hb]
    generalize S.foldl (Mk.numbers g arch other) (m, []) = s at *
    have t1 := tree_eq (baseA other ++ (a ++ a')) (c ++ c') (mapOf g :: mapNr g :: (d ++ d')) s.2 other (by have := hl1.2; simp at this; omega) (by intro hc; have := hl1.2; rw [hc] at this; simp at this; exact hSne (List.length_eq_zero_iff.1 this.symm)) s.1 hl1.1
    have t2 := add_eq (baseA other ++ (a ++ a')) (c ++ c') (mapOf g :: mapNr g :: (d ++ d')) (s.1.tree s.2 other).1 32 0#32 (Mk.tree_len _ _ _ hl1.1)
    simp [eMap] at t1 t2
    simp [l26_0, k26_1, eMap, t1, t2]
end Go.Ab

/-
  A policy's filter: what the program's function answers. Conditions: none.
-/
namespace Go.Ab
open Dig
set_option maxRecDepth 4000

section
variable {κ β : Type} [DecidableEq κ]
theorem mput_some {g : TM κ β} {k : κ} {v : List β} {j : Nat} (h : kidx (g.map (·.1)) k = some j) (ek : κ → D) (sz : Nat) (eb : β → D) :
    eMap ek sz eb (mput g k v) = .map (g.map fun p => ek p.1) ((g.map fun p => .acc sz (p.2.map eb)).set j (.acc sz (v.map eb))) := by
  obtain ⟨w, hw, _⟩ := mget_at h
  simp only [mput, h, eMap, List.map_set]
  congr 1
  apply List.ext_getElem?
  intro i
  rw [List.getElem?_set]
  split
  · rename_i he; subst he; simp [hw]
    have := (List.getElem?_eq_some_iff.1 hw).1
    simp [this]
  · rfl
theorem mput_none {g : TM κ β} {k : κ} {v : List β} (h : kidx (g.map (·.1)) k = none) (ek : κ → D) (sz : Nat) (eb : β → D) :
    eMap ek sz eb (mput g k v) = .map ((g.map fun p => ek p.1) ++ [ek k]) ((g.map fun p => .acc sz (p.2.map eb)) ++ [.acc sz (v.map eb)]) := by
  simp [mput, h, eMap]
theorem mget_none {g : TM κ β} {k : κ} (h : kidx (g.map (·.1)) k = none) : mget g k = [] := by simp [mget, h]
end
@[simp] theorem set_map_app {α β : Type} (f : α → β) (g : List α) (b : List β) (x : β) : (List.map f g ++ b).set g.length x = List.map f g ++ b.set 0 x := by
  have := set_app0 (List.map f g) b x; rwa [List.length_map] at this
@[simp] theorem get_map_app {α β : Type} (f : α → β) (g : List α) (b : List β) : (List.map f g ++ b)[g.length]? = b[0]? := by
  have := get_app0 (List.map f g) b; rwa [List.length_map] at this
theorem eCall_mk (a b : BitVec 32) : eCall (a, b) = .agg [e32 a, e32 b] := rfl
def Groups.step (g : Groups) (x : Rule) : Groups where
  calls := mput g.calls (x.arch, x.nr) (mget g.calls (x.arch, x.nr) ++ [x])
  nrs := if (mget g.calls (x.arch, x.nr)).length = 0 then mput g.nrs x.arch (mget g.nrs x.arch ++ [x.nr]) else g.nrs
  ms := if (mget g.calls (x.arch, x.nr)).length = 0 then if (mget g.nrs x.arch).length = 0 then g.ms ++ [x.arch] else g.ms else g.ms
def groups (l : List Rule) : Groups := l.foldl Groups.step ⟨[], [], []⟩
/-! ### what the groups are -/
section
variable {κ β : Type} [DecidableEq κ]
theorem kidx_ex {k : κ} {ks : List κ} : (∃ j, kidx ks k = some j) ↔ k ∈ ks := by
  cases h : kidx ks k with
  | none => simpa using kidx_none.1 h
  | some j => simp; exact List.mem_of_getElem? (kidx_some h)
theorem kidx_append {k : κ} {ks : List κ} (h : kidx ks k = none) : ∀ (l : List κ), kidx (ks ++ l) k = (kidx l k).map (· + ks.length) := by
  intro l
  induction ks with
  | nil => simp
  | cons x r ih =>
    simp only [kidx] at h
    split at h
    · simp at h
    · rename_i hx
      simp only [Option.map_eq_none_iff] at h
      simp only [List.cons_append, kidx, if_neg hx, ih h, Option.map_map, List.length_cons]
      congr 1
theorem kidx_left {k : κ} {ks : List κ} {j : Nat} (h : kidx ks k = some j) : ∀ (l : List κ), kidx (ks ++ l) k = some j := by
  intro l
  induction ks generalizing j with
  | nil => simp [kidx] at h
  | cons x r ih =>
    simp only [kidx] at h
    simp only [List.cons_append, kidx]
    split at h
    · rename_i hx; rw [if_pos hx]; exact h
    · rename_i hx
      rw [if_neg hx]
      cases hr : kidx r k with
      | none => simp [hr] at h
      | some i => rw [hr] at h; rw [ih hr]; exact h
theorem keys_set {g : TM κ β} {k : κ} {v : List β} {j : Nat} (h : kidx (g.map (·.1)) k = some j) : (g.set j (k, v)).map (·.1) = g.map (·.1) := by
  obtain ⟨w, hw, _⟩ := mget_at h
  rw [List.map_set]
  apply List.ext_getElem?
  intro i
  rw [List.getElem?_set]
  split
  · rename_i he; subst he; simp [hw]
    have := (List.getElem?_eq_some_iff.1 hw).1
    simp [this]
  · rfl
theorem mget_mput (g : TM κ β) (k k' : κ) (v : List β) : mget (mput g k v) k' = if k' = k then v else mget g k' := by
  cases h : kidx (g.map (·.1)) k with
  | some j =>
    have hj : j < g.length := by obtain ⟨w, hw, _⟩ := mget_at h; exact (List.getElem?_eq_some_iff.1 hw).1
    have hk := keys_set (v := v) h
    simp only [mput, h]
    unfold mget
    rw [hk]
    by_cases he : k' = k
    · subst he; simp [h, hj]
    · rw [if_neg he]
      cases h' : kidx (g.map (·.1)) k' with
      | none => rfl
      | some i =>
        have hi : i ≠ j := by
          intro hc; subst hc
          have h1 := kidx_some h; have h2 := kidx_some h'
          rw [h1] at h2; exact he (by simpa using h2.symm)
        simp only [List.getElem?_set, if_neg (Ne.symm hi)]
  | none =>
    simp only [mput, h]
    unfold mget
    simp only [List.map_append, List.map_cons, List.map_nil]
    by_cases he : k' = k
    · subst he
      rw [kidx_append h]
      simp [kidx]
    · rw [if_neg he]
      cases h' : kidx (g.map (·.1)) k' with
      | none => rw [kidx_append h']; simp [kidx, he]
      | some i =>
        rw [kidx_left h']
        have hi : i < g.length := by have := (List.getElem?_eq_some_iff.1 (kidx_some h')).1; simpa using this
        simp [List.getElem?_append_left hi]
theorem keys_mput (g : TM κ β) (k k' : κ) (v : List β) : k' ∈ (mput g k v).map (·.1) ↔ k' = k ∨ k' ∈ g.map (·.1) := by
  cases h : kidx (g.map (·.1)) k with
  | some j =>
    simp only [mput, h]
    rw [keys_set h]
    constructor
    · exact Or.inr
    · rintro (rfl | h')
      · exact kidx_ex.1 ⟨j, h⟩
      · exact h'
  | none => simp only [mput, h, List.map_append, List.map_cons, List.map_nil, List.mem_append, List.mem_singleton]; exact Or.comm
end
def inCall (k : BitVec 32 × BitVec 32) (x : Rule) : Bool := decide (k = (x.arch, x.nr))
theorem groups_calls (k : BitVec 32 × BitVec 32) : ∀ (l : List Rule) (g : Groups), mget (l.foldl Groups.step g).calls k = mget g.calls k ++ l.filter (inCall k)
  | [], g => by simp
  | x :: l, g => by
    rw [List.foldl_cons, groups_calls k l, Groups.step, mget_mput, List.filter_cons]
    by_cases h : k = (x.arch, x.nr)
    · subst h; simp [inCall]
    · simp [h, inCall]
theorem groups_nrs (a : BitVec 32) : ∀ (l : List Rule) (g : Groups), (mget (l.foldl Groups.step g).nrs a).length ≤ (mget g.nrs a).length + l.length
  | [], g => by simp
  | x :: l, g => by
    rw [List.foldl_cons]
    have := groups_nrs a l (g.step x)
    have h2 : (mget (g.step x).nrs a).length ≤ (mget g.nrs a).length + 1 := by
      simp only [Groups.step]
      split
      · rw [mget_mput]; split
        · rename_i he; subst he; simp
        · omega
      · omega
    simp only [List.length_cons]; omega
theorem groups_ms : ∀ (l : List Rule) (g : Groups), (l.foldl Groups.step g).ms.length ≤ g.ms.length + l.length
  | [], g => by simp
  | x :: l, g => by
    rw [List.foldl_cons]
    have := groups_ms l (g.step x)
    have h2 : (g.step x).ms.length ≤ g.ms.length + 1 := by
      simp only [Groups.step]
      split
      · split <;> simp
      · omega
    simp only [List.length_cons]; omega
structure GInv (g : Groups) : Prop where
  there : ∀ a n, n ∈ mget g.nrs a → (a, n) ∈ g.calls.map (·.1)
  some : ∀ a ∈ g.ms, a ∈ g.nrs.map (·.1) ∧ mget g.nrs a ≠ []
theorem GInv.step {g : Groups} (h : GInv g) (x : Rule) : GInv (g.step x) where
  there := by
    intro a n hn
    simp only [Groups.step] at hn ⊢
    rw [keys_mput]
    split at hn
    · rw [mget_mput] at hn
      split at hn
      · rename_i he; subst he
        simp only [List.mem_append, List.mem_singleton] at hn
        rcases hn with hn | rfl
        · exact Or.inr (h.there _ _ hn)
        · exact Or.inl rfl
      · exact Or.inr (h.there _ _ hn)
    · exact Or.inr (h.there _ _ hn)
  some := by
    intro a ha
    simp only [Groups.step] at ha ⊢
    split at ha
    · rename_i hc
      rw [if_pos hc, mget_mput, keys_mput]
      split at ha
      · simp only [List.mem_append, List.mem_singleton] at ha
        by_cases he : a = x.arch
        · simp [he]
        · rw [if_neg he]
          rcases ha with ha | ha
          · exact ⟨Or.inr (h.some a ha).1, (h.some a ha).2⟩
          · exact absurd ha he
      · by_cases he : a = x.arch
        · simp [he]
        · rw [if_neg he]; exact ⟨Or.inr (h.some a ha).1, (h.some a ha).2⟩
    · rename_i hc
      rw [if_neg hc]; exact h.some a ha
theorem GInv.all : ∀ (l : List Rule) {g : Groups}, GInv g → GInv (l.foldl Groups.step g)
  | [], _, h => h
  | x :: l, _, h => GInv.all l (h.step x)
theorem groups_inv (l : List Rule) : GInv (groups l) := GInv.all l ⟨by intro a n hn; simp [mget, kidx] at hn, by intro a ha; simp at ha⟩
theorem groups_ok {p : Policy} (h : p.right = true) : (groups p.rules).Ok := by
  simp only [Policy.right, Bool.and_eq_true, decide_eq_true_eq, List.all_eq_true] at h
  have hc : ∀ k, mget (groups p.rules).calls k = p.rules.filter (inCall k) := by intro k; rw [groups, groups_calls]; simp [mget, kidx]
  have hi := groups_inv p.rules
  refine ⟨fun k => ?_, fun k x hx => ?_, fun k => ?_, fun a n hn => kidx_ex.2 (hi.there a n hn), fun a ha => ⟨_, (kidx_ex.2 (hi.some a ha).1).choose_spec, (hi.some a ha).2⟩⟩
  · rw [hc]; have := List.length_filter_le (inCall k) p.rules; omega
  · rw [hc] at hx
    have := h.1.1 x (List.mem_filter.1 hx).1
    simp only [Rule.may, Bool.and_eq_true, decide_eq_true_eq] at this; omega
  · have := groups_nrs k p.rules ⟨[], [], []⟩
    have h0 : (mget (⟨[], [], []⟩ : Groups).nrs k).length = 0 := by simp [mget, kidx]
    rw [h0] at this
    show (mget (groups p.rules).nrs k).length ≤ 64
    unfold groups; omega
def Mk.roots (g : Groups) (other : Int) (s : Mk × List Entry) (arch : BitVec 32) : Mk × List Entry := ((s.1.begin g arch other).1, s.2 ++ [⟨arch, (s.1.begin g arch other).2⟩])
def Mk.chain (s : Mk × Int) (x : Entry) : Mk × Int := s.1.branch 21 x.nr x.pos s.2
def lowerMk (p : Policy) : Mk :=
  let s0 := (⟨[], 0⟩ : Mk).add 6 p.dflt
  let g := groups p.rules
  let s1 := g.ms.foldl (Mk.roots g s0.2) (s0.1, [])
  let s2 := s1.2.foldl Mk.chain (s1.1, s0.2)
  if 0 < s1.2.length then (s2.1.add 32 4#32).1 else s2.1
def lowerF (p : Policy) : List Ins × Int := if p.right then if (lowerMk p).e = 0 then ((lowerMk p).c, 0) else ([], (lowerMk p).e) else ([], 1)
theorem lower_eq (p : Policy) (hp' : p.small) : C0.pure 8 [ePolicy p] = some (.tup [.lst ((lowerF p).1.map eIns), ei (lowerF p).2]) := by
  refine pure_by rfl (by rfl) rfl ?_
  have hr := policyRight_eq p hp'
  cases hr2 : p.right with
  | false => simp [fd8, hr, hr2, lowerF]
  | true =>
  have hn := hp'.1
  have h0 := add_first [.cells [.ptr 1 0 0]] [] [] 6 p.dflt
  have hm0 := Mk.add_len ⟨[], 0⟩ 6 p.dflt (by simp)
  simp only [lowerF, hr2, if_true]
  have hmk : lowerMk p = if 0 < ((groups p.rules).ms.foldl (Mk.roots (groups p.rules) ((⟨[], 0⟩ : Mk).add 6 p.dflt).2) (((⟨[], 0⟩ : Mk).add 6 p.dflt).1, [])).2.length then ((((groups p.rules).ms.foldl (Mk.roots (groups p.rules) ((⟨[], 0⟩ : Mk).add 6 p.dflt).2) (((⟨[], 0⟩ : Mk).add 6 p.dflt).1, [])).2.foldl Mk.chain (((groups p.rules).ms.foldl (Mk.roots (groups p.rules) ((⟨[], 0⟩ : Mk).add 6 p.dflt).2) (((⟨[], 0⟩ : Mk).add 6 p.dflt).1, [])).1, ((⟨[], 0⟩ : Mk).add 6 p.dflt).2)).1.add 32 4#32).1 else (((groups p.rules).ms.foldl (Mk.roots (groups p.rules) ((⟨[], 0⟩ : Mk).add 6 p.dflt).2) (((⟨[], 0⟩ : Mk).add 6 p.dflt).1, [])).2.foldl Mk.chain (((groups p.rules).ms.foldl (Mk.roots (groups p.rules) ((⟨[], 0⟩ : Mk).add 6 p.dflt).2) (((⟨[], 0⟩ : Mk).add 6 p.dflt).1, [])).1, ((⟨[], 0⟩ : Mk).add 6 p.dflt).2)).1 := rfl
  simp [fd8, hr, hr2, h0]
  generalize (⟨[], 0⟩ : Mk).add 6 p.dflt = s0 at *
  obtain ⟨m0, other⟩ := s0
  simp only at hm0 hmk ⊢
  have hok := groups_ok hr2
  have hpm : p.rules.length ≤ 64 := by simp only [Policy.right, Bool.and_eq_true, decide_eq_true_eq] at hr2; exact hr2.2
  refine loop_by (σ := Nat × Nat) (fun s => p.rules.length - s.1) (fun s => [(4, .v (.ptr 0 0 0)), (5, .v (.ptr 0 1 0)), (6, .v (.ptr 0 2 0)), (7, .v (.ptr 0 3 0)), (8, .v (.acc s.2 ((groups (p.rules.take s.1)).ms.map e32))), (31, .v (.d (.lst (p.rules.map eRule)))), (32, .v (.d (ei p.rules.length))), (33, .v (.d (ei s.1)))])
    (fun s => hp (baseA other) m0 [] [mapOf (groups (p.rules.take s.1)), mapNr (groups (p.rules.take s.1))]) (fun s => s.1 ≤ p.rules.length ∧ (s.2 = 0 ∨ s.2 = 1)) ?_ (0, 0) (by simp)
  rintro ⟨i, z⟩ ⟨hi, hz⟩ B again
  simp only at hi again ⊢
  by_cases h : i < p.rules.length
  · obtain ⟨x, hx, hx', _⟩ := drop_at p.rules i h
    have hst : groups (p.rules.take (i + 1)) = (groups (p.rules.take i)).step x := fold_snoc Groups.step ⟨[], [], []⟩ p.rules i x hx
    have hcl : ∀ k, (mget (groups (p.rules.take i)).calls k).length ≤ 64 := by
      intro k; rw [groups, groups_calls]; simp [mget, kidx]
      have := List.length_filter_le (inCall k) (p.rules.take i); simp at this; omega
    have hnl : ∀ k, (mget (groups (p.rules.take i)).nrs k).length ≤ 64 := by
      intro k; have := groups_nrs k (p.rules.take i) ⟨[], [], []⟩; simp [mget, kidx] at this
      show (mget ((p.rules.take i).foldl Groups.step ⟨[], [], []⟩).nrs k).length ≤ 64
      unfold mget; omega
    have hml : (groups (p.rules.take i)).ms.length ≤ 64 := by
      have := groups_ms (p.rules.take i) ⟨[], [], []⟩; simp at this; unfold groups; omega
    have wi := wrap_succ h (show p.rules.length ≤ 4611686018427387904 by omega)
    have g2 := fun z' hz' => again (i + 1, z') ⟨by simp; omega, hz'⟩ (by simp; omega)
    simp only [hst] at g2
    generalize groups (p.rules.take i) = g at *
    have hc1 := hcl (x.arch, x.nr)
    have hn1 := hnl x.arch
    have hfc : findK (.many [.i, .i]) (.agg [e32 x.arch, e32 x.nr]) (g.calls.map fun p => eCall p.1) = some (kidx (g.calls.map (·.1)) (x.arch, x.nr)) := by
      have := findCall (x.arch, x.nr) (g.calls.map (·.1)); rw [List.map_map] at this; exact this
    have hfn : findK (.one .i) (e32 x.arch) (g.nrs.map fun p => e32 p.1) = some (kidx (g.nrs.map (·.1)) x.arch) := by
      have := find32 x.arch (g.nrs.map (·.1)); rw [List.map_map] at this; exact this
    have hz2 : z = 1 ∨ z = 0 := hz.symm
    have s1 : (g.ms.length + 1) * 4 ≤ 70368744177664 := by omega
    cases hkc : kidx (g.calls.map (·.1)) (x.arch, x.nr) with
    | none =>
      have hgw := mget_none hkc
      have e1 : mapOf (g.step x) = _ := mput_none hkc eCall 4 eRule
      have l0 : (mget g.calls (x.arch, x.nr)).length = 0 := by rw [hgw]; rfl
      rw [hkc] at hfc
      cases hkn : kidx (g.nrs.map (·.1)) x.arch with
      | none =>
        have hgv := mget_none hkn
        have e2 : mapNr (g.step x) = eMap e32 1 e32 (mput g.nrs x.arch (mget g.nrs x.arch ++ [x.nr])) := by simp only [mapNr, Groups.step, l0, if_true]
        have e3 : (g.step x).ms = g.ms ++ [x.arch] := by simp [Groups.step, l0, hgv]
        rw [hkn] at hfn
        have g3 := g2 1 (by simp)
        rw [e1, e2, mput_none hkn e32 1 e32, e3, hgw, hgv] at g3
        simp [eCall_mk] at g3
        simp [l8_0, h, hx', eMap, hfc, hfn, hz2, s1, wi]
        simpa using g3
      | some r =>
        obtain ⟨v, hv, hgv⟩ := mget_at hkn
        have e2 : mapNr (g.step x) = eMap e32 1 e32 (mput g.nrs x.arch (mget g.nrs x.arch ++ [x.nr])) := by simp only [mapNr, Groups.step, l0, if_true]
        rw [hkn] at hfn
        have s2 : (v.length + 1) * 4 ≤ 70368744177664 := by rw [hgv] at hn1; omega
        by_cases hve : v = []
        · have e3 : (g.step x).ms = g.ms ++ [x.arch] := by simp [Groups.step, l0, hgv, hve]
          have g3 := g2 1 (by simp)
          rw [e1, e2, mput_some hkn e32 1 e32, e3, hgw, hgv] at g3
          simp [eCall_mk] at g3
          simp [l8_0, h, hx', eMap, hfc, hfn, hv, hve, hz2, s1, s2, wi]
          simpa [hve] using g3
        · have e3 : (g.step x).ms = g.ms := by simp [Groups.step, l0, hgv, hve]
          have g3 := g2 z hz
          rw [e1, e2, mput_some hkn e32 1 e32, e3, hgw, hgv] at g3
          simp [eCall_mk] at g3
          simp [l8_0, h, hx', eMap, hfc, hfn, hv, hve, hz2, s1, s2, wi]
          simpa using g3
    | some q =>
      obtain ⟨w, hw, hgw⟩ := mget_at hkc
      have e1 : mapOf (g.step x) = _ := mput_some hkc eCall 4 eRule
      rw [hkc] at hfc
      have hq : q < g.calls.length := (List.getElem?_eq_some_iff.1 hw).1
      have hw' : g.calls[q]'hq = ((x.arch, x.nr), w) := (List.getElem?_eq_some_iff.1 hw).2
      have s3 : (w.length + 1) * 40 ≤ 70368744177664 := by rw [hgw] at hc1; omega
      by_cases hwe : w = []
      · have l0 : (mget g.calls (x.arch, x.nr)).length = 0 := by rw [hgw, hwe]; rfl
        cases hkn : kidx (g.nrs.map (·.1)) x.arch with
        | none =>
          have hgv := mget_none hkn
          have e2 : mapNr (g.step x) = eMap e32 1 e32 (mput g.nrs x.arch (mget g.nrs x.arch ++ [x.nr])) := by simp only [mapNr, Groups.step, l0, if_true]
          have e3 : (g.step x).ms = g.ms ++ [x.arch] := by simp [Groups.step, l0, hgv]
          rw [hkn] at hfn
          have g3 := g2 1 (by simp)
          rw [e1, e2, mput_none hkn e32 1 e32, e3, hgw, hgv] at g3
          simp [eCall_mk] at g3
          simp [l8_0, h, hx', eMap, hfc, hfn, hw', hwe, hq, hz2, s1, s3, wi]
          simpa [hwe] using g3
        | some r =>
          obtain ⟨v, hv, hgv⟩ := mget_at hkn
          have e2 : mapNr (g.step x) = eMap e32 1 e32 (mput g.nrs x.arch (mget g.nrs x.arch ++ [x.nr])) := by simp only [mapNr, Groups.step, l0, if_true]
          rw [hkn] at hfn
          have s2 : (v.length + 1) * 4 ≤ 70368744177664 := by rw [hgv] at hn1; omega
          by_cases hve : v = []
          · have e3 : (g.step x).ms = g.ms ++ [x.arch] := by simp [Groups.step, l0, hgv, hve]
            have g3 := g2 1 (by simp)
            rw [e1, e2, mput_some hkn e32 1 e32, e3, hgw, hgv] at g3
            simp [eCall_mk] at g3
            simp [l8_0, h, hx', eMap, hfc, hfn, hv, hve, hw', hwe, hq, hz2, s1, s2, s3, wi]
            simpa [hve, hwe] using g3
          · have e3 : (g.step x).ms = g.ms := by simp [Groups.step, l0, hgv, hve]
            have g3 := g2 z hz
            rw [e1, e2, mput_some hkn e32 1 e32, e3, hgw, hgv] at g3
            simp [eCall_mk] at g3
            simp [l8_0, h, hx', eMap, hfc, hfn, hv, hve, hw', hwe, hq, hz2, s1, s2, s3, wi]
            simpa [hwe] using g3
      · have l0 : ¬ (mget g.calls (x.arch, x.nr)).length = 0 := by rw [hgw]; simpa using hwe
        have e2 : mapNr (g.step x) = mapNr g := by simp only [mapNr, Groups.step, if_neg l0]
        have e3 : (g.step x).ms = g.ms := by simp only [Groups.step, if_neg l0]
        have g3 := g2 z hz
        rw [e1, e2, e3, hgw] at g3
        simp [eCall_mk, eMap] at g3
        simp [l8_0, h, hx', eMap, hfc, hw', hwe, hq, hz2, s3, wi]
        simpa using g3
  · have : i = p.rules.length := by omega
    subst this
    simp only [List.take_length]
    have hmsl : (groups p.rules).ms.length ≤ 64 := by have := groups_ms p.rules ⟨[], [], []⟩; simp at this; unfold groups; omega
    generalize groups p.rules = g at *
    simp [l8_0, k8_5]
    have hml : g.ms.length ≤ 64 := hmsl
    have hrl : ∀ (l : List (BitVec 32)) (s : Mk × List Entry), s.1.c.length ≤ 4096 → (l.foldl (Mk.roots g other) s).1.c.length ≤ 4096 ∧ (l.foldl (Mk.roots g other) s).2.length = s.2.length + l.length := by
      intro l
      induction l with
      | nil => intro s hs; simp [hs]
      | cons y l ih =>
        intro s hs
        have := ih (Mk.roots g other s y) (Mk.begin_len _ _ _ _ hs)
        simp only [List.foldl_cons, List.length_cons]
        refine ⟨this.1, ?_⟩
        rw [this.2]; simp [Mk.roots]; omega
    have ec : ([] : List HObj) = [] ++ [] := rfl
    refine loop_by (σ := Nat × Nat × Hs) (fun s => g.ms.length - s.1) (fun s => [(4, .v (.ptr 0 0 0)), (5, .v (.ptr 0 1 0)), (12, .v (.fn 26 [.ptr 0 3 0, .ptr 0 0 0, .ptr 0 2 0, .ptr 0 1 0])), (13, .v (.acc s.2.1 (((g.ms.take s.1).foldl (Mk.roots g other) (m0, [])).2.map eEntry))), (79, .v (.d (.lst (g.ms.map e32)))), (80, .v (.d (ei g.ms.length))), (81, .v (.d (ei s.1)))])
      (fun s => hp (baseA other ++ s.2.2.1) ((g.ms.take s.1).foldl (Mk.roots g other) (m0, [])).1 s.2.2.2.1 (mapOf g :: mapNr g :: s.2.2.2.2)) (fun s => s.1 ≤ g.ms.length ∧ (s.2.1 = 2 ∨ s.2.1 = 0)) ?_ (0, 0, [], [], []) (by simp)
    rintro ⟨i, z, a', c', d'⟩ ⟨hi, hz⟩ B again
    simp only at hi hz again ⊢
    by_cases h : i < g.ms.length
    · obtain ⟨x, hx, hx', _⟩ := drop_at g.ms i h
      have hl1 := hrl (g.ms.take i) (m0, []) hm0
      have hnx := fold_snoc (Mk.roots g other) (m0, []) g.ms i x hx
      have wi := wrap_succ h (show g.ms.length ≤ 4611686018427387904 by omega)
      generalize (g.ms.take i).foldl (Mk.roots g other) (m0, []) = s at *
      obtain ⟨r, h', p1, hr3, a2, c2, d2, hh⟩ := begin_eq a' c' d' s.1 g x other hl1.1 hok (List.mem_of_getElem? hx)
      have hsz : (s.2.length + 1) * 16 ≤ 70368744177664 := by have := hl1.2; simp at this; omega
      have g2 := again (i + 1, 2, a' ++ a2, c' ++ c2, d' ++ d2) ⟨by simp; omega, by simp⟩ (by simp; omega)
      simp only [hnx, Mk.roots] at g2
      subst hr3 hh
      simp at p1 g2
      simp [l8_1, h, hx', p1, wi, hsz, hz]
      simpa using g2
    · have : i = g.ms.length := by omega
      subst this
      simp only [List.take_length]
      have hl1 := hrl g.ms (m0, []) hm0
      generalize g.ms.foldl (Mk.roots g other) (m0, []) = s at *
      obtain ⟨m1, roots⟩ := s
      simp only at hl1 hmk ⊢
      have hrn : roots.length ≤ 64 := by have := hl1.2; simp at this; omega
      simp [l8_1, k8_4]
      have hcl : ∀ (l : List Entry) (s : Mk × Int), s.1.c.length ≤ 4096 → (l.foldl Mk.chain s).1.c.length ≤ 4096 := by
        intro l
        induction l with
        | nil => intro s hs; simp [hs]
        | cons y l ih => intro s hs; exact ih _ (Mk.branch_len _ _ _ _ _ hs)
      refine loop_by (σ := Nat) (fun s => roots.length - s) (fun s => [(4, .v (.ptr 0 0 0)), (13, .v (.acc z (roots.map eEntry))), (16, .v (.d (ei ((roots.take s).foldl Mk.chain (m1, other)).2))), (95, .v (.d (.lst (roots.map eEntry)))), (96, .v (.d (ei roots.length))), (97, .v (.d (ei s)))])
        (fun s => hp (baseA other ++ a') ((roots.take s).foldl Mk.chain (m1, other)).1 c' (mapOf g :: mapNr g :: d')) (fun s => s ≤ roots.length) ?_ 0 (by simp)
      intro k hk B2 again2
      by_cases h2 : k < roots.length
      · obtain ⟨x, hx, hx', _⟩ := drop_at roots k h2
        have hnx := fold_snoc Mk.chain (m1, other) roots k x hx
        have hl2 := hcl (roots.take k) (m1, other) hl1.1
        have wk := wrap_succ h2 (show roots.length ≤ 4611686018427387904 by omega)
        generalize (roots.take k).foldl Mk.chain (m1, other) = s at *
        have g2 := again2 (k + 1) (by omega) (by omega)
        have hb := branch_eq' (baseA other ++ a') c' (mapOf g :: mapNr g :: d') s.1 21 x.nr x.pos s.2 hl2
        simp only [hnx, Mk.chain] at g2
        simp at hb g2
        simp [l8_2, h2, hx', hb, wk]
        simpa using g2
      · have : k = roots.length := by omega
        subst this
        simp only [List.take_length]
        have hl2 := hcl roots (m1, other) hl1.1
        generalize roots.foldl Mk.chain (m1, other) = s at *
        have ha := add_eq (baseA other ++ a') c' (mapOf g :: mapNr g :: d') s.1 32 4#32 hl2
        simp at ha
        by_cases hr0 : 0 < roots.length
        · rw [if_pos hr0] at hmk
          rw [hmk]
          by_cases he : (s.1.add 32 4#32).1.e = 0 <;> simp [l8_2, k8_3, hr0, ha, mB, he]
        · rw [if_neg hr0] at hmk
          rw [hmk]
          by_cases he : s.1.e = 0 <;> simp [l8_2, k8_3, hr0, mB, he]
end Go.Ab

/-
  Which filters may be run: what the program's functions answer. Conditions: none.
-/
namespace Go.Ab
open Dig
set_option maxRecDepth 4000

theorem shapes_ways : ∀ s ∈ shapes, isBranch s.op = s.ways := by decide
theorem branch_bounds {x : Ins} (hr : x.right = true) (hb : isBranch x.op = true) : 0 ≤ x.jt ∧ x.jt ≤ 255 ∧ 0 ≤ x.jf ∧ x.jf ≤ 255 := by
  unfold Ins.right at hr
  cases hs : shapeOf x.op with
  | none => simp [hs] at hr
  | some s =>
    have hm := shape_mem hs
    have hw := shapes_ways s hm.1
    rw [hm.2, hb] at hw
    simp only [hs, ← hw, if_true, Bool.and_eq_true, decide_eq_true_eq] at hr
    omega
theorem plain_ways {x : Ins} (hr : x.right = true) (hb : isBranch x.op = false) : x.jt = 0 ∧ x.jf = 0 := by
  unfold Ins.right at hr
  cases hs : shapeOf x.op with
  | none => simp [hs] at hr
  | some s =>
    have hm := shape_mem hs
    have hw := shapes_ways s hm.1
    rw [hm.2, hb] at hw
    simp [hs, ← hw] at hr
    exact ⟨hr.2.1, hr.2.2⟩

/-! ### what must be so of operations -/
abbrev hR : Heap := ⟨[.cells [.d (.fnc 94)]], [], [], [.map [ei 32, ei 52, ei 2, ei 3, ei 96, ei 97, ei 100, ei 116]
  [.fn 97 [.ptr 0 0 0], .fn 98 [.ptr 0 0 0], .fn 95 [.ptr 0 0 0], .fn 95 [.ptr 0 0 0], .fn 95 [.ptr 0 0 0], .fn 95 [.ptr 0 0 0], .fn 96 [.ptr 0 0 0], .fn 96 [.ptr 0 0 0]]]⟩
theorem rules0_eq : C0.imp 75 [] {} = some (.mapr 3 0, hR) := by
  refine imp_by (by rfl) rfl ?_
  simp [fd75, findK]
theorem if1_eq (h : Heap) (b : Bool) (e : Int) : C0.imp 94 [.d (.bool b), .d (.int .i64 e)] h = some (.d (ei (if b then 0 else e)), h) := by
  refine imp_by (by rfl) rfl ?_
  cases b <;> simp [fd94]
theorem rule95_eq (x : Ins) : C0.imp 95 [.d (eIns x), .ptr 0 0 0] hR = some (.d (ei (if decide (x.k < 16#32) then 0 else 7)), hR) := by
  refine imp_by (by rfl) rfl ?_
  have h := if1_eq hR (decide (x.k < 16#32)) 7
  simp [fd95, h]
theorem rule96_eq (x : Ins) : C0.imp 96 [.d (eIns x), .ptr 0 0 0] hR = some (.d (ei (if decide (x.k < 32#32) then 0 else 1)), hR) := by
  refine imp_by (by rfl) rfl ?_
  have h := if1_eq hR (decide (x.k < 32#32)) 1
  simp [fd96, h]
theorem rule97_eq (x : Ins) : C0.imp 97 [.d (eIns x), .ptr 0 0 0] hR = some (.d (ei (if decide (x.k % 4#32 = 0#32) && decide (x.k < 64#32) then 0 else 6)), hR) := by
  refine imp_by (by rfl) rfl ?_
  by_cases h4 : x.k % 4#32 = 0#32
  · have h := if1_eq hR (decide (x.k < 64#32)) 6
    simp [fd97, h, h4]
  · have h := if1_eq hR false 6
    simp [fd97, h, h4]
theorem rule98_eq (x : Ins) : C0.imp 98 [.d (eIns x), .ptr 0 0 0] hR = some (.d (ei (if !decide (x.k = 0#32) then 0 else 8)), hR) := by
  refine imp_by (by rfl) rfl ?_
  have h := if1_eq hR (!decide (x.k = 0#32)) 8
  simp [fd98, h]
def ruleErr (x : Ins) : Int :=
  if x.op = 32 then (if x.k % 4#32 = 0#32 ∧ x.k < 64#32 then 0 else 6) else if x.op = 52 then (if x.k = 0#32 then 8 else 0)
  else if x.op = 2 ∨ x.op = 3 ∨ x.op = 96 ∨ x.op = 97 then (if x.k < 16#32 then 0 else 7) else if x.op = 100 ∨ x.op = 116 then (if x.k < 32#32 then 0 else 1) else 0
def hasRule (op : Int) : Bool := decide (op ∈ [32, 52, 2, 3, 96, 97, 100, 116])
/-! ### where it may go -/
def waysF (x : Ins) (n : Int) : List Int :=
  if isEnd x.op then [] else if x.op = 5 then [n + 1 + x.k.toNat] else if isBranch x.op then [n + 1 + (if x.jf < x.jt then x.jf else x.jt), n + 1 + (if x.jt < x.jf then x.jf else x.jt)] else [n + 1]
theorem ways_eq (x : Ins) (n : Int) (hr : x.right = true) (h0 : 0 ≤ n) (h1 : n ≤ 5000) : C0.pure 76 [eIns x, .int .i64 n] = some (.lst ((waysF x n).map ei)) := by
  refine pure_by rfl (by rfl) rfl ?_
  have w1 : IntKind.wrap .i64 (n + 1) = n + 1 := wrap_i64' _ (by omega) (by omega)
  have hk := x.k.isLt
  have w2 : IntKind.wrap .i64 (n + 1 + (x.k.toNat : Int)) = n + 1 + (x.k.toNat : Int) := wrap_i64' _ (by omega) (by omega)
  by_cases he : isEnd x.op = true
  · simp [fd76, he, waysF, w1]
  · by_cases h5 : x.op = 5
    · simp [fd76, h5, waysF, w1, w2, show isEnd 5 = false from rfl]
    · by_cases hb : isBranch x.op = true
      · have hbb := branch_bounds hr hb
        have w3 : IntKind.wrap .i64 (n + 1 + (if x.jf < x.jt then x.jf else x.jt)) = n + 1 + (if x.jf < x.jt then x.jf else x.jt) := wrap_i64' _ (by split <;> omega) (by split <;> omega)
        have w4 : IntKind.wrap .i64 (n + 1 + (if x.jt < x.jf then x.jf else x.jt)) = n + 1 + (if x.jt < x.jf then x.jf else x.jt) := wrap_i64' _ (by split <;> omega) (by split <;> omega)
        simp [fd76, he, h5, hb, waysF, w1, w3, w4]
      · simp [fd76, he, h5, hb, waysF, w1]
/-! ### the error of an instruction, by how many are behind it -/
def insErr (left : Nat) (x : Ins) : Int :=
  if !x.right then 1 else if ruleErr x ≠ 0 then ruleErr x
  else if x.op = 5 ∧ left ≤ x.k.toNat ∨ isBranch x.op = true ∧ ((left : Int) ≤ x.jt ∨ (left : Int) ≤ x.jf) then 4 else 0
def firstBad : List Ins → Nat → Option (Nat × Int)
  | [], _ => none
  | x :: r, i => if insErr r.length x = 0 then firstBad r (i + 1) else some (i, insErr r.length x)
def lastEnds (f : List Ins) : Bool := match f[f.length - 1]? with
  | some x => isEnd x.op
  | none => false
def checkF (f : List Ins) : Int × Int := if f.length = 0 then (0, 5) else if 4096 < f.length then (0, 3) else match firstBad f 0 with
  | some (i, e) => (i, e)
  | none => if lastEnds f then (0, 0) else ((f.length : Int) - 1, 5)
def soundF (f : List Ins) : Bool := decide ((checkF f).2 = 0)
def jumps (x : Ins) : Bool := decide (x.op = 5) || isBranch x.op
theorem end_not {op : Int} (h : isEnd op = true) : op ≠ 5 ∧ isBranch op = false := by
  simp [isEnd] at h
  rcases h with rfl | rfl <;> exact ⟨by decide, by decide⟩
theorem ways_bad (x : Ins) (i n : Nat) (hi : i < n) : (jumps x = true ∧ ∃ w ∈ waysF x i, (n : Int) ≤ w) ↔ (x.op = 5 ∧ n - (i + 1) ≤ x.k.toNat ∨ isBranch x.op = true ∧ (((n - (i + 1) : Nat) : Int) ≤ x.jt ∨ ((n - (i + 1) : Nat) : Int) ≤ x.jf)) := by
  unfold jumps waysF
  by_cases he : isEnd x.op = true
  · have := end_not he
    simp [he, this.1, this.2]
  · simp only [he]
    by_cases h5 : x.op = 5
    · have hb : isBranch x.op = false := by rw [h5]; decide
      simp [h5]
      have hb5 : isBranch 5 = false := by decide
      simp [hb5]; omega
    · by_cases hb : isBranch x.op = true
      · simp [h5, hb]
        constructor
        · rintro (h | h)
          · split at h <;> omega
          · split at h <;> omega
        · intro h
          by_cases hlt : x.jt < x.jf
          · right; rw [if_pos hlt]; omega
          · right; rw [if_neg hlt]; omega
      · simp [h5, hb]
theorem find_rule (op : Int) : findK (.one .i) (.int .i64 op) [ei 32, ei 52, ei 2, ei 3, ei 96, ei 97, ei 100, ei 116] = some (kidx [32, 52, 2, 3, 96, 97, 100, 116] op) := by
  have := findKey_of (sh := .one .i) (ek := fun n : Int => ei n) (by intro a b; simp; rw [Bool.eq_iff_iff]; simp) op [32, 52, 2, 3, 96, 97, 100, 116] 0
  simp only [findK, shFit, dfine_int, if_true]
  simpa using this

theorem rule_call {x : Ins} {j : Nat} (h : kidx [32, 52, 2, 3, 96, 97, 100, 116] x.op = some j) :
    ∃ f, ([.fn 97 [.ptr 0 0 0], .fn 98 [.ptr 0 0 0], .fn 95 [.ptr 0 0 0], .fn 95 [.ptr 0 0 0], .fn 95 [.ptr 0 0 0], .fn 95 [.ptr 0 0 0], .fn 96 [.ptr 0 0 0], .fn 96 [.ptr 0 0 0]] : List AV)[j]? = some (.fn f [.ptr 0 0 0]) ∧ C0.imp f [.d (eIns x), .ptr 0 0 0] hR = some (.d (ei (ruleErr x)), hR) := by
  simp only [kidx] at h
  by_cases h1 : x.op = 32
  · simp [h1] at h; subst h
    refine ⟨97, rfl, ?_⟩
    rw [rule97_eq]; simp [ruleErr, h1]
  by_cases h2 : x.op = 52
  · simp [h2] at h; subst h
    refine ⟨98, rfl, ?_⟩
    rw [rule98_eq]; by_cases hk : x.k = 0#32 <;> simp [ruleErr, h2, hk]
  by_cases h3 : x.op = 2
  · simp [h3] at h; subst h
    refine ⟨95, rfl, ?_⟩
    rw [rule95_eq]; simp [ruleErr, h3]
  by_cases h4 : x.op = 3
  · simp [h4] at h; subst h
    refine ⟨95, rfl, ?_⟩
    rw [rule95_eq]; simp [ruleErr, h4]
  by_cases h5 : x.op = 96
  · simp [h5] at h; subst h
    refine ⟨95, rfl, ?_⟩
    rw [rule95_eq]; simp [ruleErr, h5]
  by_cases h6 : x.op = 97
  · simp [h6] at h; subst h
    refine ⟨95, rfl, ?_⟩
    rw [rule95_eq]; simp [ruleErr, h6]
  by_cases h7 : x.op = 100
  · simp [h7] at h; subst h
    refine ⟨96, rfl, ?_⟩
    rw [rule96_eq]; simp [ruleErr, h7]
  by_cases h8 : x.op = 116
  · simp [h8] at h; subst h
    refine ⟨96, rfl, ?_⟩
    rw [rule96_eq]; simp [ruleErr, h8]
  · simp [h1, h2, h3, h4, h5, h6, h7, h8] at h
theorem rule_none {x : Ins} (h : kidx [32, 52, 2, 3, 96, 97, 100, 116] x.op = none) : ruleErr x = 0 := by
  have := kidx_none.1 h
  simp only [List.mem_cons, List.not_mem_nil, or_false, not_or] at this
  simp [ruleErr, this]
theorem check_eq (f : List Ins) (hf : f.length ≤ 1099511627776) : C0.pure 46 [.lst (f.map eIns)] = some (.tup [ei (checkF f).1, ei (checkF f).2]) := by
  refine pure_by rfl (by rfl) rfl ?_
  by_cases hf0 : f.length = 0
  · simp [fd46, hf0, checkF]
  by_cases hf1 : 4096 < f.length
  · simp [fd46, hf0, hf1, checkF]
  have hc : checkF f = match firstBad f 0 with
    | some (i, e) => ((i : Int), e)
    | none => if lastEnds f then (0, 0) else ((f.length : Int) - 1, 5) := by simp only [checkF, if_neg hf0, if_neg hf1]
  simp [fd46, hf0, hf1, rules0_eq]
  refine loop_by (σ := Nat) (fun i => f.length - i) (fun i => [(0, .v (.d (.lst (f.map eIns)))), (4, .v (.mapr 3 0)), (22, .v (.d (.lst (f.map eIns)))), (23, .v (.d (ei f.length))), (24, .v (.d (ei i)))])
    (fun _ => hR) (fun i => i ≤ f.length ∧ firstBad f 0 = firstBad (f.drop i) i) ?_ 0 (by simp)
  rintro i ⟨hi, hfb⟩ B again
  by_cases h : i < f.length
  · obtain ⟨x, hx, hx', hd⟩ := drop_at f i h
    have hlen : (f.drop (i + 1)).length = f.length - (i + 1) := by simp
    rw [hd, firstBad, hlen] at hfb
    have wi := wrap_succ h (show f.length ≤ 4611686018427387904 by omega)
    cases hr : x.right with
    | false =>
      have he : insErr (f.length - (i + 1)) x = 1 := by simp [insErr, hr]
      rw [he] at hfb
      simp [l46_2, h, hx', hr, hc, hfb]
    | true =>
    have hw := ways_eq x i hr (by omega) (by omega)
    have hbad := ways_bad x i f.length h
    -- the loop over where it may go
    have inner : ruleErr x = 0 → Goes' C0 [.c (.loop l46_0), .b 3, .b 2, .c k46_1, .l B, .b 1, .c k46_3] [(0, .v (.d (.lst (f.map eIns)))), (4, .v (.mapr 3 0)), (5, .v (.d (ei i))), (9, .v (.d (eb (jumps x)))), (22, .v (.d (.lst (f.map eIns)))), (23, .v (.d (ei f.length))), (24, .v (.d (ei i))), (55, .v (.d (.lst ((waysF x i).map ei)))), (56, .v (.d (ei (waysF x i).length))), (57, .v (.d (ei 0)))] hR (PureQ [.tmp 2, .tmp 3] (.tup [ei (checkF f).1, ei (checkF f).2])) := by
      intro h0
      have hins : insErr (f.length - (i + 1)) x = if x.op = 5 ∧ f.length - (i + 1) ≤ x.k.toNat ∨ isBranch x.op = true ∧ (((f.length - (i + 1) : Nat) : Int) ≤ x.jt ∨ ((f.length - (i + 1) : Nat) : Int) ≤ x.jf) then 4 else 0 := by simp [insErr, hr, h0]
      rw [hins] at hfb
      clear hins
      simp only [← hbad] at hfb
      have hwl : (waysF x i).length ≤ 2 := by unfold waysF; split <;> (try split) <;> (try split) <;> simp
      generalize waysF x i = W at *
      refine loop_by (σ := Nat) (fun k => W.length - k) (fun k => [(0, .v (.d (.lst (f.map eIns)))), (4, .v (.mapr 3 0)), (5, .v (.d (ei i))), (9, .v (.d (eb (jumps x)))), (22, .v (.d (.lst (f.map eIns)))), (23, .v (.d (ei f.length))), (24, .v (.d (ei i))), (55, .v (.d (.lst (W.map ei)))), (56, .v (.d (ei W.length))), (57, .v (.d (ei k)))]) (fun _ => hR) (fun k => k ≤ W.length ∧ (jumps x = true → ∀ w ∈ W.take k, ¬ (f.length : Int) ≤ w)) ?_ 0 (by simp)
      rintro k ⟨hk, hle⟩ B2 again2
      by_cases hk2 : k < W.length
      · obtain ⟨w, hwk, hwk', _⟩ := drop_at W k hk2
        have wk := wrap_succ hk2 (show W.length ≤ 4611686018427387904 by omega)
        have nxt := again2 (k + 1)
        cases hj : jumps x with
        | false =>
          have g := nxt ⟨by omega, by simp [hj]⟩ (by omega)
          simp [l46_0, hk2, hwk', hj, wk]
          simpa [hj] using g
        | true =>
          by_cases hwn : (f.length : Int) ≤ w
          · have : jumps x = true ∧ ∃ w ∈ W, (f.length : Int) ≤ w := ⟨hj, w, List.mem_of_getElem? hwk, hwn⟩
            rw [if_pos this] at hfb
            simp [l46_0, hk2, hwk', hj, hwn, hc, hfb]
          · have g := nxt ⟨by omega, fun _ w' hw' => by
              rw [List.take_add_one, hwk] at hw'
              simp only [Option.toList_some, List.mem_append, List.mem_singleton] at hw'
              rcases hw' with hw' | rfl
              · exact hle hj _ hw'
              · exact hwn⟩ (by omega)
            simp [l46_0, hk2, hwk', hj, hwn, wk]
            simpa [hj] using g
      · have : k = W.length := by omega
        subst this
        have hno : ¬ (jumps x = true ∧ ∃ w ∈ W, (f.length : Int) ≤ w) := by
          rintro ⟨hj, w, hw1, hw2⟩
          exact hle hj w (by simpa using hw1) hw2
        rw [if_neg hno, if_pos rfl] at hfb
        have g := again (i + 1) ⟨by omega, hfb⟩ (by omega)
        simp [l46_0, k46_1, wi]
        simpa using g
    cases hkr : kidx [32, 52, 2, 3, 96, 97, 100, 116] x.op with
    | none =>
      have h0 := rule_none hkr
      have g := inner h0
      have hfk := find_rule x.op
      rw [hkr] at hfk
      by_cases h5 : x.op = 5
      · simp [jumps, h5] at g
        rw [h5] at hfk
        simp [l46_2, h, hx', hr, hfk, h5, hw]
        simpa using g
      · simp [jumps, h5] at g
        simp [l46_2, h, hx', hr, hfk, h5, hw]
        simpa using g
    | some j =>
      obtain ⟨fn, hv, hcall⟩ := rule_call hkr
      have hfk := find_rule x.op
      rw [hkr] at hfk
      by_cases h0 : ruleErr x = 0
      · have g := inner h0
        by_cases h5 : x.op = 5
        · rw [h5] at hkr; simp [kidx] at hkr
        · simp [jumps, h5] at g
          simp [l46_2, h, hx', hr, hfk, hv, hcall, h0, h5, hw]
          simpa using g
      · have he : insErr (f.length - (i + 1)) x = ruleErr x := by simp [insErr, hr, h0]
        rw [he, if_neg h0] at hfb
        simp [l46_2, h, hx', hr, hfk, hv, hcall, h0, hc, hfb]
  · have : i = f.length := by omega
    subst this
    simp only [List.drop_length, firstBad] at hfb
    have hl : f.length - 1 < f.length := by omega
    have w1 : IntKind.wrap .i64 ((f.length : Int) - 1) = ((f.length - 1 : Nat) : Int) := by rw [wrap_i64' _ (by omega) (by omega)]; omega
    obtain ⟨x, hx, hx', _⟩ := drop_at f (f.length - 1) hl
    have hle : lastEnds f = isEnd x.op := by simp only [lastEnds, hx]
    simp only [hfb, hle] at hc
    generalize hq : f.length - 1 = q at *
    have hqi : (f.length : Int) - 1 = (q : Int) := by omega
    simp only [hqi] at w1 hc
    cases he : isEnd x.op <;> simp [l46_2, k46_3, hc, he, hqi, w1, hl, hx']
theorem sound_eq (f : List Ins) (hf : f.length ≤ 1099511627776) : C0.pure 22 [.lst (f.map eIns)] = some (eb (soundF f)) := by
  refine pure_by rfl (by rfl) rfl ?_
  have h := check_eq f hf
  simp [fd22, h, soundF]
end Go.Ab

/-
  Records and steps: what the program's functions answer. Conditions: none.
-/
namespace Go.Ab
open Dig
set_option maxRecDepth 4000

/-! ### a record's words -/
def loW (a : BitVec 64) : BitVec 32 := a.setWidth 32
def hiW (a : BitVec 64) : BitVec 32 := (a >>> 32).setWidth 32
def Data.words (d : Data) : List (BitVec 32) := d.nr :: d.arch :: loW d.ip :: hiW d.ip :: d.args.toList.flatMap fun a => [loW a, hiW a]
theorem vec6 {α : Type} (v : Vector α 6) : ∃ a b c d e f, v.toList = [a, b, c, d, e, f] := by
  have h : v.toList.length = 6 := by simp
  match hl : v.toList, h with
  | [a, b, c, d, e, f], _ => exact ⟨a, b, c, d, e, f, rfl⟩
theorem lo_pack (a b : BitVec 32) : (a.setWidth 64 ||| b.setWidth 64 <<< 32).setWidth 32 = a := by
  ext i hi
  simp
theorem hi_pack (a b : BitVec 32) : ((a.setWidth 64 ||| b.setWidth 64 <<< 32) >>> 32).setWidth 32 = b := by
  ext i hi
  have h1 : 32 + i < 64 := by omega
  have h2 : i < 64 := by omega
  simp [h1, h2, BitVec.getLsbD_eq_getElem hi]
theorem put_eq (h : Heap) (v : BitVec 64) (n : Nat) (cs : List D) (hn : n + 1 < 16) (hcs : cs.length = 16) :
    C0.imp 100 [.d (e64 v), .ptr 1 0 0, .ptr 0 0 0] ⟨[.cells [.d (ei n)]], [.cells (cs.map .d)], [], []⟩ = some (.d (.tup []), ⟨[.cells [.d (ei ((n : Int) + 2))]], [.cells (((cs.set n (e32 (loW v))).set (n + 1) (e32 (hiW v))).map .d)], [], []⟩) := by
  refine imp_by (by rfl) rfl ?_
  have w1 : IntKind.wrap .i64 ((n : Int) + 1) = (n : Int) + 1 := wrap_i64' _ (by omega) (by omega)
  have w2 : IntKind.wrap .i64 ((n : Int) + 2) = (n : Int) + 2 := wrap_i64' _ (by omega) (by omega)
  have h1 : n < 16 := by omega
  have h2 : (n : Int) + 1 < 16 := by omega
  have h3 : (0 : Int) ≤ (n : Int) + 1 := by omega
  have h4 : ((n : Int) + 1).toNat = n + 1 := by omega
  have h5 : n + 1 ≤ 16 := by omega
  have h6 : n + 1 + 1 ≤ 16 := by omega
  simp [fd100, w1, w2, h1, h2, h3, h4, h5, h6, hcs, hn, loW, hiW]
theorem words_eq (d : Data) : C0.pure 86 [eData d] = some (.agg (d.words.map e32)) := by
  refine pure_by rfl (by rfl) rfl ?_
  obtain ⟨a0, a1, a2, a3, a4, a5, hl⟩ := vec6 d.args
  have q0 := put_eq {} (d.nr.setWidth 64 ||| d.arch.setWidth 64 <<< 32) 0 [n32 0, n32 0, n32 0, n32 0, n32 0, n32 0, n32 0, n32 0, n32 0, n32 0, n32 0, n32 0, n32 0, n32 0, n32 0, n32 0] (by omega) rfl
  have q1 := put_eq {} d.ip 2 [e32 d.nr, e32 d.arch, n32 0, n32 0, n32 0, n32 0, n32 0, n32 0, n32 0, n32 0, n32 0, n32 0, n32 0, n32 0, n32 0, n32 0] (by omega) rfl
  have q2 := put_eq {} a0 4 [e32 d.nr, e32 d.arch, e32 (loW d.ip), e32 (hiW d.ip), n32 0, n32 0, n32 0, n32 0, n32 0, n32 0, n32 0, n32 0, n32 0, n32 0, n32 0, n32 0] (by omega) rfl
  have q3 := put_eq {} a1 6 [e32 d.nr, e32 d.arch, e32 (loW d.ip), e32 (hiW d.ip), e32 (loW a0), e32 (hiW a0), n32 0, n32 0, n32 0, n32 0, n32 0, n32 0, n32 0, n32 0, n32 0, n32 0] (by omega) rfl
  have q4 := put_eq {} a2 8 [e32 d.nr, e32 d.arch, e32 (loW d.ip), e32 (hiW d.ip), e32 (loW a0), e32 (hiW a0), e32 (loW a1), e32 (hiW a1), n32 0, n32 0, n32 0, n32 0, n32 0, n32 0, n32 0, n32 0] (by omega) rfl
  have q5 := put_eq {} a3 10 [e32 d.nr, e32 d.arch, e32 (loW d.ip), e32 (hiW d.ip), e32 (loW a0), e32 (hiW a0), e32 (loW a1), e32 (hiW a1), e32 (loW a2), e32 (hiW a2), n32 0, n32 0, n32 0, n32 0, n32 0, n32 0] (by omega) rfl
  have q6 := put_eq {} a4 12 [e32 d.nr, e32 d.arch, e32 (loW d.ip), e32 (hiW d.ip), e32 (loW a0), e32 (hiW a0), e32 (loW a1), e32 (hiW a1), e32 (loW a2), e32 (hiW a2), e32 (loW a3), e32 (hiW a3), n32 0, n32 0, n32 0, n32 0] (by omega) rfl
  have q7 := put_eq {} a5 14 [e32 d.nr, e32 d.arch, e32 (loW d.ip), e32 (hiW d.ip), e32 (loW a0), e32 (hiW a0), e32 (loW a1), e32 (hiW a1), e32 (loW a2), e32 (hiW a2), e32 (loW a3), e32 (hiW a3), e32 (loW a4), e32 (hiW a4), n32 0, n32 0] (by omega) rfl
  simp only [loW, hiW, lo_pack, hi_pack] at q0
  simp at q0 q1 q2 q3 q4 q5 q6 q7
  simp [fd86, hl, q0, q1, g_loop, g_again, l86_0, q2, q3, q4, q5, q6, q7, k86_1, Data.words, wrap_i64']
def wordOf (d : Data) (k : BitVec 32) : Option (BitVec 32) := if k % 4#32 = 0#32 ∧ k < 64#32 then d.words[(k / 4#32).toNat]? else none
theorem words_len (d : Data) : d.words.length = 16 := by
  obtain ⟨a0, a1, a2, a3, a4, a5, hl⟩ := vec6 d.args
  simp [Data.words, hl]
theorem word_eq (d : Data) (k : BitVec 32) : C0.pure 56 [eData d, e32 k] = some (.tup [e32 ((wordOf d k).getD 0#32), eb (wordOf d k).isSome]) := by
  have h85 : C0.pure 85 [e32 k] = some (eb (decide (k % 4#32 = 0#32) && decide (k < 64#32))) := by
    refine pure_by rfl (by rfl) rfl ?_
    by_cases h : k % 4#32 = 0#32 <;> simp [fd85, h]
  refine pure_by rfl (by rfl) rfl ?_
  have hw := words_eq d
  have hwl := words_len d
  by_cases h1 : k % 4#32 = 0#32 ∧ k < 64#32
  · have hlt : (k / 4#32).toNat < 16 := by
      have := BitVec.lt_def.1 h1.2
      rw [BitVec.toNat_udiv]; simp at this ⊢; omega
    have hwo : wordOf d k = d.words[(k / 4#32).toNat]? := by rw [wordOf, if_pos h1]
    rw [hwo]
    generalize hq : k / 4#32 = q at *
    simp [fd56, h85, h1, hw, hwl, hlt, hq]
  · have hwo : wordOf d k = none := by rw [wordOf, if_neg h1]
    have h2 : (decide (k % 4#32 = 0#32) && decide (k < 64#32)) = false := by simpa using h1
    rw [h2] at h85
    simp [fd56, h85, hwo]

/-! ### cells -/
theorem allD_map (l : List D) : allD (l.map .d) = some l := by
  induction l with
  | nil => rfl
  | cons x l ih => simp only [List.map_cons, allD, ih]
theorem write_one (ds : List D) (x : D) (off : Nat) (hx : AV.isAgg (.d x) = false) (h : off < ds.length) : AV.write (.d (.agg ds)) (.d x) off = some (.d (.agg (ds.set off x))) := by
  have hc : AV.cells (.d x) = [.d x] := by cases x <;> first | rfl | simp at hx
  have hs : (ds.map AV.d).take off ++ [AV.d x] ++ (ds.map AV.d).drop (off + 1) = (ds.set off x).map AV.d := by
    rw [List.map_set, List.set_eq_take_append_cons_drop, if_pos (by simpa using h)]; simp
  simp only [AV.write, isAgg_dagg, if_true, hx, hc, cells_dagg, List.length_cons, List.length_nil, Nat.zero_add, List.length_map]
  rw [if_neg (by simp), if_pos (by omega), hs, mkAgg, allD_map]
theorem write_a (s : State) (v : BitVec 32) : AV.write (.d (eState s)) (.d (e32 v)) 0 = some (.d (eState { s with a := v })) := by
  rw [eState, write_one _ _ _ rfl (by simp)]; rfl
theorem write_x (s : State) (v : BitVec 32) : AV.write (.d (eState s)) (.d (e32 v)) 1 = some (.d (eState { s with x := v })) := by
  rw [eState, write_one _ _ _ rfl (by simp)]; rfl
theorem write_m (s : State) (v : BitVec 32) (k : Nat) (h : k < 16) : AV.write (.d (eState s)) (.d (e32 v)) (2 + k) = some (.d (eState { s with m := s.m.set k v })) := by
  rw [eState, write_one _ _ _ rfl (by simp; omega)]
  congr 1
  have : (s.m.set k v h).toList = s.m.toList.set k v := by simp [Vector.toList, Vector.set, Array.toList_set]
  simp [eState, Nat.add_comm 2 k, this, List.map_set]
theorem write_state (s t : State) : AV.write (.d (eState s)) (.d (eState t)) 0 = some (.d (eState t)) := by
  simp [AV.write]
def cellOf (s : State) (k : BitVec 32) : BitVec 32 := (s.m.toList[k.toNat]?).getD 0#32
theorem cell_eq (s : State) (k : BitVec 32) : C0.pure 57 [eState s, e32 k] = some (e32 (cellOf s k)) := by
  refine pure_by rfl (by rfl) rfl ?_
  by_cases h : 16#32 ≤ k
  · have h1 : ¬ k.toNat < 16 := by have := BitVec.le_def.1 h; simp at this; omega
    have h2 : cellOf s k = 0#32 := by unfold cellOf; rw [List.getElem?_eq_none (by simp; omega)]; rfl
    simp [fd57, h, h2]
  · have h1 : k.toNat < 16 := by have : ¬ 16 ≤ k.toNat := fun hc => h (BitVec.le_def.2 (by simpa using hc)); omega
    have hl : k.toNat < s.m.toList.length := by simpa using h1
    obtain ⟨v, hv, hv', _⟩ := drop_at s.m.toList k.toNat hl
    have h2 : cellOf s k = v := by unfold cellOf; rw [hv]; rfl
    have h3 : s.m[k.toNat]'h1 = v := by rw [← hv']; simp
    simp [fd57, h, h1, h2, Nat.add_comm 2, h3]
def storeOf (s : State) (k v : BitVec 32) : State := if h : k.toNat < 16 then { s with m := s.m.set k.toNat v } else s
theorem store_eq (s : State) (k v : BitVec 32) : C0.pure 58 [eState s, e32 k, e32 v] = some (eState (storeOf s k v)) := by
  refine pure_by rfl (by rfl) rfl ?_
  by_cases h : k < 16#32
  · have h1 : k.toNat < 16 := by have := BitVec.lt_def.1 h; simpa using this
    have hw := write_m s v k.toNat h1
    simp [fd58, h, h1, hw, storeOf, -AV.write]
    simp [AV.write]
  · have h1 : ¬ k.toNat < 16 := fun hc => h (BitVec.lt_def.2 (by simpa using hc))
    simp [fd58, h, h1, storeOf]
end Go.Ab

/-
  Runs of filters: what the program's functions answer. Conditions: none.
-/
namespace Go.Ab
open Dig
set_option maxRecDepth 4000

def plainStep (s : State) (x : Ins) (d : Data) : State :=
  if x.op = 0 then { s with a := x.k } else if x.op = 1 then { s with x := x.k } else if x.op = 32 then { s with a := (wordOf d x.k).getD 0#32 }
  else if x.op = 96 then { s with a := cellOf s x.k } else if x.op = 97 then { s with x := cellOf s x.k } else if x.op = 2 then storeOf s x.k s.a
  else if x.op = 3 then storeOf s x.k s.x else if x.op = 7 then { s with x := s.a } else if x.op = 135 then { s with a := s.x } else if x.op = 132 then { s with a := -s.a } else s
def stepF (s : State) (x : Ins) (d : Data) : Option State := match aluOf x.op with
  | some (kind, byX) => (doW kind s.a (if byX then s.x else x.k)).map fun v => { s with a := v }
  | none => some (plainStep s x d)
def stepD (s : State) (o : Option State) : D := match o with
  | some t => .tup [eState t, eb true]
  | none => .tup [eState s, eb false]
theorem step_eq (s : State) (x : Ins) (d : Data) : C0.pure 35 [eState s, eIns x, eData d] = some (stepD s (stepF s x d)) := by
  refine pure_by rfl (by rfl) rfl ?_
  obtain ⟨op, jt, jf, k⟩ := x
  show Goes' _ _ _ _ (PureQ _ (stepD s (stepF s ⟨op, jt, jf, k⟩ d)))
  cases ha : aluOf op with
  | some p =>
    obtain ⟨kind, byX⟩ := p
    have hf : stepF s ⟨op, jt, jf, k⟩ d = (doW kind s.a (if byX then s.x else k)).map fun v => { s with a := v } := by simp [stepF, ha]
    have hal := alu_some (x := ⟨op, jt, jf, k⟩) ha
    rw [hf]
    cases byX with
    | false =>
      cases hv : doW kind s.a k <;> simp [↓write_a, ↓write_x, ↓write_state, fd35, hal, hv, wordD, stepD]
    | true =>
      cases hv : doW kind s.a s.x <;> simp [↓write_a, ↓write_x, ↓write_state, fd35, hal, hv, wordD, stepD]
  | none =>
    have hf : stepF s ⟨op, jt, jf, k⟩ d = some (plainStep s ⟨op, jt, jf, k⟩ d) := by simp [stepF, ha]
    have hal := alu_none (x := ⟨op, jt, jf, k⟩) ha
    rw [hf]
    simp only [plainStep, stepD]
    have hw := word_eq d k
    have hc := cell_eq s k
    have hs1 := store_eq s k s.a
    have hs2 := store_eq s k s.x
    have hn := neg_eq s.a
    by_cases h0 : op = 0
    · subst h0; simp [↓write_a, ↓write_x, ↓write_state, fd35, hal]
    by_cases h1 : op = 1
    · subst h1; simp [↓write_a, ↓write_x, ↓write_state, fd35, hal]
    by_cases h2 : op = 32
    · subst h2; simp [↓write_a, ↓write_x, ↓write_state, fd35, hal, hw]
    by_cases h3 : op = 96
    · subst h3; simp [↓write_a, ↓write_x, ↓write_state, fd35, hal, hc]
    by_cases h4 : op = 97
    · subst h4; simp [↓write_a, ↓write_x, ↓write_state, fd35, hal, hc]
    by_cases h5 : op = 2
    · subst h5; simp [↓write_a, ↓write_x, ↓write_state, fd35, hal, hs1]
    by_cases h6 : op = 3
    · subst h6; simp [↓write_a, ↓write_x, ↓write_state, fd35, hal, hs2]
    by_cases h7 : op = 7
    · subst h7; simp [↓write_a, ↓write_x, ↓write_state, fd35, hal]
    by_cases h8 : op = 135
    · subst h8; simp [↓write_a, ↓write_x, ↓write_state, fd35, hal]
    by_cases h9 : op = 132
    · subst h9; simp [↓write_a, ↓write_x, ↓write_state, fd35, hal, hn]
    · simp [↓write_a, ↓write_x, ↓write_state, fd35, hal, h0, h1, h2, h3, h4, h5, h6, h7, h8, h9]
def takesF (s : State) (x : Ins) : Bool :=
  let b := if x.op = 29 ∨ x.op = 45 ∨ x.op = 61 ∨ x.op = 77 then s.x else x.k
  if x.op = 21 ∨ x.op = 29 then decide (s.a = b) else if x.op = 37 ∨ x.op = 45 then decide (b < s.a) else if x.op = 53 ∨ x.op = 61 then decide (b ≤ s.a)
  else if x.op = 69 ∨ x.op = 77 then !decide (s.a &&& b = 0#32) else false
theorem takes_eq (s : State) (x : Ins) : C0.pure 34 [eState s, eIns x] = some (eb (takesF s x)) := by
  refine pure_by rfl (by rfl) rfl ?_
  obtain ⟨op, jt, jf, k⟩ := x
  show Goes' _ _ _ _ (PureQ _ (eb (takesF s ⟨op, jt, jf, k⟩)))
  simp only [takesF]
  by_cases h1 : op = 29
  · subst h1; simp [fd34]
  by_cases h2 : op = 45
  · subst h2; simp [fd34]
  by_cases h3 : op = 61
  · subst h3; simp [fd34]
  by_cases h4 : op = 77
  · subst h4; simp [fd34]
  by_cases h5 : op = 21
  · subst h5; simp [fd34]
  by_cases h6 : op = 37
  · subst h6; simp [fd34]
  by_cases h7 : op = 53
  · subst h7; simp [fd34]
  by_cases h8 : op = 69
  · subst h8; simp [fd34]
  · simp [fd34, h1, h2, h3, h4, h5, h6, h7, h8]
/-! ### runs, of what is left of a filter -/
def runL (d : Data) : List Ins → State → BitVec 32 × Nat
  | [], _ => (0#32, 0)
  | x :: r, s =>
    if x.op = 6 then (x.k, 1) else if x.op = 22 then (s.a, 1)
    else if x.op = 5 then ((runL d (r.drop x.k.toNat) s).1, (runL d (r.drop x.k.toNat) s).2 + 1)
    else if isBranch x.op then ((runL d (r.drop (if takesF s x then x.jt else x.jf).toNat) s).1, (runL d (r.drop (if takesF s x then x.jt else x.jf).toNat) s).2 + 1)
    else match stepF s x d with
      | some t => ((runL d r t).1, (runL d r t).2 + 1)
      | none => (0#32, 1)
termination_by l => l.length
decreasing_by
  all_goals simp only [List.length_cons, List.length_drop]
  all_goals omega
theorem soundF_iff (f : List Ins) : soundF f = true ↔ f.length ≠ 0 ∧ f.length ≤ 4096 ∧ (∀ i x, f[i]? = some x → insErr (f.length - (i + 1)) x = 0) ∧ lastEnds f = true := by
  have hb : ∀ (l : List Ins) (i : Nat), firstBad l i = none ↔ ∀ j x, l[j]? = some x → insErr (l.length - (j + 1)) x = 0 := by
    intro l
    induction l with
    | nil => intro i; simp [firstBad]
    | cons y l ih =>
      intro i
      simp only [firstBad]
      by_cases h : insErr l.length y = 0
      · rw [if_pos h, ih]
        constructor
        · intro hh j x hx
          cases j with
          | zero => simp at hx; subst hx; simpa using h
          | succ j => have := hh j x (by simpa using hx); rw [show (y :: l).length - (j + 1 + 1) = l.length - (j + 1) by simp]; exact this
        · intro hh j x hx
          have := hh (j + 1) x (by simpa using hx)
          rwa [show (y :: l).length - (j + 1 + 1) = l.length - (j + 1) by simp] at this
      · rw [if_neg h]
        constructor
        · intro hc; simp at hc
        · intro hh; exact absurd (by simpa using hh 0 y (by simp)) h
  have hne : ∀ (l : List Ins) (i : Nat) (p : Nat × Int), firstBad l i = some p → p.2 ≠ 0 := by
    intro l
    induction l with
    | nil => intro i p h; simp [firstBad] at h
    | cons y l ih =>
      intro i p h
      simp only [firstBad] at h
      split at h
      · exact ih _ _ h
      · rename_i hn; simp only [Option.some.injEq] at h; subst h; exact hn
  unfold soundF checkF
  by_cases h0 : f.length = 0
  · simp [h0]
  by_cases h1 : 4096 < f.length
  · simp [h0, h1]; omega
  rw [if_neg h0, if_neg h1]
  cases hf : firstBad f 0 with
  | some p =>
    have := hne f 0 p hf
    have h2 : ¬ ∀ i x, f[i]? = some x → insErr (f.length - (i + 1)) x = 0 := by rw [← hb f 0, hf]; simp
    simp only [decide_eq_true_eq]
    constructor
    · intro hc; exact absurd hc this
    · intro hc; exact absurd hc.2.2.1 h2
  | none =>
    have h2 := (hb f 0).1 hf
    cases hl : lastEnds f with
    | true => simp only [if_true, decide_true, true_iff]; exact ⟨h0, by omega, h2, trivial⟩
    | false => simp
theorem insErr_zero {n : Nat} {x : Ins} (h : insErr n x = 0) : x.right = true ∧ ruleErr x = 0 ∧ (x.op = 5 → x.k.toNat < n) ∧ (isBranch x.op = true → x.jt < n ∧ x.jf < n) := by
  unfold insErr at h
  cases hr : x.right with
  | false => simp [hr] at h
  | true =>
    simp only [hr] at h
    by_cases h0 : ruleErr x = 0
    · simp only [h0] at h
      simp at h
      refine ⟨rfl, h0, fun h5 => by have := h.1 h5; omega, fun hb => ?_⟩
      have := h.2 hb; omega
    · simp [h0] at h
def State.zero : State := ⟨0#32, 0#32, Vector.replicate 16 0#32⟩
end Go.Ab

/-
  Runs of filters, and code that grew by a condition: what the program's functions answer. Conditions: none.
-/
namespace Go.Ab
open Dig
set_option maxRecDepth 4000

theorem run_eq (f : List Ins) (d : Data) (hf : f.length ≤ 1099511627776) : C0.pure 10 [.lst (f.map eIns), eData d] = some (if soundF f then .tup [e32 (runL d f State.zero).1, ei (runL d f State.zero).2, ei 0] else .tup [n32 0, ei 0, ei 1]) := by
  refine pure_by rfl (by rfl) rfl ?_
  have hso := sound_eq f hf
  cases hs : soundF f with
  | false => simp [fd10, hso, hs]
  | true =>
  obtain ⟨hne, hle, hins, hlast⟩ := (soundF_iff f).1 hs
  have hz : AV.d (D.agg [n32 0, n32 0, n32 0, n32 0, n32 0, n32 0, n32 0, n32 0, n32 0, n32 0, n32 0, n32 0, n32 0, n32 0, n32 0, n32 0, n32 0, n32 0]) = AV.d (eState State.zero) := rfl
  simp [fd10, hso, hs, hz]
  refine loop_by (σ := Nat × State × Nat) (fun s => f.length - s.1) (fun s => [(0, .v (.d (.lst (f.map eIns)))), (3, .var 0 (.d (eData d))), (7, .var 0 (.d (eState s.2.1))), (8, .v (.d (n32 0))), (9, .v (.d (ei s.1))), (10, .v (.d (ei s.2.2)))]) (fun _ => {})
    (fun s => s.1 < f.length ∧ s.2.2 ≤ s.1 ∧ runL d f State.zero = ((runL d (f.drop s.1) s.2.1).1, (runL d (f.drop s.1) s.2.1).2 + s.2.2)) ?_ (0, State.zero, 0) (by simp; omega)
  rintro ⟨i, s, n⟩ ⟨hi, hn, hr⟩ B again
  simp only at hi hn hr again ⊢
  obtain ⟨x, hx, hx', hd⟩ := drop_at f i hi
  have hx0 := hins i x hx
  obtain ⟨hxr, hxe, hx5, hxb⟩ := insErr_zero hx0
  have wi := wrap_succ hi (show f.length ≤ 4611686018427387904 by omega)
  have wn : IntKind.wrap .i64 ((n : Int) + 1) = (n : Int) + 1 := wrap_i64' _ (by omega) (by omega)
  rw [hd, runL] at hr
  have hlen : ∀ m, (f.drop (i + 1)).drop m = f.drop (i + 1 + m) := by intro m; rw [List.drop_drop]
  have hlast' : isEnd x.op = false → i + 1 < f.length := by
    intro he
    apply Nat.lt_of_le_of_ne (by omega)
    intro hc
    have : f.length - 1 = i := by omega
    simp only [lastEnds, this, hx] at hlast
    rw [he] at hlast; simp at hlast
  by_cases h6 : x.op = 6
  · rw [if_pos h6] at hr
    simp [l10_0, hi, hx', wi, wn, h6, k10_1, hr]; omega
  rw [if_neg h6] at hr
  by_cases h22 : x.op = 22
  · rw [if_pos h22] at hr
    simp [l10_0, hi, hx', wi, wn, h22, k10_1, hr]; omega
  rw [if_neg h22] at hr
  have he : isEnd x.op = false := by simp [isEnd, h6, h22]
  by_cases h5 : x.op = 5
  · rw [if_pos h5, hlen] at hr
    have hk := hx5 h5
    have wk : IntKind.wrap .i64 ((i : Int) + 1 + (x.k.toNat : Int)) = (i : Int) + 1 + (x.k.toNat : Int) := wrap_i64' _ (by omega) (by omega)
    have g := again (i + 1 + x.k.toNat, s, n + 1) ⟨by simp; omega, by simp; omega, by rw [hr]; simp; omega⟩ (by simp; omega)
    simp [l10_0, hi, hx', wi, wn, h5, wk]
    simpa using g
  rw [if_neg h5] at hr
  cases hb : isBranch x.op with
  | true =>
    rw [if_pos hb, hlen] at hr
    have hbb := branch_bounds hxr hb
    have hbl := hxb hb
    cases ht : takesF s x with
    | true =>
      rw [ht] at hr
      simp only [if_true] at hr
      have hc : ((x.jt.toNat : Nat) : Int) = x.jt := by omega
      have wk : IntKind.wrap .i64 ((i : Int) + 1 + x.jt) = (i : Int) + 1 + x.jt := wrap_i64' _ (by omega) (by omega)
      have g := again (i + 1 + x.jt.toNat, s, n + 1) ⟨by simp; omega, by simp; omega, by rw [hr]; simp; omega⟩ (by simp; omega)
      have htk := takes_eq s x
      simp [l10_0, hi, hx', wi, wn, h5, h6, h22, hb, htk, ht, wk]
      simpa [hc, hbb.1] using g
    | false =>
      rw [ht] at hr
      simp only [Bool.false_eq_true, if_false] at hr
      have hc : ((x.jf.toNat : Nat) : Int) = x.jf := by omega
      have wk : IntKind.wrap .i64 ((i : Int) + 1 + x.jf) = (i : Int) + 1 + x.jf := wrap_i64' _ (by omega) (by omega)
      have g := again (i + 1 + x.jf.toNat, s, n + 1) ⟨by simp; omega, by simp; omega, by rw [hr]; simp; omega⟩ (by simp; omega)
      have htk := takes_eq s x
      simp [l10_0, hi, hx', wi, wn, h5, h6, h22, hb, htk, ht, wk]
      simpa [hc, hbb.2.2.1] using g
  | false =>
    rw [if_neg (by simp [hb])] at hr
    have hst := step_eq s x d
    cases hsf : stepF s x d with
    | none =>
      rw [hsf] at hr hst
      simp only [stepD] at hst
      simp only at hr
      simp [l10_0, hi, hx', wi, wn, h5, h6, h22, hb, hst, k10_1, hr]; omega
    | some t =>
      rw [hsf] at hr hst
      simp only [stepD] at hst
      simp only at hr
      have g := again (i + 1, t, n + 1) ⟨by simp; exact hlast' he, by simp; omega, by rw [hr]; simp; omega⟩ (by simp; omega)
      simp [l10_0, hi, hx', wi, wn, h5, h6, h22, hb, hst]
      simpa using g
def testF (c : List Ins) (x : Cond) (t f : Int) : Grown :=
  if !x.right then (c, 0, 1) else if t < 1 ∨ (c.length : Int) < t ∨ f < 1 ∨ (c.length : Int) < f then (c, 0, 4)
  else let m := (⟨c, 0⟩ : Mk).test x t f; if m.e = 0 then (m.c, m.c.length, 0) else (c, 0, m.e)
theorem test_fun_eq (c : List Ins) (x : Cond) (t f : Int) (hc : c.length ≤ 4096) : C0.pure 16 [.lst (c.map eIns), eCond x, .int .i64 t, .int .i64 f] = some (eGrown (testF c x t f)) := by
  refine pure_by rfl (by rfl) rfl ?_
  cases hr : x.right with
  | false => simp [fd16, hr, testF, eGrown]
  | true =>
  by_cases h1 : t < 1
  · simp [fd16, hr, testF, eGrown, h1]
  by_cases h2 : (c.length : Int) < t
  · simp [fd16, hr, testF, eGrown, h1, h2]
  by_cases h3 : f < 1
  · simp [fd16, hr, testF, eGrown, h1, h2, h3]
  by_cases h4 : (c.length : Int) < f
  · simp [fd16, hr, testF, eGrown, h1, h2, h3, h4]
  obtain ⟨r, h', p, hrr, a', c', d', hh⟩ := test_eq [] [] [] ⟨c, 0⟩ x t f hc
  subst hrr hh
  simp [hp, mB] at p
  by_cases he : ((⟨c, 0⟩ : Mk).test x t f).e = 0
  · simp [fd16, hr, testF, eGrown, h1, h2, h3, h4, p, he, hp, mB]
  · simp [fd16, hr, testF, eGrown, h1, h2, h3, h4, p, he, hp, mB]
end Go.Ab

/-
  The statement LowerAlike: what it answers. Conditions: none.
-/
namespace Go.Ab
open Dig
set_option maxRecDepth 4000

@[simp] theorem scEq_ei (a b : Int) : scEq .i (.int .i64 a) (.int .i64 b) = some (decide (a = b)) := by simp [scEq]; rw [Bool.eq_iff_iff]; simp
theorem insEq (x y : Ins) : shEq (.many [.i, .i, .i, .i]) (eIns x) (eIns y) = some (decide (x = y)) := by
  obtain ⟨a, b, c, d⟩ := x
  obtain ⟨a', b', c', d'⟩ := y
  show scEqs [.i, .i, .i, .i] [ei a, ei b, ei c, e32 d] [ei a', ei b', ei c', e32 d'] = _
  simp only [scEqs, scEq_ei, scEq32]
  simp only [Ins.mk.injEq]
  congr 1; rw [Bool.eq_iff_iff]; simp
theorem same_eq (a b : List Ins) (ha : a.length ≤ 1099511627776) (hb : b.length ≤ 1099511627776) : C0.pure 15 [.lst (a.map eIns), .lst (b.map eIns)] = some (eb (decide (a = b))) := by
  refine pure_by rfl (by rfl) rfl ?_
  by_cases hl : a.length = b.length
  · simp [fd15, hl]
    refine loop_by (fun i : Nat => a.length - i) (fun i => [(0, .v (.d (.lst (a.map eIns)))), (1, .v (.d (.lst (b.map eIns)))), (5, .v (.d (ei i)))]) (fun _ => {}) (fun i => i ≤ a.length ∧ a.take i = b.take i) ?_ 0 (by simp)
    rintro i ⟨hi, hs⟩ B again
    by_cases h : i < a.length
    · obtain ⟨x, hx, hx', _⟩ := drop_at a i h
      obtain ⟨y, hy, hy', _⟩ := drop_at b i (by omega)
      have h2 : i < b.length := by omega
      have wi := wrap_succ h (show a.length ≤ 4611686018427387904 by omega)
      have he := insEq x y
      by_cases hxy : x = y
      · have g := again (i + 1) ⟨by omega, by rw [List.take_add_one, List.take_add_one, hx, hy, hs, hxy]⟩ (by omega)
        subst hxy
        simp [l15_0, h, h2, hx', hy', wi, insEq, -shEq]
        simpa using g
      · have hne : ¬ a = b := by intro hc; subst hc; rw [hx] at hy; exact hxy (by simpa using hy)
        simp [l15_0, h, h2, hx', hy', insEq, hxy, hne, -shEq]
    · have hi2 : i = a.length := by omega
      have hab : a = b := by
        have e1 : a.take i = a := List.take_of_length_le (by omega)
        have e2 : b.take i = b := List.take_of_length_le (by omega)
        rw [e1, e2] at hs; exact hs
      simp [l15_0, k15_1, h, hab]
      subst hab
      simp [h]
  · have : ¬ a = b := fun hc => hl (by rw [hc])
    have hl' : ¬ (a.length : Int) = (b.length : Int) := by omega
    simp [fd15, hl', this]
def Policy.great (p : Policy) : Bool := p.rules.any (fun x => decide (20 < x.conds.length)) || decide (100 < p.rules.length)
theorem great_eq (p : Policy) (hp : p.rules.length ≤ 1099511627776) : C0.pure 6 [ePolicy p] = some (eb p.great) := by
  refine pure_by rfl (by rfl) rfl ?_
  simp [fd6]
  refine loop_by (fun i : Nat => p.rules.length - i) (fun i => [(1, .var 0 (.d (ePolicy p))), (3, .v (.d (ei i)))]) (fun _ => {}) (fun i => i ≤ p.rules.length ∧ p.rules.any (fun x => decide (20 < x.conds.length)) = (p.rules.drop i).any fun x => decide (20 < x.conds.length)) ?_ 0 (by simp)
  rintro i ⟨hi, hs⟩ B again
  by_cases h : i < p.rules.length
  · obtain ⟨x, hx, hx', hd⟩ := drop_at _ i h
    rw [hd, List.any_cons] at hs
    have wi := wrap_succ h (show p.rules.length ≤ 4611686018427387904 by omega)
    by_cases hc : 20 < x.conds.length
    · simp only [hc, decide_true, Bool.true_or] at hs
      simp [l6_0, h, hx', hc, Policy.great, hs]
    · simp only [hc, decide_false, Bool.false_or] at hs
      simp [l6_0, h, hx', hc, wi]
      simpa using again (i + 1) ⟨by omega, hs⟩ (by omega)
  · have : i = p.rules.length := by omega
    subst this
    simp only [List.drop_length, List.any_nil] at hs
    simp [l6_0, k6_1, Policy.great, hs]
theorem small_of_not_great {p : Policy} (h : p.great = false) : p.small := by
  simp only [Policy.great, Bool.or_eq_false_iff, decide_eq_false_iff_not, List.any_eq_false, decide_eq_true_eq] at h
  exact ⟨by omega, fun x hx => by have := h.1 x hx; omega⟩
theorem lowerMk_len (p : Policy) : (lowerMk p).c.length ≤ 4096 := by
  have h0 := Mk.add_len ⟨[], 0⟩ 6 p.dflt (by simp)
  have hr : ∀ (g : Groups) (o : Int) (l : List (BitVec 32)) (s : Mk × List Entry), s.1.c.length ≤ 4096 → (l.foldl (Mk.roots g o) s).1.c.length ≤ 4096 := by
    intro g o l
    induction l with
    | nil => intro s hs; exact hs
    | cons y l ih => intro s hs; exact ih _ (Mk.begin_len _ _ _ _ hs)
  have hc : ∀ (l : List Entry) (s : Mk × Int), s.1.c.length ≤ 4096 → (l.foldl Mk.chain s).1.c.length ≤ 4096 := by
    intro l
    induction l with
    | nil => intro s hs; exact hs
    | cons y l ih => intro s hs; exact ih _ (Mk.branch_len _ _ _ _ _ hs)
  simp only [lowerMk]
  split
  · exact Mk.add_len _ _ _ (hc _ _ (hr _ _ _ _ h0))
  · exact hc _ _ (hr _ _ _ _ h0)
theorem lowerF_len (p : Policy) : (lowerF p).1.length ≤ 4096 := by
  unfold lowerF
  split
  · split
    · exact lowerMk_len p
    · simp
  · simp
def knowP1 : Policy := ⟨[], 0#32⟩
def knowP2 : Policy := ⟨[⟨7#32, 3#32, [], 2147418112#32⟩], 0#32⟩
theorem know1 : lowerF knowP1 = ([⟨6, 0, 0, 0#32⟩], 0) := by decide +kernel
def knowD (n : BitVec 32) : Data := ⟨n, 7#32, 0#64, Vector.replicate 6 0#64⟩
theorem know2 : (lowerF knowP2).2 = 0 ∧ soundF (lowerF knowP2).1 = true ∧ (lowerF knowP2).1.length ≤ 20 := by decide +kernel
theorem know3 : (runL (knowD 3#32) (lowerF knowP2).1 State.zero).1 = 2147418112#32 ∧ (runL (knowD 4#32) (lowerF knowP2).1 State.zero).1 = 0#32 := by
  have h : lowerF knowP2 = ([⟨32, 0, 0, 4#32⟩, ⟨21, 0, 3, 7#32⟩, ⟨32, 0, 0, 0#32⟩, ⟨21, 0, 1, 3#32⟩, ⟨6, 0, 0, 2147418112#32⟩, ⟨6, 0, 0, 0#32⟩], 0) := by decide +kernel
  have w4 (n : BitVec 32) : wordOf (knowD n) 4#32 = some 7#32 := by simp [wordOf, Data.words, knowD]
  have w0 (n : BitVec 32) : wordOf (knowD n) 0#32 = some n := by simp [wordOf, Data.words, knowD]
  have a32 : aluOf 32 = none := by decide
  have b32 : isBranch 32 = false := by decide
  have b21 : isBranch 21 = true := by decide
  rw [h]
  constructor <;> simp [runL, a32, b32, b21, takesF, stepF, plainStep, w4, w0]
theorem knows_eq : C0.pure 7 [] = some (eb true) := by
  refine pure_by rfl (by rfl) rfl ?_
  have h1 := lower_eq knowP1 ⟨by decide, by intro x hx; simp [knowP1] at hx⟩
  have h2 := lower_eq knowP2 ⟨by decide, by intro x hx; simp [knowP2] at hx; subst hx; simp⟩
  rw [know1] at h1
  have h3 := run_eq (lowerF knowP2).1 (knowD 3#32) (by have := know2.2.2; omega)
  have h4 := run_eq (lowerF knowP2).1 (knowD 4#32) (by have := know2.2.2; omega)
  rw [know2.2.1, if_pos rfl] at h3 h4
  rw [know3.1] at h3
  rw [know3.2] at h4
  rw [know2.1] at h2
  have e1 : ePolicy knowP1 = .agg [.lst [], n32 0] := rfl
  have e2 : ePolicy knowP2 = .agg [.lst [.agg [e32 7#32, e32 3#32, .lst [], e32 2147418112#32]], n32 0] := rfl
  have e3 (n : BitVec 32) : eData (knowD n) = .agg [e32 n, n32 7, n64 0, n64 0, n64 0, n64 0, n64 0, n64 0, n64 0] := rfl
  rw [e1] at h1
  rw [e2] at h2
  rw [e3] at h3 h4
  have hi := insEq ⟨6, 0, 0, 0#32⟩ ⟨6, 0, 0, 0#32⟩
  simp [fd7, h1, h2, h3, h4, -shEq, hi]
attribute [simp] knows_eq
/-! ### the statement -/
theorem alike_eq (p : Policy) (hp : p.rules.length ≤ 1099511627776) : ∃ r h', C0.imp 3 [.d (ePolicy p)] {} = some (r, h') ∧ r = .d (eb true) := by
  refine impE_by (by rfl) rfl ?_
  have hg := great_eq p hp
  cases hgr : p.great with
  | true => simp [fd3, hg, hgr]
  | false =>
  have hs := small_of_not_great hgr
  have hl := lower_eq p hs
  have hsm := same_eq (lowerF p).1 (lowerF p).1 (by have := lowerF_len p; omega) (by have := lowerF_len p; omega)
  have hpl : p.rules.length ≤ 100 := by simp only [Policy.great, Bool.or_eq_false_iff, decide_eq_false_iff_not] at hgr; omega
  have hcl : ∀ x ∈ p.rules, x.conds.length ≤ 20 := by
    intro x hx
    simp only [Policy.great, Bool.or_eq_false_iff, List.any_eq_false, decide_eq_true_eq] at hgr
    have := hgr.1 x hx; omega
  have hl2 : C0.pure 8 [.agg [.lst (p.rules.map eRule), e32 p.dflt]] = some (.tup [.lst ((lowerF p).1.map eIns), ei (lowerF p).2]) := hl
  simp [fd3, hg, hgr]
  refine loop_by (σ := Nat × Nat) (fun s => p.rules.length - s.1) (fun s => [(1, .var 0 (.d (ePolicy p))), (3, .var 0 (.agg [.acc s.2 ((p.rules.take s.1).map eRule), .d (e32 p.dflt)])), (4, .v (.d (ei s.1)))]) (fun _ => {}) (fun s => s.1 ≤ p.rules.length ∧ (s.2 = 4 ∨ s.2 = 0)) ?_ (0, 0) (by simp)
  rintro ⟨i, z⟩ ⟨hi, hz⟩ B again
  simp only at hi hz again ⊢
  by_cases h : i < p.rules.length
  · obtain ⟨x, hx, hx', hd⟩ := drop_at _ i h
    have wi := wrap_succ h (show p.rules.length ≤ 4611686018427387904 by omega)
    have hxc := hcl x (List.mem_of_getElem? hx)
    have s1 : x.conds.length * 32 ≤ 70368744177664 := by omega
    have s2 : (i + 1) * 40 ≤ 70368744177664 := by omega
    have hm : min i p.rules.length = i := Nat.min_eq_left hi
    have g := again (i + 1, 4) ⟨by simp; omega, by simp⟩ (by simp; omega)
    simp only [List.take_add_one, hx] at g
    simp [l3_0, h, hx', wi, s1, s2, hz, hm]
    simpa using g
  · have : i = p.rules.length := by omega
    subst this
    simp [l3_0, k3_1, hl, hl2, hsm]
end Go.Ab
