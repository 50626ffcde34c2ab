/-
  The machine without memory: rules to run it by. Conditions: none (definitions and lemmas).
-/
import Derived.Test.YteicnlniagbmgaaDoorSd
/-
  A machine without memory (part 31): a goal in the form of code that is still to be done. Conditions: none (lemmas).
-/
namespace Go.Ab

inductive Fr where
  | c (d : DCode)
  | b (id : Nat)
  | l (d : DCode)
abbrev XP := XE → Env → Heap → Prop
/-- what is behind code: of how it ended. -/
def Behind (C : Ctx) : List Fr → XE → Env → Heap → XP → Prop
  | [], x, e, h, Q => Q x e h
  | .c d :: K, .nrm, e, h, Q => ∃ x1 e1 h1, Runs C d e h (x1, e1, h1) ∧ Behind C K x1 e1 h1 Q
  | .c _ :: K, x, e, h, Q => Behind C K x e h Q
  | .b id :: K, .exit i, e, h, Q => if i = id then Behind C K .nrm e h Q else Behind C K (.exit i) e h Q
  | .b _ :: K, x, e, h, Q => Behind C K x e h Q
  | .l d :: K, .nrm, e, h, Q => ∃ x1 e1 h1, Runs C (.loop d) e h (x1, e1, h1) ∧ Behind C K x1 e1 h1 Q
  | .l _ :: K, x, e, h, Q => Behind C K x e h Q
def Goes' (C : Ctx) (K : List Fr) (e : Env) (h : Heap) (Q : XP) : Prop := Behind C K .nrm e h Q
def Outs (C : Ctx) (K : List Fr) (x : XE) (e : Env) (h : Heap) (Q : XP) : Prop := Behind C K x e h Q
/-- of a guard: is the operation to be done? -/
def wantB (s : Option Slot) (w : Bool) : Option Bool := match s with
  | some (.v (.d (.bool b))) => some (b == w)
  | some .undef => some false
  | _ => none
def Opers (C : Ctx) (ops : List DOper) (ks : List Nat) (K : List Fr) (e : Env) (h : Heap) (Q : XP) : Prop := ∃ e1 h1, opsRun C ops e h = some (e1, h1) ∧ Goes' C K (Env.keep ks e1) h1 Q
/-- what is done with an answer, if there is one. -/
def OpThen (C : Ctx) (r : Option (Slot × Env × Heap)) (d : Option Nat) (ops : List DOper) (ks : List Nat) (K : List Fr) (Q : XP) : Prop := match r with
  | some (s, e, h) => Opers C ops ks K (put d s e) h Q
  | none => False
def CondT (C : Ctx) (r : Option Bool) (x y : DCode) (K : List Fr) (e : Env) (h : Heap) (Q : XP) : Prop := match r with
  | some true => Goes' C (.c x :: K) e h Q
  | some false => Goes' C (.c y :: K) e h Q
  | none => False
def GuardT (C : Ctx) (r : Option Bool) (d : Option Nat) (op : DOp) (ops : List DOper) (ks : List Nat) (K : List Fr) (e : Env) (h : Heap) (Q : XP) : Prop := match r with
  | some true => OpThen C (opRun C op e h) d ops ks K Q
  | some false => Opers C ops ks K (put d .undef e) h Q
  | none => False
section
variable {C : Ctx} {K : List Fr} {e : Env} {h : Heap} {Q : XP}
theorem g_nil : Goes' C [] e h Q = Q .nrm e h := rfl
theorem g_seq {a b : DCode} : Goes' C (.c (.seq a b) :: K) e h Q = Goes' C (.c a :: .c b :: K) e h Q := by
  apply propext
  constructor
  · rintro ⟨x1, e1, h1, ⟨k, hr⟩, g⟩
    simp only [Ab.exec] at hr
    split at hr
    · rename_i e2 h2 ha
      exact ⟨_, _, _, ⟨k, ha⟩, x1, e1, h1, ⟨k, hr⟩, g⟩
    · rename_i hn
      refine ⟨x1, e1, h1, ⟨k, hr⟩, ?_⟩
      cases x1 with
      | nrm => exact absurd hr (hn _ _)
      | exit i => exact g
      | ret => exact g
  · rintro ⟨x1, e1, h1, r1, g1⟩
    cases x1 with
    | nrm =>
      obtain ⟨x2, e2, h2, r2, g2⟩ := g1
      exact ⟨x2, e2, h2, r1.seq r2, g2⟩
    | exit i => exact ⟨_, e1, h1, Runs.seq_out (by simp) r1, g1⟩
    | ret => exact ⟨_, e1, h1, Runs.seq_out (by simp) r1, g1⟩
theorem g_skip : Goes' C (.c .skip :: K) e h Q = Goes' C K e h Q := by
  apply propext
  constructor
  · rintro ⟨x1, e1, h1, ⟨k, hr⟩, g⟩
    simp only [Ab.exec, Option.some.injEq, Prod.mk.injEq] at hr
    obtain ⟨rfl, rfl, rfl⟩ := hr
    exact g
  · exact fun g => ⟨_, _, _, Runs.skip, g⟩
theorem g_region {d : Bool} {ops : List DOper} {ks : List Nat} : Goes' C (.c (.region d ops ks) :: K) e h Q = Opers C ops ks K e h Q := by
  apply propext
  constructor
  · rintro ⟨x1, e1, h1, ⟨k, hr⟩, g⟩
    simp only [Ab.exec] at hr
    split at hr <;> simp only [Option.some.injEq, Prod.mk.injEq, reduceCtorEq] at hr
    rename_i e2 h2 ho
    obtain ⟨rfl, rfl, rfl⟩ := hr
    exact ⟨_, _, ho, g⟩
  · rintro ⟨e1, h1, r, g⟩
    exact ⟨_, _, _, Runs.region r, g⟩
theorem g_cond {c : Opd} {a b : DCode} : Goes' C (.c (.cond c a b) :: K) e h Q = CondT C (evB e c) a b K e h Q := by
  apply propext
  cases hc : evB e c with
  | none =>
    simp only [CondT, iff_false]
    rintro ⟨x1, e1, h1, ⟨k, hr⟩, g⟩
    simp [Ab.exec, hc] at hr
  | some t =>
    cases t <;> simp only [CondT] <;> constructor
    · rintro ⟨x1, e1, h1, ⟨k, hr⟩, g⟩
      simp only [Ab.exec, hc] at hr
      exact ⟨_, _, _, ⟨k, hr⟩, g⟩
    · rintro ⟨x1, e1, h1, r, g⟩
      exact ⟨_, _, _, Runs.cond hc r, g⟩
    · rintro ⟨x1, e1, h1, ⟨k, hr⟩, g⟩
      simp only [Ab.exec, hc] at hr
      exact ⟨_, _, _, ⟨k, hr⟩, g⟩
    · rintro ⟨x1, e1, h1, r, g⟩
      exact ⟨_, _, _, Runs.cond hc r, g⟩
theorem c_true {x y : DCode} : CondT C (some true) x y K e h Q = Goes' C (.c x :: K) e h Q := rfl
theorem c_false {x y : DCode} : CondT C (some false) x y K e h Q = Goes' C (.c y :: K) e h Q := rfl
/-- both ways. -/
theorem c_both {b : Bool} {x y : DCode} (h1 : b = true → Goes' C (.c x :: K) e h Q) (h2 : b = false → Goes' C (.c y :: K) e h Q) : CondT C (some b) x y K e h Q := by
  cases b
  · exact h2 rfl
  · exact h1 rfl
theorem g_block {id : Nat} {b : DCode} : Goes' C (.c (.block id b) :: K) e h Q = Goes' C (.c b :: .b id :: K) e h Q := by
  apply propext
  constructor
  · rintro ⟨x1, e1, h1, ⟨k, hr⟩, g⟩
    simp only [Ab.exec] at hr
    split at hr
    · rename_i i e2 h2 hb
      refine ⟨_, _, _, ⟨k, hb⟩, ?_⟩
      split at hr <;> simp only [Option.some.injEq, Prod.mk.injEq] at hr <;> obtain ⟨rfl, rfl, rfl⟩ := hr <;> rename_i hi
      · simp only [Behind]; rw [if_pos hi]; exact g
      · simp only [Behind]; rw [if_neg hi]; exact g
    · rename_i hn
      refine ⟨x1, e1, h1, ⟨k, hr⟩, ?_⟩
      cases x1 with
      | nrm => exact g
      | exit i => exact absurd hr (hn _ _ _)
      | ret => exact g
  · rintro ⟨x1, e1, h1, r, g⟩
    cases x1 with
    | nrm => exact ⟨_, _, _, Runs.block (by simp) r, g⟩
    | ret => exact ⟨_, _, _, Runs.block (by simp) r, g⟩
    | exit i =>
      by_cases hi : i = id
      · subst hi
        exact ⟨_, _, _, Runs.block_exit r, by simpa [Behind] using g⟩
      · exact ⟨_, _, _, Runs.block (by simp [hi]) r, by simpa [Behind, hi] using g⟩
theorem g_pop {id : Nat} : Goes' C (.b id :: K) e h Q = Goes' C K e h Q := rfl
theorem g_loop {b : DCode} : Goes' C (.c (.loop b) :: K) e h Q = Goes' C (.c b :: .l b :: K) e h Q := by
  apply propext
  constructor
  · rintro ⟨x1, e1, h1, ⟨k, hr⟩, g⟩
    cases k with
    | zero => simp [Ab.exec, iter] at hr
    | succ k =>
      simp only [Ab.exec, iter] at hr
      split at hr
      · rename_i e2 h2 ha
        exact ⟨_, _, _, ⟨_, ha⟩, x1, e1, h1, ⟨k + 1, by simp only [Ab.exec]; exact iter_mono (fun _ _ _ h => h) k (k + 1) _ _ _ (by omega) hr⟩, g⟩
      · rename_i hn
        refine ⟨x1, e1, h1, ⟨_, hr⟩, ?_⟩
        cases x1 with
        | nrm => exact absurd hr (hn _ _)
        | exit i => exact g
        | ret => exact g
  · rintro ⟨x1, e1, h1, r1, g1⟩
    cases x1 with
    | nrm =>
      obtain ⟨x2, e2, h2, r2, g2⟩ := g1
      exact ⟨x2, e2, h2, r1.loop r2, g2⟩
    | exit i => exact ⟨_, e1, h1, Runs.loop_out (by simp) r1, g1⟩
    | ret => exact ⟨_, e1, h1, Runs.loop_out (by simp) r1, g1⟩
theorem g_again {b : DCode} : Goes' C (.l b :: K) e h Q = Goes' C (.c (.loop b) :: K) e h Q := rfl
theorem g_exit {id : Nat} : Goes' C (.c (.exit id) :: K) e h Q = Outs C K (.exit id) e h Q := by
  apply propext
  constructor
  · rintro ⟨x1, e1, h1, ⟨k, hr⟩, g⟩
    simp only [Ab.exec, Option.some.injEq, Prod.mk.injEq] at hr
    obtain ⟨rfl, rfl, rfl⟩ := hr
    exact g
  · exact fun g => ⟨_, _, _, Runs.exit, g⟩
theorem u_ret : Outs C K .ret e h Q = Q .ret e h := by
  induction K with
  | nil => rfl
  | cons f K ih => cases f <;> exact ih
theorem g_ret : Goes' C (.c .ret :: K) e h Q = Q .ret e h := by
  rw [← u_ret (K := K) (C := C) (e := e) (h := h) (Q := Q)]
  apply propext
  constructor
  · rintro ⟨x1, e1, h1, ⟨k, hr⟩, g⟩
    simp only [Ab.exec, Option.some.injEq, Prod.mk.injEq] at hr
    obtain ⟨rfl, rfl, rfl⟩ := hr
    exact g
  · exact fun g => ⟨_, _, _, Runs.ret, g⟩
theorem u_code {d : DCode} {id : Nat} : Outs C (.c d :: K) (.exit id) e h Q = Outs C K (.exit id) e h Q := rfl
theorem u_loop {d : DCode} {id : Nat} : Outs C (.l d :: K) (.exit id) e h Q = Outs C K (.exit id) e h Q := rfl
theorem u_block {i id : Nat} : Outs C (.b id :: K) (.exit i) e h Q = if i = id then Goes' C K e h Q else Outs C K (.exit i) e h Q := rfl
theorem o_nil {ks : List Nat} : Opers C [] ks K e h Q = Goes' C K (Env.keep ks e) h Q := by
  apply propext
  constructor
  · rintro ⟨e1, h1, hr, g⟩
    simp only [opsRun, Option.some.injEq, Prod.mk.injEq] at hr
    obtain ⟨rfl, rfl⟩ := hr
    exact g
  · exact fun g => ⟨_, _, rfl, g⟩
theorem o_cons {o : DOper} {ops : List DOper} {ks : List Nat} : Opers C (o :: ops) ks K e h Q = match stepOp C o e h with
    | some (e1, h1) => Opers C ops ks K e1 h1 Q
    | none => False := by
  apply propext
  constructor
  · rintro ⟨e1, h1, hr, g⟩
    simp only [opsRun] at hr
    split at hr
    · rename_i e2 h2 ho
      simp only [ho]
      exact ⟨_, _, hr, g⟩
    · simp at hr
  · intro g
    split at g
    · rename_i e1 h1 ho
      obtain ⟨e2, h2, r, g⟩ := g
      exact ⟨e2, h2, by simp only [opsRun, ho]; exact r, g⟩
    · exact g.elim
/-- the operation of no guard. -/
theorem o_plain {d : Option Nat} {op : DOp} {ops : List DOper} {ks : List Nat} : Opers C (⟨d, none, op⟩ :: ops) ks K e h Q = OpThen C (opRun C op e h) d ops ks K Q := by
  rw [o_cons]
  simp only [stepOp, wanted]
  cases opRun C op e h with
  | none => rfl
  | some r => rfl
/-- the operation of a guard. -/
theorem o_guard {d : Option Nat} {t : Nat} {w : Bool} {op : DOp} {ops : List DOper} {ks : List Nat} : Opers C (⟨d, some (some t, w), op⟩ :: ops) ks K e h Q = GuardT C (wantB (e.get t) w) d op ops ks K e h Q := by
  rw [o_cons]
  simp only [stepOp, wanted]
  cases hg : e.get t with
  | none => rfl
  | some s =>
    cases s with
    | v a =>
      cases a with
      | d x =>
        cases x with
        | bool b =>
          simp only [wantB]
          cases hb : b == w with
          | false => rfl
          | true =>
            simp only [GuardT]
            cases opRun C op e h with
            | none => rfl
            | some r => rfl
        | _ => rfl
      | _ => rfl
    | _ => rfl
variable {d : Option Nat} {op : DOp} {ops : List DOper} {ks : List Nat}
theorem t_some {s : Slot} : OpThen C (some (s, e, h)) d ops ks K Q = Opers C ops ks K (put d s e) h Q := rfl
theorem q_true : GuardT C (some true) d op ops ks K e h Q = OpThen C (opRun C op e h) d ops ks K Q := rfl
theorem q_false : GuardT C (some false) d op ops ks K e h Q = Opers C ops ks K (put d .undef e) h Q := rfl
/-- both ways. -/
theorem q_both {b : Bool} (h1 : b = true → OpThen C (opRun C op e h) d ops ks K Q) (h2 : b = false → Opers C ops ks K (put d .undef e) h Q) : GuardT C (some b) d op ops ks K e h Q := by
  cases b
  · exact h2 rfl
  · exact h1 rfl
end
/-- a loop, by a relation that is kept and a number that falls. -/
theorem loop_by {C : Ctx} {K : List Fr} {Q : XP} {b : DCode} {σ : Type} (m : σ → Nat) (env : σ → Env) (hp : σ → Heap) (I : σ → Prop)
    (step : ∀ s, I s → ∀ B : DCode, (∀ s', I s' → m s' < m s → Goes' C (.l B :: K) (env s') (hp s') Q) → Goes' C (.c b :: .l B :: K) (env s) (hp s) Q) (s : σ) (hs : I s) : Goes' C (.c (.loop b) :: K) (env s) (hp s) Q := by
  suffices hh : ∀ n s, I s → m s = n → Goes' C (.c (.loop b) :: K) (env s) (hp s) Q from hh _ s hs rfl
  intro n
  induction n using Nat.strongRecOn with
  | ind n ih =>
    intro s hs hm
    rw [g_loop]
    refine step s hs b fun s' hs' hlt => ?_
    rw [g_again]
    exact ih (m s') (by omega) s' hs' rfl
/-- a function's answer, by its code. -/
theorem imp_of_goes {S : Sys} {f : Nat} {fd : DFun} {as : List AV} {h : Heap} {r : AV} {h' : Heap} (hf : S.prog f = some fd) (hl : as.length = fd.nparams)
    (g : Goes' (Clim S) [.c fd.body] (initEnv 0 as) h (fun x e h1 => (∀ id, x ≠ .exit id) ∧ h1 = h' ∧ (resAll e h1 fd.results).map pack = some r)) : (Clim S).imp f as h = some (r, h') := by
  obtain ⟨x, e1, h1, hr, hx⟩ := g
  have hq : (∀ id, x ≠ .exit id) ∧ h1 = h' ∧ (resAll e1 h1 fd.results).map pack = some r := by
    cases x <;> exact hx
  obtain ⟨hx', rfl, hres⟩ := hq
  simp only [Option.map_eq_some_iff] at hres
  obtain ⟨rs, hres, rfl⟩ := hres
  exact imp_of_runs hf hl hr hx' hres
end Go.Ab

/-
  Typed values, and how they stand in the machine without memory. Conditions: none (definitions and lemmas).
-/
namespace Go.Ab

/-! ### numbers -/
def e8 (v : UInt8) : D := .int .u8 (v.toNat : Int)
def e32 (v : BitVec 32) : D := .int .u32 (v.toNat : Int)
def e64 (v : BitVec 64) : D := .int .u64 (v.toNat : Int)
abbrev n8 (n : Nat) : D := e8 (UInt8.ofNat n)
abbrev n32 (n : Nat) : D := e32 (BitVec.ofNat 32 n)
abbrev n64 (n : Nat) : D := e64 (BitVec.ofNat 64 n)
abbrev ei (n : Int) : D := .int .i64 n
abbrev eb (b : Bool) : D := .bool b

def retOk : XE → Bool
  | .exit _ => false
  | _ => true
def PureQ (rs : List Res) (d : D) : XP := fun x e h => match resAll e h rs with
  | some as => retOk x = true ∧ freezeH h (pack as) = some d
  | none => False
def ImpQ (rs : List Res) (r : AV) (h' : Heap) : XP := fun x e h => match resAll e h rs with
  | some as => retOk x = true ∧ pack as = r ∧ h = h'
  | none => False

theorem imp_goes {S : Sys} {f : Nat} {fd : DFun} {as : List AV} {h : Heap} {r : AV} {h' : Heap} (hf : S.prog f = some fd) (hl : as.length = fd.nparams)
    (g : Goes' (Clim S) [.c fd.body] (initEnv 0 as) h (ImpQ fd.results r h')) : (Clim S).imp f as h = some (r, h') := by
  refine imp_of_goes hf hl ?_
  obtain ⟨x, e1, h1, hr, hx⟩ := g
  refine ⟨x, e1, h1, hr, ?_⟩
  have hq : ImpQ fd.results r h' x e1 h1 := by cases x <;> exact hx
  suffices hh : (∀ id, x ≠ .exit id) ∧ h1 = h' ∧ (resAll e1 h1 fd.results).map pack = some r by cases x <;> exact hh
  unfold ImpQ at hq
  split at hq
  · rename_i rs hrs
    exact ⟨by intro id hc; subst hc; simp [retOk] at hq, hq.2.2, by simp [hrs, hq.2.1]⟩
  · exact hq.elim
theorem pure_goes {S : Sys} {f : Nat} {fd : DFun} {ds : List D} {d : D} (ho : S.orc f ds = none) (hf : S.prog f = some fd) (hl : ds.length = fd.nparams)
    (g : Goes' (Clim S) [.c fd.body] (initEnv 0 (ds.map AV.d)) {} (PureQ fd.results d)) : (Clim S).pure f ds = some d := by
  obtain ⟨x, e1, h1, hr, hx⟩ := g
  have hq : PureQ fd.results d x e1 h1 := by cases x <;> exact hx
  unfold PureQ at hq
  split at hq
  · rename_i rs hrs
    refine pure_of_imp (a := pack rs) (h' := h1) ho ?_ hq.2
    exact imp_of_runs hf (by simpa using hl) hr (by intro id hc; subst hc; simp [retOk] at hq) hrs
  · exact hq.elim
theorem own_goes {S : Sys} {f : Nat} {fd : DFun} {ds : List D} {r : AV} {h' : Heap} (hf : S.prog f = some fd) (hl : ds.length = fd.nparams) (hr : heapless r = true)
    (g : Goes' (Clim S) [.c fd.body] (initEnv 0 (ds.map AV.d)) {} (ImpQ fd.results r h')) : (Clim S).own f ds = some r :=
  own_of_imp (imp_goes hf (by simpa using hl) g) hr

/-! ### the steps, as rules of simp -/
attribute [simp] g_seq g_skip g_region g_cond g_block g_pop g_exit g_ret g_nil u_code u_loop u_block o_nil o_plain o_guard
attribute [simp] t_some c_true c_false q_true q_false wantB
attribute [simp] opRun evS evw evD evB evt evts evDs evws Env.get Env.set Env.keep put weaken weaken.weakens freeze freeze.freezes freezeH freezeH.go vD pack allD mkAgg resAll resOne retOk initEnv elems lenA appendix isNil bsliceGo mnmxGo mnmx loadOp storeOp regAt readC faddr buildGo evO bounds cut
attribute [simp] AV.write PureQ ImpQ Heap.get Heap.at Heap.set Heap.push Heap.next Heap.with findKey shFit shEq scEqs
@[simp] theorem read_one (c : AV) (off n : Nat) : AV.read c off n false = c.cells[off]? := rfl
@[simp] theorem read_all (c : AV) (n : Nat) (h1 : c.isAgg = true) (h2 : n = c.cells.length) : AV.read c 0 n true = some c := by simp [AV.read, h1, h2]
@[simp] theorem read_zero (c : AV) (n : Nat) (h1 : n < c.cells.length) : AV.read c 0 n true = some (mkAgg (c.cells.take n)) := by
  have h2 : n ≠ c.cells.length := by omega
  simp [AV.read, h2, Nat.le_of_lt h1]
@[simp] theorem read_part (c : AV) (off n : Nat) (h1 : 0 < off) : AV.read c off n true = if off + n ≤ c.cells.length then some (mkAgg ((c.cells.drop off).take n)) else none := by
  have : ¬(off = 0 ∧ n = c.cells.length ∧ c.isAgg = true) := by omega
  simp only [AV.read, if_true, if_neg this]
section
variable (cs : List AV) (ds : List D) (n sz tg i o l : Nat) (k : IntKind) (x : Int) (b : Bool) (s : List UInt8)
@[simp] theorem cells_agg : AV.cells (.agg cs) = cs := (rfl)
@[simp] theorem cells_dagg : AV.cells (.d (.agg ds)) = ds.map .d := (rfl)
@[simp] theorem cells_acc : AV.cells (.acc sz ds) = [.acc sz ds] := (rfl)
@[simp] theorem cells_full : AV.cells (.full sz ds) = [.full sz ds] := (rfl)
@[simp] theorem cells_lst : AV.cells (.d (.lst ds)) = [.d (.lst ds)] := (rfl)
@[simp] theorem cells_bool : AV.cells (.d (.bool b)) = [.d (.bool b)] := (rfl)
@[simp] theorem cells_int : AV.cells (.d (.int k x)) = [.d (.int k x)] := (rfl)
@[simp] theorem cells_str : AV.cells (.d (.str s)) = [.d (.str s)] := (rfl)
@[simp] theorem cells_nilp : AV.cells (.d .nilp) = [.d .nilp] := (rfl)
@[simp] theorem cells_nilf : AV.cells (.d .nilf) = [.d .nilf] := (rfl)
@[simp] theorem cells_nilm : AV.cells (.d .nilm) = [.d .nilm] := (rfl)
@[simp] theorem cells_fnc : AV.cells (.d (.fnc n)) = [.d (.fnc n)] := (rfl)
@[simp] theorem cells_ptr : AV.cells (.ptr tg i o) = [.ptr tg i o] := (rfl)
@[simp] theorem cells_fn : AV.cells (.fn n cs) = [.fn n cs] := (rfl)
@[simp] theorem cells_arr : AV.cells (.arr tg i o l) = [.arr tg i o l] := (rfl)
@[simp] theorem cells_mapr : AV.cells (.mapr tg i) = [.mapr tg i] := (rfl)
@[simp] theorem isAgg_agg : AV.isAgg (.agg cs) = true := (rfl)
@[simp] theorem isAgg_dagg : AV.isAgg (.d (.agg ds)) = true := (rfl)
@[simp] theorem isAgg_acc : AV.isAgg (.acc sz ds) = false := (rfl)
@[simp] theorem isAgg_full : AV.isAgg (.full sz ds) = false := (rfl)
@[simp] theorem isAgg_lst : AV.isAgg (.d (.lst ds)) = false := (rfl)
@[simp] theorem isAgg_bool : AV.isAgg (.d (.bool b)) = false := (rfl)
@[simp] theorem isAgg_int : AV.isAgg (.d (.int k x)) = false := (rfl)
@[simp] theorem isAgg_str : AV.isAgg (.d (.str s)) = false := (rfl)
@[simp] theorem isAgg_nilp : AV.isAgg (.d .nilp) = false := (rfl)
@[simp] theorem isAgg_nilf : AV.isAgg (.d .nilf) = false := (rfl)
@[simp] theorem isAgg_nilm : AV.isAgg (.d .nilm) = false := (rfl)
@[simp] theorem isAgg_fnc : AV.isAgg (.d (.fnc n)) = false := (rfl)
@[simp] theorem isAgg_ptr : AV.isAgg (.ptr tg i o) = false := (rfl)
@[simp] theorem isAgg_fn : AV.isAgg (.fn n cs) = false := (rfl)
@[simp] theorem isAgg_arr : AV.isAgg (.arr tg i o l) = false := (rfl)
@[simp] theorem isAgg_mapr : AV.isAgg (.mapr tg i) = false := (rfl)
@[simp] theorem fine_agg : AV.fine (.agg cs) = true := (rfl)
@[simp] theorem fine_dagg : AV.fine (.d (.agg ds)) = true := (rfl)
@[simp] theorem fine_acc : AV.fine (.acc sz ds) = true := (rfl)
@[simp] theorem fine_full : AV.fine (.full sz ds) = true := (rfl)
@[simp] theorem fine_lst : AV.fine (.d (.lst ds)) = true := (rfl)
@[simp] theorem fine_bool : AV.fine (.d (.bool b)) = true := (rfl)
@[simp] theorem fine_int : AV.fine (.d (.int k x)) = true := (rfl)
@[simp] theorem fine_str : AV.fine (.d (.str s)) = true := (rfl)
@[simp] theorem fine_nilp : AV.fine (.d .nilp) = true := (rfl)
@[simp] theorem fine_nilf : AV.fine (.d .nilf) = true := (rfl)
@[simp] theorem fine_nilm : AV.fine (.d .nilm) = true := (rfl)
@[simp] theorem fine_fnc : AV.fine (.d (.fnc n)) = true := (rfl)
@[simp] theorem fine_ptr : AV.fine (.ptr tg i o) = true := (rfl)
@[simp] theorem fine_fn : AV.fine (.fn n cs) = true := (rfl)
@[simp] theorem fine_arr : AV.fine (.arr tg i o l) = true := (rfl)
@[simp] theorem fine_mapr : AV.fine (.mapr tg i) = true := (rfl)
@[simp] theorem dcells_agg : D.cells (.agg ds) = ds := (rfl)
@[simp] theorem dcells_lst : D.cells (.lst ds) = [.lst ds] := (rfl)
@[simp] theorem dcells_bool : D.cells (.bool b) = [.bool b] := (rfl)
@[simp] theorem dcells_int : D.cells (.int k x) = [.int k x] := (rfl)
@[simp] theorem dcells_str : D.cells (.str s) = [.str s] := (rfl)
@[simp] theorem dfine_agg : D.fine (.agg ds) = true := (rfl)
@[simp] theorem dfine_lst : D.fine (.lst ds) = true := (rfl)
@[simp] theorem dfine_bool : D.fine (.bool b) = true := (rfl)
@[simp] theorem dfine_int : D.fine (.int k x) = true := (rfl)
@[simp] theorem dfine_str : D.fine (.str s) = true := (rfl)
end
def intD : D → Option Int
  | .int _ n => some n
  | _ => none
@[simp] theorem evI_eq (e : Env) (x : Opd) : evI e x = match evS e x with
    | some (.v (.d d)) => intD d
    | _ => none := by
  unfold evI
  cases evS e x with
  | none => rfl
  | some s => cases s with
    | v a => cases a with
      | d y => cases y <;> rfl
      | _ => rfl
    | _ => rfl
@[simp] theorem headOk_nil (sz : Nat) : headOk sz [] = true := rfl
@[simp] theorem headOk_cons (sz : Nat) (x : D) (l : List D) : headOk sz (x :: l) = (x.cells.length == sz) := rfl
@[simp] theorem headOk_map {α : Type} (sz : Nat) (f : α → D) (l : List α) (h : ∀ x, (f x).cells.length = sz) : headOk sz (List.map f l) = true := by cases l <;> simp [h]
@[simp] theorem headOk_drop {α : Type} (sz k : Nat) (f : α → D) (l : List α) (h : ∀ x, (f x).cells.length = sz) : headOk sz (List.drop k (List.map f l)) = true := by rw [← List.map_drop]; exact headOk_map _ _ _ h
@[simp] theorem headOk_take {α : Type} (sz k : Nat) (f : α → D) (l : List α) (h : ∀ x, (f x).cells.length = sz) : headOk sz (List.take k (List.map f l)) = true := by rw [← List.map_take]; exact headOk_map _ _ _ h
@[simp] theorem take_map_all {α β : Type} (f : α → β) (l : List α) : List.take l.length (List.map f l) = List.map f l := by rw [← List.length_map (f := f)]; exact List.take_length
@[simp] theorem scEq_b (a b : Bool) : scEq .b (.bool a) (.bool b) = some (a == b) := rfl
@[simp] theorem scEq_s (a b : List UInt8) : scEq .s (.str a) (.str b) = some (a == b) := rfl
@[simp] theorem scEq_i (k : IntKind) (a b : Int) : scEq .i (.int k a) (.int k b) = some (a == b) := by simp [scEq]
@[simp] theorem writeC_two (cs vs : List AV) (v w : AV) (off : Nat) : writeC cs (v :: w :: vs) off = if off + (v :: w :: vs).length ≤ cs.length then some (cs.take off ++ (v :: w :: vs) ++ cs.drop (off + (v :: w :: vs).length)) else none := rfl
@[simp] theorem writeC_one (cs : List AV) (v : AV) (off : Nat) : writeC cs [v] off = if off < cs.length then some (cs.set off v) else none := by
  simp only [writeC, List.length_cons, List.length_nil, Nat.zero_add, List.set_eq_take_append_cons_drop]
  by_cases h : off < cs.length
  · rw [if_pos (by omega), if_pos h, if_pos h]; simp
  · rw [if_neg (by omega), if_neg h]
@[simp] theorem intD_int (k : IntKind) (n : Int) : intD (.int k n) = some n := rfl
@[simp] theorem un_not (b : Bool) : unD .not (.bool b) = some (.bool !b) := rfl
/-! ### ways through conditions -/
theorem and2 (a b : Prop) : ¬a ∨ (a ∧ ¬b) ∨ (a ∧ b) := by by_cases a <;> by_cases b <;> simp [*]
theorem and3 (a b c : Prop) : ¬a ∨ (a ∧ ¬b) ∨ (a ∧ b ∧ ¬c) ∨ (a ∧ b ∧ c) := by by_cases a <;> by_cases b <;> by_cases c <;> simp [*]
theorem and4 (a b c d : Prop) : ¬a ∨ (a ∧ ¬b) ∨ (a ∧ b ∧ ¬c) ∨ (a ∧ b ∧ c ∧ ¬d) ∨ (a ∧ b ∧ c ∧ d) := by by_cases a <;> by_cases b <;> by_cases c <;> by_cases d <;> simp [*]
/-! ### rows that are gone through -/
theorem drop_at {α : Type} (f : List α) (i : Nat) (h : i < f.length) : ∃ x, f[i]? = some x ∧ f[i] = x ∧ f.drop i = x :: f.drop (i + 1) := ⟨f[i], by simp [h], rfl, List.drop_eq_getElem_cons h⟩
@[simp] theorem cast_le_lit (n m : Nat) : ((n : Int) ≤ no_index (OfNat.ofNat m : Int)) = (n ≤ (OfNat.ofNat m : Nat)) := by
  have : (OfNat.ofNat m : Int) = ((OfNat.ofNat m : Nat) : Int) := rfl
  rw [this]; simp only [Int.ofNat_le]
@[simp] theorem cast_lt_lit (n m : Nat) : ((n : Int) < no_index (OfNat.ofNat m : Int)) = (n < (OfNat.ofNat m : Nat)) := by
  have : (OfNat.ofNat m : Int) = ((OfNat.ofNat m : Nat) : Int) := rfl
  rw [this]; simp only [Int.ofNat_lt]
@[simp] theorem lit_le_cast (n m : Nat) : (no_index (OfNat.ofNat m : Int) ≤ (n : Int)) = ((OfNat.ofNat m : Nat) ≤ n) := by
  have : (OfNat.ofNat m : Int) = ((OfNat.ofNat m : Nat) : Int) := rfl
  rw [this]; simp only [Int.ofNat_le]
@[simp] theorem lit_lt_cast (n m : Nat) : (no_index (OfNat.ofNat m : Int) < (n : Int)) = ((OfNat.ofNat m : Nat) < n) := by
  have : (OfNat.ofNat m : Int) = ((OfNat.ofNat m : Nat) : Int) := rfl
  rw [this]; simp only [Int.ofNat_lt]
@[simp] theorem cast_eq_lit (n m : Nat) : ((n : Int) = no_index (OfNat.ofNat m : Int)) = (n = (OfNat.ofNat m : Nat)) := by
  have : (OfNat.ofNat m : Int) = ((OfNat.ofNat m : Nat) : Int) := rfl
  rw [this]; simp only [Int.ofNat_inj]
theorem wrap_i64' (n : Int) (h1 : -9223372036854775808 ≤ n) (h2 : n < 9223372036854775808) : IntKind.wrap .i64 n = n := by
  have key : ∀ m : Int, m = n % 18446744073709551616 → (if (true && decide (m ≥ (9223372036854775808 : Int))) = true then m - 18446744073709551616 else m) = n := by
    intro m hm
    by_cases h : m ≥ 9223372036854775808 <;> simp [h] <;> omega
  exact key _ rfl
theorem wrap_succ {i n : Nat} (h : i < n) (hn : n ≤ 4611686018427387904) : IntKind.wrap .i64 ((i : Int) + 1) = (i : Int) + 1 := wrap_i64' _ (by omega) (by omega)
end Go.Ab
