/-
  The machine without memory: what it answers, the program's call answers. Conditions: none (definitions and lemmas).
-/
import Derived.Test.YteicnlniagbmgaaDoorSc
import Derived.Orders
import Derived.LoopN
import Derived.Scope
/-
  A machine without memory (part 22): marks; one step; steps that change places. Conditions: none (lemmas).
-/
namespace Go.Ab

/-! ### marks -/
section
variable {C : Ctx} {e e' : Env} {h h' : Heap} {s : Slot} {S : Nat → Prop}
theorem Stamps.sets (hS : Stamps e S) {us : List (Nat × Slot)} (hu : ∀ p, p ∈ us → ∃ b, p.2 = .v b) : Stamps (e.sets us) S := by
  induction us generalizing e with
  | nil => exact hS
  | cons p us ih =>
    rw [Env.sets_cons]
    obtain ⟨b, hb⟩ := hu p (by simp)
    exact ih (hS.set (by rw [hb]; trivial)) fun q hq => hu q (by simp [hq])
theorem evt_stamps {X : Opd} {c : AV} (he : evt e X = some (c, e')) (hS : Stamps e S) : Stamps e' S := by
  obtain ⟨us, rfl, _, _, h4⟩ := evt_foot (e2 := e) he (fun _ _ => rfl)
  exact hS.sets h4
theorem evts_stamps {X : List Opd} {c : List AV} (he : evts e X = some (c, e')) (hS : Stamps e S) : Stamps e' S := by
  obtain ⟨us, rfl, _, _, h4⟩ := evts_foot (e2 := e) he (fun _ _ => rfl)
  exact hS.sets h4
theorem regAt_stamp {X : Opd} {sl st off : Nat} {c : AV} (hr : regAt e sl X = some (st, c, off)) (hS : Stamps e S) : S st := by
  unfold regAt at hr
  split at hr
  · rename_i st' c' hev
    split at hr
    case h_2 => simp at hr
    rename_i n
    split at hr <;> simp only [Option.some.injEq, Prod.mk.injEq, reduceCtorEq] at hr
    obtain ⟨rfl, rfl, rfl⟩ := hr
    exact hS n _ hev
  · split at hr
    case isFalse => simp at hr
    split at hr
    case h_2 => simp at hr
    rename_i st2 c2 hget
    split at hr <;> simp only [Option.some.injEq, Prod.mk.injEq, reduceCtorEq] at hr
    rename_i hst
    obtain ⟨rfl, rfl, rfl⟩ := hr
    have h1 : S st2 := hS _ _ hget
    exact hst ▸ h1
  · simp at hr
theorem faddr_stamp {X : Opd} {off : Nat} (hr : faddr e X off = some s) (hS : Stamps e S) : s.stamped S ∧ ∀ st x, s ≠ .var st x := by
  unfold faddr at hr
  split at hr
  · rename_i st' c' hev
    split at hr <;> simp only [Option.some.injEq, reduceCtorEq] at hr
    rename_i n
    subst hr
    have h1 : S st' := hS n _ hev
    exact ⟨h1, by simp⟩
  · rename_i s0 st0 o0 hev
    simp only [Option.some.injEq] at hr
    subst hr
    cases X with
    | t n =>
      have h1 : S st0 := hS n _ hev
      exact ⟨h1, by simp⟩
    | _ => simp [evS] at hev
  all_goals (first | (simp at hr; done) | (simp only [Option.some.injEq] at hr; subst hr; exact ⟨trivial, by simp⟩))
def DOp.stamp : DOp → Option Nat
  | .boxR st _ => some st
  | _ => none
def Marked (d : DOp) (S : Nat → Prop) (s : Slot) (e' : Env) : Prop := Stamps e' S ∧ (∀ st x, s = .var st x → d.stamp = some st) ∧ (∀ t st off, s = .vp t st off → S st)
theorem Marked.v {d : DOp} {a : AV} (h : Stamps e' S) : Marked d S (.v a) e' := ⟨h, by simp, by simp⟩
theorem Marked.undef {d : DOp} (h : Stamps e' S) : Marked d S .undef e' := ⟨h, by simp, by simp⟩
theorem Marked.faddr {d : DOp} {X : Opd} {off : Nat} (hr : faddr e X off = some s) (hS : Stamps e S) : Marked d S s e := by
  obtain ⟨h1, h2⟩ := faddr_stamp hr hS
  exact ⟨hS, fun st x hx => absurd hx (h2 st x), fun t st off hx => by subst hx; exact h1⟩
theorem op_stamps {d : DOp} (hr : opRun C d e h = some (s, e', h')) (hS : Stamps e S) : Marked d S s e' := by
  cases d with
  | mov x take =>
    simp only [opRun] at hr
    split at hr
    · cases take with
      | true =>
        simp only [if_true] at hr
        split at hr <;> simp only [Option.some.injEq, Prod.mk.injEq, reduceCtorEq] at hr
        obtain ⟨rfl, rfl, rfl⟩ := hr
        exact .v (evt_stamps ‹_› hS)
      | false =>
        simp only [Bool.false_eq_true, if_false, Option.some.injEq, Prod.mk.injEq] at hr
        obtain ⟨rfl, rfl, rfl⟩ := hr
        exact .v hS
    · rename_i t0 st0 o0 hev
      simp only [Option.some.injEq, Prod.mk.injEq] at hr
      obtain ⟨rfl, rfl, rfl⟩ := hr
      refine ⟨hS, by simp, fun t st off hx => ?_⟩
      cases x with
      | t n =>
        simp only [Slot.vp.injEq] at hx
        have := hS n _ hev
        rw [← hx.2.1]; exact this
      | _ => simp [evS] at hev
    · simp only [Option.some.injEq, Prod.mk.injEq] at hr
      obtain ⟨rfl, rfl, rfl⟩ := hr
      exact ⟨hS, by simp, by simp⟩
    · simp only [Option.some.injEq, Prod.mk.injEq] at hr
      obtain ⟨rfl, rfl, rfl⟩ := hr
      exact ⟨hS, by simp, by simp⟩
    · simp at hr
  | boxR st x =>
    simp only [opRun] at hr
    (repeat' split at hr) <;> first | (simp at hr; done) | skip
    simp only [Option.some.injEq, Prod.mk.injEq] at hr
    obtain ⟨rfl, rfl, rfl⟩ := hr
    exact ⟨evt_stamps ‹_› hS, fun st' x' hx => by simp only [Slot.var.injEq] at hx; rw [← hx.1]; rfl, by simp⟩
  | boxH tg x =>
    simp only [opRun] at hr
    (repeat' split at hr) <;> first | (simp at hr; done) | skip
    simp only [Option.some.injEq, Prod.mk.injEq] at hr
    obtain ⟨rfl, rfl, rfl⟩ := hr
    exact .v (evt_stamps ‹_› hS)
  | faddr x off =>
    simp only [opRun] at hr
    split at hr <;> simp only [Option.some.injEq, Prod.mk.injEq, reduceCtorEq] at hr
    obtain ⟨rfl, rfl, rfl⟩ := hr
    exact .faddr ‹_› hS
  | idxA x i len sz =>
    simp only [opRun] at hr
    (repeat' split at hr) <;> first | (simp at hr; done) | skip
    simp only [Option.some.injEq, Prod.mk.injEq] at hr
    obtain ⟨rfl, rfl, rfl⟩ := hr
    exact .faddr ‹_› hS
  | load loc x n agg take =>
    simp only [opRun] at hr
    unfold loadOp at hr
    (repeat' split at hr) <;> first | (simp at hr; done) | skip
    all_goals (simp only [Option.some.injEq, Prod.mk.injEq] at hr; obtain ⟨rfl, rfl, rfl⟩ := hr)
    all_goals first | exact .v hS | exact .v (hS.set (show Slot.stamped S (.var _ _) from regAt_stamp ‹_› hS))
  | store loc x v n take =>
    simp only [opRun] at hr
    unfold storeOp at hr
    split at hr
    case h_2 => simp at hr
    rename_i c e1 hev
    have hS1 : Stamps e1 S := by
      cases take with
      | true => simp only [if_true] at hev; exact evt_stamps hev hS
      | false =>
        simp only [Bool.false_eq_true, if_false] at hev
        cases hw : evw e v with
        | none => simp [hw] at hev
        | some c' =>
          simp only [hw, Option.map_some, Option.some.injEq, Prod.mk.injEq] at hev
          exact hev.2 ▸ hS
    (repeat' split at hr) <;> first | (simp at hr; done) | skip
    all_goals (simp only [Option.some.injEq, Prod.mk.injEq] at hr; obtain ⟨rfl, rfl, rfl⟩ := hr)
    all_goals first | exact .undef hS1 | exact .undef (hS1.set (show Slot.stamped S (.var _ _) from regAt_stamp ‹_› hS1))
  | call f as m =>
    simp only [opRun] at hr
    (repeat' split at hr) <;> first | (simp at hr; done) | skip
    all_goals (simp only [Option.some.injEq, Prod.mk.injEq] at hr; obtain ⟨rfl, rfl, rfl⟩ := hr)
    all_goals first | exact .v hS | exact .v (evts_stamps ‹_› hS)
  | callv x as m =>
    simp only [opRun] at hr
    (repeat' split at hr) <;> first | (simp at hr; done) | skip
    all_goals (simp only [Option.some.injEq, Prod.mk.injEq] at hr; obtain ⟨rfl, rfl, rfl⟩ := hr)
    all_goals first | exact .v hS | exact .v (evts_stamps ‹_› hS)
  | extract x i take =>
    cases take with
    | true =>
      simp only [opRun, if_true] at hr
      cases hev : evt e x with
      | none => simp [hev] at hr
      | some p =>
        obtain ⟨c, e1⟩ := p
        have hS1 := evt_stamps hev hS
        rw [hev] at hr
        (repeat' split at hr) <;> first | (simp at hr; done) | skip
        all_goals simp_all
        all_goals (obtain ⟨rfl, rfl, rfl⟩ := hr; exact .v hS1)
    | false =>
      simp only [opRun, Bool.false_eq_true, if_false] at hr
      cases hev : evw e x with
      | none => simp [hev] at hr
      | some c =>
        simp only [hev, Option.map_some] at hr
        (repeat' split at hr) <;> first | (simp at hr; done) | skip
        all_goals simp_all
        all_goals (obtain ⟨rfl, rfl, rfl⟩ := hr; exact .v hS)
  | snext n =>
    simp only [opRun] at hr
    split at hr
    case h_2 => simp at hr
    split at hr
    · simp only [Option.some.injEq, Prod.mk.injEq] at hr
      obtain ⟨rfl, rfl, rfl⟩ := hr
      exact .v (hS.set trivial)
    · simp only [Option.some.injEq, Prod.mk.injEq] at hr
      obtain ⟨rfl, rfl, rfl⟩ := hr
      exact .v hS
  | conv c x =>
    simp only [opRun] at hr
    (repeat' split at hr) <;> first | (simp at hr; done) | skip
    all_goals (simp only [Option.some.injEq, Prod.mk.injEq] at hr; obtain ⟨rfl, rfl, rfl⟩ := hr)
    all_goals first | exact .v hS | exact .v (evt_stamps ‹_› hS)
  | slice str x sz lo hi mx =>
    cases str with
    | true =>
      simp only [opRun] at hr
      (repeat' split at hr) <;> first | (simp at hr; done) | skip
      all_goals (simp only [Option.some.injEq, Prod.mk.injEq] at hr; obtain ⟨rfl, rfl, rfl⟩ := hr; exact .v hS)
    | false => cases mx with
      | none =>
        simp only [opRun] at hr
        (repeat' split at hr) <;> first | (simp at hr; done) | skip
        all_goals (simp only [Option.some.injEq, Prod.mk.injEq] at hr; obtain ⟨rfl, rfl, rfl⟩ := hr; exact .v hS)
      | some y => cases hi with
        | none => simp [opRun] at hr
        | some z =>
          simp only [opRun] at hr
          (repeat' split at hr) <;> first | (simp at hr; done) | skip
          all_goals (simp only [Option.some.injEq, Prod.mk.injEq] at hr; obtain ⟨rfl, rfl, rfl⟩ := hr; exact .v hS)
  | mnmx mx xs =>
    cases xs with
    | nil => simp [opRun] at hr
    | cons x xs =>
      simp only [opRun] at hr
      (repeat' split at hr) <;> first | (simp at hr; done) | skip
      all_goals (simp only [Option.some.injEq, Prod.mk.injEq] at hr; obtain ⟨rfl, rfl, rfl⟩ := hr; exact .v hS)
  | _ =>
    simp only [opRun] at hr
    (repeat' split at hr) <;> first | (simp at hr; done) | skip
    all_goals (simp only [Option.some.injEq, Prod.mk.injEq] at hr; obtain ⟨rfl, rfl, rfl⟩ := hr)
    all_goals first | exact .v hS | exact .undef hS | exact .v (evt_stamps ‹_› hS) | exact .undef (evt_stamps ‹_› hS) | exact ⟨hS, by simp, by simp⟩
end

/-! ### steps that change places -/
section
variable {C : Ctx}
def Env.alike (e e2 : Env) : Prop := ∀ t, e2.get t = e.get t
theorem wanted_congr {e e2 : Env} {gd : Option (Option Nat × Bool)} (h : ∀ t, t ∈ (match gd with | some (some t, _) => [t] | _ => []) → e2.get t = e.get t) : wanted e2 gd = wanted e gd := by
  unfold wanted
  split
  · rfl
  · rfl
  · rename_i t w
    rw [h t (by simp)]
theorem step_foot {o : DOper} {e e2 e' : Env} {h h2 h' : Heap} (hd : o.op.plain = true) (hr : stepOp C o e h = some (e', h')) (hin : ∀ t, t ∈ o.ins → e2.get t = e.get t) (hhr : ∀ tg, tg ∈ o.op.hr → h2.at tg = h.at tg) :
    ∃ us hs, e' = e.sets us ∧ h' = h.puts hs ∧ stepOp C o e2 h2 = some (e2.sets us, h2.puts hs) ∧ (∀ t, t ∈ us.map Prod.fst → t ∈ o.outs) ∧ (∀ t, t ∈ hs.map Prod.fst → t ∈ o.op.hw) := by
  have hw : wanted e2 o.guard = wanted e o.guard := wanted_congr fun t ht => hin t (by unfold DOper.ins; exact List.mem_append.2 (.inl ht))
  have hi : ∀ t, t ∈ o.op.ins → e2.get t = e.get t := fun t ht => hin t (by unfold DOper.ins; exact List.mem_append.2 (.inr ht))
  unfold stepOp at hr ⊢
  rw [hw]
  split at hr
  · split at hr <;> simp only [Option.some.injEq, Prod.mk.injEq, reduceCtorEq] at hr
    rename_i s e1 h1 hop
    obtain ⟨rfl, rfl⟩ := hr
    obtain ⟨us, hs, rfl, rfl, q3, q4, q5⟩ := foot hd hop hi hhr
    cases hdst : o.dst with
    | none => exact ⟨us, hs, rfl, rfl, by simp only [q3]; rfl, fun t ht => by simp [DOper.outs, q4 t ht], q5⟩
    | some dd =>
      refine ⟨us ++ [(dd, s)], hs, by rw [Env.sets_append]; rfl, rfl, by simp only [q3, Env.sets_append]; rfl, ?_, q5⟩
      intro t ht
      rw [List.map_append, List.mem_append] at ht
      rcases ht with ht | ht
      · simp [DOper.outs, q4 t ht]
      · simp at ht; simp [DOper.outs, hdst, ht]
  · simp only [Option.some.injEq, Prod.mk.injEq] at hr
    obtain ⟨rfl, rfl⟩ := hr
    cases hdst : o.dst with
    | none => exact ⟨[], [], rfl, rfl, rfl, by simp, by simp⟩
    | some dd => exact ⟨[(dd, .undef)], [], rfl, rfl, rfl, by simp [DOper.outs, hdst], by simp⟩
  · simp at hr
theorem apart_spec {a b : List Nat} (h : Ab.apart a b = true) : ∀ t, t ∈ a → t ∉ b := by
  intro t ht hb
  unfold Ab.apart at h
  rw [List.all_eq_true] at h
  have := h t ht
  simp [hb] at this
theorem step_swap {a b : DOper} {e e1 e2 : Env} {h h1 h2 : Heap} (ha : a.op.plain = true) (hb : b.op.plain = true) (hc : commute a b = true) (s1 : stepOp C a e h = some (e1, h1)) (s2 : stepOp C b e1 h1 = some (e2, h2)) :
    ∃ e1' h1' e2', stepOp C b e h = some (e1', h1') ∧ stepOp C a e1' h1' = some (e2', h2) ∧ e2.alike e2' := by
  simp only [commute, Bool.and_eq_true] at hc
  obtain ⟨⟨⟨⟨⟨c1, c2⟩, c3⟩, c4⟩, c5⟩, c6⟩ := hc
  have c1 := apart_spec c1; have c2 := apart_spec c2; have c3 := apart_spec c3; have c4 := apart_spec c4; have c5 := apart_spec c5; have c6 := apart_spec c6
  obtain ⟨ua, ha', rfl, rfl, q3, q4, q5⟩ := step_foot ha s1 (fun _ _ => rfl) (fun _ _ => rfl)
  obtain ⟨ub, hb', rfl, rfl, r3, r4, r5⟩ := step_foot (e2 := e) (h2 := h) hb s2
    (fun t ht => (Env.sets_other (fun hm => c2 t ht (q4 t hm)) e).symm)
    (fun tg ht => (Heap.puts_other (fun hm => c5 tg ht (q5 tg hm)) h).symm)
  obtain ⟨ua2, ha2, k1, k2, k3, _, _⟩ := step_foot (e2 := e.sets ub) (h2 := h.puts hb') ha s1
    (fun t ht => Env.sets_other (fun hm => c1 t ht (r4 t hm)) e)
    (fun tg ht => Heap.puts_other (fun hm => c4 tg ht (r5 tg hm)) h)
  -- the same settings
  obtain ⟨ua3, ha3, l1, l2, l3, l4, l5⟩ : ∃ us hs, e.sets ua = e.sets us ∧ h.puts ha' = h.puts hs ∧ stepOp C a (e.sets ub) (h.puts hb') = some ((e.sets ub).sets us, (h.puts hb').puts hs) ∧ (∀ t, t ∈ us.map Prod.fst → t ∈ a.outs) ∧ (∀ t, t ∈ hs.map Prod.fst → t ∈ a.op.hw) := by
    obtain ⟨us, hs, k1, k2, k3, k4, k5⟩ := step_foot (e2 := e.sets ub) (h2 := h.puts hb') ha s1
      (fun t ht => Env.sets_other (fun hm => c1 t ht (r4 t hm)) e)
      (fun tg ht => Heap.puts_other (fun hm => c4 tg ht (r5 tg hm)) h)
    exact ⟨us, hs, k1, k2, k3, k4, k5⟩
  refine ⟨_, _, (e.sets ub).sets ua3, r3, ?_, ?_⟩
  · rw [l3]
    congr 2
    refine Heap.ext_at fun tg => ?_
    by_cases hta : tg ∈ a.op.hw
    · have htb : tg ∉ hb'.map Prod.fst := fun hm => c6 tg hta (r5 tg hm)
      rw [Heap.puts_other htb (h.puts ha')]
      rcases Heap.puts_at ha3 tg with z1 | ⟨l, z1, _⟩
      · rw [z1, Heap.puts_other htb, l2, z1]
      · rw [z1, l2, z1]
    · have hta3 : tg ∉ ha3.map Prod.fst := fun hm => hta (l5 tg hm)
      rw [Heap.puts_other hta3]
      have htaa : tg ∉ ha'.map Prod.fst := fun hm => hta (q5 tg hm)
      rcases Heap.puts_at hb' tg with z1 | ⟨l, z1, _⟩
      · rw [z1, z1, Heap.puts_other htaa]
      · rw [z1, z1]
  · intro t
    by_cases hta : t ∈ a.outs
    · have htb : t ∉ ub.map Prod.fst := fun hm => c3 t hta (r4 t hm)
      rw [Env.sets_other htb (e.sets ua), l1]
      rcases Env.sets_get ua3 t with ⟨z1, _⟩ | ⟨s, z1, _⟩
      · rw [z1, Env.sets_other htb, z1]
      · rw [z1, z1]
    · have hta3 : t ∉ ua3.map Prod.fst := fun hm => hta (l4 t hm)
      have htaa : t ∉ ua.map Prod.fst := fun hm => hta (q4 t hm)
      rw [Env.sets_other hta3]
      rcases Env.sets_get ub t with ⟨z1, _⟩ | ⟨s, z1, _⟩
      · rw [z1, z1, Env.sets_other htaa]
      · rw [z1, z1]
end
end Go.Ab

/-
  A machine without memory (part 23): a step of a region, a region in order, a region in any order. Conditions: none (lemmas).
-/
namespace Go.Ab

/-- where a run stands: its state lies in memory, and memory grew from a place on. -/
def Now (g : Gh) (r : World × MSet × Rho) (e : Env) (h : Heap) (a : Act) (w : World) : Prop :=
  ∃ ρ own, SR g e h a w ρ own ∧ own .pend = [] ∧ (∀ tg i b, r.2.2 tg i = some b → ρ tg i = some b) ∧ Ext r.1 r.2.1 w (MOf g.M0 own)
theorem SR.alike {g : Gh} {e e2 : Env} {h : Heap} {a : Act} {w : World} {ρ : Rho} {own : OwnF} (hs : SR g e h a w ρ own) (he : e.alike e2) : SR g e2 h a w ρ own :=
  hs.trans (fun _ => False) (fun _ _ _ h => h) (Ext.refl _ _) (fun _ _ => rfl) (fun _ _ _ => rfl) ⟨rfl, rfl, rfl⟩ (fun t s ht _ => by rw [← he t]; exact ht) (fun _ _ _ _ hT => hT.elim) (fun _ _ _ hT => hT.elim) (fun _ _ _ h _ => h) (fun _ _ _ _ hT => hT.elim) hs.hdom (fun _ hT => hT.elim) (fun _ _ _ hT => hT.elim) (fun _ _ _ hT => hT.elim)
theorem Now.alike {g : Gh} {r : World × MSet × Rho} {e e2 : Env} {h : Heap} {a : Act} {w : World} (hn : Now g r e h a w) (he : e.alike e2) : Now g r e2 h a w := by
  obtain ⟨ρ, own, h1, h2, h3, h4⟩ := hn
  exact ⟨ρ, own, h1.alike he, h2, h3, h4⟩
theorem Stamps.alike {e e2 : Env} {S : Nat → Prop} (hS : Stamps e S) (he : e.alike e2) : Stamps e2 S := fun t s ht => hS t s (by rw [← he t]; exact ht)
theorem Env.alike.symm {e e2 : Env} (he : e.alike e2) : e2.alike e := fun t => (he t).symm
theorem Env.alike.trans {e e2 e3 : Env} (h1 : e.alike e2) (h2 : e2.alike e3) : e.alike e3 := fun t => (h2 t).trans (h1 t)
/-- what is drawn is no part of the memory. -/
theorem SR.drew {g : Gh} {e : Env} {h : Heap} {a : Act} {w w' : World} {ρ : Rho} {own : OwnF} (hs : SR g e h a w ρ own) (hh : w'.heap = w.heap) (ho : w'.os = w.os ∧ w'.tape = w.tape ∧ w'.output = w.output) : SR g e h a w' ρ own ∧ Ext w (MOf g.M0 own) w' (MOf g.M0 own) := by
  have hx : Ext w (MOf g.M0 own) w' (MOf g.M0 own) :=
    { size := by rw [hh]; exact Nat.le_refl _, m := fun _ _ _ h => h, cell := fun b o v _ hc => by unfold World.cell? at hc ⊢; rw [hh]; exact hc, map := fun b es c _ hc => by rw [hh]; exact hc }
  exact ⟨hs.trans (fun _ => False) (fun _ _ _ h => h) hx (fun _ _ => rfl) (fun _ _ _ => by rw [hh]) ho (fun t s ht _ => ht) (fun _ _ _ _ hT => hT.elim) (fun _ _ _ hT => hT.elim) (fun _ _ _ h _ => h) (fun _ _ _ _ hT => hT.elim) hs.hdom (fun _ hT => hT.elim) (fun _ _ _ hT => hT.elim) (fun _ _ _ hT => hT.elim), hx⟩
theorem Now.drew {g : Gh} {r : World × MSet × Rho} {e : Env} {h : Heap} {a : Act} {w : World} (hn : Now g r e h a w) : Now g r e h a { w with drawn := w.drawn + 1 } := by
  obtain ⟨ρ, own, h1, h2, h3, h4⟩ := hn
  obtain ⟨h5, h6⟩ := h1.drew (w' := { w with drawn := w.drawn + 1 }) rfl ⟨rfl, rfl, rfl⟩
  exact ⟨ρ, own, h5, h2, h3, h4.trans h6⟩

section
variable {P : Program} {g : Gh} {C : Ctx} {A : Ann} {r : World × MSet × Rho} {ops : Array Oper} {Q : Exit → Act → World → Prop}
theorem digOp_stamp {i : Nat} {o : Oper} {d : DOp} {st : Nat} (hd : digOp P g.cid A i o = some d) (hs : d.stamp = some st) : st = i + 1 := by
  cases d <;> simp only [DOp.stamp, Option.some.injEq, reduceCtorEq] at hs
  subst hs
  unfold digOp at hd
  split at hd <;> (try (first | (simp at hd; done) | (simp only [Option.map_eq_some_iff] at hd; obtain ⟨_, _, h0⟩ := hd; simp at h0; done)))
  all_goals (repeat' split at hd)
  all_goals (try (first | (simp at hd; done) | (simp only [Option.map_eq_some_iff] at hd; obtain ⟨_, _, h0⟩ := hd; simp at h0; done) | (simp only [Option.some.injEq, DOp.boxR.injEq] at hd; exact hd.1.symm)))
  · unfold digBin digBin.digEq at hd
    (repeat' split at hd) <;> simp at hd
  · unfold digConv at hd
    (repeat' split at hd) <;> simp at hd
  · unfold digBuiltin at hd
    (repeat' split at hd) <;> first | (simp at hd; done) | (simp only [Option.map_eq_some_iff] at hd; obtain ⟨_, _, h0⟩ := hd; simp at h0; done)
/-- is an operation wanted? -/
theorem wanted_sound {e : Env} {h : Heap} {a : Act} {w : World} {ρ : Rho} {own : OwnF} {o : Oper} {b : Bool} (hs : SR g e h a w ρ own) (hw : wanted e (digGuard ops o.guard) = some b) : Region.wanted o (yielded ops a.tmps) = b := by
  unfold digGuard at hw
  unfold Region.wanted
  cases hg : o.guard with
  | none => rw [hg] at hw; simp only [wanted, Option.some.injEq] at hw; exact hw
  | some p =>
    obtain ⟨j, want⟩ := p
    rw [hg] at hw
    simp only at hw ⊢
    unfold yielded
    cases hd : (ops[j]?).bind (·.dst) with
    | none => rw [hd] at hw; simp only [wanted, Option.some.injEq] at hw; subst hw; rfl
    | some t =>
      rw [hd] at hw
      simp only [wanted] at hw
      simp only [Option.bind_some]
      split at hw
      · rename_i bb hget
        simp only [Option.some.injEq] at hw
        obtain ⟨h1, h2⟩ := hs.slots _ _ hget
        simp only [SlotR, RA] at h2
        have h3 := RV_bool h2.1
        have h4 : a.tmps[t]? = some (.bool bb) := by
          have hlt : t < a.tmps.size := hs.size ▸ h1
          rw [Array.getElem?_eq_getElem hlt]
          simpa [hlt] using h3
        rw [h4]
        subst hw
        cases bb <;> cases want <;> rfl
      · rename_i hget
        simp only [Option.some.injEq] at hw
        obtain ⟨h1, h2⟩ := hs.slots _ _ hget
        have h4 : a.tmps[t]? = some undef := by
          have hlt : t < a.tmps.size := hs.size ▸ h1
          rw [Array.getElem?_eq_getElem hlt]
          have := h2.1
          simpa [hlt] using this
        rw [h4]
        subst hw
        rfl
      · simp at hw
/-- what a step comes to. -/
theorem step_sound {i : Nat} {o : Oper} {d : DOp} {e e' : Env} {h h' : Heap} {a : Act} {w : World} {S : Nat → Prop} {K : Act → World → Prop} (hC : CtxOk P g C) (hi : ops[i]? = some o) (hd : digOp P g.cid A i o = some d)
    (hdst : ∀ t, o.dst = some t → t < g.nt) (hn : Now g r e h a w) (hS : Stamps e S) (hfr : ¬ S (i + 1)) (hr : stepOp C { dst := o.dst, guard := digGuard ops o.guard, op := d } e h = some (e', h'))
    (hK : ∀ a' w', Now g r e' h' a' w' → Stamps e' (fun n => S n ∨ n = i + 1) → K a' w') : wpOp P ops Q i K a w := by
  obtain ⟨ρ, own, hs, hp, hρ, hx⟩ := hn
  unfold wpOp
  simp only [hi]
  unfold stepOp at hr
  simp only at hr
  split at hr
  · rename_i hwant
    rw [wanted_sound hs hwant]
    simp only [if_true]
    split at hr <;> simp only [Option.some.injEq, Prod.mk.injEq, reduceCtorEq] at hr
    rename_i s e1 h1 hop
    obtain ⟨rfl, rfl⟩ := hr
    obtain ⟨m1, m2, m3⟩ := op_stamps hop hS
    have hgo := op_sound hC hd hs hp hop
    have next : ∀ v w', Post g a w ρ own e1 h1 s v w' → K (a.put o.dst v) w' := by
      rintro v w' ⟨ρ', own', k1, k2, k3, k4⟩
      cases hdst' : o.dst with
      | none =>
        rw [hdst'] at hK
        obtain ⟨d1, d2⟩ := k1.drop
        exact hK _ _ ⟨ρ', _, d1, by simp, fun tg i b hb => k3 _ _ _ (hρ _ _ _ hb), hx.trans (k4.trans d2)⟩ (m1.mono fun n hn => .inl hn)
      | some t =>
        rw [hdst'] at hK
        have hstamp : ∀ st x, s = .var st x → st = i + 1 := fun st x hsx => digOp_stamp hd (m2 st x hsx)
        obtain ⟨p1, p2⟩ := k1.put (hdst t hdst') k2 (fun st x hsx t' off ht' => by
          have h3 := hstamp st x hsx
          have h4 : S st := m1 _ _ ht'
          rw [h3] at h4
          exact hfr h4)
        refine hK _ _ ⟨ρ', _, p1, by simp, fun tg i b hb => k3 _ _ _ (hρ _ _ _ hb), hx.trans (k4.trans p2)⟩ ?_
        refine (m1.mono fun n hn => .inl hn).set ?_
        cases s with
        | var st x => exact .inr (hstamp st x rfl)
        | vp t0 st off => exact .inl (m3 t0 st off rfl)
        | _ => trivial
    refine .inl ?_
    unfold Oper.wp Oper.upon
    unfold Goes at hgo
    split at hgo
    · rename_i heq; rw [heq]; exact next _ _ hgo
    · rename_i heq; rw [heq]; exact next _ _ hgo
    · rename_i heq; rw [heq]
      exact hgo.mono fun en w'' hh => by
        cases en with
        | returned v => exact next _ _ hh
        | _ => exact hh.elim
    · exact hgo.elim
  · rename_i hwant
    rw [wanted_sound hs hwant]
    simp only [Bool.false_eq_true, if_false]
    simp only [Option.some.injEq, Prod.mk.injEq] at hr
    obtain ⟨rfl, rfl⟩ := hr
    cases hdst' : o.dst with
    | none =>
      rw [hdst'] at hK
      exact hK _ _ ⟨ρ, own, hs, hp, hρ, hx⟩ (hS.mono fun n hn => .inl hn)
    | some t =>
      rw [hdst'] at hK
      obtain ⟨p1, p2⟩ := hs.put (hdst t hdst') (s := .undef) (v := undef) ⟨rfl, hp⟩ (by simp)
      exact hK _ _ ⟨ρ, _, p1, by simp, hρ, hx.trans p2⟩ ((hS.mono fun n hn => .inl hn).set trivial)
  · simp at hr

/-! ### operations by their places -/
def runIdx (C : Ctx) (os : List DOper) : List Nat → Env → Heap → Option (Env × Heap)
  | [], e, h => some (e, h)
  | i :: l, e, h => match os[i]? with
    | some o => match stepOp C o e h with
      | some (e', h') => runIdx C os l e' h'
      | none => none
    | none => none
theorem runIdx_range (os : List DOper) : ∀ (n k : Nat) (e : Env) (h : Heap), k + n = os.length → runIdx C os (List.range' k n) e h = opsRun C (os.drop k) e h
  | 0, k, e, h, hk => by
    rw [List.drop_of_length_le (by omega)]; rfl
  | n + 1, k, e, h, hk => by
    have hlt : k < os.length := by omega
    rw [List.range'_succ, List.drop_eq_getElem_cons hlt]
    simp only [runIdx, opsRun, List.getElem?_eq_getElem hlt]
    cases hst : stepOp C os[k] e h with
    | none => rfl
    | some p => exact runIdx_range os n (k + 1) _ _ (by omega)
theorem digOps_get : ∀ (l : List Oper) (k : Nat) (os : List DOper), digOps P g.cid A ops l k = some os → os.length = l.length ∧ ∀ i o, l[i]? = some o → ∃ d, os[i]? = some { dst := o.dst, guard := digGuard ops o.guard, op := d } ∧ digOp P g.cid A (k + i) o = some d
  | [], k, os, h => by
    simp only [digOps, Option.some.injEq] at h; subst h
    exact ⟨rfl, fun i o hi => by simp at hi⟩
  | o :: l, k, os, h => by
    simp only [digOps] at h
    split at h <;> simp only [Option.some.injEq, reduceCtorEq] at h
    rename_i d ds h1 h2
    subst h
    obtain ⟨h3, h4⟩ := digOps_get l (k + 1) ds h2
    refine ⟨by simp [h3], fun i o' hi => ?_⟩
    cases i with
    | zero => simp only [List.getElem?_cons_zero, Option.some.injEq] at hi; subst hi; exact ⟨d, rfl, h1⟩
    | succ i =>
      obtain ⟨d', h5, h6⟩ := h4 i o' (by simpa using hi)
      exact ⟨d', by simpa using h5, by rw [show k + (i + 1) = k + 1 + i by omega]; exact h6⟩
/-- operations in a given order. -/
theorem ops_sound {os : List DOper} (hC : CtxOk P g C) (hos : digOps P g.cid A ops ops.toList 0 = some os) (hdst : dstOk g.nt os = true) :
    ∀ (l : List Nat) (e e' : Env) (h h' : Heap) (a : Act) (w : World) (S : Nat → Prop), l.Nodup → (∀ i, i ∈ l → ¬ S (i + 1)) → Stamps e S → Now g r e h a w → runIdx C os l e h = some (e', h') →
    (∀ a' w', Now g r e' h' a' w' → Q .normal a' w') → wpOps P ops Q l a w
  | [], e, e', h, h', a, w, S, _, _, _, hn, hr, hQ => by
    simp only [runIdx, Option.some.injEq, Prod.mk.injEq] at hr
    obtain ⟨rfl, rfl⟩ := hr
    exact hQ _ _ hn
  | i :: l, e, e', h, h', a, w, S, hnd, hfr, hS, hn, hr, hQ => by
    obtain ⟨hlen, hget⟩ := digOps_get _ _ _ hos
    rw [wpOps_cons]
    simp only [runIdx] at hr
    split at hr
    case h_2 => simp at hr
    rename_i od hod
    have hlt : i < ops.toList.length := by rw [← hlen]; exact (List.getElem?_eq_some_iff.1 hod).1
    obtain ⟨d, hd1, hd2⟩ := hget i ops.toList[i] (List.getElem?_eq_getElem hlt)
    rw [hod] at hd1
    simp only [Option.some.injEq] at hd1
    subst hd1
    rw [Nat.zero_add] at hd2
    split at hr
    case h_2 => simp at hr
    rename_i e1 h1 hstep
    have hoi : ops[i]? = some ops.toList[i] := by simp at hlt; simp [hlt]
    refine step_sound (r := r) hC hoi hd2 ?_ hn hS (hfr i (by simp)) hstep fun a' w' hn' hS' => ?_
    · intro t ht
      unfold dstOk at hdst
      rw [List.all_eq_true] at hdst
      have := hdst _ (List.mem_of_getElem? hod)
      simp only [ht, decide_eq_true_eq] at this
      exact this
    · refine ops_sound hC hos hdst l e1 e' h1 h' a' w' _ (List.nodup_cons.1 hnd).2 (fun j hj => ?_) hS' hn' hr hQ
      rintro (h5 | h5)
      · exact hfr j (by simp [hj]) h5
      · have : j = i := by omega
        subst this
        exact (List.nodup_cons.1 hnd).1 hj
end
end Go.Ab

/-
  A machine without memory (part 24): a region whose order is left open. Conditions: none (lemmas).
-/
namespace Go.Ab

section
variable {C : Ctx} {os : List DOper}
theorem step_alike {o : DOper} {e e2 e' : Env} {h h' : Heap} (hd : o.op.plain = true) (hr : stepOp C o e h = some (e', h')) (he : e.alike e2) : ∃ e2', stepOp C o e2 h = some (e2', h') ∧ e'.alike e2' := by
  obtain ⟨us, hs, rfl, rfl, q3, _, _⟩ := step_foot hd hr (fun t _ => he t) (fun _ _ => rfl)
  refine ⟨_, q3, fun t => ?_⟩
  rcases Env.sets_get us t with ⟨z1, _⟩ | ⟨s, z1, _⟩
  · rw [z1, z1]; exact he t
  · rw [z1, z1]
theorem run_alike (hp : os.all (fun o => o.op.plain) = true) : ∀ (l : List Nat) {e e2 e' : Env} {h h' : Heap}, runIdx C os l e h = some (e', h') → e.alike e2 → ∃ e2', runIdx C os l e2 h = some (e2', h') ∧ e'.alike e2'
  | [], e, e2, e', h, h', hr, he => by
    simp only [runIdx, Option.some.injEq, Prod.mk.injEq] at hr
    obtain ⟨rfl, rfl⟩ := hr
    exact ⟨e2, rfl, he⟩
  | i :: l, e, e2, e', h, h', hr, he => by
    simp only [runIdx] at hr
    split at hr
    case h_2 => simp at hr
    rename_i o ho
    split at hr
    case h_2 => simp at hr
    rename_i e1 h1 hst
    have hpl : o.op.plain = true := by rw [List.all_eq_true] at hp; exact hp o (List.mem_of_getElem? ho)
    obtain ⟨e12, q1, q2⟩ := step_alike hpl hst he
    obtain ⟨e22, q3, q4⟩ := run_alike hp l hr q2
    exact ⟨e22, by simp only [runIdx, ho, q1]; exact q3, q4⟩
/-- an operation that may change places with all that are ahead of it may come first. -/
theorem pick_front (hp : os.all (fun o => o.op.plain) = true) {i : Nat} {oi : DOper} (hoi : os[i]? = some oi) : ∀ (pre post : List Nat) {e ef : Env} {h hf : Heap}, (∀ j, j ∈ pre → ∀ oj, os[j]? = some oj → commute oj oi = true) → runIdx C os (pre ++ i :: post) e h = some (ef, hf) →
    ∃ e1 h1 ef', stepOp C oi e h = some (e1, h1) ∧ runIdx C os (pre ++ post) e1 h1 = some (ef', hf) ∧ ef.alike ef'
  | [], post, e, ef, h, hf, _, hr => by
    simp only [List.nil_append, runIdx, hoi] at hr
    split at hr
    case h_2 => simp at hr
    rename_i e1 h1 hst
    exact ⟨e1, h1, ef, hst, hr, fun _ => rfl⟩
  | j :: pre, post, e, ef, h, hf, hc, hr => by
    simp only [List.cons_append, runIdx] at hr
    split at hr
    case h_2 => simp at hr
    rename_i oj hoj
    split at hr
    case h_2 => simp at hr
    rename_i ej hj hst
    obtain ⟨e1, h1, ef', q1, q2, q3⟩ := pick_front hp hoi pre post (fun k hk => hc k (by simp [hk])) hr
    have hpl : ∀ {k : Nat} {o : DOper}, os[k]? = some o → o.op.plain = true := fun ho => by rw [List.all_eq_true] at hp; exact hp _ (List.mem_of_getElem? ho)
    obtain ⟨e1', h1', e2', r1, r2, r3⟩ := step_swap (hpl hoj) (hpl hoi) (hc j (by simp) oj hoj) hst q1
    obtain ⟨ef'', s1, s2⟩ := run_alike hp _ q2 r3
    exact ⟨e1', h1', ef'', r1, by simp only [List.cons_append, runIdx, hoj, r2]; exact s1, q3.trans s2⟩
end

/-! ### what is ahead -/
theorem snocInd {α : Type} {motive : List α → Prop} (nil : motive []) (snoc : ∀ l a, motive l → motive (l ++ [a])) (l : List α) : motive l := by
  rw [← l.reverse_reverse]
  induction l.reverse with
  | nil => exact nil
  | cons a l ih => rw [List.reverse_cons]; exact snoc _ _ ih
theorem aheads_snoc (ops : List Oper) (o : Oper) : aheads (ops ++ [o]) = aheads ops ++ [(edges o).flatMap fun i => i :: (aheads ops).getD i []] := by
  unfold aheads; rw [List.foldl_append]; rfl
theorem aheads_length (ops : List Oper) : (aheads ops).length = ops.length := by
  induction ops using snocInd with
  | nil => rfl
  | snoc ops o ih => rw [aheads_snoc]; simp [ih]
theorem aheads_get (ops : List Oper) : ∀ k o, ops[k]? = some o → ∀ j, j ∈ (aheads ops).getD k [] → ∃ m, m ∈ edges o ∧ (j = m ∨ (m < k ∧ j ∈ (aheads ops).getD m [])) := by
  induction ops using snocInd with
  | nil => intro k o h; simp at h
  | snoc ops o' ih =>
    intro k o hk j hj
    have hl := aheads_length ops
    rw [aheads_snoc] at hj ⊢
    have old : ∀ m, m < ops.length → (aheads ops ++ [(edges o').flatMap fun i => i :: (aheads ops).getD i []]).getD m [] = (aheads ops).getD m [] := by
      intro m hm
      simp only [List.getD_eq_getElem?_getD]
      rw [List.getElem?_append_left (by omega)]
    by_cases hlt : k < ops.length
    · rw [List.getElem?_append_left hlt] at hk
      rw [old k hlt] at hj
      obtain ⟨m, h1, h2⟩ := ih k o hk j hj
      refine ⟨m, h1, ?_⟩
      rcases h2 with h2 | ⟨h2, h3⟩
      · exact .inl h2
      · exact .inr ⟨h2, by rw [old m (by omega)]; exact h3⟩
    · have hke : k = ops.length := by
        have := (List.getElem?_eq_some_iff.1 hk).1
        simp at this; omega
      subst hke
      simp only [List.getElem?_append_right (Nat.le_refl _), Nat.sub_self, List.getElem?_cons_zero, Option.some.injEq] at hk
      subst hk
      simp only [List.getD_eq_getElem?_getD] at hj
      rw [List.getElem?_append_right (by omega), hl, Nat.sub_self, List.getElem?_cons_zero, Option.getD_some, List.mem_flatMap] at hj
      obtain ⟨m, h1, h2⟩ := hj
      refine ⟨m, h1, ?_⟩
      rcases List.mem_cons.1 h2 with h2 | h2
      · exact .inl h2
      · have hm : m < ops.length := by
          rcases Nat.lt_or_ge m ops.length with h3 | h3
          · exact h3
          · simp [List.getElem?_eq_none (show (aheads ops).length ≤ m by omega)] at h2
        exact .inr ⟨hm, by rw [old m hm]; simpa using h2⟩
theorem pairsOk_get {ahead : List Nat} {b : DOper} : ∀ (seen : List DOper) (k : Nat), pairsOk ahead b seen k = true → ∀ i a, seen[i]? = some a → (k + i) ∈ ahead ∨ commute a b = true
  | [], _, _, i, a, h => by simp at h
  | x :: seen, k, h, i, a, ha => by
    simp only [pairsOk, Bool.and_eq_true, Bool.or_eq_true, List.contains_iff_mem] at h
    cases i with
    | zero =>
      simp only [List.getElem?_cons_zero, Option.some.injEq] at ha; subst ha
      exact h.1
    | succ i =>
      have := pairsOk_get seen (k + 1) h.2 i a (by simpa using ha)
      rwa [show k + 1 + i = k + (i + 1) by omega] at this
theorem drawOk_get {ahs : List (List Nat)} : ∀ (os seen : List DOper) (k : Nat), seen.length = k → drawOk ahs seen os k = true → ∀ j i a b, i < k + j → (seen ++ os)[i]? = some a → os[j]? = some b → i ∈ ahs.getD (k + j) [] ∨ commute a b = true
  | [], _, _, _, _, j, i, a, b, _, _, hb => by simp at hb
  | o :: os, seen, k, hk, h, j, i, a, b, hij, ha, hb => by
    simp only [drawOk, Bool.and_eq_true] at h
    cases j with
    | zero =>
      simp only [List.getElem?_cons_zero, Option.some.injEq] at hb; subst hb
      rw [List.getElem?_append_left (by omega)] at ha
      have := pairsOk_get seen 0 h.1 i a ha
      rwa [Nat.zero_add] at this
    | succ j =>
      have := drawOk_get os (seen ++ [o]) (k + 1) (by simp [hk]) h.2 j i a b (by omega) (by simpa using ha) (by simpa using hb)
      rwa [show k + 1 + j = k + (j + 1) by omega] at this
theorem topoGo_get {md : Region.Mode} {ops : Array Oper} : ∀ (l seen : List Nat), topoGo md ops seen l = true → ∀ (U : Nat → Prop), (∀ i, i ∈ seen → ¬ U i) → (∃ i, i ∈ l ∧ U i) → ∃ i o, U i ∧ ops[i]? = some o ∧ ∀ e ∈ o.after, Region.binds md e = true → ¬ U e.on
  | [], _, _, _, _, h => by obtain ⟨i, hi, _⟩ := h; simp at hi
  | i :: l, seen, h, U, hs, hex => by
    classical
    simp only [topoGo, Bool.and_eq_true] at h
    by_cases hU : U i
    · obtain ⟨h1, _⟩ := h
      split at h1
      · rename_i o ho
        refine ⟨i, o, hU, ho, fun e he hb => ?_⟩
        rw [List.all_eq_true] at h1
        have := h1 e (by simpa using he)
        simp only [hb, Bool.not_true, Bool.false_or, List.contains_iff_mem] at this
        exact hs _ this
      · simp at h1
    · refine topoGo_get l (i :: seen) h.2 U (fun j hj => ?_) ?_
      · rcases List.mem_cons.1 hj with rfl | hj
        · exact hU
        · exact hs j hj
      · obtain ⟨j, hj, hUj⟩ := hex
        rcases List.mem_cons.1 hj with rfl | hj
        · exact absurd hUj hU
        · exact ⟨j, hj, hUj⟩
theorem mem_edges {o : Oper} {m : Nat} (h : m ∈ edges o) : ∃ e ∈ o.after, e.on = m ∧ ∀ md, Region.binds md e = true := by
  unfold edges at h
  rw [List.mem_filterMap] at h
  obtain ⟨e, he, h1⟩ := h
  refine ⟨e, by simpa using he, ?_⟩
  split at h1 <;> simp only [Option.some.injEq, reduceCtorEq] at h1
  refine ⟨h1, fun md => ?_⟩
  unfold Region.binds
  split <;> simp_all

section
variable {P : Program} {g : Gh} {C : Ctx} {A : Ann} {r : World × MSet × Rho} {ops : Array Oper} {Q : Exit → Act → World → Prop} {md : Region.Mode} {os : List DOper}
/-- all orders come to the same. -/
theorem draw_sound (hC : CtxOk P g C) (hos : digOps P g.cid A ops ops.toList 0 = some os) (hdst : dstOk g.nt os = true) (hp : os.all (fun o => o.op.plain) = true) (hdraw : drawOk (aheads ops.toList) [] os 0 = true) {l : List Nat} (htopo : topoOk md ops l = true) {ef : Env} {hf : Heap}
    (hQ : ∀ e a' w', ef.alike e → Now g r e hf a' w' → Q .normal a' w') :
    ∀ (R : List Nat) (listed : Array Bool) (e e' : Env) (h : Heap) (a : Act) (w : World) (S : Nat → Prop), R.Pairwise (· < ·) → (∀ j, j ∈ R ↔ j < ops.size ∧ listed.getD j true = false) → listed.size = ops.size →
    (∀ i o, ops[i]? = some o → listed.getD i true = true → ∀ m, m ∈ edges o → listed.getD m false = true) → (∀ i, i ∈ R → ¬ S (i + 1)) → Stamps e S → Now g r e h a w → runIdx C os R e h = some (e', hf) → ef.alike e' → wpAny P md ops Q R.length listed a w := by
  intro R
  generalize hlenR : R.length = fuel
  induction fuel generalizing R with
  | zero =>
    intro listed e e' h a w S _ hR _ _ _ _ hn hr he
    obtain rfl := List.length_eq_zero_iff.1 hlenR
    simp only [runIdx, Option.some.injEq, Prod.mk.injEq] at hr
    obtain ⟨rfl, rfl⟩ := hr
    refine ⟨?_, hQ _ _ _ he hn⟩
    apply List.eq_nil_iff_forall_not_mem.2
    intro j hj
    obtain ⟨h1, o, h2, _⟩ := mem_ready.1 hj
    have := (hR j).2 ⟨(Array.getElem?_eq_some_iff.1 h2).1, h1⟩
    simp at this
  | succ fuel ih =>
    intro listed e e' h a w S hsort hR hsize hdown hfr hS hn hr he
    obtain ⟨hlen, hget⟩ := digOps_get _ _ _ hos
    -- something is ready
    have hready : Region.ready md ops listed ≠ [] := by
      simp only [topoOk, Bool.and_eq_true, List.all_eq_true, List.mem_range, List.contains_iff_mem] at htopo
      have hex : ∃ i, i ∈ l ∧ ¬ listed.getD i false = true := by
        cases R with
        | nil => simp at hlenR
        | cons j R =>
          have := (hR j).1 (by simp)
          have hlt : j < listed.size := by omega
          refine ⟨j, htopo.2 j this.1, ?_⟩
          have h2 := this.2
          simp [hlt] at h2 ⊢
          exact h2
      obtain ⟨i, o, hU, ho, hedge⟩ := topoGo_get l [] htopo.1 (fun i => ¬ listed.getD i false = true) (by simp) hex
      intro hnil
      have : i ∈ Region.ready md ops listed := by
        have hlt : i < listed.size := by rw [hsize]; exact (Array.getElem?_eq_some_iff.1 ho).1
        refine mem_ready.2 ⟨?_, o, ho, fun ed hed hb => Classical.byContradiction fun h1 => hedge ed hed hb h1⟩
        simp [hlt] at hU ⊢
        exact hU
      rw [hnil] at this; simp at this
    refine ⟨fun h0 => absurd h0 hready, fun i hi => ?_⟩
    obtain ⟨h1, o, ho, hedge⟩ := mem_ready.1 hi
    have hisz := (Array.getElem?_eq_some_iff.1 ho).1
    have hiR := (hR i).2 ⟨hisz, h1⟩
    obtain ⟨pre, post, rfl⟩ := List.append_of_mem hiR
    have hol : ops.toList[i]? = some o := by simpa using ho
    obtain ⟨d, hd1, hd2⟩ := hget i o hol
    rw [Nat.zero_add] at hd2
    -- what was listed holds all that is ahead
    have hclosed : ∀ k, ∀ o', ops.toList[k]? = some o' → listed.getD k true = true → ∀ j, j ∈ (aheads ops.toList).getD k [] → listed.getD j false = true := by
      intro k
      induction k using Nat.strongRecOn with
      | _ k ihk =>
        intro o' ho' hk j hj
        obtain ⟨m, m1, m2⟩ := aheads_get _ k o' ho' j hj
        have hm := hdown k o' (by simpa using ho') hk m m1
        rcases m2 with rfl | ⟨m2, m3⟩
        · exact hm
        · have hkl : k < ops.toList.length := (List.getElem?_eq_some_iff.1 ho').1
          have hml : m < ops.toList.length := by omega
          refine ihk m m2 ops.toList[m] (List.getElem?_eq_getElem hml) ?_ j m3
          have : m < listed.size := by simp at hml; omega
          simp [this] at hm ⊢
          exact hm
    have hah : ∀ j, j ∈ (aheads ops.toList).getD i [] → listed.getD j false = true := by
      intro j hj
      obtain ⟨m, m1, m2⟩ := aheads_get _ i o hol j hj
      obtain ⟨ed, ed1, ed2, ed3⟩ := mem_edges m1
      have hm : listed.getD m false = true := by rw [← ed2]; exact hedge ed ed1 (ed3 md)
      rcases m2 with rfl | ⟨m2, m3⟩
      · exact hm
      · have hml : m < ops.toList.length := by simp; omega
        refine hclosed m ops.toList[m] (List.getElem?_eq_getElem hml) ?_ j m3
        have : m < listed.size := by simp at hml; omega
        simp [this] at hm ⊢
        exact hm
    have hcomm : ∀ j, j ∈ pre → ∀ oj, os[j]? = some oj → commute oj { dst := o.dst, guard := digGuard ops o.guard, op := d } = true := by
      intro j hj oj hoj
      have hji : j < i := by
        rw [List.pairwise_append] at hsort
        exact hsort.2.2 j hj i (by simp)
      have hjR := (hR j).1 (by simp [hj])
      rcases drawOk_get os [] 0 rfl hdraw i j oj _ (by omega) (by simpa using hoj) hd1 with h2 | h2
      · rw [Nat.zero_add] at h2
        have h3 := hah j h2
        have h4 := hjR.2
        have : j < listed.size := by omega
        simp [this] at h3 h4
        rw [h3] at h4; simp at h4
      · exact h2
    obtain ⟨e1, h1', ef', q1, q2, q3⟩ := pick_front hp hd1 pre post hcomm hr
    refine step_sound (r := r) hC ho hd2 ?_ hn hS (hfr i (by simp)) q1 fun a' w' hn' hS' => ?_
    · intro t ht
      unfold dstOk at hdst
      rw [List.all_eq_true] at hdst
      have := hdst _ (List.mem_of_getElem? hd1)
      simp only [ht, decide_eq_true_eq] at this
      exact this
    · have hnd : (pre ++ i :: post).Nodup := hsort.imp (fun h => Nat.ne_of_lt h)
      have hi_not : i ∉ pre ++ post := by
        rw [List.nodup_append, List.nodup_cons] at hnd
        rw [List.mem_append]
        rintro (h5 | h5)
        · exact hnd.2.2 i h5 i (by simp) rfl
        · exact hnd.2.1.1 h5
      refine ih (pre ++ post) (by simp at hlenR ⊢; omega) (listed.setIfInBounds i true) e1 ef' h1' a' w' _ ?_ ?_ (by simp [hsize]) ?_ ?_ hS' hn' q2 (he.trans q3)
      · rw [List.pairwise_append] at hsort ⊢
        refine ⟨hsort.1, (List.pairwise_cons.1 hsort.2.1).2, fun x hx y hy => hsort.2.2 x hx y (by simp [hy])⟩
      · intro j
        have := hR j
        constructor
        · intro hj
          have hjn : j ≠ i := fun e => hi_not (e ▸ hj)
          have h2 := this.1 (by simp only [List.mem_append, List.mem_cons] at hj ⊢; rcases hj with hj | hj <;> simp [hj])
          exact ⟨h2.1, by rw [getD_set_ne true (Ne.symm hjn)]; exact h2.2⟩
        · rintro ⟨h2, h3⟩
          have hjn : j ≠ i := by
            rintro rfl
            have : j < listed.size := by omega
            simp [this] at h3
          rw [getD_set_ne true (Ne.symm hjn)] at h3
          have h4 := this.2 ⟨h2, h3⟩
          simp only [List.mem_append, List.mem_cons] at h4 ⊢
          rcases h4 with h4 | h4 | h4
          · exact .inl h4
          · exact absurd h4 hjn
          · exact .inr h4
      · intro k o' hk' hkl m hm
        by_cases hki : k = i
        · subst hki
          rw [ho] at hk'
          simp only [Option.some.injEq] at hk'
          subst hk'
          obtain ⟨ed, ed1, ed2, ed3⟩ := mem_edges hm
          rw [← ed2]
          exact getD_set_true (hedge ed ed1 (ed3 md))
        · rw [getD_set_ne true (Ne.symm hki)] at hkl
          exact getD_set_true (hdown k o' hk' hkl m hm)
      · intro j hj
        rintro (h5 | h5)
        · exact hfr j (by simp only [List.mem_append, List.mem_cons] at hj ⊢; rcases hj with hj | hj <;> simp [hj]) h5
        · have : j = i := by omega
          exact hi_not (this ▸ hj)
end
end Go.Ab

/-
  A machine without memory (part 25): what code comes to. Conditions: none (lemmas).
-/
namespace Go.Ab

theorem Env.keep_get : ∀ (ks : List Nat) (e : Env) (t : Nat) (s : Slot), (Env.keep ks e).get t = some s → (∃ st a, s = .var 0 a ∧ e.get t = some (.var st a)) ∨ (e.get t = some s ∧ (∀ st a, s ≠ .var st a) ∧ ∀ t' st off, s ≠ .vp t' st off)
  | [], e, t, s, h => by simp [Env.keep, Env.get] at h
  | k :: ks, e, t, s, h => by
    unfold Env.keep at h
    split at h
    · rename_i st a hk
      simp only [Env.get] at h
      split at h
      · rename_i hkt
        simp only [Option.some.injEq] at h
        subst h; subst hkt
        exact .inl ⟨st, a, rfl, hk⟩
      · exact Env.keep_get ks e t s h
    · exact Env.keep_get ks e t s h
    · rename_i s' h1 h2 hk
      simp only [Env.get] at h
      split at h
      · rename_i hkt
        simp only [Option.some.injEq] at h
        subst h; subst hkt
        exact .inr ⟨hk, fun st a hx => h1 st a hx, fun t' st off hx => h2 t' st off hx⟩
      · exact Env.keep_get ks e t s h
    · exact Env.keep_get ks e t s h
def Zst : Nat → Prop := fun n => n = 0
theorem Env.keep_stamps (ks : List Nat) (e : Env) : Stamps (Env.keep ks e) Zst := by
  intro t s ht
  rcases Env.keep_get ks e t s ht with ⟨st, a, rfl, _⟩ | ⟨_, h1, h2⟩
  · exact rfl
  · cases s with
    | var st a => exact absurd rfl (h1 st a)
    | vp t' st off => exact absurd rfl (h2 t' st off)
    | _ => trivial
theorem SR.keep' {g : Gh} {e : Env} {h : Heap} {a : Act} {w : World} {ρ : Rho} {own : OwnF} (hs : SR g e h a w ρ own) (ks : List Nat) : SR g (Env.keep ks e) h a w ρ own :=
  { defers := hs.defers, size := hs.size, heap := hs.heap, hdom := hs.hdom, nodup := hs.nodup, disj := hs.disj, lt := hs.lt, apart := hs.apart,
    m0 := hs.m0, ours := hs.ours, grow := hs.grow, keep := hs.keep, os := hs.os, globs := hs.globs
    slots := fun t s ht => by
      rcases Env.keep_get ks e t s ht with ⟨st, x, rfl, h1⟩ | ⟨h1, h2, h3⟩
      · exact hs.slots _ _ h1
      · obtain ⟨k1, k2⟩ := hs.slots _ _ h1
        refine ⟨k1, ?_⟩
        cases s with
        | vp t' st off => exact absurd rfl (h3 t' st off)
        | _ => exact k2 }
theorem Now.keep {g : Gh} {r : World × MSet × Rho} {e : Env} {h : Heap} {a : Act} {w : World} (hn : Now g r e h a w) (ks : List Nat) : Now g r (Env.keep ks e) h a w := by
  obtain ⟨ρ, own, h1, h2, h3, h4⟩ := hn
  exact ⟨ρ, own, h1.keep' ks, h2, h3, h4⟩
theorem Env.keep_alike {e e2 : Env} (he : e.alike e2) : ∀ ks, Env.keep ks e2 = Env.keep ks e
  | [] => rfl
  | k :: ks => by
    unfold Env.keep
    rw [he k, Env.keep_alike he ks]

section
variable {P : Program} {g : Gh} {C : Ctx} {A : Ann} {r : World × MSet × Rho}
theorem opsRun_idx {os : List DOper} {e : Env} {h : Heap} : runIdx C os (List.range os.length) e h = opsRun C os e h := by
  rw [List.range_eq_range']
  simpa using runIdx_range (C := C) os os.length 0 e h (by omega)
theorem region_sound {id : Nat} {ops : Array Oper} {draw : Bool} {os : List DOper} {Q : Exit → Act → World → Prop} (hC : CtxOk P g C) (hos : digOps P g.cid A ops ops.toList 0 = some os)
    (hchk : (dstOk g.nt os && (!draw || (drawOk (aheads ops.toList) [] os 0 && os.all (fun o => o.op.plain) && ordersOk ops (A.gcOf id)))) = true)
    {e e1 : Env} {h h1 : Heap} {a : Act} {w : World} (hS : Stamps e Zst) (hn : Now g r e h a w) (hr : opsRun C os e h = some (e1, h1)) {ks : List Nat}
    (hQ : ∀ a' w', Now g r (Env.keep ks e1) h1 a' w' → Q .normal a' w') : (Code.region id ops draw).wp P Q a w := by
  obtain ⟨hlen, _⟩ := digOps_get _ _ _ hos
  simp only [Bool.and_eq_true] at hchk
  rw [← opsRun_idx, hlen] at hr
  simp only [Array.length_toList] at hr
  have hz : ∀ i, i ∈ List.range ops.size → ¬ Zst (i + 1) := fun i _ hz => by unfold Zst at hz; omega
  cases draw with
  | false =>
    refine wp_region ?_
    exact ops_sound (r := r) hC hos hchk.1 _ e e1 h h1 a w Zst List.nodup_range hz hS hn hr fun a' w' hn' => hQ _ _ (hn'.keep ks)
  | true =>
    simp only [Bool.not_true, Bool.false_or, Bool.and_eq_true] at hchk
    obtain ⟨c1, ⟨c2, c3⟩, c4⟩ := hchk
    have key : ∀ (md : Region.Mode) (l : List Nat), topoOk md ops l = true → ∀ t w0, Now g r e h a w0 → wpOps P ops Q (Region.linearise md ops t) a w0 := by
      intro md l htopo t w0 hn0
      have := draw_sound (r := r) (Q := Q) hC hos c1 c3 c2 htopo (ef := e1) (hf := h1) (fun e' a' w' he hn' => hQ _ _ (by
          have := (hn'.keep ks)
          rwa [Env.keep_alike he] at this)) (List.range ops.size) (Array.replicate ops.size false) e e1 h a w0 Zst
        List.pairwise_lt_range (fun j => by
          simp only [List.mem_range]
          constructor
          · intro hj; exact ⟨hj, by simp [hj]⟩
          · exact fun hj => hj.1) (by simp) (fun i o ho hl => by
            have hi := (Array.getElem?_eq_some_iff.1 ho).1
            simp [hi] at hl) hz hS hn0 hr (fun _ => rfl)
      rw [List.length_range] at this
      exact wpAny_sound ops.size t _ a w0 this
    refine wp_region_draw fun t => ?_
    have hn0 := hn.drew
    unfold Region.schedule
    simp only [ordersOk, Bool.and_eq_true, Bool.or_eq_true, Bool.not_eq_true'] at c4
    split
    · exact key .any _ c4.1 t _ hn0
    · rename_i hmix
      rcases c4.2 with h5 | ⟨h5, h6⟩
      · simp [h5] at hmix
      · split
        · exact key .text _ h5 _ _ hn0
        · exact key .gc _ h6 _ _ hn0
def xOf : XE → Exit
  | .nrm => .normal
  | .exit id => .exit id
  | .ret => .ret
theorem exec_sound (hC : CtxOk P g C) (n : Nat) : ∀ (c : Code) (d : DCode), digCode P g.cid A g.nt c = some d → ∀ (e : Env) (h : Heap) (x : XE) (e' : Env) (h' : Heap) (a : Act) (w : World) (Q : Exit → Act → World → Prop),
    Stamps e Zst → Now g r e h a w → exec C n d e h = some (x, e', h') → (∀ a' w', Now g r e' h' a' w' → Stamps e' Zst → Q (xOf x) a' w') → c.wp P Q a w := by
  intro c
  induction c with
  | skip =>
    intro d hd e h x e' h' a w Q hS hn hr hQ
    simp only [digCode, Option.some.injEq] at hd; subst hd
    simp only [exec, Option.some.injEq, Prod.mk.injEq] at hr
    obtain ⟨rfl, rfl, rfl⟩ := hr
    exact wp_skip (hQ _ _ hn hS)
  | label l =>
    intro d hd e h x e' h' a w Q hS hn hr hQ
    simp only [digCode, Option.some.injEq] at hd; subst hd
    simp only [exec, Option.some.injEq, Prod.mk.injEq] at hr
    obtain ⟨rfl, rfl, rfl⟩ := hr
    exact wp_label (hQ _ _ hn hS)
  | exit id =>
    intro d hd e h x e' h' a w Q hS hn hr hQ
    simp only [digCode, Option.some.injEq] at hd; subst hd
    simp only [exec, Option.some.injEq, Prod.mk.injEq] at hr
    obtain ⟨rfl, rfl, rfl⟩ := hr
    exact wp_exit (hQ _ _ hn hS)
  | ret =>
    intro d hd e h x e' h' a w Q hS hn hr hQ
    simp only [digCode, Option.some.injEq] at hd; subst hd
    simp only [exec, Option.some.injEq, Prod.mk.injEq] at hr
    obtain ⟨rfl, rfl, rfl⟩ := hr
    exact wp_ret (hQ _ _ hn hS)
  | region id ops draw =>
    intro d hd e h x e' h' a w Q hS hn hr hQ
    simp only [digCode] at hd
    split at hd
    case h_2 => simp at hd
    rename_i os hos
    split at hd <;> simp only [Option.some.injEq, reduceCtorEq] at hd
    rename_i hchk
    subst hd
    simp only [exec] at hr
    split at hr <;> simp only [Option.some.injEq, Prod.mk.injEq, reduceCtorEq] at hr
    rename_i e1 h1 hops
    obtain ⟨rfl, rfl, rfl⟩ := hr
    exact region_sound hC hos hchk hS hn hops fun a' w' hn' => hQ _ _ hn' (Env.keep_stamps _ _)
  | seq c1 c2 ih1 ih2 =>
    intro d hd e h x e' h' a w Q hS hn hr hQ
    simp only [digCode] at hd
    split at hd <;> simp only [Option.some.injEq, reduceCtorEq] at hd
    rename_i d1 d2 hd1 hd2
    subst hd
    simp only [exec] at hr
    refine wp_seq ?_
    split at hr
    · rename_i e1 h1 hr1
      refine ih1 d1 hd1 e h _ _ _ a w _ hS hn hr1 fun a' w' hn' hS' => ?_
      exact ih2 d2 hd2 e1 h1 x e' h' a' w' Q hS' hn' hr hQ
    · rename_i hnot
      refine ih1 d1 hd1 e h x e' h' a w _ hS hn hr fun a' w' hn' hS' => ?_
      cases x with
      | nrm => exact absurd hr (hnot _ _)
      | exit id => exact hQ _ _ hn' hS'
      | ret => exact hQ _ _ hn' hS'
  | cond cnd c1 c2 ih1 ih2 =>
    intro d hd e h x e' h' a w Q hS hn hr hQ
    simp only [digCode] at hd
    split at hd <;> simp only [Option.some.injEq, reduceCtorEq] at hd
    rename_i C0 d1 d2 hc hd1 hd2
    subst hd
    simp only [exec] at hr
    have hn0 := hn
    obtain ⟨ρ, own, hs, _⟩ := hn0
    split at hr
    · rename_i hb
      exact wp_cond_true (hs.evB hc hb) (ih1 d1 hd1 e h x e' h' a w Q hS hn hr hQ)
    · rename_i hb
      exact wp_cond_false (hs.evB hc hb) (ih2 d2 hd2 e h x e' h' a w Q hS hn hr hQ)
    · simp at hr
  | block id c ih =>
    intro d hd e h x e' h' a w Q hS hn hr hQ
    simp only [digCode, Option.map_eq_some_iff] at hd
    obtain ⟨d1, hd1, rfl⟩ := hd
    simp only [exec] at hr
    refine wp_block ?_
    split at hr
    · rename_i i e1 h1 hr1
      refine ih d1 hd1 e h _ _ _ a w _ hS hn hr1 fun a' w' hn' hS' => ?_
      simp only [xOf, Exit.inBlock]
      split at hr
      · rename_i hid
        simp only [Option.some.injEq, Prod.mk.injEq] at hr
        obtain ⟨rfl, rfl, rfl⟩ := hr
        rw [if_pos hid]
        exact hQ _ _ hn' hS'
      · rename_i hid
        simp only [Option.some.injEq, Prod.mk.injEq] at hr
        obtain ⟨rfl, rfl, rfl⟩ := hr
        rw [if_neg hid]
        exact hQ _ _ hn' hS'
    · rename_i hnot
      refine ih d1 hd1 e h x e' h' a w _ hS hn hr fun a' w' hn' hS' => ?_
      cases x with
      | nrm => exact hQ _ _ hn' hS'
      | exit id => exact absurd hr (hnot _ _ _)
      | ret => exact hQ _ _ hn' hS'
  | loop c ih =>
    intro d hd e h x e' h' a w Q hS hn hr hQ
    simp only [digCode, Option.map_eq_some_iff] at hd
    obtain ⟨d1, hd1, rfl⟩ := hd
    simp only [exec] at hr
    refine wp_loop_rounds n ?_
    have key : ∀ (k : Nat) (e : Env) (h : Heap) (a : Act) (w : World), Stamps e Zst → Now g r e h a w → iter (exec C n d1) k e h = some (x, e', h') → Code.rounds P c Q k a w := by
      intro k
      induction k with
      | zero => intro e h a w _ _ hr; simp [iter] at hr
      | succ k ihk =>
        intro e h a w hS hn hr
        simp only [iter] at hr
        rw [rounds_succ]
        split at hr
        · rename_i e1 h1 hr1
          exact ih d1 hd1 e h _ _ _ a w _ hS hn hr1 fun a' w' hn' hS' => ihk e1 h1 a' w' hS' hn' hr
        · rename_i hnot
          refine ih d1 hd1 e h x e' h' a w _ hS hn hr fun a' w' hn' hS' => ?_
          cases x with
          | nrm => exact absurd hr (hnot _ _)
          | exit id => exact hQ _ _ hn' hS'
          | ret => exact hQ _ _ hn' hS'
    exact key n e h a w hS hn hr
  | scope c ih =>
    intro d hd e h x e' h' a w Q hS hn hr hQ
    simp only [digCode] at hd
    refine wp_scope_straight (ih d hd e h x e' h' a w _ hS hn hr fun a' w' hn' hS' => ?_)
    cases x <;> exact hQ _ _ hn' hS'
  | _ =>
    intro d hd
    simp [digCode] at hd
end
end Go.Ab

/-
  A machine without memory (part 26): what a function comes to. Conditions: none (lemmas).
-/
namespace Go.Ab

section
variable {cid : FuncId → Option Nat} {w : World} {M : MSet} {ρ : Rho}
/-- what a row of values owns, told to each. -/
theorem RAs_dist : ∀ (as : List AV) (vs : List Value) (O : Own), RAs cid w M ρ as vs O → (blocks O).Nodup →
    ∃ Os : Nat → Own, (∀ i a, as[i]? = some a → ∃ v, vs[i]? = some v ∧ RA cid w M ρ a v (Os i)) ∧ (∀ i p, p ∈ Os i → p ∈ O) ∧ (∀ p, p ∈ O → ∃ i, p ∈ Os i) ∧ (∀ i, (blocks (Os i)).Nodup) ∧ (∀ i j b, i ≠ j → b ∈ blocks (Os i) → b ∉ blocks (Os j))
  | [], vs, O, h, _ => by
    simp only [RAs] at h
    obtain ⟨rfl, rfl⟩ := h
    exact ⟨fun _ => [], by simp, by simp, by simp, by simp [blocks], by simp [blocks]⟩
  | a :: as, vs, O, h, hnd => by
    simp only [RAs] at h
    obtain ⟨v, r, O1, O2, rfl, h1, h2, rfl⟩ := h
    simp only [blocks, List.map_append, List.nodup_append] at hnd
    obtain ⟨Os, k1, k2, k3, k4, k5⟩ := RAs_dist as r O2 h2 hnd.2.1
    refine ⟨fun i => match i with | 0 => O1 | i + 1 => Os i, ?_, ?_, ?_, ?_, ?_⟩
    · intro i a' hi
      cases i with
      | zero => simp only [List.getElem?_cons_zero, Option.some.injEq] at hi; subst hi; exact ⟨v, rfl, h1⟩
      | succ i =>
        obtain ⟨v', q1, q2⟩ := k1 i a' (by simpa using hi)
        exact ⟨v', by simpa using q1, q2⟩
    · intro i p hp
      cases i with
      | zero => exact List.mem_append.2 (.inl hp)
      | succ i => exact List.mem_append.2 (.inr (k2 i p hp))
    · intro p hp
      rcases List.mem_append.1 hp with hp | hp
      · exact ⟨0, hp⟩
      · obtain ⟨i, hi⟩ := k3 p hp
        exact ⟨i + 1, hi⟩
    · intro i
      cases i with
      | zero => exact hnd.1
      | succ i => exact k4 i
    · have sub : ∀ i b, b ∈ blocks (Os i) → b ∈ blocks O2 := by
        intro i b hb
        obtain ⟨p, hp, rfl⟩ := List.mem_map.1 hb
        exact List.mem_map.2 ⟨p, k2 i p hp, rfl⟩
      intro i j b hij hb hb'
      cases i with
      | zero => cases j with
        | zero => exact hij rfl
        | succ j => exact hnd.2.2 b hb b (sub j b hb') rfl
      | succ i => cases j with
        | zero => exact hnd.2.2 b hb' b (sub i b hb) rfl
        | succ j => exact k5 i j b (fun e => hij (by rw [e])) hb hb'
theorem initEnv_get : ∀ (as : List AV) (k t : Nat) (s : Slot), (initEnv k as).get t = some s → ∃ i a, t = k + i ∧ as[i]? = some a ∧ s = .v a
  | [], k, t, s, h => by simp [initEnv, Env.get] at h
  | a :: as, k, t, s, h => by
    simp only [initEnv, Env.get] at h
    split at h
    · rename_i hk
      simp only [Option.some.injEq] at h
      exact ⟨0, a, by omega, rfl, h.symm⟩
    · obtain ⟨i, a', h1, h2, h3⟩ := initEnv_get as (k + 1) t s h
      exact ⟨i + 1, a', by omega, by simpa using h2, h3⟩
end

section
variable {P : Program} {g : Gh} {e e2 : Env} {h h2 : Heap} {a a2 : Act} {w w2 : World} {ρ ρ2 : Rho} {own own2 : OwnF}
/-- what stands about a call. -/
def Gh.inner (g : Gh) (own : OwnF) (w : World) (nt : Nat) : Gh :=
  { cid := g.cid, M0 := fun b o => g.M0 b o ∨ ∃ t l, (b, l) ∈ own (.slot t) ∧ l ≤ o, w0 := w, S0 := fun b => ∀ k, (∀ t, k ≠ .slot t) → b ∉ blocks (own k), G := g.G, nt := nt }
/-- a call begins: its arguments are taken from what is pending. -/
theorem SR.begin (hs : SR g e h a w ρ own) {as : List AV} {vs : List Value} (hra : RAs g.cid w (MOf g.M0 own) ρ as vs (own .pend)) {nt : Nat} (hnt : as.length ≤ nt) :
    ∃ own', SR (g.inner own w nt) (initEnv 0 as) h { tmps := vs.toArray ++ Array.replicate (nt - vs.toArray.size) undef, defers := [] } w ρ own' ∧ own' .pend = [] ∧ (∀ b o, MOf (g.inner own w nt).M0 own' b o ↔ MOf g.M0 own b o) := by
  obtain ⟨Os, k1, k2, k3, k4, k5⟩ := RAs_dist as vs _ hra (hs.nodup .pend)
  have hl := RAs_length _ _ _ hra
  let own' : OwnF := fun k => match k with
    | .slot t => Os t
    | .obj tg i => own (.obj tg i)
    | .pend => []
  have hOs : ∀ i b, b ∈ blocks (Os i) → b ∈ blocks (own .pend) := by
    intro i b hb
    obtain ⟨p, hp, rfl⟩ := List.mem_map.1 hb
    exact List.mem_map.2 ⟨p, k2 i p hp, rfl⟩
  -- where a key of the callee comes from
  have hfrom : ∀ k b l, (b, l) ∈ own' k → ∃ k', (∀ t, k' ≠ .slot t) ∧ (b, l) ∈ own k' := by
    intro k b l hb
    cases k with
    | slot t => exact ⟨.pend, by simp, k2 t _ hb⟩
    | obj tg i => exact ⟨.obj tg i, by simp, hb⟩
    | pend => simp [own'] at hb
  have hM : ∀ b o, MOf (g.inner own w nt).M0 own' b o ↔ MOf g.M0 own b o := by
    intro b o
    constructor
    · rintro ((h1 | ⟨t, l, h1, h2⟩) | ⟨k, l, h1, h2⟩)
      · exact .inl h1
      · exact .inr ⟨_, l, h1, h2⟩
      · obtain ⟨k', _, h3⟩ := hfrom k b l h1
        exact .inr ⟨k', l, h3, h2⟩
    · rintro (h1 | ⟨k, l, h1, h2⟩)
      · exact .inl (.inl h1)
      · cases k with
        | slot t => exact .inl (.inr ⟨t, l, h1, h2⟩)
        | obj tg i => exact .inr ⟨.obj tg i, l, h1, h2⟩
        | pend =>
          obtain ⟨i, hi⟩ := k3 _ h1
          exact .inr ⟨.slot i, l, hi, h2⟩
  have hx : Ext w (MOf g.M0 own) w (MOf (g.inner own w nt).M0 own') := Ext.iff hM
  refine ⟨own', ?_, rfl, hM⟩
  refine
    { defers := rfl, size := by simp [Gh.inner]; omega
      slots := fun t s ht => ?_
      heap := fun tg i ob ho => ?_
      hdom := hs.hdom
      nodup := fun k => ?_
      disj := fun k k' b hne hb => ?_
      lt := fun k b hb => ?_
      apart := fun k b l ofs hm hle => ?_
      m0 := fun b ofs hm => ?_
      ours := fun k b hb => ?_
      grow := Nat.le_refl _
      keep := fun _ _ _ => rfl
      os := ⟨rfl, rfl, rfl⟩
      globs := fun n d hd => ?_ }
  · obtain ⟨i, c, rfl, hi, rfl⟩ := initEnv_get as 0 t s ht
    obtain ⟨v, q1, q2⟩ := k1 i c hi
    have hlt := (List.getElem?_eq_some_iff.1 q1).1
    rw [Nat.zero_add]
    refine ⟨by simp [Gh.inner]; omega, ?_⟩
    have hv : (vs.toArray ++ Array.replicate (nt - vs.toArray.size) undef).getD i undef = v := by
      rw [Array.getD_eq_getD_getElem?, Array.getElem?_append_left (by simpa using hlt)]
      simp [q1]
    simp only [hv]
    exact RA_mono hx (fun _ _ _ h => h) _ _ _ (fun _ _ => rfl) q2
  · obtain ⟨b, q1, q2⟩ := hs.heap tg i ob ho
    exact ⟨b, q1, HR_mono hx (fun _ _ _ h => h) (fun _ _ => rfl) q2⟩
  · cases k with
    | slot t => exact k4 t
    | obj tg i => exact hs.nodup _
    | pend => simp [own', blocks]
  · cases k with
    | slot t => cases k' with
      | slot t' => exact k5 t t' b (fun e => hne (by rw [e])) hb
      | obj tg i => exact hs.disj .pend _ b (by simp) (hOs t b hb)
      | pend => simp [own', blocks]
    | obj tg i => cases k' with
      | slot t' => exact fun hb' => hs.disj (.obj tg i) .pend b (by simp) hb (hOs t' b hb')
      | obj tg' i' => exact hs.disj _ _ b hne hb
      | pend => simp [own', blocks]
    | pend => simp [own', blocks] at hb
  · obtain ⟨⟨b', l⟩, hp, rfl⟩ := List.mem_map.1 hb
    obtain ⟨k', _, h3⟩ := hfrom k b' l hp
    exact hs.lt k' b' (List.mem_map.2 ⟨_, h3, rfl⟩)
  · obtain ⟨k', h2, h3⟩ := hfrom k b l hm
    rintro (h4 | ⟨t, l', h4, _⟩)
    · exact hs.apart k' b l ofs h3 hle h4
    · exact hs.disj k' (.slot t) b (h2 t) (List.mem_map.2 ⟨_, h3, rfl⟩) (List.mem_map.2 ⟨_, h4, rfl⟩)
  · rcases hm with hm | ⟨t, l, hm, _⟩
    · exact hs.m0 b ofs hm
    · exact hs.lt _ b (List.mem_map.2 ⟨_, hm, rfl⟩)
  · obtain ⟨⟨b', l⟩, hp, rfl⟩ := List.mem_map.1 hb
    obtain ⟨k', h2, h3⟩ := hfrom k b' l hp
    exact .inr fun hS => hS k' h2 (List.mem_map.2 ⟨_, h3, rfl⟩)
  · obtain ⟨cs, q1, q2⟩ := hs.globs n d hd
    exact ⟨cs, RDc_mono hx _ _ q1, cellsAt_mono hx q2⟩
/-- a call ends: what it comes to is pending. -/
theorem SR.end (hs : SR g e h a w ρ own) {nt : Nat} (hs2 : SR (g.inner own w nt) e2 h2 a2 w2 ρ2 own2) (hρ : ∀ tg i b, ρ tg i = some b → ρ2 tg i = some b) (hx : Ext w (MOf g.M0 own) w2 (MOf (g.inner own w nt).M0 own2))
    {O : Own} (hnd : (blocks O).Nodup) (hO : ∀ p, p ∈ O → ∃ k, (∀ tg i, k ≠ .obj tg i) ∧ p ∈ own2 k) {r : AV} {v : Value} (hr : RA g.cid w2 (MOf (g.inner own w nt).M0 own2) ρ2 r v O) :
    Post g a w ρ own e h2 (.v r) v w2 := by
  let own' : OwnF := fun k => match k with
    | .slot t => own (.slot t)
    | .obj tg i => own2 (.obj tg i)
    | .pend => O
  have hfrom : ∀ k b l, (∀ t, k ≠ .slot t) → (b, l) ∈ own' k → ∃ k', (b, l) ∈ own2 k' := by
    intro k b l hk hb
    cases k with
    | slot t => exact absurd rfl (hk t)
    | obj tg i => exact ⟨_, hb⟩
    | pend => obtain ⟨k', _, h2⟩ := hO _ hb; exact ⟨k', h2⟩
  have hsub : ∀ b o, MOf g.M0 own' b o → MOf (g.inner own w nt).M0 own2 b o := by
    rintro b o (h1 | ⟨k, l, h1, h2⟩)
    · exact .inl (.inl h1)
    · cases k with
      | slot t => exact .inl (.inr ⟨t, l, h1, h2⟩)
      | obj tg i => exact .inr ⟨_, l, h1, h2⟩
      | pend => obtain ⟨k', _, h3⟩ := hO _ h1; exact .inr ⟨k', l, h3, h2⟩
  have hshr : Ext w2 (MOf (g.inner own w nt).M0 own2) w2 (MOf g.M0 own') := Ext.shrink hsub
  have hxx := hx.trans hshr
  -- what the caller's slots own is as it was
  have hstay : ∀ t b, b ∈ blocks (own (.slot t)) → w2.heap[b]? = w.heap[b]? := by
    intro t b hb
    refine hs2.keep b (hs.lt _ b hb) fun k hk hb' => ?_
    exact hs.disj (.slot t) k b (fun e => hk t e.symm) hb hb'
  have hinner : ∀ k b, b ∈ blocks (own2 k) → w.heap.size ≤ b ∨ ∃ k', (∀ t, k' ≠ .slot t) ∧ b ∈ blocks (own k') := by
    intro k b hb
    rcases hs2.ours k b hb with h1 | h1
    · exact .inl h1
    · refine .inr ?_
      by_cases hex : ∃ k', (∀ t, k' ≠ .slot t) ∧ b ∈ blocks (own k')
      · exact hex
      · exact absurd (fun k' hk' hb' => hex ⟨k', hk', hb'⟩) h1
  have hcross : ∀ t k b, (∀ t, k ≠ .slot t) → b ∈ blocks (own (.slot t)) → b ∉ blocks (own' k) := by
    intro t k b hk hb hb'
    obtain ⟨⟨b', l⟩, hp, rfl⟩ := List.mem_map.1 hb'
    obtain ⟨k', h3⟩ := hfrom k b' l hk hp
    rcases hinner k' b' (List.mem_map.2 ⟨_, h3, rfl⟩) with h4 | ⟨k'', h4, h5⟩
    · have := hs.lt _ b' hb; omega
    · exact hs.disj (.slot t) k'' b' (fun e => h4 t e.symm) hb h5
  have hs' : SR g e h2 a w2 ρ2 own' := by
    refine
      { defers := hs.defers, size := hs.size
        slots := fun t s ht => ?_
        heap := fun tg i ob ho => ?_
        hdom := hs2.hdom
        nodup := fun k => ?_
        disj := fun k k' b hne hb => ?_
        lt := fun k b hb => ?_
        apart := fun k b l ofs hm hle => ?_
        m0 := fun b ofs hm => Nat.lt_of_lt_of_le (hs.m0 b ofs hm) hx.size
        ours := fun k b hb => ?_
        grow := Nat.le_trans hs.grow hx.size
        keep := fun b hb hS => ?_
        os := ⟨hs2.os.1.trans hs.os.1, hs2.os.2.1.trans hs.os.2.1, hs2.os.2.2.trans hs.os.2.2⟩
        globs := fun n d hd => ?_ }
    · obtain ⟨q1, q2⟩ := hs.slots t s ht
      exact ⟨q1, SlotR_mono hxx hρ (hstay t) (fun t2 st off a' _ h => ⟨⟨a', h⟩, rfl⟩) q2⟩
    · obtain ⟨b, q1, q2⟩ := hs2.heap tg i ob ho
      exact ⟨b, q1, HR_mono hshr (fun _ _ _ h => h) (fun _ _ => rfl) q2⟩
    · cases k with
      | slot t => exact hs.nodup _
      | obj tg i => exact hs2.nodup _
      | pend => exact hnd
    · cases k with
      | slot t => cases k' with
        | slot t' => exact hs.disj _ _ b hne hb
        | obj tg i => exact hcross t (.obj tg i) b (by simp) hb
        | pend => exact hcross t .pend b (by simp) hb
      | obj tg i => cases k' with
        | slot t' => exact fun hb' => hcross t' (.obj tg i) b (by simp) hb' hb
        | obj tg' i' => exact hs2.disj _ _ b hne hb
        | pend =>
          intro hb'
          obtain ⟨p, hp, rfl⟩ := List.mem_map.1 hb'
          obtain ⟨k2, h3, h4⟩ := hO p hp
          exact hs2.disj (.obj tg i) k2 p.1 (fun e => h3 tg i e.symm) hb (List.mem_map.2 ⟨_, h4, rfl⟩)
      | pend => cases k' with
        | slot t' => exact fun hb' => hcross t' .pend b (by simp) hb' hb
        | obj tg i =>
          intro hb'
          obtain ⟨p, hp, rfl⟩ := List.mem_map.1 hb
          obtain ⟨k2, h3, h4⟩ := hO p hp
          exact hs2.disj (.obj tg i) k2 p.1 (fun e => h3 tg i e.symm) hb' (List.mem_map.2 ⟨_, h4, rfl⟩)
        | pend => exact absurd rfl hne
    · obtain ⟨⟨b', l⟩, hp, rfl⟩ := List.mem_map.1 hb
      by_cases hk : ∀ t, k ≠ .slot t
      · obtain ⟨k', h3⟩ := hfrom k b' l hk hp
        exact hs2.lt k' b' (List.mem_map.2 ⟨_, h3, rfl⟩)
      · obtain ⟨t, ht⟩ : ∃ t, k = .slot t := Classical.byContradiction fun hc => hk fun t ht => hc ⟨t, ht⟩
        subst ht
        exact Nat.lt_of_lt_of_le (hs.lt _ b' (List.mem_map.2 ⟨_, hp, rfl⟩)) hx.size
    · by_cases hk : ∀ t, k ≠ .slot t
      · obtain ⟨k', h3⟩ := hfrom k b l hk hm
        exact fun hm0 => hs2.apart k' b l ofs h3 hle (.inl hm0)
      · obtain ⟨t, ht⟩ : ∃ t, k = .slot t := Classical.byContradiction fun hc => hk fun t ht => hc ⟨t, ht⟩
        subst ht
        exact hs.apart _ b l ofs hm hle
    · obtain ⟨⟨b', l⟩, hp, rfl⟩ := List.mem_map.1 hb
      by_cases hk : ∀ t, k ≠ .slot t
      · obtain ⟨k', h3⟩ := hfrom k b' l hk hp
        rcases hinner k' b' (List.mem_map.2 ⟨_, h3, rfl⟩) with h4 | ⟨k'', _, h5⟩
        · exact .inl (Nat.le_trans hs.grow h4)
        · exact hs.ours k'' b' h5
      · obtain ⟨t, ht⟩ : ∃ t, k = .slot t := Classical.byContradiction fun hc => hk fun t ht => hc ⟨t, ht⟩
        subst ht
        exact hs.ours _ b' (List.mem_map.2 ⟨_, hp, rfl⟩)
    · refine (hs2.keep b (Nat.lt_of_lt_of_le hb hs.grow) fun k _ hbk => ?_).trans (hs.keep b hb hS)
      rcases hs.ours k b hbk with h1 | h1
      · omega
      · exact h1 hS
    · obtain ⟨cs, q1, q2⟩ := hs.globs n d hd
      exact ⟨cs, RDc_mono hxx _ _ q1, cellsAt_mono hxx q2⟩
  exact ⟨ρ2, own', hs', RA_mono hshr (fun _ _ _ h => h) _ _ _ (fun _ _ => rfl) hr, hρ, hxx⟩
end
end Go.Ab

/-
  A machine without memory (part 27): a function's results; a whole program. Conditions: none (lemmas).
-/
namespace Go.Ab

section
variable {P : Program} {g : Gh} {e : Env} {h : Heap} {a : Act} {w : World} {ρ : Rho} {own : OwnF}
theorem resOne_sound (hs : SR g e h a w ρ own) {rv : ResultVar} {rd : Res} {c : AV} (hd : digRes P [rv] = some [rd]) (hr : resOne e h rd = some c) :
    ∃ v O, ((match rv with
      | .tmp t => (pure (a.tmps.getD t undef) : Sem Value)
      | .cell x t => do loadVar t (← asAddr (a.tmps.getD x undef))).run P w = .ok v w) ∧ RA g.cid w (MOf g.M0 own) ρ c v O ∧ (∀ p, p ∈ O → p ∈ own (.slot rd.slot)) ∧ (blocks O).Nodup := by
  cases rv with
  | tmp t =>
    simp only [digRes, Option.map_some, Option.some.injEq, List.cons.injEq, and_true] at hd
    subst hd
    simp only [resOne] at hr
    split at hr <;> simp only [Option.some.injEq, reduceCtorEq] at hr
    rename_i c' hget
    subst hr
    obtain ⟨_, h2⟩ := hs.slots _ _ hget
    exact ⟨_, own (.slot t), by simp, h2, fun p hp => hp, hs.nodup _⟩
  | cell x t =>
    simp only [digRes] at hd
    split at hd <;> simp only [Option.some.injEq, List.cons.injEq, reduceCtorEq] at hd
    rename_i n agg rs h1 h2 h3
    obtain ⟨rfl, hrs⟩ := hd
    simp only [resOne] at hr
    split at hr
    · rename_i st cc hget
      obtain ⟨_, b, cs, O', k1, k2, k3, k4⟩ := hs.slots _ _ hget
      have hfine := RBox_fine k3
      obtain ⟨m1, m2⟩ := (RBox_iff hfine).1 k3
      obtain ⟨us, O1, O2, O3, e1, e2, e3, e4, e5, _⟩ := read_sound hfine m1 m2 hr
      have hnd := hs.nodup (.slot x)
      rw [k4, e1] at hnd
      simp only [blocks, List.map_cons, List.map_append, List.nodup_cons, List.nodup_append] at hnd
      refine ⟨valOf agg us, O2, ?_, e5, fun p hp => by simp only [Res.slot]; rw [k4, e1]; simp [hp], hnd.2.1.2.1⟩
      have hl := run_loadVar (P := P) (w := w) h1 h2 (b := b) (o := 0) e3 (fun j u hj => by rw [k2.cell, Nat.zero_add]; have := sub_get e2 hj; simpa using this)
      simp [k1, asAddr, hl]
    · rename_i tg i off hget
      split at hr
      case h_2 => simp at hr
      rename_i cs0 hobj
      simp only [Option.map_eq_some_iff] at hr
      obtain ⟨c', hc', rfl⟩ := hr
      obtain ⟨_, hsl⟩ := hs.slots _ _ hget
      simp only [SlotR, RA] at hsl
      obtain ⟨b, k0, k1, _⟩ := hsl
      obtain ⟨b', k0', cs, O', k2, m2, m1, _⟩ := hs.heap _ _ _ hobj
      rw [k0] at k0'
      simp only [Option.some.injEq] at k0'
      subst k0'
      obtain ⟨us, O1, O2, O3, e1, e2, e3, e4, e5, _⟩ := readC_sound m1 m2 hc'
      refine ⟨valOf agg us, [], ?_, RA_weaken _ _ _ e5, by simp, by simp [blocks]⟩
      have hl := run_loadVar (P := P) (w := w) h1 h2 (b := b) (o := off) e3 (fun j u hj => by rw [k2.cell]; exact sub_get e2 hj)
      simp [k1, asAddr, hl]
    · simp at hr
theorem digRes_cons {rv : ResultVar} {rvs : List ResultVar} {rs : List Res} (hd : digRes P (rv :: rvs) = some rs) : ∃ rd rs', rs = rd :: rs' ∧ digRes P [rv] = some [rd] ∧ digRes P rvs = some rs' := by
  cases rv with
  | tmp t =>
    simp only [digRes, Option.map_eq_some_iff] at hd
    obtain ⟨rs', h1, rfl⟩ := hd
    exact ⟨_, rs', rfl, by simp [digRes], h1⟩
  | cell x t =>
    simp only [digRes] at hd
    split at hd <;> simp only [Option.some.injEq, reduceCtorEq] at hd
    rename_i n agg rs' h1 h2 h3
    subst hd
    exact ⟨_, rs', rfl, by simp [digRes, h1, h2], h3⟩
theorem resAll_sound (hs : SR g e h a w ρ own) : ∀ {rvs : List ResultVar} {rs : List Res} {cs : List AV}, digRes P rvs = some rs → (rs.map Res.slot).Nodup → resAll e h rs = some cs →
    ∃ vs O, (rvs.mapM fun (rv : ResultVar) => (match rv with
      | .tmp t => (pure (a.tmps.getD t undef) : Sem Value)
      | .cell x t => do loadVar t (← asAddr (a.tmps.getD x undef)))).run P w = .ok vs w ∧ RAs g.cid w (MOf g.M0 own) ρ cs vs O ∧ (∀ p, p ∈ O → ∃ t, t ∈ rs.map Res.slot ∧ p ∈ own (.slot t)) ∧ (blocks O).Nodup
  | [], rs, cs, hd, _, hr => by
    simp only [digRes, Option.some.injEq] at hd; subst hd
    simp only [resAll, Option.some.injEq] at hr; subst hr
    exact ⟨[], [], by simp, by simp [RAs], by simp, by simp [blocks]⟩
  | rv :: rvs, rs, cs, hd, hnd, hr => by
    obtain ⟨rd, rs', rfl, h1, h2⟩ := digRes_cons hd
    simp only [resAll] at hr
    split at hr <;> simp only [Option.some.injEq, reduceCtorEq] at hr
    rename_i c cs' hc hcs
    subst hr
    simp only [List.map_cons, List.nodup_cons] at hnd
    obtain ⟨v, O1, k1, k2, k3, k4⟩ := resOne_sound (P := P) hs h1 hc
    obtain ⟨vs, O2, l1, l2, l3, l4⟩ := resAll_sound hs h2 hnd.2 hcs
    refine ⟨v :: vs, O1 ++ O2, ?_, ?_, ?_, ?_⟩
    · rw [List.mapM_cons]
      simp only [Sem.run_bind, k1, Result.andThen_ok, l1, Sem.run_pure]
    · simp only [RAs]
      exact ⟨v, vs, O1, O2, rfl, k2, l2, rfl⟩
    · intro p hp
      rcases List.mem_append.1 hp with hp | hp
      · exact ⟨rd.slot, by simp, k3 p hp⟩
      · obtain ⟨t, h3, h4⟩ := l3 p hp
        exact ⟨t, by simp only [List.map_cons, List.mem_cons]; exact .inr h3, h4⟩
    · simp only [blocks, List.map_append, List.nodup_append]
      refine ⟨k4, l4, ?_⟩
      intro x hx y hy hxy
      subst hxy
      obtain ⟨p, hp, hpx⟩ := List.mem_map.1 hx
      obtain ⟨q, hq, hqx⟩ := List.mem_map.1 hy
      obtain ⟨t, h3, h4⟩ := l3 q hq
      have hne : rd.slot ≠ t := fun e => hnd.1 (e ▸ h3)
      exact hs.disj (.slot rd.slot) (.slot t) x (by simp [hne]) (List.mem_map.2 ⟨p, k3 p hp, hpx⟩) (List.mem_map.2 ⟨q, h4, hqx⟩)
theorem allD_RVs {cid : FuncId → Option Nat} {M : MSet} : ∀ (cs : List AV) (ds : List D) (vs : List Value) (O : Own), allD cs = some ds → RAs cid w M ρ cs vs O → RVs cid w M ds vs ∧ O = []
  | [], ds, vs, O, hd, h => by
    simp only [allD, Option.some.injEq] at hd; subst hd
    simp only [RAs] at h
    exact ⟨by simp [RVs, h.1], h.2⟩
  | c :: cs, ds, vs, O, hd, h => by
    cases c with
    | d x =>
      simp only [allD] at hd
      split at hd <;> simp only [Option.some.injEq, reduceCtorEq] at hd
      rename_i ds' hds
      subst hd
      simp only [RAs] at h
      obtain ⟨v, r, O1, O2, rfl, h1, h2, rfl⟩ := h
      obtain ⟨q1, q2⟩ := allD_RVs cs ds' r O2 hds h2
      simp only [RA] at h1
      simp only [RVs]
      exact ⟨⟨v, r, rfl, h1.1, q1⟩, by rw [h1.2, q2]; rfl⟩
    | _ => simp [allD] at hd
theorem pack_sound {cid : FuncId → Option Nat} {M : MSet} {cs : List AV} {vs : Array Value} {O : Own} (h : RAs cid w M ρ cs vs.toList O) : RA cid w M ρ (pack cs) (if h : vs.size = 1 then vs[0] else .tuple vs) O := by
  have hl := RAs_length _ _ _ h
  simp only [Array.length_toList] at hl
  unfold pack
  split
  · rename_i c
    simp only [List.length_cons, List.length_nil, Nat.zero_add] at hl
    rw [dif_pos hl]
    simp only [RAs] at h
    obtain ⟨v, r, O1, O2, h1, h2, ⟨rfl, rfl⟩, rfl⟩ := h
    have : vs[0] = v := by
      have h3 : vs.toList[0]? = some v := by rw [h1]; rfl
      simpa [hl] using h3
    rw [this, List.append_nil]
    exact h2
  · rename_i hnot
    have hne : ¬ vs.size = 1 := by
      rw [hl]
      intro h1
      obtain ⟨c, rfl⟩ := List.length_eq_one_iff.1 h1
      exact hnot c rfl
    rw [dif_neg hne]
    split
    · rename_i ds hds
      obtain ⟨h1, rfl⟩ := allD_RVs cs ds _ _ hds h
      simp only [RA, RV, and_true]
      exact ⟨vs, rfl, h1⟩
    · simp only [RA]
      exact ⟨vs, rfl, h⟩
end

/-- what is told of a function, at any place. -/
def FnOk (P : Program) (cid : FuncId → Option Nat) (G : Nat → Option D) (F : FuncId) (as : List AV) (h : Heap) (r : AV) (h' : Heap) : Prop :=
  ∀ {g : Gh} {e : Env} {a : Act} {w : World} {ρ : Rho} {own : OwnF} {vs : List Value}, g.cid = cid → g.G = G → SR g e h a w ρ own → RAs g.cid w (MOf g.M0 own) ρ as vs (own .pend) → CallOk P F vs w (Post g a w ρ own e h' (.v r))
theorem fun_sound {P : Program} {cid : FuncId → Option Nat} {G : Nat → Option D} {C : Ctx} {A : Ann} {F : FuncId} {fn : Func} {fd : DFun} (hC : ∀ g : Gh, g.cid = cid → g.G = G → CtxOk P g C) (hF : P.funcs[F]? = some fn) (hfd : digFun P cid A fn = some fd)
    {n : Nat} {as : List AV} {h : Heap} {r : AV} {h' : Heap} (hr : runFun C n fd as h = some (r, h')) : FnOk P cid G F as h r h' := by
  intro g e a w ρ own vs hcid hG hs hra
  unfold digFun at hfd
  cases hb : fn.body with
  | none => simp [hb] at hfd
  | some body =>
    simp only [hb] at hfd
    split at hfd
    case h_2 => simp at hfd
    rename_i c rs hc hrs
    split at hfd <;> simp only [Option.some.injEq, reduceCtorEq] at hfd
    rename_i hcond
    subst hfd
    unfold runFun at hr
    simp only at hr
    split at hr
    case isFalse => simp at hr
    rename_i hlen
    have hl := RAs_length _ _ _ hra
    obtain ⟨own1, s1, hp1, hM1⟩ := hs.begin hra (nt := fn.ntmps) (by omega)
    refine ⟨⟨fn, hF, by simpa using hcond.2.1, by simp [hb]⟩, ?_⟩
    split at hr
    · simp at hr
    · rename_i x e2 h2 hnot hex
      split at hr <;> simp only [Option.some.injEq, Prod.mk.injEq, reduceCtorEq] at hr
      rename_i cs hcs
      obtain ⟨rfl, rfl⟩ := hr
      have hx1 : Ext w (MOf g.M0 own) w (MOf (g.inner own w fn.ntmps).M0 own1) := Ext.iff hM1
      refine calls_of_wp hF hb ?_
      refine exec_sound (g := g.inner own w fn.ntmps) (r := (w, MOf g.M0 own, ρ)) (hC _ hcid hG) n body c (by rw [← hcid] at hc; exact hc) _ _ x e2 h2 _ w _ ?_ ⟨ρ, own1, s1, hp1, fun _ _ _ h => h, hx1⟩ hex fun a' w' hn' _ => ?_
      · intro t s ht
        obtain ⟨i, c', _, _, rfl⟩ := initEnv_get as 0 t s ht
        trivial
      · obtain ⟨ρ2, own2, s2, hp2, hρ2, hx2⟩ := hn'
        obtain ⟨us, O, k1, k2, k3, k4⟩ := resAll_sound (P := P) s2 hrs hcond.2.2 hcs
        have hres : (results fn a'.tmps).run P w' = .ok (if h : us.toArray.size = 1 then us.toArray[0] else .tuple us.toArray) w' := by
          unfold results
          rw [Array.mapM_eq_mapM_toList]
          simp only [Sem.run_bind, Sem.run_map]
          erw [k1]
          simp
        have hpost : Post g a w ρ own e h2 (.v (pack cs)) (if h : us.toArray.size = 1 then us.toArray[0] else .tuple us.toArray) w' :=
          hs.end s2 hρ2 hx2 k4 (fun p hp => by
            obtain ⟨t, _, ht⟩ := k3 p hp
            exact ⟨.slot t, by simp, ht⟩) (pack_sound (vs := us.toArray) (cid := g.cid) k2)
        cases x with
        | nrm => exact ⟨s2.defers, _, hres, hpost⟩
        | ret => exact ⟨s2.defers, _, hres, hpost⟩
        | exit id => exact absurd rfl (hnot id)
    · simp at hr
end Go.Ab

/-
  A machine without memory (part 28): a whole program. Conditions: none (lemmas).
-/
namespace Go.Ab

section
variable {cid : FuncId → Option Nat} {w : World} {M : MSet} {ρ ρ' : Rho}
mutual
theorem RA_heapless : ∀ (a : AV) (v : Value) (O : Own), heapless a = true → RA cid w M ρ a v O → RA cid w M ρ' a v O
  | .d x, v, O, _, h => by simpa only [RA] using h
  | .acc sz xs, v, O, _, h => by simpa only [RA] using h
  | .full sz xs, v, O, _, h => by simpa only [RA] using h
  | .agg as, v, O, hl, h => by
    simp only [RA] at h ⊢
    obtain ⟨cs, h1, h2, h3⟩ := h
    exact ⟨cs, h1, h2, RAs_heapless as _ O (by simpa [heapless] using hl) h3⟩
  | .tup as, v, O, hl, h => by
    simp only [RA] at h ⊢
    obtain ⟨cs, h1, h3⟩ := h
    exact ⟨cs, h1, RAs_heapless as _ O (by simpa [heapless] using hl) h3⟩
  | .ptr _ _ _, _, _, hl, _ => by simp [heapless] at hl
  | .fn _ _, _, _, hl, _ => by simp [heapless] at hl
  | .arr _ _ _ _, _, _, hl, _ => by simp [heapless] at hl
  | .mapr _ _, _, _, hl, _ => by simp [heapless] at hl
theorem RAs_heapless : ∀ (as : List AV) (vs : List Value) (O : Own), heapless.all as = true → RAs cid w M ρ as vs O → RAs cid w M ρ' as vs O
  | [], vs, O, _, h => by simpa only [RAs] using h
  | a :: as, vs, O, hl, h => by
    simp only [heapless.all, Bool.and_eq_true] at hl
    simp only [RAs] at h ⊢
    obtain ⟨v, r, O1, O2, h1, h2, h3, h4⟩ := h
    exact ⟨v, r, O1, O2, h1, RA_heapless a v O1 hl.1 h2, RAs_heapless as r O2 hl.2 h3, h4⟩
end
theorem heapless_ds : ∀ (ds : List D), heapless.all (ds.map AV.d) = true
  | [] => rfl
  | d :: ds => by simp [heapless.all, heapless, heapless_ds ds]
theorem RDvals_of : ∀ (vs : List AV) (ds : List D) (es : List MapEntry) (O : Own), freeze.freezes vs = some ds → ds.all D.fine = true → RAs cid w M ρ vs (es.map MapEntry.val) O → RDvals cid w M ds es
  | [], ds, es, O, hf, _, h => by
    simp only [freeze.freezes, Option.some.injEq] at hf; subst hf
    simp only [RAs, List.map_eq_nil_iff] at h
    simp [RDvals, h.1]
  | v :: vs, ds, es, O, hf, hall, h => by
    simp only [freeze.freezes] at hf
    split at hf <;> simp only [Option.some.injEq, reduceCtorEq] at hf
    rename_i d ds' h1 h2
    subst hf
    simp only [List.all_cons, Bool.and_eq_true] at hall
    cases es with
    | nil => simp [RAs] at h
    | cons e es =>
      simp only [List.map_cons, RAs, List.cons.injEq] at h
      obtain ⟨u, r, O1, O2, ⟨rfl, rfl⟩, h3, h4, _⟩ := h
      have h5 := RA_freeze _ _ _ _ h3 h1
      simp only [RA, and_true] at h5
      have h6 := (RV_fine hall.1).1 h5
      simp only [RDvals]
      exact ⟨e, es, rfl, h6.1, h6.2, RDvals_of vs ds' es O2 h2 hall.2 h4⟩
theorem RDflat_ofCells : ∀ (cs : List AV) (ds : List D) (us : List Value) (O : Own), allD cs = some ds → szOk 1 ds = true → cs.all AV.one = true → RAs cid w M ρ cs us O → RDflat cid w M ds 1 us
  | [], ds, us, O, hd, _, _, h => by
    simp only [allD, Option.some.injEq] at hd; subst hd
    simp only [RAs] at h
    simp [RDflat, h.1]
  | c :: cs, ds, us, O, hd, hsz, hone, h => by
    cases c with
    | d x =>
      simp only [allD] at hd
      split at hd <;> simp only [Option.some.injEq, reduceCtorEq] at hd
      rename_i ds' hds
      subst hd
      simp only [RAs] at h
      obtain ⟨v, r, O1, O2, rfl, h1, h2, rfl⟩ := h
      simp only [szOk, List.all_cons, Bool.and_eq_true] at hsz hone
      simp only [RA] at h1
      obtain ⟨q1, _, _, _⟩ := RV_one h1.1 hone.1
      simp only [RDflat]
      exact ⟨[v], r, rfl, rfl, q1, RDflat_ofCells cs ds' r O2 hds hsz.2 hone.2 h2⟩
    | _ => simp [allD] at hd
end
section
variable {P : Program} {g : Gh} {e : Env} {h : Heap} {a : Act} {w : World} {ρ : Rho} {own : OwnF}
mutual
theorem freezeH_sound (hs : SR g e h a w ρ own) : ∀ (c : AV) (v : Value) (O : Own) (d : D), RA g.cid w (MOf g.M0 own) ρ c v O → freezeH h c = some d → RV g.cid w g.M0 d v
  | .arr tg i off len, v, O, d, hra, hf => by
    simp only [freezeH] at hf
    split at hf
    case h_2 => simp at hf
    rename_i cs hget
    split at hf
    case isFalse => simp at hf
    rename_i hle
    split at hf
    case h_2 => simp at hf
    rename_i ds hds
    split at hf <;> simp only [Option.some.injEq, reduceCtorEq] at hf
    rename_i hsz
    subst hf
    simp only [RA] at hra
    obtain ⟨p, cap, rfl, hcap, hp, _⟩ := hra
    obtain ⟨b', hρb, vs, O', k3, m2, m1, k5⟩ := hs.heap _ _ _ hget
    have hshr : Ext w (MOf g.M0 own) w g.M0 := Ext.shrink fun b o hb => .inl hb
    have hld : ds.length = len := by
      have := allD_some _ _ hds
      have h2 : (cs.drop off).take len = ds.map AV.d := this
      have h3 := congrArg List.length h2
      simp at h3; omega
    refine RV_mk ?_ rfl
    simp only [RDc]
    refine ⟨p, len, cap, rfl, hld.symm, hcap, fun hne => ?_⟩
    have hpos : 0 < len := by
      rcases Nat.eq_zero_or_pos len with h0 | h0
      · exact absurd (List.length_eq_zero_iff.1 (by omega)) hne
      · exact h0
    obtain ⟨b, q1, rfl⟩ := hp hpos
    rw [hρb] at q1
    simp only [Option.some.injEq] at q1
    subst q1
    obtain ⟨O1, O2, O3, _, _, a2, _⟩ := RAs_split m1 off len
    have hfl := RDflat_ofCells _ _ _ _ hds hsz (all_take (all_drop m2 _) _) a2
    refine ⟨b', off, 1, rfl, Nat.one_pos, RDflat_els _ _ _ _ (RDflat_mono hshr _ _ _ hfl) ?_⟩
    intro j u hj
    refine ⟨?_, fun hm => hs.apart (.obj tg i) b' 0 (off + j) (by rw [k5]; exact List.mem_cons_self ..) (Nat.zero_le _) hm⟩
    rw [k3.cell]
    rw [List.getElem?_take] at hj
    split at hj
    · rwa [List.getElem?_drop] at hj
    · simp at hj
  | .mapr tg i, v, O, d, hra, hf => by
    simp only [freezeH] at hf
    split at hf
    case h_2 => simp at hf
    rename_i ks vs hget
    split at hf
    case h_2 => simp at hf
    rename_i ds hds
    split at hf <;> simp only [Option.some.injEq, reduceCtorEq] at hf
    rename_i hfine
    subst hf
    simp only [RA] at hra
    obtain ⟨b, q1, rfl, _⟩ := hra
    obtain ⟨b', hρb, es, O', k1, k2, k3, k4, k5⟩ := hs.heap _ _ _ hget
    rw [hρb] at q1
    simp only [Option.some.injEq] at q1
    subst q1
    have hshr : Ext w (MOf g.M0 own) w g.M0 := Ext.shrink fun b o hb => .inl hb
    refine RV_mk ?_ rfl
    simp only [RDc]
    exact ⟨b', es, es.size, rfl, k1, fun hm => hs.apart (.obj tg i) b' 0 0 (by rw [k5]; exact List.mem_cons_self ..) (Nat.zero_le _) hm, RDkeys_mono hshr _ _ k3, RDvals_mono hshr _ _ (RDvals_of _ _ _ _ hds hfine k4), rfl, k2⟩
  | .tup as, v, O, d, hra, hf => by
    simp only [freezeH] at hf
    split at hf <;> simp only [Option.some.injEq, reduceCtorEq] at hf
    rename_i ds hds
    subst hf
    simp only [RA] at hra
    obtain ⟨vs, rfl, h2⟩ := hra
    simp only [RV]
    exact ⟨vs, rfl, freezeHs_sound hs as vs.toList O ds h2 hds⟩
  | .d x, v, O, d, hra, hf => by
    have := RA_freeze _ _ _ _ hra (by simpa [freezeH] using hf)
    simp only [RA, and_true] at this
    exact RV_mono (Ext.shrink fun b o hb => .inl hb) _ _ this
  | .acc sz xs, v, O, d, hra, hf => by
    have := RA_freeze _ _ _ _ hra (by simpa [freezeH] using hf)
    simp only [RA, and_true] at this
    exact RV_mono (Ext.shrink fun b o hb => .inl hb) _ _ this
  | .full sz xs, v, O, d, hra, hf => by
    have := RA_freeze _ _ _ _ hra (by simpa [freezeH] using hf)
    simp only [RA, and_true] at this
    exact RV_mono (Ext.shrink fun b o hb => .inl hb) _ _ this
  | .agg as, v, O, d, hra, hf => by
    have := RA_freeze _ _ _ _ hra (by simpa [freezeH] using hf)
    simp only [RA, and_true] at this
    exact RV_mono (Ext.shrink fun b o hb => .inl hb) _ _ this
  | .ptr _ _ _, _, _, _, _, hf => by simp [freezeH, freeze] at hf
  | .fn _ _, _, _, _, _, hf => by simp [freezeH, freeze] at hf
theorem freezeHs_sound (hs : SR g e h a w ρ own) : ∀ (cs : List AV) (vs : List Value) (O : Own) (ds : List D), RAs g.cid w (MOf g.M0 own) ρ cs vs O → freezeH.go h cs = some ds → RVs g.cid w g.M0 ds vs
  | [], vs, O, ds, hra, hf => by
    simp only [freezeH.go, Option.some.injEq] at hf; subst hf
    simp only [RAs] at hra
    simp [RVs, hra.1]
  | c :: cs, vs, O, ds, hra, hf => by
    simp only [freezeH.go] at hf
    split at hf <;> simp only [Option.some.injEq, reduceCtorEq] at hf
    rename_i d ds' h1 h2
    subst hf
    simp only [RAs] at hra
    obtain ⟨v, r, O1, O2, rfl, h3, h4, _⟩ := hra
    simp only [RVs]
    exact ⟨v, r, rfl, freezeH_sound hs c v O1 d h3 h1, freezeHs_sound hs cs r O2 ds' h4 h2⟩
end

/-- memory as what must not be touched. -/
def Gh.hid (g : Gh) (own : OwnF) (w : World) : Gh := { cid := g.cid, M0 := MOf g.M0 own, w0 := w, S0 := fun _ => True, G := g.G, nt := 0 }
theorem heap_empty (tg i : Nat) : ({} : Heap).get tg i = none := by
  unfold Heap.get
  match tg with
  | 0 => rfl
  | 1 => rfl
  | 2 => rfl
  | 3 => rfl
  | n + 4 => rfl
theorem SR.hide (hs : SR g e h a w ρ own) : SR (g.hid own w) [] {} { tmps := #[], defers := [] } w (fun _ _ => none) (fun _ => []) where
  defers := rfl
  size := rfl
  slots t s ht := by simp [Env.get] at ht
  heap tg i o ho := by rw [heap_empty] at ho; simp at ho
  hdom _ _ _ := rfl
  nodup _ := by simp [blocks]
  disj _ _ _ _ hb := by simp [blocks] at hb
  lt _ _ hb := by simp [blocks] at hb
  apart _ _ _ _ hb := by simp at hb
  m0 b o hm := by
    rcases hm with hm | ⟨k, l, hm, _⟩
    · exact hs.m0 b o hm
    · exact hs.lt k b (List.mem_map.2 ⟨_, hm, rfl⟩)
  ours _ _ hb := by simp [blocks] at hb
  grow := Nat.le_refl _
  keep _ _ _ := rfl
  os := ⟨rfl, rfl, rfl⟩
  globs n d hd := by
    obtain ⟨cs, h1, h2⟩ := hs.globs n d hd
    have hx : Ext w (MOf g.M0 own) w (MOf (g.hid own w).M0 (fun _ => [])) := Ext.shrink (by
      rintro b o (h3 | ⟨k, l, h3, _⟩)
      · exact h3
      · simp at h3)
    exact ⟨cs, RDc_mono hx _ _ h1, cellsAt_mono hx h2⟩
/-- what a function comes to that sees nothing of the heap. -/
theorem pure_call {cid : FuncId → Option Nat} {G : Nat → Option D} {F : FuncId} {ds : List D} {r : AV} {h' : Heap} {vs : List Value} (hf : FnOk P cid G F (ds.map AV.d) {} r h') (hcid : g.cid = cid) (hG : g.G = G) (hs : SR g e h a w ρ own) (hra : RAs g.cid w (MOf g.M0 own) ρ (ds.map AV.d) vs []) :
    CallOk P F vs w (Post (g.hid own w) { tmps := #[], defers := [] } w (fun _ _ => none) (fun _ => []) [] h' (.v r)) := by
  have hx : Ext w (MOf g.M0 own) w (MOf (g.hid own w).M0 (fun _ => [])) := Ext.shrink (by
    rintro b o (h3 | ⟨k, l, h3, _⟩)
    · exact h3
    · simp at h3)
  exact hf (g := g.hid own w) hcid hG hs.hide (RAs_mono hx (fun _ _ _ h => h) _ _ _ (fun _ _ => rfl) (RAs_heapless _ _ _ (heapless_ds ds) hra))
theorem CallOk.mono {F : FuncId} {vs : List Value} {R R' : Value → World → Prop} (hc : CallOk P F vs w R) (hR : ∀ v w', R v w' → R' v w') : CallOk P F vs w R' :=
  ⟨hc.1, hc.2.mono fun en w' hh => by
    cases en with
    | returned v => exact hR _ _ hh
    | _ => exact hh⟩
/-- what stands is as it was, where all blocks are as they were. -/
theorem SR.under (hs : SR g e h a w ρ own) {w' : World} (hsz : w.heap.size ≤ w'.heap.size) (hk : ∀ b, b < w.heap.size → w'.heap[b]? = w.heap[b]?) (ho : w'.os = w.os ∧ w'.tape = w.tape ∧ w'.output = w.output) {O : Own} (hnd : (blocks O).Nodup) (hO : ∀ b l, (b, l) ∈ O → w.heap.size ≤ b ∧ b < w'.heap.size) :
    SR g e h a w' ρ (own.upd .pend O) ∧ Ext w (MOf g.M0 own) w' (MOf g.M0 (own.upd .pend O)) := by
  have hx : Ext w (MOf g.M0 own) w' (MOf g.M0 (own.upd .pend O)) :=
    { size := hsz
      m := fun b o hb hn hn' => by
        rcases hn' with h1 | ⟨k, l, h1, h2⟩
        · exact hn (.inl h1)
        · by_cases hk : k = .pend
          · subst hk
            simp only [OwnF.upd_same] at h1
            have := (hO b l h1).1; omega
          · rw [OwnF.upd_other _ _ hk] at h1
            exact hn (.inr ⟨k, l, h1, h2⟩)
      cell := fun b o v _ hc => by unfold World.cell? at hc ⊢; rw [hk b (lt_of_cell hc)]; exact hc
      map := fun b es c _ hc => by rw [hk b (Array.getElem?_eq_some_iff.1 hc).1]; exact hc }
  refine ⟨hs.trans (fun k => k = .pend) (fun _ _ _ h => h) hx (fun k hk => OwnF.upd_other _ _ hk) (fun b hb _ => hk b hb) ho (fun _ _ h _ => h) (fun _ _ _ _ h => by simp at h) (fun _ _ _ h => by simp at h) (fun _ _ _ h _ => h) (fun _ _ _ _ h => by simp at h) hs.hdom ?_ ?_ ?_, hx⟩
  · rintro k rfl; simpa using hnd
  · rintro k k' b rfl rfl hk; exact absurd rfl hk
  · rintro k b l rfl hb
    simp only [OwnF.upd_same] at hb
    exact .inr (hO b l hb)
mutual
theorem D.beq_eq : ∀ (a b : D), D.beq a b = true → a = b
  | .bool a, b, h => by cases b <;> simp [D.beq] at h; rw [h]
  | .int k a, b, h => by cases b <;> simp [D.beq] at h; rw [h.1, h.2]
  | .str a, b, h => by cases b <;> simp [D.beq] at h; rw [h]
  | .nilp, b, h => by cases b <;> simp [D.beq] at h; rfl
  | .nilf, b, h => by cases b <;> simp [D.beq] at h; rfl
  | .nilm, b, h => by cases b <;> simp [D.beq] at h; rfl
  | .fnc a, b, h => by cases b <;> simp [D.beq] at h; rw [h]
  | .agg a, b, h => by cases b <;> simp [D.beq] at h; rw [Ds.beq_eq a _ h]
  | .lst a, b, h => by cases b <;> simp [D.beq] at h; rw [Ds.beq_eq a _ h]
  | .tup a, b, h => by cases b <;> simp [D.beq] at h; rw [Ds.beq_eq a _ h]
  | .fmap a c, b, h => by cases b <;> simp [D.beq] at h; rw [Ds.beq_eq a _ h.1, Ds.beq_eq c _ h.2]
theorem Ds.beq_eq : ∀ (a b : List D), Ds.beq a b = true → a = b
  | [], b, h => by cases b <;> simp [Ds.beq] at h; rfl
  | a :: as, b, h => by
    cases b with
    | nil => simp [Ds.beq] at h
    | cons b bs =>
      simp only [Ds.beq, Bool.and_eq_true] at h
      rw [D.beq_eq a b h.1, Ds.beq_eq as bs h.2]
end
mutual
theorem AV.beq_eq : ∀ (a b : AV), AV.beq a b = true → a = b
  | .d a, b, h => by cases b <;> simp [AV.beq] at h; rw [D.beq_eq a _ h]
  | .acc s a, b, h => by cases b <;> simp [AV.beq] at h; rw [h.1, Ds.beq_eq a _ h.2]
  | .full s a, b, h => by cases b <;> simp [AV.beq] at h; rw [h.1, Ds.beq_eq a _ h.2]
  | .ptr x y z, b, h => by cases b <;> simp [AV.beq] at h; simp [h]
  | .fn f a, b, h => by cases b <;> simp [AV.beq] at h; rw [h.1, AVs.beq_eq a _ h.2]
  | .arr x y z u, b, h => by cases b <;> simp [AV.beq] at h; simp [h]
  | .agg a, b, h => by cases b <;> simp [AV.beq] at h; rw [AVs.beq_eq a _ h]
  | .tup a, b, h => by cases b <;> simp [AV.beq] at h; rw [AVs.beq_eq a _ h]
  | .mapr x y, b, h => by cases b <;> simp [AV.beq] at h; simp [h]
theorem AVs.beq_eq : ∀ (a b : List AV), AVs.beq a b = true → a = b
  | [], b, h => by cases b <;> simp [AVs.beq] at h; rfl
  | a :: as, b, h => by
    cases b with
    | nil => simp [AVs.beq] at h
    | cons b bs =>
      simp only [AVs.beq, Bool.and_eq_true] at h
      rw [AV.beq_eq a b h.1, AVs.beq_eq as bs h.2]
end
theorem HObj.beq_eq {a b : HObj} (h : HObj.beq a b = true) : a = b := by
  cases a <;> cases b <;> simp only [HObj.beq, Bool.and_eq_true, Bool.false_eq_true] at h
  · rw [AVs.beq_eq _ _ h]
  · rw [Ds.beq_eq _ _ h.1, AVs.beq_eq _ _ h.2]
theorem HObjs.beq_eq : ∀ (a b : List HObj), HObjs.beq a b = true → a = b
  | [], b, h => by cases b <;> simp [HObjs.beq] at h; rfl
  | a :: as, b, h => by
    cases b with
    | nil => simp [HObjs.beq] at h
    | cons b bs =>
      simp only [HObjs.beq, Bool.and_eq_true] at h
      rw [HObj.beq_eq h.1, HObjs.beq_eq as bs h.2]
theorem sameHeap_eq {h k : Heap} (hh : sameHeap h k = true) : h = k := by
  unfold sameHeap at hh
  simp only [Bool.and_eq_true] at hh
  obtain ⟨a, b, c, d⟩ := h
  obtain ⟨a', b', c', d'⟩ := k
  simp only at hh
  rw [HObjs.beq_eq _ _ hh.1.1.1, HObjs.beq_eq _ _ hh.1.1.2, HObjs.beq_eq _ _ hh.1.2, HObjs.beq_eq _ _ hh.2]
/-- what is told of the functions that are called, from what is told of all functions. -/
theorem ctx_sound {cid : FuncId → Option Nat} {S : Sys} {imp : Nat → List AV → Heap → Option (AV × Heap)} (himp : ∀ {f as h r h' F}, imp f as h = some (r, h') → cid F = some f → FnOk P cid S.glob F as h r h')
    (horc : ∀ {f ds d F}, S.orc f ds = some d → cid F = some f → FnOk P cid S.glob F (ds.map AV.d) {} (.d d) {}) (hcid : g.cid = cid) (hG : g.G = S.glob) : CtxOk P g (ctxOf S imp) where
  glob := hG.symm
  pure := by
    intro f ds r F e h a w ρ own vs hr hF hs hp hra
    have fin : ∀ (c : AV) (h' : Heap), FnOk P cid S.glob F (ds.map AV.d) {} c h' → freezeH h' c = some r → CallOk P F vs w (Post g a w ρ own e h (vD r)) := by
      intro c h' hf hfr
      refine (pure_call hf hcid hG hs hra).mono fun v w' hpost => ?_
      obtain ⟨ρ', own', s0, k2, _, _⟩ := hpost
      have hrv := freezeH_sound s0 c v _ r k2 hfr
      obtain ⟨s1, x1⟩ := hs.under (w' := w') s0.grow (fun b hb => s0.keep b hb trivial) s0.os (O := []) (by simp [blocks]) (by simp)
      refine ⟨ρ, _, s1, ?_, fun _ _ _ h => h, x1⟩
      rw [OwnF.upd_same]
      simp only [vD, SlotR, RA, and_true]
      refine RV_mono (Ext.shrink fun b o hb => ?_) _ _ hrv
      rcases hb with hb | ⟨k, l, hb, h2⟩
      · exact .inl hb
      · by_cases hk : k = .pend
        · subst hk; simp at hb
        · rw [OwnF.upd_other _ _ hk] at hb; exact .inr ⟨k, l, hb, h2⟩
    simp only [ctxOf] at hr
    split at hr
    · rename_i d hd
      simp only [Option.some.injEq] at hr
      subst hr
      exact fin (.d d) {} (horc hd (hcid ▸ hF)) rfl
    · split at hr
      case h_2 => simp at hr
      rename_i c h' hi
      exact fin c h' (himp hi (hcid ▸ hF)) hr
  own := by
    intro f ds r F e h a w ρ own vs hr hF hs hp hra
    simp only [ctxOf] at hr
    split at hr
    case h_2 => simp at hr
    rename_i c h' hi
    split at hr <;> simp only [Option.some.injEq, reduceCtorEq] at hr
    rename_i hl
    subst hr
    refine (pure_call (himp hi (hcid ▸ hF)) hcid hG hs hra).mono fun v w' hpost => ?_
    obtain ⟨ρ', own', s0, k2, _, _⟩ := hpost
    obtain ⟨s1, x1⟩ := hs.under (w' := w') s0.grow (fun b hb => s0.keep b hb trivial) s0.os (O := own' .pend) (s0.nodup .pend) (fun b l hb => by
      have hb' : b ∈ blocks (own' .pend) := List.mem_map.2 ⟨_, hb, rfl⟩
      exact ⟨(s0.ours .pend b hb').resolve_right (fun h => h trivial), s0.lt .pend b hb'⟩)
    refine ⟨ρ, _, s1, ?_, fun _ _ _ h => h, x1⟩
    rw [OwnF.upd_same]
    simp only [SlotR] at k2 ⊢
    refine RA_heapless _ _ _ hl (RA_mono (Ext.shrink fun b o hb => ?_) (fun _ _ _ h => h) _ _ _ (fun _ _ => rfl) k2)
    rcases hb with hb | ⟨k, l, hb, h2⟩
    · exact .inl (.inl hb)
    · by_cases hk : k = .pend
      · subst hk; simp only [OwnF.upd_same] at hb; exact .inr ⟨.pend, l, hb, h2⟩
      · rw [OwnF.upd_other _ _ hk] at hb; exact .inl (.inr ⟨k, l, hb, h2⟩)
  ro := by
    intro f as r F e h a w ρ own vs hr hF hs hp hra
    simp only [ctxOf] at hr
    split at hr
    case h_2 => simp at hr
    rename_i c h' hi
    split at hr <;> simp only [Option.some.injEq, reduceCtorEq] at hr
    rename_i hsame
    subst hr
    have : h = h' := sameHeap_eq hsame
    subst this
    exact himp hi (hcid ▸ hF) hcid hG hs (hp ▸ hra)
  imp := by
    intro f as r h' F e h a w ρ own vs hr hF hs hra
    exact himp hr (hcid ▸ hF) hcid hG hs hra
/-- a program that is digested. -/
structure SysOk (P : Program) (cid : FuncId → Option Nat) (S : Sys) : Prop where
  fn : ∀ {F f fd}, cid F = some f → S.prog f = some fd → ∃ fn A, P.funcs[F]? = some fn ∧ digFun P cid A fn = some fd
  orc : ∀ {f ds d F}, S.orc f ds = some d → cid F = some f → FnOk P cid S.glob F (ds.map AV.d) {} (.d d) {}
theorem prog_sound {cid : FuncId → Option Nat} {S : Sys} (hS : SysOk P cid S) : ∀ (n : Nat) {f : Nat} {as : List AV} {h : Heap} {r : AV} {h' : Heap} {F : FuncId}, impN S n f as h = some (r, h') → cid F = some f → FnOk P cid S.glob F as h r h'
  | 0, _, _, _, _, _, _, hr, _ => by simp [impN] at hr
  | n + 1, f, as, h, r, h', F, hr, hF => by
    simp only [impN] at hr
    split at hr
    case h_2 => simp at hr
    rename_i fd hfd
    obtain ⟨fn, A, h1, h2⟩ := hS.fn hF hfd
    exact fun_sound (fun g hcid hG => ctx_sound (prog_sound hS n) hS.orc hcid hG) h1 h2 hr
end
end Go.Ab

/-
  A machine without memory (part 29): without fuel. Conditions: none (definitions and lemmas).
-/
namespace Go.Ab

section
variable {α : Type}
open Classical in
/-- what a row of answers comes to, from a place on. -/
noncomputable def lim (f : Nat → Option α) : Option α := if h : ∃ a N, ∀ n, N ≤ n → f n = some a then some h.choose else none
theorem lim_iff {f : Nat → Option α} {a : α} : lim f = some a ↔ ∃ N, ∀ n, N ≤ n → f n = some a := by
  unfold lim
  constructor
  · intro h
    split at h
    · rename_i hex
      simp only [Option.some.injEq] at h
      rw [← h]; exact hex.choose_spec
    · simp at h
  · rintro ⟨N, hN⟩
    have hex : ∃ a N, ∀ n, N ≤ n → f n = some a := ⟨a, N, hN⟩
    rw [dif_pos hex]
    obtain ⟨M, hM⟩ := hex.choose_spec
    have h1 := hM (max N M) (Nat.le_max_right _ _)
    have h2 := hN (max N M) (Nat.le_max_left _ _)
    rw [h1] at h2
    exact h2
end
def ctxN (S : Sys) (n : Nat) : Ctx := ctxOf S (impN S n)
noncomputable def Clim (S : Sys) : Ctx where
  pure := fun f ds => lim fun n => (ctxN S n).pure f ds
  own := fun f ds => lim fun n => (ctxN S n).own f ds
  imp := fun f as h => lim fun n => (ctxN S n).imp f as h
  ro := fun f as h => lim fun n => (ctxN S n).ro f as h
  glob := S.glob

section
variable {S : Sys}
theorem op_lim {d : DOp} {e : Env} {h : Heap} {r : Slot × Env × Heap} (hr : opRun (Clim S) d e h = some r) : ∃ N, ∀ n, N ≤ n → opRun (ctxN S n) d e h = some r := by
  cases d with
  | call f as m =>
    cases m with
    | pure =>
      simp only [opRun] at hr ⊢
      split at hr
      case h_2 => simp at hr
      split at hr
      case h_2 => simp at hr
      rename_i d hd
      obtain ⟨N, hN⟩ := lim_iff.1 hd
      exact ⟨N, fun n hn => by simp only [hN n hn]; exact hr⟩
    | own =>
      simp only [opRun] at hr ⊢
      split at hr
      case h_2 => simp at hr
      split at hr
      case h_2 => simp at hr
      rename_i d hd
      obtain ⟨N, hN⟩ := lim_iff.1 hd
      exact ⟨N, fun n hn => by simp only [hN n hn]; exact hr⟩
    | ro =>
      simp only [opRun] at hr ⊢
      split at hr
      case h_2 => simp at hr
      split at hr
      case h_2 => simp at hr
      rename_i d hd
      obtain ⟨N, hN⟩ := lim_iff.1 hd
      exact ⟨N, fun n hn => by simp only [hN n hn]; exact hr⟩
    | imp =>
      simp only [opRun] at hr ⊢
      split at hr
      case h_2 => simp at hr
      split at hr
      case h_2 => simp at hr
      rename_i d hd
      obtain ⟨N, hN⟩ := lim_iff.1 hd
      exact ⟨N, fun n hn => by simp only [hN n hn]; exact hr⟩
  | callv x as m =>
    cases m with
    | own => simp only [opRun] at hr; (repeat' split at hr) <;> simp at hr
    | pure =>
      simp only [opRun] at hr ⊢
      split at hr
      · split at hr
        case h_2 => simp at hr
        split at hr
        case h_2 => simp at hr
        rename_i d hd
        obtain ⟨N, hN⟩ := lim_iff.1 hd
        exact ⟨N, fun n hn => by simp only [hN n hn]; exact hr⟩
      · simp at hr
      · simp at hr
    | ro =>
      simp only [opRun] at hr ⊢
      split at hr
      · split at hr
        case h_2 => simp at hr
        split at hr
        case h_2 => simp at hr
        rename_i d hd
        obtain ⟨N, hN⟩ := lim_iff.1 hd
        exact ⟨N, fun n hn => by simp only [hN n hn]; exact hr⟩
      · split at hr
        case h_2 => simp at hr
        split at hr
        case h_2 => simp at hr
        rename_i d hd
        obtain ⟨N, hN⟩ := lim_iff.1 hd
        exact ⟨N, fun n hn => by simp only [hN n hn]; exact hr⟩
      · simp at hr
    | imp =>
      simp only [opRun] at hr ⊢
      split at hr
      · split at hr
        case h_2 => simp at hr
        split at hr
        case h_2 => simp at hr
        rename_i d hd
        obtain ⟨N, hN⟩ := lim_iff.1 hd
        exact ⟨N, fun n hn => by simp only [hN n hn]; exact hr⟩
      · split at hr
        case h_2 => simp at hr
        split at hr
        case h_2 => simp at hr
        rename_i d hd
        obtain ⟨N, hN⟩ := lim_iff.1 hd
        exact ⟨N, fun n hn => by simp only [hN n hn]; exact hr⟩
      · simp at hr
  | slice str x sz lo hi mx =>
    cases str with
    | true => exact ⟨0, fun n _ => hr⟩
    | false => cases mx with
      | none => exact ⟨0, fun n _ => hr⟩
      | some y => cases hi with
        | none => exact ⟨0, fun n _ => hr⟩
        | some z => exact ⟨0, fun n _ => hr⟩
  | _ => exact ⟨0, fun n _ => hr⟩
theorem step_lim {o : DOper} {e : Env} {h : Heap} {r : Env × Heap} (hr : stepOp (Clim S) o e h = some r) : ∃ N, ∀ n, N ≤ n → stepOp (ctxN S n) o e h = some r := by
  unfold stepOp at hr ⊢
  split at hr
  · split at hr
    case h_2 => simp at hr
    rename_i s e1 h1 hop
    obtain ⟨N, hN⟩ := op_lim hop
    exact ⟨N, fun n hn => by simp only [hN n hn]; exact hr⟩
  · exact ⟨0, fun _ _ => hr⟩
  · simp at hr
theorem ops_lim : ∀ {os : List DOper} {e : Env} {h : Heap} {r : Env × Heap}, opsRun (Clim S) os e h = some r → ∃ N, ∀ n, N ≤ n → opsRun (ctxN S n) os e h = some r
  | [], _, _, _, hr => ⟨0, fun _ _ => hr⟩
  | o :: os, e, h, r, hr => by
    simp only [opsRun] at hr ⊢
    split at hr
    case h_2 => simp at hr
    rename_i e1 h1 hst
    obtain ⟨N, hN⟩ := step_lim hst
    obtain ⟨M, hM⟩ := ops_lim hr
    exact ⟨max N M, fun n hn => by simp only [hN n (by omega)]; exact hM n (by omega)⟩
theorem exec_lim {k : Nat} : ∀ (c : DCode) {e : Env} {h : Heap} {r : XE × Env × Heap}, exec (Clim S) k c e h = some r → ∃ N, ∀ n, N ≤ n → ∀ k', k ≤ k' → exec (ctxN S n) k' c e h = some r := by
  intro c
  induction c with
  | region d ops ks =>
    intro e h r hr
    simp only [exec] at hr ⊢
    split at hr
    case h_2 => simp at hr
    rename_i e1 h1 hops
    obtain ⟨N, hN⟩ := ops_lim hops
    exact ⟨N, fun n hn k' _ => by simp only [hN n hn]; exact hr⟩
  | seq a b iha ihb =>
    intro e h r hr
    simp only [exec] at hr ⊢
    split at hr
    · rename_i e1 h1 ha
      obtain ⟨N, hN⟩ := iha ha
      obtain ⟨M, hM⟩ := ihb hr
      exact ⟨max N M, fun n hn k' hk => by simp only [hN n (by omega) k' hk]; exact hM n (by omega) k' hk⟩
    · rename_i hnot
      obtain ⟨N, hN⟩ := iha hr
      refine ⟨N, fun n hn k' hk => ?_⟩
      rw [hN n hn k' hk]
      split
      · rename_i e1 h1 heq
        rw [hr] at hnot
        exact absurd heq (hnot _ _)
      · rfl
  | cond c a b iha ihb =>
    intro e h r hr
    simp only [exec] at hr ⊢
    split at hr
    · exact iha hr
    · exact ihb hr
    · simp at hr
  | block id b ih =>
    intro e h r hr
    simp only [exec] at hr ⊢
    split at hr
    · rename_i i e1 h1 hb
      obtain ⟨N, hN⟩ := ih hb
      exact ⟨N, fun n hn k' hk => by simp only [hN n hn k' hk]; exact hr⟩
    · rename_i hnot
      obtain ⟨N, hN⟩ := ih hr
      refine ⟨N, fun n hn k' hk => ?_⟩
      rw [hN n hn k' hk]
      split
      · rename_i i e1 h1 heq
        rw [hr] at hnot
        exact absurd heq (hnot _ _ _)
      · rfl
  | loop b ih =>
    intro e h r hr
    simp only [exec] at hr ⊢
    have key : ∀ (j : Nat) (e : Env) (h : Heap), iter (exec (Clim S) k b) j e h = some r → ∃ N, ∀ n, N ≤ n → ∀ k', k ≤ k' → ∀ j', j ≤ j' → iter (exec (ctxN S n) k' b) j' e h = some r := by
      intro j
      induction j with
      | zero => intro e h hj; simp [iter] at hj
      | succ j ihj =>
        intro e h hj
        simp only [iter] at hj
        split at hj
        · rename_i e1 h1 hb
          obtain ⟨N, hN⟩ := ih hb
          obtain ⟨M, hM⟩ := ihj e1 h1 hj
          refine ⟨max N M, fun n hn k' hk j' hj' => ?_⟩
          obtain ⟨i, rfl⟩ : ∃ i, j' = i + 1 := ⟨j' - 1, by omega⟩
          simp only [iter, hN n (by omega) k' hk]
          exact hM n (by omega) k' hk i (by omega)
        · rename_i hnot
          obtain ⟨N, hN⟩ := ih hj
          refine ⟨N, fun n hn k' hk j' hj' => ?_⟩
          obtain ⟨i, rfl⟩ : ∃ i, j' = i + 1 := ⟨j' - 1, by omega⟩
          simp only [iter]
          rw [hN n hn k' hk]
          split
          · rename_i e1 h1 heq
            rw [hj] at hnot
            exact absurd heq (hnot _ _)
          · rfl
    obtain ⟨N, hN⟩ := key k e h hr
    exact ⟨N, fun n hn k' hk => hN n hn k' hk k' hk⟩
  | _ =>
    intro e h r hr
    simp only [exec] at hr ⊢
    exact ⟨0, fun _ _ _ _ => hr⟩
/-- a function's answer, without fuel. -/
theorem fun_lim {f : Nat} {fd : DFun} {k : Nat} {as : List AV} {h : Heap} {r : AV × Heap} (hf : S.prog f = some fd) (hr : runFun (Clim S) k fd as h = some r) : (Clim S).imp f as h = some r := by
  refine lim_iff.2 ?_
  unfold runFun at hr
  split at hr
  case isFalse => simp at hr
  rename_i hlen
  have fin : ∀ (x : XE) (e2 : Env) (h2 : Heap), exec (Clim S) k fd.body (initEnv 0 as) h = some (x, e2, h2) → ∃ N, ∀ n, N ≤ n → ∃ m, n = m + 1 ∧ exec (ctxN S m) m fd.body (initEnv 0 as) h = some (x, e2, h2) := by
    intro x e2 h2 hx
    obtain ⟨N, hN⟩ := exec_lim fd.body hx
    exact ⟨max N k + 1, fun n hn => ⟨n - 1, by omega, hN (n - 1) (by omega) (n - 1) (by omega)⟩⟩
  cases hx : exec (Clim S) k fd.body (initEnv 0 as) h with
  | none => simp [hx] at hr
  | some q =>
    obtain ⟨x, e2, h2⟩ := q
    obtain ⟨N, hN⟩ := fin x e2 h2 hx
    refine ⟨N, fun n hn => ?_⟩
    obtain ⟨m, rfl, hm⟩ := hN n hn
    show impN S (m + 1) f as h = some r
    simp only [impN, hf]
    unfold runFun
    rw [if_pos hlen]
    show (match exec (ctxN S m) m fd.body (initEnv 0 as) h with
      | some (.exit _, _, _) => none
      | some (_, e, h') => match resAll e h' fd.results with
        | some as => some (pack as, h')
        | none => none
      | none => none) = some r
    rw [hm]
    rw [hx] at hr
    exact hr
end
end Go.Ab

/-
  A machine without memory (part 30): the rules by which a function's answer is told. Conditions: none (lemmas).
-/
namespace Go.Ab

mutual
theorem D.beq_refl : ∀ (a : D), D.beq a a = true
  | .bool a => by simp [D.beq]
  | .int k a => by simp [D.beq]
  | .str a => by simp [D.beq]
  | .nilp => by simp [D.beq]
  | .nilf => by simp [D.beq]
  | .nilm => by simp [D.beq]
  | .fnc a => by simp [D.beq]
  | .agg a => by simp [D.beq, Ds.beq_refl a]
  | .lst a => by simp [D.beq, Ds.beq_refl a]
  | .tup a => by simp [D.beq, Ds.beq_refl a]
  | .fmap a c => by simp [D.beq, Ds.beq_refl a, Ds.beq_refl c]
theorem Ds.beq_refl : ∀ (a : List D), Ds.beq a a = true
  | [] => rfl
  | a :: as => by simp [Ds.beq, D.beq_refl a, Ds.beq_refl as]
end
mutual
theorem AV.beq_refl : ∀ (a : AV), AV.beq a a = true
  | .d a => by simp [AV.beq, D.beq_refl a]
  | .acc s a => by simp [AV.beq, Ds.beq_refl a]
  | .full s a => by simp [AV.beq, Ds.beq_refl a]
  | .ptr x y z => by simp [AV.beq]
  | .fn f a => by simp [AV.beq, AVs.beq_refl a]
  | .arr x y z u => by simp [AV.beq]
  | .agg a => by simp [AV.beq, AVs.beq_refl a]
  | .tup a => by simp [AV.beq, AVs.beq_refl a]
  | .mapr x y => by simp [AV.beq]
theorem AVs.beq_refl : ∀ (a : List AV), AVs.beq a a = true
  | [] => rfl
  | a :: as => by simp [AVs.beq, AV.beq_refl a, AVs.beq_refl as]
end
theorem HObjs.beq_refl : ∀ (a : List HObj), HObjs.beq a a = true
  | [] => rfl
  | .cells a :: as => by simp [HObjs.beq, HObj.beq, AVs.beq_refl a, HObjs.beq_refl as]
  | .map a c :: as => by simp [HObjs.beq, HObj.beq, Ds.beq_refl a, AVs.beq_refl c, HObjs.beq_refl as]
theorem sameHeap_refl (h : Heap) : sameHeap h h = true := by simp [sameHeap, HObjs.beq_refl]

section
variable {S : Sys}
theorem pure_of_orc {f : Nat} {ds : List D} {d : D} (ho : S.orc f ds = some d) : (Clim S).pure f ds = some d :=
  lim_iff.2 ⟨0, fun n _ => by simp [ctxN, ctxOf, ho]⟩
theorem pure_of_imp {f : Nat} {ds : List D} {d : D} {a : AV} {h' : Heap} (ho : S.orc f ds = none) (hi : (Clim S).imp f (ds.map AV.d) {} = some (a, h')) (hf : freezeH h' a = some d) : (Clim S).pure f ds = some d := by
  obtain ⟨N, hN⟩ := lim_iff.1 hi
  refine lim_iff.2 ⟨N, fun n hn => ?_⟩
  have h1 : impN S n f (ds.map AV.d) {} = some (a, h') := hN n hn
  simp only [ctxN, ctxOf, ho, h1, hf]
theorem own_of_imp {f : Nat} {ds : List D} {a : AV} {h' : Heap} (hi : (Clim S).imp f (ds.map AV.d) {} = some (a, h')) (hl : heapless a = true) : (Clim S).own f ds = some a := by
  obtain ⟨N, hN⟩ := lim_iff.1 hi
  refine lim_iff.2 ⟨N, fun n hn => ?_⟩
  have h1 : impN S n f (ds.map AV.d) {} = some (a, h') := hN n hn
  simp only [ctxN, ctxOf, h1, hl, if_true]
theorem ro_of_imp {f : Nat} {as : List AV} {a : AV} {h : Heap} (hi : (Clim S).imp f as h = some (a, h)) : (Clim S).ro f as h = some a := by
  obtain ⟨N, hN⟩ := lim_iff.1 hi
  refine lim_iff.2 ⟨N, fun n hn => ?_⟩
  have h1 : impN S n f as h = some (a, h) := hN n hn
  simp only [ctxN, ctxOf, h1, sameHeap_refl, if_true]
/-- what the machine without memory answers, the program answers. -/
theorem lim_sound {P : Program} {cid : FuncId → Option Nat} (hS : SysOk P cid S) {f : Nat} {as : List AV} {h : Heap} {r : AV} {h' : Heap} {F : FuncId} (hr : (Clim S).imp f as h = some (r, h')) (hF : cid F = some f) : FnOk P cid S.glob F as h r h' := by
  obtain ⟨N, hN⟩ := lim_iff.1 hr
  exact prog_sound hS N (hN N (Nat.le_refl _)) hF

/-! ### code, whatever the fuel -/
/-- code comes to this, with some fuel. -/
def Runs (C : Ctx) (c : DCode) (e : Env) (h : Heap) (r : XE × Env × Heap) : Prop := ∃ k, exec C k c e h = some r
theorem iter_mono {f g : Env → Heap → XR} (hfg : ∀ e h r, f e h = some r → g e h = some r) : ∀ (k k' : Nat) (e : Env) (h : Heap) (r : XE × Env × Heap), k ≤ k' → iter f k e h = some r → iter g k' e h = some r
  | 0, _, _, _, _, _, hr => by simp [iter] at hr
  | k + 1, k', e, h, r, hk, hr => by
    obtain ⟨i, rfl⟩ : ∃ i, k' = i + 1 := ⟨k' - 1, by omega⟩
    simp only [iter] at hr ⊢
    split at hr
    · rename_i e1 h1 hb
      simp only [hfg _ _ _ hb]
      exact iter_mono hfg k i e1 h1 r (by omega) hr
    · rename_i hnot
      rw [hfg _ _ _ hr]
      split
      · rename_i e1 h1 heq
        rw [hr] at hnot
        exact absurd heq (hnot _ _)
      · rfl
theorem exec_mono {C : Ctx} {k k' : Nat} (hk : k ≤ k') : ∀ (c : DCode) {e : Env} {h : Heap} {r : XE × Env × Heap}, exec C k c e h = some r → exec C k' c e h = some r := by
  intro c
  induction c with
  | seq a b iha ihb =>
    intro e h r hr
    simp only [exec] at hr ⊢
    split at hr
    · rename_i e1 h1 ha
      simp only [iha ha]
      exact ihb hr
    · rename_i hnot
      rw [iha hr]
      split
      · rename_i e1 h1 heq
        rw [hr] at hnot
        exact absurd heq (hnot _ _)
      · rfl
  | cond c a b iha ihb =>
    intro e h r hr
    simp only [exec] at hr ⊢
    split at hr
    · exact iha hr
    · exact ihb hr
    · simp at hr
  | block id b ih =>
    intro e h r hr
    simp only [exec] at hr ⊢
    split at hr
    · rename_i i e1 h1 hb
      simp only [ih hb]; exact hr
    · rename_i hnot
      rw [ih hr]
      split
      · rename_i i e1 h1 heq
        rw [hr] at hnot
        exact absurd heq (hnot _ _ _)
      · rfl
  | loop b ih =>
    intro e h r hr
    simp only [exec] at hr ⊢
    exact iter_mono (fun e h r => ih) k k' e h r hk hr
  | _ => intro e h r hr; simpa only [exec] using hr
section
variable {C : Ctx} {e e1 e2 : Env} {h h1 h2 : Heap} {r : XE × Env × Heap}
theorem Runs.skip : Runs C .skip e h (.nrm, e, h) := ⟨0, rfl⟩
theorem Runs.exit {id : Nat} : Runs C (.exit id) e h (.exit id, e, h) := ⟨0, rfl⟩
theorem Runs.ret : Runs C .ret e h (.ret, e, h) := ⟨0, rfl⟩
theorem Runs.region {d : Bool} {ops : List DOper} {ks : List Nat} (ho : opsRun C ops e h = some (e1, h1)) : Runs C (.region d ops ks) e h (.nrm, Env.keep ks e1, h1) := ⟨0, by simp [Ab.exec, ho]⟩
theorem Runs.seq {a b : DCode} (ha : Runs C a e h (.nrm, e1, h1)) (hb : Runs C b e1 h1 r) : Runs C (.seq a b) e h r := by
  obtain ⟨k, ha⟩ := ha
  obtain ⟨k', hb⟩ := hb
  refine ⟨max k k', ?_⟩
  simp only [Ab.exec, exec_mono (Nat.le_max_left k k') a ha]
  exact exec_mono (Nat.le_max_right k k') b hb
theorem Runs.seq_out {a b : DCode} {x : XE} (hx : x ≠ .nrm) (ha : Runs C a e h (x, e1, h1)) : Runs C (.seq a b) e h (x, e1, h1) := by
  obtain ⟨k, ha⟩ := ha
  refine ⟨k, ?_⟩
  simp only [Ab.exec, ha]
  cases x <;> first | exact absurd rfl hx | rfl
theorem Runs.cond {c : Opd} {a b : DCode} {t : Bool} (hc : evB e c = some t) (hr : Runs C (if t then a else b) e h r) : Runs C (.cond c a b) e h r := by
  obtain ⟨k, hr⟩ := hr
  refine ⟨k, ?_⟩
  cases t <;> simp only [Ab.exec, hc] <;> simpa using hr
theorem Runs.block_exit {id : Nat} {b : DCode} (hb : Runs C b e h (.exit id, e1, h1)) : Runs C (.block id b) e h (.nrm, e1, h1) := by
  obtain ⟨k, hb⟩ := hb
  exact ⟨k, by simp [Ab.exec, hb]⟩
theorem Runs.block {id : Nat} {b : DCode} {x : XE} (hx : x ≠ .exit id) (hb : Runs C b e h (x, e1, h1)) : Runs C (.block id b) e h (x, e1, h1) := by
  obtain ⟨k, hb⟩ := hb
  refine ⟨k, ?_⟩
  simp only [Ab.exec, hb]
  cases x with
  | exit i => simp only; rw [if_neg (fun e => hx (by rw [e]))]
  | _ => rfl
theorem Runs.loop {b : DCode} (hb : Runs C b e h (.nrm, e1, h1)) (hl : Runs C (.loop b) e1 h1 r) : Runs C (.loop b) e h r := by
  obtain ⟨k, hb⟩ := hb
  obtain ⟨k', hl⟩ := hl
  simp only [Ab.exec] at hl
  refine ⟨max k k' + 1, ?_⟩
  simp only [Ab.exec, iter, exec_mono (show k ≤ max k k' + 1 by omega) b hb]
  exact iter_mono (fun e h r => exec_mono (show k' ≤ max k k' + 1 by omega) b) k' (max k k') e1 h1 r (by omega) hl
theorem Runs.loop_out {b : DCode} {x : XE} (hx : x ≠ .nrm) (hb : Runs C b e h (x, e1, h1)) : Runs C (.loop b) e h (x, e1, h1) := by
  obtain ⟨k, hb⟩ := hb
  refine ⟨k + 1, ?_⟩
  simp only [Ab.exec, iter, exec_mono (Nat.le_succ k) b hb]
  cases x <;> first | exact absurd rfl hx | rfl
/-- a function's answer. -/
theorem imp_of_runs {f : Nat} {fd : DFun} {as : List AV} {x : XE} {rs : List AV} (hf : S.prog f = some fd) (hl : as.length = fd.nparams) (hr : Runs (Clim S) fd.body (initEnv 0 as) h (x, e1, h1)) (hx : ∀ id, x ≠ .exit id) (hres : resAll e1 h1 fd.results = some rs) : (Clim S).imp f as h = some (pack rs, h1) := by
  obtain ⟨k, hr⟩ := hr
  refine fun_lim (k := k) hf ?_
  unfold runFun
  rw [if_pos hl, hr]
  cases x with
  | exit id => exact absurd rfl (hx id)
  | nrm => simp only [hres]
  | ret => simp only [hres]
end
end
end Go.Ab
