/-
  The machine without memory: more operations, calls, footprints. Conditions: none (definitions and lemmas).
-/
import Derived.Test.YteicnlniagbmgaaDoorSb
/-
  A machine without memory (part 17): what is appended. Conditions: none (lemmas).
-/
namespace Go.Ab

theorem growBy_le (m : Nat) : ∀ (n c : Nat), c ≤ 2 * m → 256 ≤ m → Builtin.growBy m n c ≤ 2 * m
  | 0, c, h, _ => by simpa [Builtin.growBy] using h
  | n + 1, c, h, hm => by
    unfold Builtin.growBy
    split
    · exact h
    · exact growBy_le m n _ (by omega) hm
theorem nextcap_le {need old : Nat} (h : old < need) : Builtin.nextslicecap need old ≤ 2 * need := by
  unfold Builtin.nextslicecap
  split
  · omega
  · split
    · omega
    · exact growBy_le need 4 old (by omega) (by omega)

section
variable {P : Program} {o : Oper} {g : Gh} {e e' : Env} {h h' : Heap} {a : Act} {w : World} {ρ : Rho} {own : OwnF} {C : Ctx} {s : Slot}
/-- what is read of memory, whatever was drawn. -/
def Reads {α : Type} (P : Program) (x : Sem α) (w : World) (r : α) : Prop := ∀ w2 : World, w2.heap = w.heap → x.run P w2 = .ok r w2
theorem load_flat {cid : FuncId → Option Nat} {M : MSet} {xs : List D} {sz b k : Nat} (h : RDels cid w M xs b k sz) : ∃ cells : Array Value, Reads P (loadCells ⟨b, k, none⟩ (xs.length * sz)) w cells ∧ RDflat cid w M xs sz cells.toList := by
  obtain ⟨cs, h1, h2⟩ := RDels_flat xs sz k h
  refine ⟨cs.toArray, fun w2 hw2 => ?_, by simpa using h1⟩
  rw [← RDflat_length _ _ _ h1]
  exact run_loadCells_list w2 _ cs (fun j v hj => by
    rw [add_plain]
    have := (h2 j v hj).1
    unfold World.cell? at this ⊢
    rw [hw2]; exact this)
/-- the cells of a slice. -/
theorem slice_flat {cid : FuncId → Option Nat} {M : MSet} {xs : List D} {sz : Nat} {p : Option Addr} {cap : Nat} (hp : xs ≠ [] → ∃ b k, p = some ⟨b, k, none⟩ ∧ RDels cid w M xs b k sz) :
    ∃ cells : Array Value, Reads P (Builtin.firstCells sz xs.length (.slice p xs.length cap)) w cells ∧ RDflat cid w M xs sz cells.toList := by
  cases xs with
  | nil =>
    refine ⟨#[], fun w2 _ => ?_, by simp [RDflat]⟩
    cases p <;> simp [Builtin.firstCells, loadCells, loadCellsFrom]
  | cons x xs =>
    obtain ⟨b, k, rfl, h1⟩ := hp (by simp)
    simp only [Builtin.firstCells]
    exact load_flat h1
theorem appendix_sound {cid : FuncId → Option Nat} {M : MSet} {c : AV} {v : Value} {O : Own} {ys : List D} {sz : Nat} (hra : RA cid w M ρ c v O) (ha : appendix sz c = some ys) :
    Reads P (Builtin.lenOf v) w ys.length ∧ ∃ cells : Array Value, Reads P (Builtin.firstCells sz ys.length v) w cells ∧ RDflat cid w M ys sz cells.toList := by
  have lst : ∀ (p : Option Addr) (cap : Nat), v = .slice p ys.length cap → (ys ≠ [] → ∃ b k, p = some ⟨b, k, none⟩ ∧ RDels cid w M ys b k sz) → Reads P (Builtin.lenOf v) w ys.length ∧ ∃ cells : Array Value, Reads P (Builtin.firstCells sz ys.length v) w cells ∧ RDflat cid w M ys sz cells.toList := by
    rintro p cap rfl hp
    exact ⟨fun _ _ => by simp [Builtin.lenOf], slice_flat hp⟩
  have byHead : elems c = some ys → headOk sz ys = true → Reads P (Builtin.lenOf v) w ys.length ∧ ∃ cells : Array Value, Reads P (Builtin.firstCells sz ys.length v) w cells ∧ RDflat cid w M ys sz cells.toList := by
    intro h1 h2
    obtain ⟨p, cap, e1, _, e3⟩ := RDc_lst (elems_RDc hra h1)
    refine lst p cap e1 fun hne => ?_
    obtain ⟨b, k, sz', rfl, _, h3⟩ := e3 hne
    have := headOk_sz h3 hne h2
    subst this
    exact ⟨b, k, rfl, h3⟩
  cases c with
  | d x =>
    cases x <;> simp only [appendix, reduceCtorEq] at ha
    · split at ha <;> simp only [Option.some.injEq, reduceCtorEq] at ha
      rename_i str hsz
      subst hsz; subst ha
      simp only [RA] at hra
      obtain ⟨bs, rfl, rfl⟩ := RV_str hra.1
      have hl : (bytesD bs.data.toList).length = bs.size := by simp [bytesD]
      rw [hl]
      refine ⟨fun _ _ => by simp [Builtin.lenOf], (bs.extract 0 bs.size).data.map fun b => .int .u8 b.toNat, fun _ _ => by simp [Builtin.firstCells], ?_⟩
      have : ((bs.extract 0 bs.size).data.map fun b => Value.int .u8 b.toNat).toList = bs.data.toList.map fun b => Value.int .u8 (b.toNat : Int) := by simp
      rw [this]
      generalize bs.data.toList = l
      induction l with
      | nil => simp [bytesD, RDflat]
      | cons y l ih =>
        simp only [bytesD, List.map_cons, RDflat]
        exact ⟨[.int .u8 (y.toNat : Int)], _, rfl, rfl, by simp [RDc], ih⟩
    · split at ha <;> simp only [Option.some.injEq, reduceCtorEq] at ha
      subst ha
      exact byHead rfl ‹_›
  | acc s xs =>
    simp only [appendix] at ha
    split at ha
    · rename_i hs
      simp only [Option.some.injEq] at ha
      subst ha; subst hs
      simp only [RA] at hra
      obtain ⟨p, len, cap, rfl, h1, h2⟩ := hra
      obtain ⟨p', cap', e1, hcap, _⟩ := RDc_lst h1
      simp only [Value.slice.injEq] at e1
      obtain ⟨rfl, rfl, rfl⟩ := e1
      refine lst p cap rfl fun hne => ?_
      rcases h2 with ⟨rfl, _⟩ | ⟨_, b, rfl, _, h3, _⟩
      · exact absurd (List.length_eq_zero_iff.1 (by omega)) hne
      · exact ⟨b, 0, rfl, h3⟩
    · split at ha <;> simp only [Option.some.injEq, reduceCtorEq] at ha
      subst ha
      exact byHead rfl ‹_›
  | full s xs =>
    simp only [appendix] at ha
    split at ha
    · rename_i hs
      simp only [Option.some.injEq] at ha
      subst ha; subst hs
      simp only [RA] at hra
      obtain ⟨p, len, rfl, h1, h2, _⟩ := hra
      obtain ⟨p', cap', e1, hcap, _⟩ := RDc_lst h1
      simp only [Value.slice.injEq] at e1
      obtain ⟨rfl, rfl, rfl⟩ := e1
      refine lst p xs.length rfl fun hne => ?_
      obtain ⟨b, k, h3, _, h4⟩ := h2 hne
      exact ⟨b, k, h3, h4⟩
    · split at ha <;> simp only [Option.some.injEq, reduceCtorEq] at ha
      subst ha
      exact byHead rfl ‹_›
  | _ => simp [appendix] at ha
/-- a slice that grows into a new block. -/
theorem append_grow {el : TypeId} {n by_ : Nat} {z : AV} {d : TypeDesc} {t u ty : TypeId} {xv sv : Value} {p : Option Addr} {len cap m : Nat} {old new : Array Value} (h1 : P.underlying t = some (.slice el)) (hu : P.underlying u = some d) (hnint : ∀ k, d ≠ .int k) (hn : sizeT P el = some n) (hb : bytesT P el = some by_) (hz : zeroT P el = some z)
    (hzl : z.cells.length = n) (hpos : 0 < n) (hbpos : 0 < by_) (hsv : sv = .slice p len cap) (hlen : Reads P (Builtin.lenOf xv) w m) (hold : Reads P (Builtin.firstCells n len sv) w old) (hnew : Reads P (Builtin.firstCells n m xv) w new)
    (ho : old.size = len * n) (hm : new.size = m * n) (hgt : cap < len + m) (hlim : (len + m) * by_ ≤ 70368744177664) :
    ∃ w' newCap cells, (Builtin.append_ #[t, u] ty #[sv, xv]).run P w = .ok (.slice (some ⟨w.heap.size, 0, none⟩) (len + m) newCap) w' ∧ Pushed w (.cells cells el (0, 0)) w' ∧ len + m ≤ newCap ∧ cells.size = newCap * n ∧ cells.toList.take ((len + m) * n) = old.toList ++ new.toList := by
  obtain ⟨i, hi, rfl⟩ : ∃ i, P.info? el = some i ∧ i.bytes = by_ := by
    unfold bytesT at hb
    rw [Option.map_eq_some_iff] at hb
    exact hb
  let newCap := (Question.appendCap (len + m) cap el).cut (w.tape w.drawn (.appendCap (len + m) cap el))
  have hcap : len + m ≤ newCap := by simp only [newCap, Question.cut]; omega
  obtain ⟨zv, hzc, hzr⟩ := run_zeroValue (w := w.drew) hz
  obtain ⟨_, _, _, hz4⟩ := RAs_zero (w := w) (ρ := fun _ _ => none) (cid := fun _ => none) (M := fun _ _ => False) hzc
  have hzs : zv.cells.size = n := by rw [← hzl, ← hz4]; simp
  let rest := Builtin.zeroCells zv.cells (newCap - (len + m))
  have hrest : rest.size = (newCap - (len + m)) * n := by simp [rest, Builtin.zeroCells, hzs]
  have hlim2 : ¬ Builtin.nextslicecap (len + m) cap * i.bytes > 2 ^ 48 := by
    have h3 := Nat.mul_le_mul_right i.bytes (nextcap_le hgt)
    rw [Nat.mul_assoc] at h3
    omega
  have hcells : (loadCells · ·) = (loadCells · ·) := rfl
  refine ⟨{ w with drawn := w.drawn + 1, heap := w.heap.push (.cells (old ++ new ++ rest) el) }, newCap, old ++ new ++ rest, ?_, ⟨rfl, rfl, rfl, rfl⟩, hcap, ?_, ?_⟩
  · have hz0 : (match d with | .int _ => true | _ => false) = false := by
      cases d <;> first | rfl | exact absurd rfl (hnint _)
    have hneed : ¬ (len + m ≤ cap) := by omega
    have hb0 : i.bytes ≠ 0 := by omega
    subst hsv
    have hzm : ∀ {α : Type} (x y : α), (match d with | .int _ => x | _ => y) = y := by
      intro α x y; cases d <;> first | rfl | exact absurd rfl (hnint _)
    simp [Builtin.append_, run_underlying h1, run_underlying hu, run_sizeOf hn, hlen w rfl, hneed, hz0, run_typeInfo hi, hb0, hlim2, hold w.drew rfl, hnew w.drew rfl, hzr, newRow, Question.forced]
    exact ⟨rfl, rfl⟩
  · have e1 : newCap * n = (len + m) * n + (newCap - (len + m)) * n := by rw [← Nat.add_mul]; congr 1; omega
    simp only [Array.size_append, ho, hm, hrest]
    rw [e1, Nat.add_mul]
  · have : (old ++ new).toList.length = (len + m) * n := by simp [ho, hm, Nat.add_mul]
    rw [Array.toList_append, List.take_append_of_le_length (by omega), List.take_of_length_le (by omega)]
    simp
/-- a slice that has room. -/
theorem append_fit {el : TypeId} {n : Nat} {d : TypeDesc} {t u ty : TypeId} {xv sv : Value} {p : Option Addr} {len cap m : Nat} {new : Array Value} (h1 : P.underlying t = some (.slice el)) (hu : P.underlying u = some d) (hnint : ∀ k, d ≠ .int k) (hn : sizeT P el = some n)
    (hsv : sv = .slice p len cap) (hlen : Reads P (Builtin.lenOf xv) w m) (hnew : Reads P (Builtin.firstCells n m xv) w new) (hle : len + m ≤ cap) {w' : World}
    (hst : match p with | some b => (storeCells (b.add (len * n)) new.toList).run P w = .ok () w' | none => w' = w) :
    (Builtin.append_ #[t, u] ty #[sv, xv]).run P w = .ok (.slice p (len + m) cap) w' := by
  subst hsv
  have hz0 : (match d with | .int _ => true | _ => false) = false := by
    cases d <;> first | rfl | exact absurd rfl (hnint _)
  cases p with
  | none =>
    simp only at hst
    subst hst
    simp [Builtin.append_, run_underlying h1, run_underlying hu, run_sizeOf hn, hlen w' rfl, hle, hz0, hnew w' rfl]
  | some b =>
    simp only at hst
    simp [Builtin.append_, run_underlying h1, run_underlying hu, run_sizeOf hn, hlen w rfl, hle, hz0, hnew w rfl, hst]
theorem goes_append {c : Call} {b x : Operand} {t u el : TypeId} {B X : Opd} {n by_ : Nat} {z : AV} {d : TypeDesc} (hop : o.op = .call c) (hc : c.callee = .builtin .append) (hargs : c.args.toList = [b, x]) (hts : c.argTypes.toList = [t, u]) (h1 : P.underlying t = some (.slice el)) (hu : P.underlying u = some d) (hnint : ∀ k, d ≠ .int k)
    (hn : sizeT P el = some n) (hb : bytesT P el = some by_) (hz : zeroT P el = some z) (hzl : z.cells.length = n) (hpos : 0 < n) (hbpos : 0 < by_)
    (hB : opd g.cid b = some B) (hX : opd g.cid x = some X) (hs : SR g e h a w ρ own) (hp : own .pend = []) (hr : opRun C (.append B X n by_) e h = some (s, e', h')) : Goes P o a w (Post g a w ρ own e' h' s) := by
  have hrun : ∀ v w', (Builtin.append_ #[t, u] o.type #[a.eval b, a.eval x]).run P w = .ok v w' → (execOp a.eval o).run P w = .ok (.value v) w' := fun v w' hk =>
    goes_builtin hop hc (f := Builtin.append_) (fun _ _ _ _ => rfl) (by simpa [arr_of_list hargs, arr_of_list hts] using hk)
  -- into a new block
  have grow : ∀ (own1 : OwnF) (e1 : Env) (xs ys : List D) (p : Option Addr) (cap : Nat) (old new : Array Value), SR g e1 h a w ρ own1 → (∀ b o, MOf g.M0 own1 b o ↔ MOf g.M0 own b o) → a.eval b = .slice p xs.length cap → Reads P (Builtin.lenOf (a.eval x)) w ys.length →
      Reads P (Builtin.firstCells n xs.length (a.eval b)) w old → Reads P (Builtin.firstCells n ys.length (a.eval x)) w new → RDflat g.cid w (MOf g.M0 own1) xs n old.toList → RDflat g.cid w (MOf g.M0 own1) ys n new.toList →
      cap < xs.length + ys.length → (xs.length + ys.length) * by_ ≤ 70368744177664 → Goes P o a w (Post g a w ρ own e1 h (.v (.acc n (xs ++ ys)))) := by
    intro own1 e1 xs ys p cap old new s1 hM ev hlen hold hnew f1 f2 hgt hlim
    have ho : old.size = xs.length * n := by simpa using RDflat_length _ _ _ f1
    have hm : new.size = ys.length * n := by simpa using RDflat_length _ _ _ f2
    obtain ⟨w', newCap, cells, r1, r2, r3, r4, r5⟩ := append_grow (ty := o.type) h1 hu hnint hn hb hz hzl hpos hbpos ev hlen hold hnew ho hm hgt hlim
    obtain ⟨s2, x2⟩ := s1.drop
    refine .value (hrun _ _ r1) (Post.from hM ?_)
    obtain ⟨ρ', own', q1, q2, q3, q4⟩ := Post.new s2 r2 (by simp) (s := .v (.acc n (xs ++ ys))) (v := .slice (some ⟨w.heap.size, 0, none⟩) (xs.length + ys.length) newCap) (O := [(w.heap.size, (xs ++ ys).length * n)]) (.inr ⟨_, rfl⟩) (fun own' hs' hx hnew' => by
      simp only [SlotR]
      have hfl := RDflat_append _ _ _ _ _ (RDflat_mono (x2.trans hx) _ _ _ f1) (RDflat_mono (x2.trans hx) _ _ _ f2)
      have := acc_new (w := w') (ρ := ρ) (cid := g.cid) (M := MOf g.M0 own') (xs := xs ++ ys) (sz := n) (cap := newCap) (cells := cells) (t := el) (b := w.heap.size) hpos
        (by rw [List.length_append, r5]; exact hfl) r2.new r4 (by simpa using r3) (fun o' hm' => by
          obtain ⟨l, hl, hle⟩ := hnew' _ _ hm' rfl
          simp only [List.mem_singleton, Prod.mk.injEq] at hl
          omega)
      rwa [List.length_append] at this ⊢)
    exact ⟨ρ', own', q1, q2, q3, x2.trans q4⟩
  simp only [opRun] at hr
  split at hr
  · rename_i sz xs e1 hev
    split at hr
    case isFalse => simp at hr
    rename_i hsz
    split at hr
    case h_2 => simp at hr
    rename_i c1 hev2
    split at hr
    case h_2 => simp at hr
    rename_i ys happ
    split at hr <;> simp only [Option.some.injEq, Prod.mk.injEq, reduceCtorEq] at hr
    rename_i hlim
    obtain ⟨rfl, rfl, rfl⟩ := hr
    obtain ⟨own1, O, s1, ra, hpo, hM, _⟩ := hs.evt hB hev
    rw [hp, List.nil_append] at hpo
    have rx := hs.evV hX hev2
    obtain ⟨hlen, new, hnew, f2⟩ := appendix_sound (P := P) rx happ
    have f2' : RDflat g.cid w (MOf g.M0 own1) ys n new.toList := RDflat_mono (Ext.iff hM) _ _ _ f2
    simp only [RA] at ra
    obtain ⟨p, len, cap, ev, k1, k2⟩ := ra
    obtain ⟨p', cap', ev', hcap, _⟩ := RDc_lst (ev ▸ k1)
    simp only [Value.slice.injEq] at ev'
    obtain ⟨rfl, rfl, rfl⟩ := ev'
    rcases k2 with ⟨rfl, rfl⟩ | ⟨hsp, bb, rfl, rfl, hels, cs, ty, fr, hblk, hcsz, hfr⟩
    · have hxs : xs = [] := List.length_eq_zero_iff.1 (by omega)
      subst hxs
      obtain ⟨old, hold, f1⟩ := slice_flat (P := P) (w := w) (cid := g.cid) (M := MOf g.M0 own1) (xs := []) (sz := n) (p := p) (cap := 0) (fun hc => absurd rfl hc)
      cases ys with
      | nil =>
        have hn0 : new = #[] := by
          simp only [RDflat] at f2
          exact Array.ext' (by simpa using f2)
        subst hn0
        have hfit := append_fit (ty := o.type) (w' := w) h1 hu hnint hn ev hlen hnew (by simp) (by cases p <;> simp [storeCells])
        refine .value (hrun _ _ hfit) (Post.from hM ⟨ρ, own1, s1, ?_, fun _ _ _ h => h, Ext.refl _ _⟩)
        rw [hpo]
        simp only [SlotR, RA, List.append_nil]
        exact ⟨p, 0, 0, by simp, by simp only [RDc]; exact ⟨p, 0, 0, by simp, rfl, Nat.le_refl _, fun hc => absurd rfl hc⟩, .inl (by simp)⟩
      | cons y ys =>
        rw [← ev] at hold
        exact grow own1 e1 [] (y :: ys) p 0 old new s1 hM ev hlen hold hnew f1 f2' (by simp) hlim
    · have hsz' : sz = n := by omega
      subst hsz'
      by_cases hfit : xs.length + ys.length ≤ cap
      · -- the room suffices
        have hnl : new.toList.length = ys.length * sz := RDflat_length _ _ _ f2
        have hle : xs.length * sz + new.toList.length ≤ cs.size := by
          have := Nat.mul_le_mul_right sz hfit
          rw [Nat.add_mul] at this
          omega
        have hone : ∀ v ∈ new.toList, v.oneCell' = true := RDflat_one _ _ _ f2
        obtain ⟨w', hst, hrw⟩ := run_storeCells (P := P) (cs := cs.toList) (by simpa using hblk) (by simpa using hfr) hone (by simpa using hle)
        have hrun' := append_fit (ty := o.type) (w' := w') h1 hu hnint hn ev hlen hnew hfit (by simp only [add_plain, Nat.zero_add]; exact hst)
        have hpb : ∀ l, (bb, l) ∈ own1 .pend → l = xs.length * sz := by
          intro l hl; rw [hpo] at hl; simpa using hl
        let own2 : OwnF := own1.upd .pend [(bb, (xs.length + ys.length) * sz)]
        have hsub : ∀ b' o', MOf g.M0 own2 b' o' → MOf g.M0 own1 b' o' := MOf_mono fun k b' l hm => by
          by_cases hk : k = .pend
          · subst hk
            simp only [own2, OwnF.upd_same, List.mem_singleton, Prod.mk.injEq] at hm
            refine ⟨.pend, xs.length * sz, by rw [hpo, hm.1]; simp, ?_⟩
            rw [hm.2, Nat.add_mul]; omega
          · simp only [own2, OwnF.upd_other _ _ hk] at hm
            exact ⟨k, l, hm, Nat.le_refl _⟩
        have hcellb : ∀ j, w'.cell? ⟨bb, j, none⟩ = (putCells cs.toList new.toList (xs.length * sz))[j]? := by
          intro j; unfold World.cell?; rw [hrw.new]; simp
        have hx : Ext w (MOf g.M0 own1) w' (MOf g.M0 own2) :=
          { size := by rw [hrw.size]; exact Nat.le_refl _
            m := fun b' o' _ hn' h' => hn' (hsub b' o' h')
            cell := fun b' o' v hn' hcl => by
              by_cases hbb : b' = bb
              · subst hbb
                have hlt : o' < xs.length * sz := Nat.lt_of_not_le fun hle' => hn' (.inr ⟨.pend, xs.length * sz, by rw [hpo]; simp, hle'⟩)
                rw [hcellb, putCells_get (by simpa using hle), if_pos hlt]
                unfold World.cell? at hcl
                rw [hblk] at hcl
                simpa using hcl
              · unfold World.cell? at hcl ⊢; rw [hrw.same b' hbb]; exact hcl
            map := fun b' es cl _ hm => by
              by_cases hbb : b' = bb
              · subst hbb; rw [hblk] at hm; simp at hm
              · rw [hrw.same b' hbb]; exact hm }
        have s2 : SR g e1 h a w' ρ own2 := by
          refine s1.trans (fun k => k = .pend) (fun _ _ _ h => h) hx (fun k hk => OwnF.upd_other _ _ hk) (fun b' _ hk => hrw.same b' ?_) hrw.os (fun _ _ h _ => h) (fun _ _ _ _ h => by simp at h) (fun _ _ _ h => by simp at h) (fun _ _ _ h _ => h) (fun _ _ _ _ h => by simp at h) s1.hdom ?_ ?_ ?_
          · rintro rfl
            exact hk .pend rfl (by rw [hpo]; simp [blocks])
          · rintro k rfl; simp [own2, blocks]
          · rintro k k' b' rfl rfl hk; exact absurd rfl hk
          · rintro k b' l rfl hm
            simp only [own2, OwnF.upd_same, List.mem_singleton, Prod.mk.injEq] at hm
            refine .inl ⟨.pend, xs.length * sz, rfl, by rw [hpo, hm.1]; simp, ?_⟩
            rw [hm.2, Nat.add_mul]; omega
        refine .value (hrun _ _ hrun') (Post.from hM ⟨ρ, own2, s2, ?_, fun _ _ _ h => h, hx⟩)
        simp only [own2, OwnF.upd_same, SlotR, RA]
        have hnM : ∀ o', o' < (xs.length + ys.length) * sz → xs.length * sz ≤ o' → ¬ MOf g.M0 own2 bb o' := by
          rintro o' h1' h2' (h3 | ⟨k, l, h3, h4⟩)
          · exact s1.apart .pend bb (xs.length * sz) o' (by rw [hpo]; simp) h2' h3
          · by_cases hk : k = .pend
            · subst hk
              simp only [own2, OwnF.upd_same, List.mem_singleton, Prod.mk.injEq] at h3
              omega
            · simp only [own2, OwnF.upd_other _ _ hk] at h3
              exact s1.disj .pend k bb (fun e => hk e.symm) (by rw [hpo]; simp [blocks]) (List.mem_map.2 ⟨_, h3, rfl⟩)
        have helsall : RDels g.cid w' (MOf g.M0 own2) (xs ++ ys) bb 0 sz := by
          refine (RDels_append _ _ _ _ _).2 ⟨RDels_mono hx _ _ _ _ hels, RDflat_els _ _ _ _ (RDflat_mono hx _ _ _ f2') ?_⟩
          intro j v hj
          have hjl := (List.getElem?_eq_some_iff.1 hj).1
          refine ⟨?_, hnM _ (by rw [Nat.add_mul]; omega) (by omega)⟩
          rw [hcellb, putCells_get (by simpa using hle), if_neg (by omega), if_pos (by omega)]
          rw [show 0 + xs.length * sz + j - xs.length * sz = j by omega]
          exact hj
        refine ⟨_, _, _, rfl, ?_, .inr ⟨hsp, bb, rfl, rfl, helsall, _, ty, fr, hrw.new, by simp [putCells_length (cs := cs.toList) (vs := new.toList) (off := xs.length * sz) (by simpa using hle), hcsz], by simp [putCells_length (cs := cs.toList) (vs := new.toList) (off := xs.length * sz) (by simpa using hle), hfr]⟩⟩
        simp only [RDc]
        exact ⟨_, _, _, rfl, by simp, hfit, fun _ => ⟨bb, 0, sz, rfl, hsp, helsall⟩⟩
      · obtain ⟨old, hold, f1⟩ := slice_flat (P := P) (w := w) (cid := g.cid) (M := MOf g.M0 own1) (xs := xs) (sz := sz) (p := some ⟨bb, 0, none⟩) (cap := cap) (fun _ => ⟨bb, 0, rfl, hels⟩)
        rw [← ev] at hold
        exact grow own1 e1 xs ys _ cap old new s1 hM ev hlen hold hnew f1 f2' (by omega) hlim
  · rename_i sz xs e1 hev
    split at hr
    case isFalse => simp at hr
    rename_i hsz
    split at hr
    case h_2 => simp at hr
    rename_i c1 hev2
    split at hr
    case h_2 => simp at hr
    rename_i y ys happ
    split at hr <;> simp only [Option.some.injEq, Prod.mk.injEq, reduceCtorEq] at hr
    rename_i hlim
    obtain ⟨rfl, rfl, rfl⟩ := hr
    obtain ⟨own1, O, s1, ra, hpo, hM, _⟩ := hs.evt hB hev
    have rx := hs.evV hX hev2
    obtain ⟨hlen, new, hnew, f2⟩ := appendix_sound (P := P) rx happ
    have f2' : RDflat g.cid w (MOf g.M0 own1) (y :: ys) n new.toList := RDflat_mono (Ext.iff hM) _ _ _ f2
    simp only [RA] at ra
    obtain ⟨p, len, ev, k1, k2, _⟩ := ra
    obtain ⟨p', cap', ev', hcap, _⟩ := RDc_lst (ev ▸ k1)
    simp only [Value.slice.injEq] at ev'
    obtain ⟨rfl, rfl, _⟩ := ev'
    obtain ⟨old, hold, f1⟩ := slice_flat (P := P) (w := w) (cid := g.cid) (M := MOf g.M0 own1) (xs := xs) (sz := n) (p := p) (cap := xs.length) (fun hne => by
      obtain ⟨b', k', h3, _, h4⟩ := k2 hne
      rcases hsz with hsz | hsz
      · subst hsz; exact ⟨b', k', h3, h4⟩
      · exact absurd hsz hne)
    rw [← ev] at hold
    exact grow own1 e1 xs (y :: ys) p xs.length old new s1 hM ev hlen hold hnew f1 f2' (by simp) hlim
  · simp at hr
end
end Go.Ab

/-
  A machine without memory (part 18): maps. Conditions: none (lemmas).
-/
namespace Go.Ab

section
variable {P : Program} {w : World} {cid : FuncId → Option Nat} {M : MSet}
theorem scEq_eq {t : Sc} {x y : D} (h : scEq t x y = some true) : x = y := by
  unfold scEq at h
  split at h
  · simp only [Option.some.injEq, beq_iff_eq] at h; rw [h]
  · split at h
    · rename_i hk
      simp only [Option.some.injEq, beq_iff_eq] at h; rw [h, hk]
    · simp at h
  · simp only [Option.some.injEq, beq_iff_eq] at h; rw [h]
  · simp at h
theorem scEqs_eq : ∀ {l : List Sc} {as bs : List D}, scEqs l as bs = some true → as = bs
  | [], [], [], _ => rfl
  | t :: l, a :: as, b :: bs, h => by
    simp only [scEqs] at h
    split at h <;> simp only [Option.some.injEq, reduceCtorEq, Bool.and_eq_true] at h
    rename_i r1 r2 h1 h2
    rw [h.1] at h1; rw [h.2] at h2
    rw [scEq_eq h1, scEqs_eq h2]
  | [], [], _ :: _, h => by simp [scEqs] at h
  | [], _ :: _, _, h => by simp [scEqs] at h
  | _ :: _, [], _, h => by simp [scEqs] at h
  | _ :: _, _ :: _, [], h => by simp [scEqs] at h
theorem shEq_eq {sh : Sh} {x y : D} (h : shEq sh x y = some true) : x = y := by
  unfold shEq at h
  split at h
  · exact scEq_eq h
  · rw [scEqs_eq h]
  · simp at h

/-- a key may be looked for. -/
theorem checkKey_run (em : Bool) : ∀ (d : Nat),
    (∀ (t : TypeId) (l : List Sc) (xs : List Value) (D' : Nat), shT P d t = some l → isAggT P t = some true → xs.length = l.length → d ≤ D' → (Instr.checkKey em D' t (.agg xs.toArray)).run P w = .ok () w) ∧
    (∀ (fs : List Field) (off : Nat) (l : List Sc) (xs : List Value) (D' : Nat) , shGo P (shT P d) off fs = some l → xs.length = off + l.length → d ≤ D' →
      (forIn fs PUnit.unit fun (f : Field) (_ : PUnit) => do
        if f.name ≠ "_" then do
          Instr.checkKey em D' f.type (← part f.type xs.toArray f.offset)
          pure (ForInStep.yield PUnit.unit)
        else pure (ForInStep.yield PUnit.unit)).run P w = .ok PUnit.unit w)
  | 0 => by
    refine ⟨fun t l xs D' h => by simp [shT] at h, fun fs off l xs D' h _ _ => ?_⟩
    cases fs with
    | nil => simp
    | cons f fs =>
      simp only [shGo, shT] at h
      split at h <;> simp at h
  | d + 1 => by
    obtain ⟨ih1, ih2⟩ := checkKey_run em d
    have part1 : ∀ (t : TypeId) (l : List Sc) (xs : List Value) (D' : Nat), shT P (d + 1) t = some l → isAggT P t = some true → xs.length = l.length → d + 1 ≤ D' → (Instr.checkKey em D' t (.agg xs.toArray)).run P w = .ok () w := by
      intro t l xs D' h hag hl hD
      rcases shT_agg h with ⟨h2, _⟩ | ⟨_, fs, d', hd, hu, hp, _, hgo⟩
      · rw [h2] at hag; simp at hag
      · simp only [Nat.add_right_cancel_iff] at hd; subst hd
        obtain ⟨D'', rfl⟩ : ∃ k, D' = k + 1 := ⟨D' - 1, by omega⟩
        have := ih2 fs.toList 0 l xs D'' hgo (by omega) (by omega)
        simp only [Instr.checkKey, Sem.run_bind, run_underlying hu, Result.andThen_ok]
        rw [← Array.forIn_toList]
        simp at this ⊢
        rw [this]
        rfl
    refine ⟨part1, ?_⟩
    intro fs
    induction fs with
    | nil => intro off l xs D' _ _ _; simp
    | cons f fs ihf =>
      intro off l xs D' h hl hD
      simp only [shGo] at h
      split at h
      case isFalse => simp at h
      rename_i hname
      simp only [Bool.and_eq_true, bne_iff_ne, ne_eq, beq_iff_eq] at hname
      split at h
      case h_2 => simp at h
      rename_i lf hlf
      split at h
      case isFalse => simp at h
      rename_i hsz
      split at h <;> simp only [Option.some.injEq, reduceCtorEq] at h
      rename_i lr hlr
      subst h
      simp only [List.length_append] at hl
      let us := (xs.drop f.offset).take lf.length
      have hus : us.length = lf.length := by simp only [us, List.length_take, List.length_drop]; omega
      have hu : us = (xs.toArray.toList.drop f.offset).take us.length := by rw [hus]
      have hfield : ∃ va, (part f.type xs.toArray f.offset).run P w = .ok va w ∧ (Instr.checkKey em D' f.type va).run P w = .ok () w := by
        rcases shT_agg hlf with ⟨hag, c, rfl⟩ | ⟨hag, _⟩
        · refine ⟨_, run_part hsz hag hu (by simpa using hus) (by simp; omega), ?_⟩
          obtain ⟨k, rfl⟩ : ∃ k, D' = k + 1 := ⟨D' - 1, by omega⟩
          unfold shT at hlf
          split at hlf <;> first
            | (simp only [Instr.checkKey, Sem.run_bind, run_underlying ‹_›, Result.andThen_ok]; rfl)
            | (simp [isAggT, *] at hag; done)
            | (simp at hlf; done)
        · refine ⟨_, run_part hsz hag hu (by simpa using hus) (by simp; omega), ?_⟩
          simp only [valOf, if_true]
          exact part1 f.type lf us D' hlf hag hus hD
      obtain ⟨va, p1, p2⟩ := hfield
      have rest := ihf (off + lf.length) lr xs D' hlr (by omega) hD
      simp only [List.forIn_cons, hname.1, ne_eq, not_false_eq_true, if_true, Sem.run_bind, p1, p2, Result.andThen_ok, Sem.run_pure]
      exact rest
theorem checkKey_one {em : Bool} {t : TypeId} {c : Sc} {d : Nat} (h1 : shT P d t = some [c]) (h2 : isAggT P t = some false) (v : Value) (n : Nat) : (Instr.checkKey em (n + 1) t v).run P w = .ok () w := by
  cases d with
  | zero => simp [shT] at h1
  | succ d =>
    unfold shT at h1
    split at h1 <;> first
      | (simp only [Instr.checkKey, Sem.run_bind, run_underlying ‹_›, Result.andThen_ok]; rfl)
      | (simp [isAggT, *] at h2; done)
      | (simp at h1; done)
theorem run_check {kt : TypeId} {sh : Sh} (ht : shOf P kt = some sh) {k : D} {kv : Value} (hk : RV0 cid w M k kv) (hf : shFit sh k = true) (em : Bool) : (Instr.checkKey em 10000 kt kv).run P w = .ok () w := by
  unfold shOf at ht
  split at ht
  · rename_i c h1 h2
    exact checkKey_one h1 h2 kv 9999
  · rename_i l h1 h2
    split at ht <;> simp only [Option.some.injEq, reduceCtorEq] at ht
    subst ht
    cases k <;> simp only [shFit, Bool.false_eq_true, beq_iff_eq] at hf
    obtain ⟨cs, rfl, hcs⟩ := RV0_agg hk
    have := (checkKey_run (P := P) (w := w) em 12).1 kt l cs.toList 10000 h1 h2 (by rw [RDall_length _ _ hcs, hf]) (by omega)
    simpa using this
  · simp at ht

/-- a key is found, or not. -/
def foundOf (es : List MapEntry) (i : Nat) : Option Nat → Option (Nat × Value)
  | none => none
  | some j => (es[j - i]?).map fun e => (j, e.val)
theorem findKey_ge {sh : Sh} {k : D} : ∀ {ks : List D} {i j : Nat}, findKey sh k ks i = some (some j) → i ≤ j ∧ j < i + ks.length ∧ ks[j - i]? = some k
  | [], i, j, h => by simp [findKey] at h
  | x :: ks, i, j, h => by
    simp only [findKey] at h
    split at h
    · rename_i hx
      simp only [Option.some.injEq] at h; subst h
      have := shEq_eq hx; subst this
      exact ⟨Nat.le_refl _, by simp, by simp⟩
    · obtain ⟨h1, h2, h3⟩ := findKey_ge h
      refine ⟨by omega, by simp; omega, ?_⟩
      have : j - i = (j - (i + 1)) + 1 := by omega
      rw [this]; simpa using h3
    · simp at h
theorem findNow_sound {c : Sc} {kd : TypeDesc} (hkd : (c = .b ∧ kd = .bool) ∨ (c = .i ∧ ∃ q, kd = .int q) ∨ (c = .s ∧ kd = .string)) {k : D} {kv : Value} (hk : RDc cid w M k [kv]) :
    ∀ {ks : List D} {es : List MapEntry} {i : Nat} {r : Option Nat}, RDkeys cid w M ks es → findKey (.one c) k ks i = some r → Instr.findNow kd kv es i = some (foundOf es i r)
  | [], es, i, r, hks, h => by
    simp only [RDkeys] at hks; subst hks
    simp only [findKey, Option.some.injEq] at h; subst h
    rfl
  | x :: ks, es, i, r, hks, h => by
    simp only [RDkeys] at hks
    obtain ⟨e, es', rfl, h1, h2, h3⟩ := hks
    simp only [findKey] at h
    have same : ∀ b, shEq (.one c) k x = some b → Instr.sameNow kd kv e.key = some b := by
      intro b hb
      have hxa : x.isAgg = false := by
        simp only [shEq] at hb
        unfold scEq at hb; split at hb <;> first | rfl | simp at hb
      obtain ⟨v', q1, _, _, _⟩ := RDc_one h1 hxa
      have hek : e.key.cells = #[e.key] := by
        have : isAggV e.key = false := by rw [← h2]; exact hxa
        cases hkk : e.key <;> simp_all [isAggV, Value.cells]
      rw [hek] at h1
      simp only [shEq] at hb
      unfold scEq at hb
      split at hb
      · simp only [RDc, List.cons.injEq, and_true] at hk h1
        rw [hk, h1]
        rcases hkd with ⟨_, rfl⟩ | ⟨h0, _⟩ | ⟨h0, _⟩
        · simpa [Instr.sameNow] using hb
        · simp at h0
        · simp at h0
      · simp only [RDc, List.cons.injEq, and_true] at hk h1
        rw [hk, h1]
        rcases hkd with ⟨h0, _⟩ | ⟨_, q, rfl⟩ | ⟨h0, _⟩
        · simp at h0
        · simpa [Instr.sameNow] using hb
        · simp at h0
      · simp only [RDc] at hk h1
        obtain ⟨b1, q2, rfl⟩ := hk
        obtain ⟨b2, q3, rfl⟩ := h1
        simp only [List.cons.injEq, and_true] at q2 q3
        rw [q2, q3]
        rcases hkd with ⟨h0, _⟩ | ⟨h0, _⟩ | ⟨_, rfl⟩
        · simp at h0
        · simp at h0
        · simp only [Instr.sameNow]
          rw [beq_toListBytes, ByteArray.toList_eq, ByteArray.toList_eq]; exact hb
      · simp at hb
    split at h
    · rename_i hx
      simp only [Option.some.injEq] at h; subst h
      simp [Instr.findNow, same _ hx, foundOf]
    · rename_i hx
      have ih := findNow_sound hkd hk h3 h
      simp only [Instr.findNow, same _ hx, ih]
      cases r with
      | none => rfl
      | some j =>
        obtain ⟨h4, _, _⟩ := findKey_ge h
        simp only [foundOf]
        have : j - i = (j - (i + 1)) + 1 := by omega
        rw [this, List.getElem?_cons_succ]
    · simp at h
theorem findAsking_sound {kt : TypeId} {sh : Sh} (ht : shOf P kt = some sh) {k : D} {kv : Value} (hk : RV0 cid w M k kv) :
    ∀ {ks : List D} {es : List MapEntry} {i : Nat} {r : Option Nat}, RDkeys cid w M ks es → findKey sh k ks i = some r → (Instr.findAsking kt kv es i).run P w = .ok (foundOf es i r) w
  | [], es, i, r, hks, h => by
    simp only [RDkeys] at hks; subst hks
    simp only [findKey, Option.some.injEq] at h; subst h
    simp [Instr.findAsking, foundOf]
  | x :: ks, es, i, r, hks, h => by
    simp only [RDkeys] at hks
    obtain ⟨e, es', rfl, h1, h2, h3⟩ := hks
    simp only [findKey] at h
    split at h
    · rename_i hx
      simp only [Option.some.injEq] at h; subst h
      obtain ⟨q1, _, _⟩ := shEq_run ht hx hk ⟨h1, h2⟩
      simp [Instr.findAsking, q1, foundOf]
    · rename_i hx
      obtain ⟨q1, _, _⟩ := shEq_run ht hx hk ⟨h1, h2⟩
      have ih := findAsking_sound ht hk h3 h
      simp only [Instr.findAsking, Sem.run_bind, q1, Result.andThen_ok, Bool.false_eq_true, if_false, ih]
      cases r with
      | none => rfl
      | some j =>
        obtain ⟨h4, _, _⟩ := findKey_ge h
        simp only [foundOf]
        have : j - i = (j - (i + 1)) + 1 := by omega
        rw [this, List.getElem?_cons_succ]
    · simp at h
theorem run_find {kt : TypeId} {sh : Sh} (ht : shOf P kt = some sh) {k : D} {kv : Value} (hk : RV0 cid w M k kv) {ks : List D} {es : List MapEntry} {r : Option Nat} (hks : RDkeys cid w M ks es) (h : findK sh k ks = some r) :
    (Instr.findKey kt kv es).run P w = .ok (foundOf es 0 r) w ∧ shFit sh k = true ∧ (∀ j, r = some j → j < ks.length ∧ ks[j]? = some k) := by
  unfold findK at h
  split at h
  case isFalse => simp at h
  rename_i hfit
  refine ⟨?_, hfit, fun j hj => by subst hj; obtain ⟨_, h2, h3⟩ := findKey_ge h; exact ⟨by omega, by simpa using h3⟩⟩
  have ht' := ht
  unfold shOf at ht
  split at ht
  · rename_i c h1 h2
    simp only [Option.some.injEq] at ht; subst ht
    by_cases hag : k.isAgg = true
    · -- then no key is there
      cases ks with
      | nil =>
        simp only [RDkeys] at hks; subst hks
        simp only [findKey, Option.some.injEq] at h; subst h
        unfold shT at h1
        split at h1 <;> first
          | (simp [Instr.findKey, run_underlying ‹_›, Instr.findNow, foundOf]; done)
          | (simp [isAggT, *] at h2; done)
          | (simp at h1; done)
      | cons x ks =>
        simp only [findKey, shEq] at h
        cases k <;> simp [D.isAgg] at hag
        simp [scEq] at h
    · have hag' : k.isAgg = false := by simpa using hag
      obtain ⟨q1, _, _⟩ := RV0_one hk hag'
      unfold shT at h1
      split at h1 <;> simp only [Option.some.injEq, List.cons.injEq, and_true, reduceCtorEq] at h1
      · rename_i hu; subst h1
        simp [Instr.findKey, run_underlying hu, findNow_sound (.inl ⟨rfl, rfl⟩) q1 hks h]
      · rename_i hu; subst h1
        simp [Instr.findKey, run_underlying hu, findNow_sound (.inr (.inl ⟨rfl, _, rfl⟩)) q1 hks h]
      · rename_i hu; subst h1
        simp [Instr.findKey, run_underlying hu, findNow_sound (.inr (.inr ⟨rfl, rfl⟩)) q1 hks h]
      · rename_i hu
        simp [isAggT, hu] at h2
  · rename_i l h1 h2
    split at ht <;> simp only [Option.some.injEq, reduceCtorEq] at ht
    subst ht
    rcases shT_agg h1 with ⟨h3, _⟩ | ⟨_, fs, d', _, hu, _⟩
    · rw [h3] at h2; simp at h2
    have hask := findAsking_sound ht' hk (i := 0) hks h
    cases es with
    | nil =>
      have : r = none := by
        cases ks with
        | nil => simp only [findKey, Option.some.injEq] at h; exact h.symm
        | cons x ks => simp [RDkeys] at hks
      subst this
      simp [Instr.findKey, run_underlying hu, Instr.findNow, foundOf]
    | cons e es =>
      have hsn : Instr.findNow (.struct fs) kv (e :: es) 0 = none := by
        simp [Instr.findNow, Instr.sameNow]
      simp only [Instr.findKey, Sem.run_bind, run_underlying hu, Result.andThen_ok, hsn]
      exact hask
  · simp at ht
end
end Go.Ab

/-
  A machine without memory (part 19): what is done with maps. Conditions: none (lemmas).
-/
namespace Go.Ab

section
variable {cid : FuncId → Option Nat} {w : World} {M : MSet} {ρ : Rho}
theorem RDkeys_length : ∀ (ks : List D) (es : List MapEntry), RDkeys cid w M ks es → es.length = ks.length
  | [], es, h => by simp only [RDkeys] at h; simp [h]
  | k :: ks, es, h => by
    simp only [RDkeys] at h
    obtain ⟨e, r, rfl, _, _, h4⟩ := h
    simp [RDkeys_length ks r h4]
theorem RDkeys_set : ∀ (ks : List D) (es : List MapEntry) (j : Nat) (k : D) (e : MapEntry), RDkeys cid w M ks es → ks[j]? = some k → RDc cid w M k e.key.cells.toList → k.isAgg = isAggV e.key → RDkeys cid w M ks (es.set j e)
  | [], es, j, k, e, _, h, _, _ => by simp at h
  | x :: ks, es, 0, k, e, h, hj, h1, h2 => by
    simp only [RDkeys] at h ⊢
    obtain ⟨e0, r, rfl, _, _, h4⟩ := h
    simp only [List.getElem?_cons_zero, Option.some.injEq] at hj
    subst hj
    exact ⟨e, r, rfl, h1, h2, h4⟩
  | x :: ks, es, j + 1, k, e, h, hj, h1, h2 => by
    simp only [RDkeys] at h ⊢
    obtain ⟨e0, r, rfl, q1, q2, h4⟩ := h
    exact ⟨e0, r.set j e, rfl, q1, q2, RDkeys_set ks r j k e h4 (by simpa using hj) h1 h2⟩
theorem RDkeys_append : ∀ (ks : List D) (es : List MapEntry) (k : D) (e : MapEntry), RDkeys cid w M ks es → RDc cid w M k e.key.cells.toList → k.isAgg = isAggV e.key → RDkeys cid w M (ks ++ [k]) (es ++ [e])
  | [], es, k, e, h, h1, h2 => by
    simp only [RDkeys] at h; subst h
    simp only [List.nil_append, RDkeys]
    exact ⟨e, [], rfl, h1, h2, rfl⟩
  | x :: ks, es, k, e, h, h1, h2 => by
    simp only [RDkeys] at h
    obtain ⟨e0, r, rfl, q1, q2, h4⟩ := h
    simp only [List.cons_append, RDkeys]
    exact ⟨e0, r ++ [e], rfl, q1, q2, RDkeys_append ks r k e h4 h1 h2⟩
theorem RDkeys_get : ∀ (ks : List D) (es : List MapEntry) (j : Nat) (k : D), RDkeys cid w M ks es → ks[j]? = some k → ∃ e, es[j]? = some e ∧ RDc cid w M k e.key.cells.toList ∧ k.isAgg = isAggV e.key
  | [], es, j, k, _, h => by simp at h
  | x :: ks, es, 0, k, h, hj => by
    simp only [RDkeys] at h
    obtain ⟨e0, r, rfl, q1, q2, _⟩ := h
    simp only [List.getElem?_cons_zero, Option.some.injEq] at hj
    subst hj
    exact ⟨e0, rfl, q1, q2⟩
  | x :: ks, es, j + 1, k, h, hj => by
    simp only [RDkeys] at h
    obtain ⟨e0, r, rfl, _, _, h4⟩ := h
    obtain ⟨e1, q1, q2⟩ := RDkeys_get ks r j k h4 (by simpa using hj)
    exact ⟨e1, by simpa using q1, q2⟩
theorem RDvals_get : ∀ (ks : List D) (es : List MapEntry) (j : Nat) (k : D), RDvals cid w M ks es → ks[j]? = some k → ∃ e, es[j]? = some e ∧ RV0 cid w M k e.val
  | [], es, j, k, _, h => by simp at h
  | x :: ks, es, 0, k, h, hj => by
    simp only [RDvals] at h
    obtain ⟨e0, r, rfl, q1, q2, _⟩ := h
    simp only [List.getElem?_cons_zero, Option.some.injEq] at hj
    subst hj
    exact ⟨e0, rfl, q1, q2⟩
  | x :: ks, es, j + 1, k, h, hj => by
    simp only [RDvals] at h
    obtain ⟨e0, r, rfl, _, _, h4⟩ := h
    obtain ⟨e1, q1, q2⟩ := RDvals_get ks r j k h4 (by simpa using hj)
    exact ⟨e1, by simpa using q1, q2⟩
/-- one of a row of values. -/
theorem RAs_at {vs : List AV} {l : List Value} {O : Own} (h : RAs cid w M ρ vs l O) {j : Nat} {c : AV} (hj : vs[j]? = some c) :
    ∃ v O1 O2 O3, l[j]? = some v ∧ O = O1 ++ O2 ++ O3 ∧ RA cid w M ρ c v O2 ∧ ∀ c' v' Oc, RA cid w M ρ c' v' Oc → RAs cid w M ρ (vs.set j c') (l.set j v') (O1 ++ Oc ++ O3) := by
  obtain ⟨O1, O2, O3, eO, a1, a2, a3⟩ := RAs_split h j 1
  obtain ⟨hlt, hget⟩ := List.getElem?_eq_some_iff.1 hj
  have hl := RAs_length _ _ _ h
  have hlt' : j < l.length := by omega
  rw [List.drop_eq_getElem_cons hlt, List.drop_eq_getElem_cons hlt', List.take_succ_cons, List.take_succ_cons, List.take_zero, List.take_zero, hget] at a2
  simp only [RAs] at a2
  obtain ⟨v, r, P1, P2, q1, q2, ⟨rfl, rfl⟩, rfl⟩ := a2
  simp only [List.cons.injEq, and_true] at q1
  refine ⟨v, O1, P1 ++ [], O3, by rw [← q1]; simp [hlt'], eO, by simpa using q2, fun c' v' Oc hc => ?_⟩
  rw [List.set_eq_take_append_cons_drop, if_pos hlt, List.set_eq_take_append_cons_drop, if_pos hlt']
  have e1 : vs.take j ++ c' :: vs.drop (j + 1) = (vs.take j ++ [c']) ++ vs.drop (j + 1) := by simp
  have e2 : l.take j ++ v' :: l.drop (j + 1) = (l.take j ++ [v']) ++ l.drop (j + 1) := by simp
  rw [e1, e2]
  refine (RAs_append _ _ _ _).2 ⟨_, _, O1 ++ Oc, O3, rfl, (RAs_append _ _ _ _).2 ⟨_, _, O1, Oc, rfl, a1, ?_, rfl⟩, a3, rfl⟩
  simp only [RAs]
  exact ⟨v', [], Oc, [], rfl, hc, ⟨rfl, rfl⟩, by simp⟩
end

section
variable {P : Program} {o : Oper} {g : Gh} {e e' : Env} {h h' : Heap} {a : Act} {w : World} {ρ : Rho} {own : OwnF} {C : Ctx} {s : Slot}
theorem goes_mkmap {t : TypeId} {tg : Nat} (hop : o.op = .makeMap t none) (hs : SR g e h a w ρ own) (hp : own .pend = []) (hr : opRun C (.mkmap tg) e h = some (s, e', h')) : Goes P o a w (Post g a w ρ own e' h' s) := by
  simp only [opRun] at hr
  split at hr <;> simp only [Option.some.injEq, Prod.mk.injEq, reduceCtorEq] at hr
  rename_i htg
  obtain ⟨rfl, rfl, rfl⟩ := hr
  have hw : Pushed w (.map #[] 0) { w with heap := w.heap.push (.map #[] 0) } := ⟨rfl, rfl, rfl, rfl⟩
  have hrun : (execOp a.eval o).run P w = .ok (.value (.map (some w.heap.size))) { w with heap := w.heap.push (.map #[] 0) } := by
    simp only [execOp, hop, Option.map_none, Instr.makeMap, Sem.run_bind, run_newObj, Sem.run_pure, Result.andThen_ok]
  obtain ⟨ρ', own', k1, k2, k3, k4, k5⟩ := hs.pushObj htg hw (ho := .map [] []) (fun M' ρ' hx hρ _ => by
    refine ⟨#[], [], by rw [hw.new]; rfl, by simp, by simp [RDkeys], by simp [RAs], by rw [hp]⟩)
  refine .value hrun ⟨ρ', own', k1, ?_, k4, k5⟩
  rw [k2]
  simp only [SlotR, RA]
  exact ⟨_, k3, rfl, trivial⟩
/-- a map of the heap. -/
theorem map_at {m : Operand} {X : Opd} {tg i : Nat} {ks : List D} {vs : List AV} (hX : opd g.cid m = some X) (hs : SR g e h a w ρ own) (hev : evS e X = some (.v (.mapr tg i))) {e1 : Env} {own1 : OwnF} (s1 : SR g e1 h a w ρ own1) (hget : h.get tg i = some (.map ks vs)) :
    ∃ b es O', ρ tg i = some b ∧ a.eval m = .map (some b) ∧ w.heap[b]? = some (.map es es.size) ∧ (∀ (j : Nat) e, es[j]? = some e → e.born = j) ∧ RDkeys g.cid w (MOf g.M0 own1) ks es.toList ∧ RAs g.cid w (MOf g.M0 own1) ρ vs (es.toList.map MapEntry.val) O' ∧ own1 (.obj tg i) = (b, 0) :: O' := by
  have ra := hs.evV hX hev
  simp only [RA] at ra
  obtain ⟨b, h1, h2, _⟩ := ra
  obtain ⟨b', h3, es, O', h4, h5, h6, h7, h8⟩ := s1.heap _ _ _ hget
  rw [h1] at h3
  simp only [Option.some.injEq] at h3
  subst h3
  exact ⟨b, es, O', h1, h2, h4, h5, h6, h7, h8⟩
theorem run_getObj {r : Nat} {es : Array MapEntry} {cl : Nat} (h : w.heap[r]? = some (.map es cl)) : (getObj r).run P w = .ok (.map es cl) w := by
  simp [getObj, Sem.run, h]
theorem run_setObj {r : Nat} {es : Array MapEntry} {cl : Nat} {ob : Obj} (h : w.heap[r]? = some (.map es cl)) : (setObj r ob).run P w = .ok () { w with heap := w.heap.setIfInBounds r ob } := by
  simp [setObj, Sem.run, h]
theorem Rewritten.ofSet {w2 : World} {r : Nat} {o0 ob : Obj} (hh : w2.heap = w.heap) (ho : w2.os = w.os ∧ w2.tape = w.tape ∧ w2.output = w.output) (h : w.heap[r]? = some o0) : Rewritten w r ob { w2 with heap := w2.heap.setIfInBounds r ob } := by
  have hlt := (Array.getElem?_eq_some_iff.1 h).1
  exact { same := fun b' hb' => by simp only [hh]; rw [Array.getElem?_setIfInBounds, if_neg (fun q => hb' q.symm)], new := by simp [hh, hlt], size := by simp [hh], os := ho }
/-- the key that stays: one or the other. -/
theorem run_keyThatStays (old new : Value) : ∃ k w2, (Instr.keyThatStays old new).run P w = .ok k w2 ∧ (k = old ∨ k = new) ∧ w2.heap = w.heap ∧ (w2.os = w.os ∧ w2.tape = w.tape ∧ w2.output = w.output) := by
  unfold Instr.keyThatStays
  split
  · exact ⟨new, w, by simp, .inr rfl, rfl, rfl, rfl, rfl⟩
  · simp only [Sem.run_bind, run_choose, Question.forced]
    by_cases hc : (Question.extern "map.whichKeyStays" 2).cut (w.tape w.drawn (Question.extern "map.whichKeyStays" 2)) = 0
    · exact ⟨new, { w with drawn := w.drawn + 1 }, by simp [hc], .inr rfl, rfl, rfl, rfl, rfl⟩
    · exact ⟨old, { w with drawn := w.drawn + 1 }, by simp [hc], .inl rfl, rfl, rfl, rfl, rfl⟩
theorem foundOf_some {es : Array MapEntry} {j : Nat} {e0 : MapEntry} (h : es[j]? = some e0) : foundOf es.toList 0 (some j) = some (j, e0.val) := by
  simp [foundOf, h]
theorem goes_insert {t kt el : TypeId} {m k v : Operand} {X K V : Opd} {tg' : Nat} {sh : Sh} (hop : o.op = .insert t m k v ∨ o.op = .mapUpdate t m k v) (h1 : P.underlying t = some (.map kt el)) (hsh : shOf P kt = some sh)
    (hX : opd g.cid m = some X) (hK : opd g.cid k = some K) (hV : opd g.cid v = some V) (hs : SR g e h a w ρ own) (hp : own .pend = []) (hr : opRun C (.insert tg' sh X K V) e h = some (s, e', h')) : Goes P o a w (Post g a w ρ own e' h' s) := by
  have hexec : ∀ w', (Instr.mapUpdate t (a.eval m) (a.eval k) (a.eval v)).run P w = .ok () w' → (execOp a.eval o).run P w = .ok .skip w' := by
    intro w' hw'
    rcases hop with hop | hop <;> simp [execOp, hop, hw']
  simp only [opRun] at hr
  split at hr
  case h_2 => simp at hr
  rename_i tg i kd c e1 hm hk hv
  split at hr
  case isFalse => simp at hr
  split at hr
  case h_2 => simp at hr
  rename_i ks vs hget
  obtain ⟨own1, O, s1, ra, hpo, hM, _⟩ := hs.evt hV hv
  rw [hp, List.nil_append] at hpo
  obtain ⟨b, es, O', e1', e2, e3, e4, e5, e6, e7⟩ := map_at hX hs hm s1 hget
  have rk := hs.evD hK hk
  split at hr
  · rename_i j hf
    simp only [Option.some.injEq, Prod.mk.injEq] at hr
    obtain ⟨rfl, rfl, rfl⟩ := hr
    have hfit : shFit sh kd = true := by unfold findK at hf; split at hf <;> simp_all
    have hkf : kd.fine = true := by cases sh <;> cases kd <;> first | rfl | (simp [shFit, D.fine] at hfit; done)
    have rk0 : RV0 g.cid w (MOf g.M0 own1) kd (a.eval k) := RV0_mono (Ext.iff hM) ((RV_fine hkf).1 rk)
    obtain ⟨f1, _, f3⟩ := run_find (P := P) hsh rk0 e5 hf
    obtain ⟨f4, f5⟩ := f3 j rfl
    obtain ⟨e0, g1, g2, g3⟩ := RDkeys_get _ _ _ _ e5 f5
    have g1' : es[j]? = some e0 := by simpa using g1
    have hlv := RAs_length _ _ _ e6
    simp only [List.length_map] at hlv
    have hjv : j < vs.length := by rw [← hlv]; exact (List.getElem?_eq_some_iff.1 g1).1
    obtain ⟨v0, O1, O2, O3, q1, q2, _, q4⟩ := RAs_at e6 (j := j) (c := vs[j]) (by simp [hjv])
    obtain ⟨key', w2, r1, r2, r3, r4⟩ := run_keyThatStays (P := P) (w := w) (((es[j]?).map (·.key)).getD (a.eval k)) (a.eval k)
    let es' := es.modify j fun e => { e with key := key', val := a.eval v }
    have hes' : es'.toList = es.toList.set j { e0 with key := key', val := a.eval v } := by
      apply List.ext_getElem?
      intro j'
      simp only [es', List.getElem?_set]
      rw [Array.getElem?_toList, Array.getElem?_modify]
      obtain ⟨hjs, hje⟩ := Array.getElem?_eq_some_iff.1 g1'
      by_cases hjj : j = j'
      · subst hjj; simp [hje, hjs]
      · simp [hjj]
    have hrw := Rewritten.ofSet (w := w) (w2 := w2) (r := b) (ob := .map es' es.size) r3 r4 e3
    have hrun : (Instr.mapUpdate t (a.eval m) (a.eval k) (a.eval v)).run P w = .ok () { w2 with heap := w2.heap.setIfInBounds b (.map es' es.size) } := by
      simp only [Instr.mapUpdate, Sem.run_bind, run_underlying h1, Result.andThen_ok, e2, run_getObj e3, run_check (P := P) hsh rk0 hfit, f1, foundOf_some g1', r1, run_setObj (w := w2) (show w2.heap[b]? = some (.map es es.size) by rw [r3]; exact e3), es']
    obtain ⟨n1, n2⟩ := nodup_parts s1 (by simp) e7 q2 hpo
    have hkey' : RDc g.cid w (MOf g.M0 own1) kd key'.cells.toList ∧ kd.isAgg = isAggV key' := by
      rcases r2 with r2 | r2
      · rw [r2, g1']; exact ⟨g2, g3⟩
      · rw [r2]; exact rk0
    obtain ⟨t1, t2⟩ := s1.write (k0 := .obj tg i) (e' := e1) (h' := h.set tg i (.map ks (vs.set j c))) (by simp) e7 hrw n1 n2
      (fun _ _ h _ => h) (fun _ _ _ _ q => by simp at q)
      (fun t' i' o' ho hk => Heap.set_other hget ho hk) (fun t' i' ho => Heap.set_none hget ho)
      (fun M' hx hsame => ⟨fun _ _ _ q => by simp at q, fun t' i' o' ho hk => by
        simp only [Key.obj.injEq] at hk
        obtain ⟨rfl, rfl⟩ := hk
        rw [Heap.get_set h hget, if_pos ⟨rfl, rfl⟩] at ho
        simp only [Option.some.injEq] at ho
        subst ho
        refine ⟨b, e1', es', O1 ++ O ++ O3, by rw [hrw.new]; simp [es'], ?_, ?_, ?_, rfl⟩
        · intro j' e'' he''
          have : es'.toList[j']? = some e'' := by simpa using he''
          rw [hes', List.getElem?_set] at this
          split at this
          · rename_i hjj
            subst hjj
            split at this <;> simp only [Option.some.injEq, reduceCtorEq] at this
            subst this
            exact e4 j e0 g1'
          · exact e4 j' e'' (by simpa using this)
        · rw [hes']
          refine RDkeys_mono hx _ _ (RDkeys_set _ _ j kd _ e5 f5 hkey'.1 hkey'.2)
        · rw [hes', List.map_set]
          exact RAs_mono hx (fun _ _ _ h => h) _ _ _ hsame (q4 c (a.eval v) O ra)⟩)
    refine .skip (hexec _ hrun) ⟨ρ, _, t1, ?_, fun _ _ _ h => h, (Ext.iff hM).trans t2⟩
    rw [OwnF.upd_same]
    exact ⟨rfl, rfl⟩
  · rename_i hf
    simp only [Option.some.injEq, Prod.mk.injEq] at hr
    obtain ⟨rfl, rfl, rfl⟩ := hr
    have hfit : shFit sh kd = true := by unfold findK at hf; split at hf <;> simp_all
    have hkf : kd.fine = true := by cases sh <;> cases kd <;> first | rfl | (simp [shFit, D.fine] at hfit; done)
    have rk0 : RV0 g.cid w (MOf g.M0 own1) kd (a.eval k) := RV0_mono (Ext.iff hM) ((RV_fine hkf).1 rk)
    obtain ⟨f1, _, _⟩ := run_find (P := P) hsh rk0 e5 hf
    let es' := es.push { key := a.eval k, val := a.eval v, born := es.size }
    have hrw := Rewritten.ofSet (w := w) (w2 := w) (r := b) (ob := .map es' (es.size + 1)) rfl ⟨rfl, rfl, rfl⟩ e3
    have hrun : (Instr.mapUpdate t (a.eval m) (a.eval k) (a.eval v)).run P w = .ok () { w with heap := w.heap.setIfInBounds b (.map es' (es.size + 1)) } := by
      simp only [Instr.mapUpdate, Sem.run_bind, run_underlying h1, Result.andThen_ok, e2, run_getObj e3, run_check (P := P) hsh rk0 hfit, f1, foundOf, run_setObj (w := w) e3, es']
    obtain ⟨n1, n2⟩ := nodup_parts (O1 := O') (O2 := []) (O3 := []) s1 (by simp) e7 (by simp) hpo
    rw [List.append_nil] at n1 n2
    obtain ⟨t1, t2⟩ := s1.write (k0 := .obj tg i) (e' := e1) (h' := h.set tg i (.map (ks ++ [kd]) (vs ++ [c]))) (by simp) e7 hrw n1 n2
      (fun _ _ h _ => h) (fun _ _ _ _ q => by simp at q)
      (fun t' i' o' ho hk => Heap.set_other hget ho hk) (fun t' i' ho => Heap.set_none hget ho)
      (fun M' hx hsame => ⟨fun _ _ _ q => by simp at q, fun t' i' o' ho hk => by
        simp only [Key.obj.injEq] at hk
        obtain ⟨rfl, rfl⟩ := hk
        rw [Heap.get_set h hget, if_pos ⟨rfl, rfl⟩] at ho
        simp only [Option.some.injEq] at ho
        subst ho
        refine ⟨b, e1', es', O' ++ O, by rw [hrw.new]; simp [es'], ?_, ?_, ?_, rfl⟩
        · intro j' e'' he''
          simp only [es', Array.getElem?_push] at he''
          split at he''
          · rename_i hjj
            simp only [Option.some.injEq] at he''
            subst he''; exact hjj.symm
          · exact e4 j' e'' he''
        · simp only [es', Array.toList_push]
          exact RDkeys_mono hx _ _ (RDkeys_append _ _ kd _ e5 rk0.1 rk0.2)
        · simp only [es', Array.toList_push, List.map_append, List.map_cons, List.map_nil]
          refine RAs_mono hx (fun _ _ _ h => h) _ _ _ hsame ((RAs_append _ _ _ _).2 ⟨_, _, O', O, rfl, e6, ?_, rfl⟩)
          simp only [RAs]
          exact ⟨_, [], O, [], rfl, ra, ⟨rfl, rfl⟩, by simp⟩⟩)
    refine .skip (hexec _ hrun) ⟨ρ, _, t1, ?_, fun _ _ _ h => h, (Ext.iff hM).trans t2⟩
    rw [OwnF.upd_same]
    exact ⟨rfl, rfl⟩
  · simp at hr
theorem goes_lookup {t kt el : TypeId} {m k : Operand} {X K : Opd} {tg' : Nat} {sh : Sh} {ok take : Bool} {z : AV} (hop : o.op = .lookup t m k ok) (h1 : P.underlying t = some (.map kt el)) (hsh : shOf P kt = some sh) (hz : zeroT P el = some z)
    (hX : opd g.cid m = some X) (hK : opd g.cid k = some K) (hs : SR g e h a w ρ own) (hp : own .pend = []) (hr : opRun C (.lookup tg' sh X K ok z take) e h = some (s, e', h')) : Goes P o a w (Post g a w ρ own e' h' s) := by
  obtain ⟨zv, hzc, hzr⟩ := run_zeroValue (w := w) hz
  have zra : ∀ M ρ, RA g.cid w M ρ z zv [] := fun M ρ => (constAV_RA hzc).1
  -- the run of it
  have hrun : ∀ (r : Nat) (es : Array MapEntry) (cl : Nat) (q : Option (Nat × Value)) (v : Value) (b : Bool), a.eval m = .map (some r) → w.heap[r]? = some (.map es cl) → (Instr.checkKey es.isEmpty 10000 kt (a.eval k)).run P w = .ok () w → (Instr.findKey kt (a.eval k) es.toList).run P w = .ok q w →
      (match q with | some (_, v') => v = v' ∧ b = true | none => v = zv ∧ b = false) → (execOp a.eval o).run P w = .ok (.value (if ok then .tuple #[v, .bool b] else v)) w := by
    intro r es cl q v b e1 e2 e3 e4 e5
    cases q with
    | none =>
      obtain ⟨rfl, rfl⟩ := e5
      simp [execOp, hop, Instr.lookup, run_underlying h1, e1, run_getObj e2, e3, e4, hzr]
    | some p =>
      obtain ⟨rfl, rfl⟩ := e5
      simp [execOp, hop, Instr.lookup, run_underlying h1, e1, run_getObj e2, e3, e4]
  -- the values that come of it
  have hres : ∀ (own1 : OwnF) (c : AV) (v : Value) (O : Own) (b : Bool), RA g.cid w (MOf g.M0 own1) ρ c v O → RA g.cid w (MOf g.M0 own1) ρ (if ok then .tup [c, .d (.bool b)] else c) (if ok then .tuple #[v, .bool b] else v) O := by
    intro own1 c v O b hc
    cases ok with
    | true =>
      simp only [if_true, RA, RAs]
      exact ⟨_, rfl, v, [.bool b], O, [], rfl, hc, ⟨.bool b, [], [], [], rfl, ⟨RV_boolI, rfl⟩, ⟨rfl, rfl⟩, rfl⟩, by simp⟩
    | false => simpa using hc
  simp only [opRun] at hr
  split at hr
  · rename_i tg i kd hm hk
    split at hr
    case isFalse => simp at hr
    split at hr
    case h_2 => simp at hr
    rename_i ks vs hget
    obtain ⟨b, es, O', e1', e2, e3, e4, e5, e6, e7⟩ := map_at hX hs hm hs hget
    have rk := hs.evD hK hk
    split at hr
    · rename_i j hf
      have hfit : shFit sh kd = true := by unfold findK at hf; split at hf <;> simp_all
      have hkf : kd.fine = true := by cases sh <;> cases kd <;> first | rfl | (simp [shFit, D.fine] at hfit; done)
      have rk0 : RV0 g.cid w (MOf g.M0 own) kd (a.eval k) := (RV_fine hkf).1 rk
      obtain ⟨f1, _, f3⟩ := run_find (P := P) hsh rk0 e5 hf
      obtain ⟨f4, f5⟩ := f3 j rfl
      obtain ⟨e0, g1, _, _⟩ := RDkeys_get _ _ _ _ e5 f5
      have g1' : es[j]? = some e0 := by simpa using g1
      split at hr
      case h_2 => simp at hr
      rename_i c hc
      obtain ⟨v0, O1, O2, O3, q1, q2, q3, q4⟩ := RAs_at e6 hc
      have hv0 : v0 = e0.val := by rw [List.getElem?_map, g1] at q1; simpa using q1.symm
      subst hv0
      have hr1 := hrun b es es.size _ e0.val true e2 e3 (run_check (P := P) hsh rk0 hfit _) f1 (by rw [foundOf_some g1']; exact ⟨rfl, rfl⟩)
      cases take with
      | true =>
        simp only [if_true, Option.some.injEq, Prod.mk.injEq] at hr
        obtain ⟨rfl, rfl, rfl⟩ := hr
        have hperm : (own (.obj tg i)).Perm (O2 ++ ((b, 0) :: (O1 ++ [] ++ O3))) := by
          rw [e7, q2, List.append_nil]
          have h2 : (O1 ++ O2 ++ O3).Perm (O2 ++ (O1 ++ O3)) := by
            rw [List.append_assoc]
            exact List.perm_append_comm_assoc O1 O2 O3
          exact (h2.cons (b, 0)).trans (List.perm_middle.symm)
        have hset : (es.toList.map MapEntry.val).set j e0.val = es.toList.map MapEntry.val := by
          apply List.ext_getElem?
          intro j'
          rw [List.getElem?_set]
          split
          · rename_i hjj; subst hjj
            rw [q1, if_pos (by simpa using (List.getElem?_eq_some_iff.1 g1).1)]
          · rfl
        have hweak := q4 (weaken c) e0.val [] (RA_weaken _ _ _ q3)
        rw [hset] at hweak
        obtain ⟨t1, t2⟩ := hs.move (k0 := .obj tg i) (by simp) (O := O2) (O' := (b, 0) :: (O1 ++ [] ++ O3)) (e' := e) (h' := h.set tg i (.map ks (vs.set j (weaken c)))) hperm (fun _ _ h _ => h) (fun _ _ _ _ h => by simp at h)
          (fun t' i' o' ho hk => Heap.set_other hget ho hk) (fun t' i' ho => Heap.set_none hget ho)
          (fun _ _ _ h => by simp at h)
          (fun t' i' o' ho hk => by
            simp only [Key.obj.injEq] at hk
            obtain ⟨rfl, rfl⟩ := hk
            rw [Heap.get_set h hget, if_pos ⟨rfl, rfl⟩] at ho
            simp only [Option.some.injEq] at ho
            subst ho
            exact ⟨b, e1', es, _, e3, e4, e5, hweak, rfl⟩)
        rw [hp, List.nil_append] at t1 t2
        refine .value hr1 ⟨ρ, _, t1, ?_, fun _ _ _ h => h, Ext.iff t2⟩
        rw [OwnF.upd_same]
        exact hres _ c e0.val O2 true (RA_mono (Ext.iff t2) (fun _ _ _ h => h) _ _ _ (fun _ _ => rfl) q3)
      | false =>
        simp only [Bool.false_eq_true, if_false, Option.some.injEq, Prod.mk.injEq] at hr
        obtain ⟨rfl, rfl, rfl⟩ := hr
        exact .value hr1 (Post.same hs hp (hres own _ e0.val [] true (RA_weaken _ _ _ q3)))
    · rename_i hf
      simp only [Option.some.injEq, Prod.mk.injEq] at hr
      obtain ⟨rfl, rfl, rfl⟩ := hr
      have hfit : shFit sh kd = true := by unfold findK at hf; split at hf <;> simp_all
      have hkf : kd.fine = true := by cases sh <;> cases kd <;> first | rfl | (simp [shFit, D.fine] at hfit; done)
      have rk0 : RV0 g.cid w (MOf g.M0 own) kd (a.eval k) := (RV_fine hkf).1 rk
      obtain ⟨f1, _, _⟩ := run_find (P := P) hsh rk0 e5 hf
      exact .value (hrun b es es.size _ zv false e2 e3 (run_check (P := P) hsh rk0 hfit _) f1 ⟨rfl, rfl⟩) (Post.same hs hp (hres own _ zv [] false (zra _ _)))
    · simp at hr
  · rename_i ks vs kd hm hk
    have ra := hs.evV hX hm
    simp only [RA] at ra
    have ra1 := RV_cells1 ra.1 rfl rfl
    simp only [RDc] at ra1
    obtain ⟨r, es, cl, e2, e3, _, e5, e6, _⟩ := ra1
    simp only [List.cons.injEq, and_true] at e2
    have rk := hs.evD hK hk
    split at hr
    · rename_i j hf
      have hfit : shFit sh kd = true := by unfold findK at hf; split at hf <;> simp_all
      have hkf : kd.fine = true := by cases sh <;> cases kd <;> first | rfl | (simp [shFit, D.fine] at hfit; done)
      have rk0 : RV0 g.cid w (MOf g.M0 own) kd (a.eval k) := (RV_fine hkf).1 rk
      obtain ⟨f1, _, f3⟩ := run_find (P := P) hsh rk0 e5 hf
      obtain ⟨f4, f5⟩ := f3 j rfl
      split at hr <;> simp only [Option.some.injEq, Prod.mk.injEq, reduceCtorEq] at hr
      rename_i c hc
      obtain ⟨rfl, rfl, rfl⟩ := hr
      obtain ⟨e0, g1, g2⟩ := RDvals_get _ _ _ _ e6 hc
      have g1' : es[j]? = some e0 := by simpa using g1
      have hr1 := hrun r es cl _ e0.val true e2 e3 (run_check (P := P) hsh rk0 hfit _) f1 (by rw [foundOf_some g1']; exact ⟨rfl, rfl⟩)
      refine .value hr1 (Post.same hs hp ?_)
      have hcf : c.fine = true := by
        cases c <;> first | rfl | skip
        have := g2.1; simp [RDc] at this
      cases ok with
      | true =>
        simp only [if_true, SlotR, RA, RV, RVs, and_true]
        exact ⟨_, rfl, e0.val, [.bool true], rfl, (RV_fine hcf).2 g2, .bool true, [], rfl, (RV_fine rfl).1 RV_boolI, rfl⟩
      | false =>
        simp only [Bool.false_eq_true, if_false, SlotR, RA, and_true]
        exact (RV_fine hcf).2 g2
    · rename_i hf
      simp only [Option.some.injEq, Prod.mk.injEq] at hr
      obtain ⟨rfl, rfl, rfl⟩ := hr
      have hfit : shFit sh kd = true := by unfold findK at hf; split at hf <;> simp_all
      have hkf : kd.fine = true := by cases sh <;> cases kd <;> first | rfl | (simp [shFit, D.fine] at hfit; done)
      have rk0 : RV0 g.cid w (MOf g.M0 own) kd (a.eval k) := (RV_fine hkf).1 rk
      obtain ⟨f1, _, _⟩ := run_find (P := P) hsh rk0 e5 hf
      exact .value (hrun r es cl _ zv false e2 e3 (run_check (P := P) hsh rk0 hfit _) f1 ⟨rfl, rfl⟩) (Post.same hs hp (hres own _ zv [] false (zra _ _)))
    · simp at hr
  · simp at hr
theorem goes_mapEntry {t kt el : TypeId} {m k : Operand} {X K : Opd} {tg' : Nat} {sh : Sh} {z : AV} (hop : o.op = .mapEntry t m k) (h1 : P.underlying t = some (.map kt el)) (hsh : shOf P kt = some sh) (hz : zeroT P el = some z)
    (hX : opd g.cid m = some X) (hK : opd g.cid k = some K) (hs : SR g e h a w ρ own) (hp : own .pend = []) (hr : opRun C (.mapEntry tg' sh X K z) e h = some (s, e', h')) : Goes P o a w (Post g a w ρ own e' h' s) := by
  obtain ⟨zv, hzc, hzr⟩ := run_zeroValue (w := w) hz
  simp only [opRun] at hr
  split at hr
  case h_2 => simp at hr
  rename_i tg i kd hm hk
  split at hr
  case isFalse => simp at hr
  split at hr
  case h_2 => simp at hr
  rename_i ks vs hget
  obtain ⟨b, es, O', e1', e2, e3, e4, e5, e6, e7⟩ := map_at hX hs hm hs hget
  have rk := hs.evD hK hk
  have hlv := RAs_length _ _ _ e6
  have hlk := RDkeys_length _ _ e5
  simp only [List.length_map] at hlv
  have tup : ∀ (own1 : OwnF) (w1 : World) (ρ1 : Rho) (c : AV) (v : Value) (O : Own) (n : Nat), RA g.cid w1 (MOf g.M0 own1) ρ1 c v O → RA g.cid w1 (MOf g.M0 own1) ρ1 (.tup [c, .d (.int .i64 (n : Int))]) (.tuple #[v, goInt n]) O := by
    intro own1 w1 ρ1 c v O n hc
    simp only [RA, RAs]
    exact ⟨_, rfl, v, [goInt n], O, [], rfl, hc, ⟨goInt n, [], [], [], rfl, ⟨RV_intI, rfl⟩, ⟨rfl, rfl⟩, rfl⟩, by simp⟩
  split at hr
  · rename_i j hf
    have hfit : shFit sh kd = true := by unfold findK at hf; split at hf <;> simp_all
    have hkf : kd.fine = true := by cases sh <;> cases kd <;> first | rfl | (simp [shFit, D.fine] at hfit; done)
    have rk0 : RV0 g.cid w (MOf g.M0 own) kd (a.eval k) := (RV_fine hkf).1 rk
    obtain ⟨f1, _, f3⟩ := run_find (P := P) hsh rk0 e5 hf
    obtain ⟨f4, f5⟩ := f3 j rfl
    obtain ⟨e0, g1, g2, g3⟩ := RDkeys_get _ _ _ _ e5 f5
    have g1' : es[j]? = some e0 := by simpa using g1
    split at hr <;> simp only [Option.some.injEq, Prod.mk.injEq, reduceCtorEq] at hr
    rename_i c hc
    obtain ⟨rfl, rfl, rfl⟩ := hr
    obtain ⟨v0, O1, O2, O3, q1, q2, q3, q4⟩ := RAs_at e6 hc
    have hv0 : v0 = e0.val := by rw [List.getElem?_map, g1] at q1; simpa using q1.symm
    subst hv0
    obtain ⟨key', w2, r1, r2, r3, r4⟩ := run_keyThatStays (P := P) (w := w) (((es[j]?).map (·.key)).getD (a.eval k)) (a.eval k)
    have r1' := r1
    simp only [g1', Option.map_some, Option.getD_some] at r1'
    let es' := es.modify j fun e => { e with key := key' }
    have hes' : es'.toList = es.toList.set j { e0 with key := key' } := by
      apply List.ext_getElem?
      intro j'
      simp only [es', List.getElem?_set]
      rw [Array.getElem?_toList, Array.getElem?_modify]
      obtain ⟨hjs, hje⟩ := Array.getElem?_eq_some_iff.1 g1'
      by_cases hjj : j = j'
      · subst hjj; simp [hje, hjs]
      · simp [hjj]
    have hrw := Rewritten.ofSet (w := w) (w2 := w2) (r := b) (ob := .map es' es.size) r3 r4 e3
    have hborn : e0.born = j := e4 j e0 g1'
    have hrun : (execOp a.eval o).run P w = .ok (.value (.tuple #[e0.val, goInt (j : Nat)])) { w2 with heap := w2.heap.setIfInBounds b (.map es' es.size) } := by
      simp only [execOp, hop, Instr.mapEntry, Sem.run_bind, run_underlying h1, Result.andThen_ok, e2, run_getObj e3, run_check (P := P) hsh rk0 hfit, f1, foundOf_some g1', r1', run_setObj (w := w2) (show w2.heap[b]? = some (.map es es.size) by rw [r3]; exact e3), Sem.run_pure, g1', Option.map_some, Option.getD_some, hborn, es']
    have hkey' : RDc g.cid w (MOf g.M0 own) kd key'.cells.toList ∧ kd.isAgg = isAggV key' := by
      rcases r2 with r2 | r2
      · rw [r2, g1']; exact ⟨g2, g3⟩
      · rw [r2]; exact rk0
    -- the value is taken first, then the key is written
    have hset : (es.toList.map MapEntry.val).set j e0.val = es.toList.map MapEntry.val := by
      apply List.ext_getElem?
      intro j'
      rw [List.getElem?_set]
      split
      · rename_i hjj; subst hjj
        rw [q1, if_pos (by simpa using (List.getElem?_eq_some_iff.1 g1).1)]
      · rfl
    have hweak := q4 (weaken c) e0.val [] (RA_weaken _ _ _ q3)
    rw [hset] at hweak
    have hnd0 := hs.nodup (.obj tg i)
    rw [e7, q2] at hnd0
    have hbO : b ∉ blocks (O1 ++ O2 ++ O3) := by
      simp only [blocks, List.map_cons, List.nodup_cons] at hnd0; exact hnd0.1
    have hl0 : ∀ l, ((b, l) ∈ own (.obj tg i) ∨ (b, l) ∈ own .pend) → l = 0 := by
      rintro l (h2 | h2)
      · rw [e7, q2, List.mem_cons] at h2
        rcases h2 with h2 | h2
        · simpa using h2
        · exact absurd (List.mem_map.2 ⟨_, h2, rfl⟩) hbO
      · rw [hp] at h2; simp at h2
    obtain ⟨t1, t2⟩ := hs.trans2 (e' := e) (h' := h.set tg i (.map ks (vs.set j (weaken c)))) (w' := { w2 with heap := w2.heap.setIfInBounds b (.map es' es.size) }) (ρ' := ρ) (.obj tg i) (by simp) ((b, 0) :: (O1 ++ [] ++ O3)) O2 (fun _ _ _ h => h)
      (by rw [hrw.size]; exact Nat.le_refl _) (fun b' _ h1 _ => hrw.same b' (fun hbb => h1 (by rw [e7, hbb]; simp [blocks])))
      (fun b' l o v h1 h2 hc => by
        by_cases hbb : b' = b
        · subst hbb; have := hl0 l h1; omega
        · unfold World.cell? at hc ⊢; rw [hrw.same b' hbb]; exact hc)
      (fun b' l es c h1 h2 hc => by
        by_cases hbb : b' = b
        · subst hbb; have := hl0 l h1; omega
        · rw [hrw.same b' hbb]; exact hc)
      hrw.os (fun _ _ h _ => h) (fun _ _ _ _ q => by simp at q) (fun t' i' o' ho hk => Heap.set_other hget ho hk) (fun t' i' ho => hs.hdom t' i' (Heap.set_none hget ho))
      (by
        have hperm : ((b, 0) :: (O1 ++ [] ++ O3) ++ O2).Perm ((b, 0) :: (O1 ++ O2 ++ O3)) := by
          rw [List.append_nil, List.cons_append, List.append_assoc, List.append_assoc]
          exact ((List.perm_append_comm (l₁ := O3) (l₂ := O2)).append_left O1).cons _
        exact ((hperm.map Prod.fst).nodup_iff).2 hnd0)
      (fun b' l hm => by
        refine .inl ⟨l, ?_, Nat.le_refl _⟩
        rw [e7, q2]
        simp only [List.append_nil, List.cons_append, List.mem_cons, List.mem_append] at hm ⊢
        rcases hm with hm | (hm | hm) | hm <;> simp [hm])
      (fun hx => ⟨fun _ _ _ q => by simp at q, fun t' i' o' ho hk => by
        simp only [Key.obj.injEq] at hk
        obtain ⟨rfl, rfl⟩ := hk
        rw [Heap.get_set h hget, if_pos ⟨rfl, rfl⟩] at ho
        simp only [Option.some.injEq] at ho
        subst ho
        refine ⟨b, e1', es', O1 ++ [] ++ O3, by rw [hrw.new]; simp [es'], ?_, ?_, ?_, rfl⟩
        · intro j' e'' he''
          have : es'.toList[j']? = some e'' := by simpa using he''
          rw [hes', List.getElem?_set] at this
          split at this
          · rename_i hjj
            subst hjj
            split at this <;> simp only [Option.some.injEq, reduceCtorEq] at this
            subst this
            exact e4 j e0 g1'
          · exact e4 j' e'' (by simpa using this)
        · rw [hes']
          exact RDkeys_mono hx _ _ (RDkeys_set _ _ j kd _ e5 f5 hkey'.1 hkey'.2)
        · rw [hes', List.map_set, hset]
          refine RAs_mono hx (fun _ _ _ h => h) _ _ _ (fun b' hb' => hrw.same b' ?_) hweak
          rintro rfl
          refine hbO ?_
          simp only [blocks, List.map_append, List.mem_append, List.append_nil] at hb' ⊢
          rcases hb' with hb' | hb'
          · exact .inl (.inl hb')
          · exact .inr hb'⟩)
    refine .value hrun ⟨ρ, _, t1, ?_, fun _ _ _ h => h, t2⟩
    rw [OwnF.upd_same]
    refine tup _ _ _ c e0.val O2 j (RA_mono t2 (fun _ _ _ h => h) _ _ _ (fun b' hb' => hrw.same b' ?_) q3)
    rintro rfl
    refine hbO ?_
    simp only [blocks, List.map_append, List.mem_append] at hb' ⊢
    exact .inl (.inr hb')
  · rename_i hf
    simp only [Option.some.injEq, Prod.mk.injEq] at hr
    obtain ⟨rfl, rfl, rfl⟩ := hr
    have hfit : shFit sh kd = true := by unfold findK at hf; split at hf <;> simp_all
    have hkf : kd.fine = true := by cases sh <;> cases kd <;> first | rfl | (simp [shFit, D.fine] at hfit; done)
    have rk0 : RV0 g.cid w (MOf g.M0 own) kd (a.eval k) := (RV_fine hkf).1 rk
    obtain ⟨f1, _, _⟩ := run_find (P := P) hsh rk0 e5 hf
    let es' := es.push { key := a.eval k, val := zv, born := es.size }
    have hrw := Rewritten.ofSet (w := w) (w2 := w) (r := b) (ob := .map es' (es.size + 1)) rfl ⟨rfl, rfl, rfl⟩ e3
    have hrun : (execOp a.eval o).run P w = .ok (.value (.tuple #[zv, goInt (es.size : Nat)])) { w with heap := w.heap.setIfInBounds b (.map es' (es.size + 1)) } := by
      simp only [execOp, hop, Instr.mapEntry, Sem.run_bind, run_underlying h1, Result.andThen_ok, e2, run_getObj e3, run_check (P := P) hsh rk0 hfit, f1, foundOf, hzr, run_setObj (w := w) e3, Sem.run_pure, es']
    have zra : ∀ w M ρ, RA g.cid w M ρ z zv [] := fun w M ρ => (constAV_RA hzc).1
    obtain ⟨n1, n2⟩ := nodup_parts (O1 := O') (O2 := []) (O3 := []) (Ov := []) hs (by simp) e7 (by simp) hp
    simp only [List.append_nil] at n1 n2
    obtain ⟨t1, t2⟩ := hs.write (k0 := .obj tg i) (e' := e) (h' := h.set tg i (.map (ks ++ [kd]) (vs ++ [weaken z]))) (by simp) e7 hrw n1 n2
      (fun _ _ h _ => h) (fun _ _ _ _ q => by simp at q)
      (fun t' i' o' ho hk => Heap.set_other hget ho hk) (fun t' i' ho => Heap.set_none hget ho)
      (fun M' hx hsame => ⟨fun _ _ _ q => by simp at q, fun t' i' o' ho hk => by
        simp only [Key.obj.injEq] at hk
        obtain ⟨rfl, rfl⟩ := hk
        rw [Heap.get_set h hget, if_pos ⟨rfl, rfl⟩] at ho
        simp only [Option.some.injEq] at ho
        subst ho
        refine ⟨b, e1', es', O', by rw [hrw.new]; simp [es'], ?_, ?_, ?_, rfl⟩
        · intro j' e'' he''
          simp only [es', Array.getElem?_push] at he''
          split at he''
          · rename_i hjj
            simp only [Option.some.injEq] at he''
            subst he''; exact hjj.symm
          · exact e4 j' e'' he''
        · simp only [es', Array.toList_push]
          exact RDkeys_mono hx _ _ (RDkeys_append _ _ kd _ e5 rk0.1 rk0.2)
        · simp only [es', Array.toList_push, List.map_append, List.map_cons, List.map_nil]
          refine RAs_mono hx (fun _ _ _ h => h) _ _ _ hsame ((RAs_append _ _ _ _).2 ⟨_, _, O', [], rfl, e6, ?_, by simp⟩)
          simp only [RAs]
          exact ⟨_, [], [], [], rfl, RA_weaken _ _ _ (zra _ _ _), ⟨rfl, rfl⟩, by simp⟩⟩)
    refine .value hrun ⟨ρ, _, t1, ?_, fun _ _ _ h => h, t2⟩
    rw [OwnF.upd_same]
    have : es.size = ks.length := by simpa using hlk
    rw [this]
    exact tup _ _ _ z zv [] _ (zra _ _ _)
  · simp at hr
theorem goes_entryStore {t : TypeId} {m k v : Operand} {X K V : Opd} {tg' : Nat} (hop : o.op = .entryStore t m k v)
    (hX : opd g.cid m = some X) (hK : opd g.cid k = some K) (hV : opd g.cid v = some V) (hs : SR g e h a w ρ own) (hp : own .pend = []) (hr : opRun C (.entryStore tg' X K V) e h = some (s, e', h')) : Goes P o a w (Post g a w ρ own e' h' s) := by
  simp only [opRun] at hr
  split at hr
  case h_2 => simp at hr
  rename_i tg i n c e1 hm hk hv
  split at hr
  case isFalse => simp at hr
  split at hr
  case h_2 => simp at hr
  rename_i ks vs hget
  split at hr <;> simp only [Option.some.injEq, Prod.mk.injEq, reduceCtorEq] at hr
  rename_i hn
  obtain ⟨rfl, rfl, rfl⟩ := hr
  obtain ⟨own1, O, s1, ra, hpo, hM, _⟩ := hs.evt hV hv
  rw [hp, List.nil_append] at hpo
  obtain ⟨b, es, O', e1', e2, e3, e4, e5, e6, e7⟩ := map_at hX hs hm s1 hget
  obtain ⟨q, hq⟩ := hs.evI hK hk
  have hlv := RAs_length _ _ _ e6
  simp only [List.length_map] at hlv
  obtain ⟨v0, O1, O2, O3, q1, q2, _, q4⟩ := RAs_at e6 (j := n.toNat) (c := vs[n.toNat]) (by simp [hn.2])
  have hjs : n.toNat < es.size := by have := hn.2; simp at hlv; omega
  let es' := es.modify n.toNat fun e => { e with val := a.eval v }
  have hes' : es'.toList = es.toList.set n.toNat { es[n.toNat] with val := a.eval v } := by
    apply List.ext_getElem?
    intro j'
    simp only [es', List.getElem?_set]
    rw [Array.getElem?_toList, Array.getElem?_modify]
    by_cases hjj : n.toNat = j'
    · subst hjj; simp [hjs]
    · simp [hjj]
  have hfind : es.findIdx? (fun e => (e.born : Int) == n) = some n.toNat := by
    rw [Array.findIdx?_eq_some_iff_getElem]
    refine ⟨hjs, ?_, ?_⟩
    · have := e4 n.toNat es[n.toNat] (by simp [hjs])
      simp only [beq_iff_eq, this]; omega
    · intro j' hj'
      have hj2 : j' < es.size := by omega
      have := e4 j' es[j'] (by simp [hj2])
      simp only [beq_iff_eq, this]; omega
  have hrw := Rewritten.ofSet (w := w) (w2 := w) (r := b) (ob := .map es' es.size) rfl ⟨rfl, rfl, rfl⟩ e3
  have hrun : (execOp a.eval o).run P w = .ok .skip { w with heap := w.heap.setIfInBounds b (.map es' es.size) } := by
    simp [execOp, hop, Instr.entryStore, e2, run_getObj e3, hq, asInt, asIntOf, hfind, run_setObj (w := w) e3, es']
  obtain ⟨n1, n2⟩ := nodup_parts s1 (by simp) e7 q2 hpo
  obtain ⟨t1, t2⟩ := s1.write (k0 := .obj tg i) (e' := e1) (h' := h.set tg i (.map ks (vs.set n.toNat c))) (by simp) e7 hrw n1 n2
    (fun _ _ h _ => h) (fun _ _ _ _ q => by simp at q)
    (fun t' i' o' ho hk => Heap.set_other hget ho hk) (fun t' i' ho => Heap.set_none hget ho)
    (fun M' hx hsame => ⟨fun _ _ _ q => by simp at q, fun t' i' o' ho hk => by
      simp only [Key.obj.injEq] at hk
      obtain ⟨rfl, rfl⟩ := hk
      rw [Heap.get_set h hget, if_pos ⟨rfl, rfl⟩] at ho
      simp only [Option.some.injEq] at ho
      subst ho
      refine ⟨b, e1', es', O1 ++ O ++ O3, by rw [hrw.new]; simp [es'], ?_, ?_, ?_, rfl⟩
      · intro j' e'' he''
        have : es'.toList[j']? = some e'' := by simpa using he''
        rw [hes', List.getElem?_set] at this
        split at this
        · rename_i hjj
          subst hjj
          split at this <;> simp only [Option.some.injEq, reduceCtorEq] at this
          subst this
          exact e4 _ es[n.toNat] (by simp [hjs])
        · exact e4 j' e'' (by simpa using this)
      · rw [hes']
        have hkj : n.toNat < ks.length := by have := RDkeys_length _ _ e5; simp at this; omega
        obtain ⟨e0, g1, g2, g3⟩ := RDkeys_get _ _ n.toNat ks[n.toNat] e5 (by simp [hkj])
        have : es[n.toNat] = e0 := by simpa [hjs] using g1
        exact RDkeys_mono hx _ _ (RDkeys_set _ _ n.toNat ks[n.toNat] _ e5 (by simp [hkj]) (by rw [this]; exact g2) (by rw [this]; exact g3))
      · rw [hes', List.map_set]
        exact RAs_mono hx (fun _ _ _ h => h) _ _ _ hsame (q4 c (a.eval v) O ra)⟩)
  refine .skip hrun ⟨ρ, _, t1, ?_, fun _ _ _ h => h, (Ext.iff hM).trans t2⟩
  rw [OwnF.upd_same]
  exact ⟨rfl, rfl⟩
end
end Go.Ab

/-
  A machine without memory (part 20): calls; what every digested operation comes to. Conditions: none (lemmas).
-/
namespace Go.Ab

/-- a function of the program, with a body of its own. -/
def Enterable (P : Program) (F : FuncId) : Prop := ∃ fn, P.funcs[F]? = some fn ∧ (fn.name == "runtime.NumGoroutine") = false ∧ fn.body.isNone = false
/-- a call comes back, with what is told. -/
def CallOk (P : Program) (F : FuncId) (vs : List Value) (w : World) (R : Value → World → Prop) : Prop :=
  Enterable P F ∧ Calls P F vs.toArray w fun e w' => match e with
    | .returned v => R v w'
    | _ => False
/-- what is told of the functions that are called. -/
structure CtxOk (P : Program) (g : Gh) (C : Ctx) : Prop where
  glob : C.glob = g.G
  pure : ∀ {f ds r F e h a w ρ own vs}, C.pure f ds = some r → g.cid F = some f → SR g e h a w ρ own → own .pend = [] → RAs g.cid w (MOf g.M0 own) ρ (ds.map AV.d) vs [] → CallOk P F vs w (Post g a w ρ own e h (vD r))
  own : ∀ {f ds r F e h a w ρ own vs}, C.own f ds = some r → g.cid F = some f → SR g e h a w ρ own → own .pend = [] → RAs g.cid w (MOf g.M0 own) ρ (ds.map AV.d) vs [] → CallOk P F vs w (Post g a w ρ own e h (.v r))
  ro : ∀ {f as r F e h a w ρ own vs}, C.ro f as h = some r → g.cid F = some f → SR g e h a w ρ own → own .pend = [] → RAs g.cid w (MOf g.M0 own) ρ as vs [] → CallOk P F vs w (Post g a w ρ own e h (.v r))
  imp : ∀ {f as r h' F e h a w ρ own vs}, C.imp f as h = some (r, h') → g.cid F = some f → SR g e h a w ρ own → RAs g.cid w (MOf g.M0 own) ρ as vs (own .pend) → CallOk P F vs w (Post g a w ρ own e h' (.v r))

section
variable {P : Program} {o : Oper} {g : Gh} {e e' : Env} {h h' : Heap} {a : Act} {w : World} {ρ : Rho} {own : OwnF} {C : Ctx} {s : Slot}
theorem goes_enter {c : Call} {x : Operand} {F : FuncId} {caps : Array Value} {R : Value → World → Prop} (hop : o.op = .call c) (hc : c.callee = .value x) (hx : a.eval x = .func (.func F) #[] caps)
    (h : CallOk P F ((c.args.toList.map a.eval) ++ caps.toList) w R) : Goes P o a w R := by
  obtain ⟨⟨fn, h1, h2, h3⟩, h4⟩ := h
  have hargs : (c.args.toList.map a.eval ++ caps.toList).toArray = c.args.map a.eval ++ caps := by
    apply Array.ext'; simp
  rw [hargs] at h4
  have hrun : (execOp a.eval o).run P w = .ok (.enter F (c.args.map a.eval ++ caps)) w := by
    have h2' : ¬ fn.name = "runtime.NumGoroutine" := by simpa using h2
    have h3' : ¬ fn.body = none := by intro h0; simp [h0] at h3
    simp [execOp, hop, resolve, hc, hx, Deferred.ofValue, invoke, callFunc, h1, h2', h3']
  unfold Goes
  rw [hrun]
  exact h4
theorem goes_call {c : Call} {F : FuncId} {f : Nat} {Xs : List Opd} {m : Md} (hC : CtxOk P g C) (hop : o.op = .call c) (hc : c.callee = .value (.func F)) (hF : g.cid F = some f) (hX : opds g.cid c.args.toList = some Xs)
    (hs : SR g e h a w ρ own) (hp : own .pend = []) (hr : opRun C (.call f Xs m) e h = some (s, e', h')) : Goes P o a w (Post g a w ρ own e' h' s) := by
  have enter : ∀ {R : Value → World → Prop}, CallOk P F (c.args.toList.map a.eval) w R → Goes P o a w R := by
    intro R hk
    exact goes_enter (caps := #[]) hop hc rfl (by simpa using hk)
  simp only [opRun] at hr
  cases m with
  | pure =>
    simp only at hr
    split at hr
    case h_2 => simp at hr
    rename_i ds hds
    split at hr <;> simp only [Option.some.injEq, Prod.mk.injEq, reduceCtorEq] at hr
    rename_i r hr'
    obtain ⟨rfl, rfl, rfl⟩ := hr
    exact enter (hC.pure hr' hF hs hp (hs.evDs hX hds))
  | own =>
    simp only at hr
    split at hr
    case h_2 => simp at hr
    rename_i ds hds
    split at hr <;> simp only [Option.some.injEq, Prod.mk.injEq, reduceCtorEq] at hr
    rename_i r hr'
    obtain ⟨rfl, rfl, rfl⟩ := hr
    exact enter (hC.own hr' hF hs hp (hs.evDs hX hds))
  | ro =>
    simp only at hr
    split at hr
    case h_2 => simp at hr
    rename_i as has
    split at hr <;> simp only [Option.some.injEq, Prod.mk.injEq, reduceCtorEq] at hr
    rename_i r hr'
    obtain ⟨rfl, rfl, rfl⟩ := hr
    exact enter (hC.ro hr' hF hs hp (hs.evws hX has))
  | imp =>
    simp only at hr
    split at hr
    case h_2 => simp at hr
    rename_i as e1 has
    split at hr <;> simp only [Option.some.injEq, Prod.mk.injEq, reduceCtorEq] at hr
    rename_i r h1 hr'
    obtain ⟨rfl, rfl, rfl⟩ := hr
    obtain ⟨own1, O, s1, ra, hpo, hM, _⟩ := hs.evts hX has
    rw [hp, List.nil_append] at hpo
    rw [← hpo] at ra
    exact (enter (hC.imp hr' hF s1 ra)).mono fun v w' hpst => Post.from hM hpst
theorem goes_callv {c : Call} {x : Operand} {X : Opd} {Xs : List Opd} {m : Md} (hC : CtxOk P g C) (hop : o.op = .call c) (hc : c.callee = .value x) (hXx : opd g.cid x = some X) (hX : opds g.cid c.args.toList = some Xs)
    (hs : SR g e h a w ρ own) (hp : own .pend = []) (hr : opRun C (.callv X Xs m) e h = some (s, e', h')) : Goes P o a w (Post g a w ρ own e' h' s) := by
  simp only [opRun] at hr
  split at hr
  · rename_i f hev
    have ra := hs.evV hXx hev
    simp only [RA] at ra
    obtain ⟨F, hF, hx⟩ := RV_fnc ra.1
    have enter : ∀ {R : Value → World → Prop}, CallOk P F (c.args.toList.map a.eval) w R → Goes P o a w R := by
      intro R hk
      exact goes_enter (caps := #[]) hop hc hx (by simpa using hk)
    cases m with
    | pure =>
      simp only at hr
      split at hr
      case h_2 => simp at hr
      rename_i ds hds
      split at hr <;> simp only [Option.some.injEq, Prod.mk.injEq, reduceCtorEq] at hr
      rename_i r hr'
      obtain ⟨rfl, rfl, rfl⟩ := hr
      exact enter (hC.pure hr' hF hs hp (hs.evDs hX hds))
    | own => simp at hr
    | ro =>
      simp only at hr
      split at hr
      case h_2 => simp at hr
      rename_i as has
      split at hr <;> simp only [Option.some.injEq, Prod.mk.injEq, reduceCtorEq] at hr
      rename_i r hr'
      obtain ⟨rfl, rfl, rfl⟩ := hr
      exact enter (hC.ro hr' hF hs hp (hs.evws hX has))
    | imp =>
      simp only at hr
      split at hr
      case h_2 => simp at hr
      rename_i as e1 has
      split at hr <;> simp only [Option.some.injEq, Prod.mk.injEq, reduceCtorEq] at hr
      rename_i r h1 hr'
      obtain ⟨rfl, rfl, rfl⟩ := hr
      obtain ⟨own1, O, s1, ra', hpo, hM, _⟩ := hs.evts hX has
      rw [hp, List.nil_append] at hpo
      rw [← hpo] at ra'
      exact (enter (hC.imp hr' hF s1 ra')).mono fun v w' hpst => Post.from hM hpst
  · rename_i f caps hev
    have ra := hs.evV hXx hev
    simp only [RA] at ra
    obtain ⟨F, cs, hF, hx, hcaps, _⟩ := ra
    have enter : ∀ {R : Value → World → Prop}, CallOk P F (c.args.toList.map a.eval ++ cs.toList) w R → Goes P o a w R := fun hk => goes_enter hop hc hx hk
    cases m with
    | pure => simp at hr
    | own => simp at hr
    | ro =>
      simp only at hr
      split at hr
      case h_2 => simp at hr
      rename_i as has
      split at hr <;> simp only [Option.some.injEq, Prod.mk.injEq, reduceCtorEq] at hr
      rename_i r hr'
      obtain ⟨rfl, rfl, rfl⟩ := hr
      exact enter (hC.ro hr' hF hs hp ((RAs_append _ _ _ _).2 ⟨_, _, [], [], rfl, hs.evws hX has, hcaps, rfl⟩))
    | imp =>
      simp only at hr
      split at hr
      case h_2 => simp at hr
      rename_i as e1 has
      split at hr <;> simp only [Option.some.injEq, Prod.mk.injEq, reduceCtorEq] at hr
      rename_i r h1 hr'
      obtain ⟨rfl, rfl, rfl⟩ := hr
      obtain ⟨own1, O, s1, ra', hpo, hM, _⟩ := hs.evts hX has
      rw [hp, List.nil_append] at hpo
      have hcaps' := RAs_mono (Ext.iff hM) (fun _ _ _ h => h) _ _ _ (fun _ _ => rfl) hcaps
      refine (enter (hC.imp hr' hF s1 ((RAs_append _ _ _ _).2 ⟨_, _, O, [], rfl, ra', hcaps', by rw [hpo, List.append_nil]⟩))).mono fun v w' hpst => Post.from hM hpst
  · simp at hr

/-- a box: in a register, or in the heap. -/
theorem goes_box {x : Operand} {X : Opd} {t : TypeId} (hop : o.op = .box t x) (hX : opd g.cid x = some X) (hs : SR g e h a w ρ own) (hp : own .pend = []) {d : DOp} (hd : (∃ st, d = .boxR st X) ∨ ∃ tg, d = .boxH tg X)
    (hr : opRun C d e h = some (s, e', h')) : Goes P o a w (Post g a w ρ own e' h' s) := by
  rcases hd with ⟨st, rfl⟩ | ⟨tg, rfl⟩
  · simp only [opRun] at hr
    split at hr
    case h_2 => simp at hr
    rename_i c e1 hev
    split at hr <;> simp only [Option.some.injEq, Prod.mk.injEq, reduceCtorEq] at hr
    rename_i hf
    obtain ⟨rfl, rfl, rfl⟩ := hr
    obtain ⟨own1, O, s1, ra, hpo, hM, _⟩ := hs.evt hX hev
    rw [hp, List.nil_append] at hpo
    rw [← hpo] at ra
    exact goes_boxR (.inl ⟨x, hop, rfl⟩) s1 hM hf ra
  · simp only [opRun] at hr
    split at hr
    case h_2 => simp at hr
    rename_i c e1 hev
    split at hr <;> simp only [Option.some.injEq, Prod.mk.injEq, reduceCtorEq] at hr
    rename_i hf
    obtain ⟨rfl, rfl, rfl⟩ := hr
    obtain ⟨own1, O, s1, ra, hpo, hM, _⟩ := hs.evt hX hev
    rw [hp, List.nil_append] at hpo
    rw [← hpo] at ra
    exact goes_boxH (.inl ⟨x, hop, rfl⟩) hf.2 s1 hM hf.1 ra
theorem goes_alloc {z : AV} {t : TypeId} (hop : o.op = .alloc t) (hz : zeroT P t = some z) (hs : SR g e h a w ρ own) (hp : own .pend = []) {d : DOp} (hd : (∃ st, d = .boxR st (.k z)) ∨ ∃ tg, d = .boxH tg (.k z))
    (hr : opRun C d e h = some (s, e', h')) : Goes P o a w (Post g a w ρ own e' h' s) := by
  obtain ⟨zv, hzc, hzr⟩ := run_zeroValue (w := w) hz
  have zra : RA g.cid w (MOf g.M0 own) ρ z zv (own .pend) := by rw [hp]; exact (constAV_RA hzc).1
  rcases hd with ⟨st, rfl⟩ | ⟨tg, rfl⟩
  · simp only [opRun, evt, evS] at hr
    split at hr <;> simp only [Option.some.injEq, Prod.mk.injEq, reduceCtorEq] at hr
    rename_i hf
    obtain ⟨rfl, rfl, rfl⟩ := hr
    exact goes_boxR (.inr ⟨hop, hzr⟩) hs (fun _ _ => Iff.rfl) hf zra
  · simp only [opRun, evt, evS] at hr
    split at hr <;> simp only [Option.some.injEq, Prod.mk.injEq, reduceCtorEq] at hr
    rename_i hf
    obtain ⟨rfl, rfl, rfl⟩ := hr
    exact goes_boxH (.inr ⟨hop, hzr⟩) hf.2 hs (fun _ _ => Iff.rfl) hf.1 zra
theorem goes_lenArr {c : Call} {x : Operand} {t el : TypeId} {n : Nat} {take : Bool} (hop : o.op = .call c) (hc : c.callee = .builtin .len) (hargs : c.args.toList = [x]) (hts : c.argTypes.toList = [t]) (ht : P.underlying t = some (.array n el))
    (hs : SR g e h a w ρ own) (hp : own .pend = []) (hr : opRun C (.mov (.k (.d (.int .i64 (n : Int)))) take) e h = some (s, e', h')) : Goes P o a w (Post g a w ρ own e' h' s) := by
  have hrun : (execOp a.eval o).run P w = .ok (.value (.int .i64 (n : Int))) w := by
    refine goes_builtin hop hc (f := Builtin.len_) (fun _ _ _ _ => rfl) ?_
    simp [arr_of_list hargs, arr_of_list hts, Builtin.len_, run_underlying ht, goInt]
  simp only [opRun, evS, evt] at hr
  cases take with
  | true =>
    simp only [if_true, Option.some.injEq, Prod.mk.injEq] at hr
    obtain ⟨rfl, rfl, rfl⟩ := hr
    exact Goes.data hs hp hrun RV_intI
  | false =>
    simp only [Bool.false_eq_true, if_false, Option.some.injEq, Prod.mk.injEq, weaken] at hr
    obtain ⟨rfl, rfl, rfl⟩ := hr
    exact Goes.data hs hp hrun RV_intI
theorem digEq_some {op : BinOp} {f : Bool → DOp} {d : DOp} (h : digBin.digEq op f = some d) : ∃ neg, op = (if neg then .neq else .eql) ∧ d = f neg := by
  unfold digBin.digEq at h
  split at h <;> simp only [Option.some.injEq, reduceCtorEq] at h
  · exact ⟨false, rfl, h.symm⟩
  · exact ⟨true, rfl, h.symm⟩

/-- what every digested operation comes to. -/
theorem op_sound {A : Ann} {i : Nat} {d : DOp} (hC : CtxOk P g C) (hd : digOp P g.cid A i o = some d) (hs : SR g e h a w ρ own) (hp : own .pend = []) (hr : opRun C d e h = some (s, e', h')) : Goes P o a w (Post g a w ρ own e' h' s) := by
  unfold digOp at hd
  split at hd
  case h_1 x hop =>
    simp only [Option.map_eq_some_iff] at hd
    obtain ⟨X, hX, rfl⟩ := hd
    exact goes_mov (.inl hop) hX hs hp hr
  case h_2 x hop =>
    simp only [Option.map_eq_some_iff] at hd
    obtain ⟨X, hX, rfl⟩ := hd
    exact goes_mov (.inr hop) hX hs hp hr
  case h_3 c x y hop =>
    split at hd <;> simp only [Option.some.injEq, reduceCtorEq] at hd
    subst hd
    exact goes_pick hop ‹_› ‹_› ‹_› hs hp hr
  case h_4 t hop =>
    split at hd
    case h_2 => simp at hd
    rename_i z hz
    refine goes_alloc hop hz hs hp ?_ hr
    split at hd <;> simp only [Option.some.injEq] at hd
    · exact .inl ⟨_, hd.symm⟩
    · exact .inr ⟨_, hd.symm⟩
  case h_5 t x hop =>
    split at hd
    case h_2 => simp at hd
    rename_i X hX
    refine goes_box hop hX hs hp ?_ hr
    split at hd <;> simp only [Option.some.injEq] at hd
    · exact .inl ⟨_, hd.symm⟩
    · exact .inr ⟨_, hd.symm⟩
  case h_6 t parts hop =>
    split at hd
    · rename_i fs z h1 hz
      split at hd
      case isFalse => simp at hd
      rename_i hc
      simp only [Option.map_eq_some_iff] at hd
      obtain ⟨qs, hq, rfl⟩ := hd
      exact goes_build_struct hop h1 hz hc.1 hc.2 hq hs hp hr
    · rename_i len el z h1 hz
      split at hd
      case h_2 => simp at hd
      rename_i n hn
      split at hd
      case isFalse => simp at hd
      rename_i hc
      simp only [Option.map_eq_some_iff] at hd
      obtain ⟨qs, hq, rfl⟩ := hd
      exact goes_build_array hop h1 hz hc hn hq hs hp hr
    · simp at hd
  case h_7 t len parts hop =>
    split at hd
    case h_2 => simp at hd
    rename_i el h1
    split at hd
    · simp at hd
    · rename_i n z ps _ hn hz hps
      split at hd
      case h_2 => simp at hd
      rename_i zd hzd
      split at hd <;> simp only [Option.some.injEq, reduceCtorEq] at hd
      rename_i hc
      subst hd
      exact goes_bslice hop h1 hn hz hzd hc.1 hc.2.1 hc.2.2.1 hc.2.2.2 hps hs hp hr
    · simp at hd
  case h_8 t x hop =>
    split at hd <;> simp only [Option.some.injEq, reduceCtorEq] at hd
    subst hd
    exact goes_load hop ‹_› ‹_› hC.glob ‹_› hs hp hr
  case h_9 t x v hop =>
    split at hd <;> simp only [Option.some.injEq, reduceCtorEq] at hd
    subst hd
    exact goes_store hop ‹_› ‹_› ‹_› hs hp hr
  case h_10 x hop =>
    simp only [Option.map_eq_some_iff] at hd
    obtain ⟨X, hX, rfl⟩ := hd
    exact goes_nilchk hop hX hs hp hr
  case h_11 op t x y yt hop =>
    split at hd
    case h_2 => simp at hd
    rename_i X Y hX hY
    unfold digBin at hd
    split at hd
    · simp only [Option.some.injEq] at hd; subst hd; exact goes_bin hop hX hY hs hp hr
    · simp only [Option.some.injEq] at hd; subst hd; exact goes_bin hop hX hY hs hp hr
    · obtain ⟨neg, h1, rfl⟩ := digEq_some hd
      exact goes_nilEq hop h1 (by simp only [Bool.false_eq_true, if_false]; exact ⟨_, ‹_›⟩) hX hY hs hp hr
    · obtain ⟨neg, h1, rfl⟩ := digEq_some hd
      exact goes_nilEq hop h1 (by simp only [if_true]; exact ⟨_, _, _, ‹_›⟩) hX hY hs hp hr
    · split at hd
      · obtain ⟨neg, h1, rfl⟩ := digEq_some hd
        exact goes_eqAgg hop h1 ‹_› (.inl rfl) hX hY hs hp hr
      · obtain ⟨neg, h1, rfl⟩ := digEq_some hd
        exact goes_eqAgg hop h1 ‹_› (.inr ⟨_, rfl⟩) hX hY hs hp hr
      · simp at hd
  case h_12 op t x hop =>
    simp only [Option.map_eq_some_iff] at hd
    obtain ⟨X, hX, rfl⟩ := hd
    exact goes_un hop hX hs hp hr
  case h_13 sT dT x hop =>
    split at hd
    case h_2 => simp at hd
    rename_i X hX
    unfold digConv at hd
    split at hd
    · simp only [Option.some.injEq] at hd; subst hd
      exact goes_conv_int hop ‹_› ‹_› hX hs hp hr
    · simp only [Option.some.injEq] at hd; subst hd
      exact goes_conv_rune hop ‹_› ‹_› hX hs hp hr
    · split at hd <;> simp only [Option.some.injEq, reduceCtorEq] at hd
      subst hd
      exact goes_conv_strBytes hop ‹_› ‹_› ‹_› hX hs hp hr
    · split at hd <;> simp only [Option.some.injEq, reduceCtorEq] at hd
      subst hd
      exact goes_conv_bytesStr hop ‹_› ‹_› ‹_› hX hs hp hr
    · rename_i el _ hu1 _
      split at hd
      case h_2 => simp at hd
      rename_i hu3
      split at hd <;> simp only [Option.some.injEq, reduceCtorEq] at hd
      rename_i hst
      subst hd; subst hst
      exact goes_conv_bytesBytes hop hu1 hu3 hX hs hp hr
    · simp at hd
  case h_14 F first caps hop =>
    split at hd
    case isFalse => simp at hd
    rename_i hf
    split at hd <;> simp only [Option.some.injEq, reduceCtorEq] at hd
    subst hd
    exact goes_mkfn hop hf ‹_› ‹_› hs hp hr
  case h_15 t hop =>
    simp only [Option.some.injEq] at hd; subst hd
    exact goes_mkmap hop hs hp hr
  case h_16 t x lo hi mx hop =>
    split at hd
    case h_2 => simp at hd
    rename_i X L H K hX hL hH hK
    split at hd
    · simp only [Option.some.injEq] at hd; subst hd
      exact goes_sliceS hop ‹_› hX hL hH hK hs hp hr
    · split at hd
      case h_2 => simp at hd
      split at hd <;> simp only [Option.some.injEq, reduceCtorEq] at hd
      subst hd
      exact goes_slice hop ‹_› ‹_› hX hL hH hK hs hp hr
    · split at hd
      case h_2 => simp at hd
      split at hd <;> simp only [Option.some.injEq, reduceCtorEq] at hd
      subst hd
      have hmx : mx = none := by
        cases mx with
        | none => rfl
        | some y => simp only [opdO, Option.map_eq_some_iff] at hK; obtain ⟨_, _, h0⟩ := hK; simp at h0
      subst hmx
      exact goes_sliceA hop ‹_› ‹_› hX hL hH hs hp hr
    · simp at hd
  case h_17 t x f hop =>
    split at hd
    case h_2 => simp at hd
    rename_i fs X h1 hX
    split at hd
    case h_2 => simp at hd
    rename_i fl h2
    split at hd
    case h_2 => simp at hd
    rename_i n h3
    split at hd <;> simp only [Option.some.injEq, reduceCtorEq] at hd
    rename_i h4
    subst hd
    exact goes_faddr hop h1 h2 h3 h4 hX hs hp hr
  case h_18 t x f hop =>
    split at hd
    case h_2 => simp at hd
    rename_i fs X h1 hX
    split at hd
    case h_2 => simp at hd
    rename_i fl h2
    split at hd <;> simp only [Option.some.injEq, reduceCtorEq] at hd
    subst hd
    exact goes_field hop h1 h2 ‹_› ‹_› hX hs hp hr
  case h_19 t x ix hop =>
    split at hd
    case h_2 => simp at hd
    rename_i X I hX hI
    split at hd
    · split at hd
      case h_2 => simp at hd
      split at hd <;> simp only [Option.some.injEq, reduceCtorEq] at hd
      subst hd
      exact goes_idxA hop ‹_› ‹_› hX hI hs hp hr
    · split at hd
      case h_2 => simp at hd
      split at hd <;> simp only [Option.some.injEq, reduceCtorEq] at hd
      subst hd
      exact goes_idxS hop ‹_› ‹_› hX hI hs hp hr
    · simp at hd
  case h_20 t x ix hop =>
    split at hd
    case h_2 => simp at hd
    rename_i X I hX hI
    split at hd
    · split at hd
      case h_2 => simp at hd
      split at hd <;> simp only [Option.some.injEq, reduceCtorEq] at hd
      subst hd
      exact goes_index hop ‹_› ‹_› ‹_› hX hI hs hp hr
    · simp only [Option.some.injEq] at hd; subst hd
      exact goes_sindex hop ‹_› hX hI hs hp hr
    · simp at hd
  case h_21 t x k ok hop =>
    split at hd
    case h_2 => simp at hd
    rename_i kt et X K h1 hX hK
    split at hd
    case h_2 => simp at hd
    rename_i z hz
    split at hd <;> simp only [Option.some.injEq, reduceCtorEq] at hd
    rename_i sh hsh
    subst hd
    exact goes_lookup hop h1 hsh hz hX hK hs hp hr
  case h_22 t m k v hop =>
    split at hd
    case h_2 => simp at hd
    simp only [Option.map_eq_some_iff] at hd
    obtain ⟨sh, hsh, rfl⟩ := hd
    exact goes_insert (.inr hop) ‹_› hsh ‹_› ‹_› ‹_› hs hp hr
  case h_23 t m k v hop =>
    split at hd
    case h_2 => simp at hd
    simp only [Option.map_eq_some_iff] at hd
    obtain ⟨sh, hsh, rfl⟩ := hd
    exact goes_insert (.inl hop) ‹_› hsh ‹_› ‹_› ‹_› hs hp hr
  case h_24 t m k hop =>
    split at hd
    case h_2 => simp at hd
    rename_i kt et X K h1 hX hK
    split at hd
    case h_2 => simp at hd
    rename_i z hz
    simp only [Option.map_eq_some_iff] at hd
    obtain ⟨sh, hsh, rfl⟩ := hd
    exact goes_mapEntry hop h1 hsh hz hX hK hs hp hr
  case h_25 t m k v hop =>
    split at hd <;> simp only [Option.some.injEq, reduceCtorEq] at hd
    subst hd
    exact goes_entryStore hop ‹_› ‹_› ‹_› hs hp hr
  case h_26 x i hop =>
    simp only [Option.map_eq_some_iff] at hd
    obtain ⟨X, hX, rfl⟩ := hd
    exact goes_extract hop hX hs hp hr
  case h_27 c hop =>
    split at hd
    · rename_i F hc
      split at hd <;> simp only [Option.some.injEq, reduceCtorEq] at hd
      subst hd
      exact goes_call hC hop hc ‹_› ‹_› hs hp hr
    · rename_i x _ hc
      split at hd <;> simp only [Option.some.injEq, reduceCtorEq] at hd
      subst hd
      exact goes_callv hC hop hc ‹_› ‹_› hs hp hr
    · rename_i b hc
      unfold digBuiltin at hd
      split at hd
      · rename_i s0 x0 t0 u0 hargs hts
        split at hd
        · simp at hd
        · rename_i el S X d hnot hu h1 hS hX
          split at hd
          case h_2 => simp at hd
          split at hd <;> simp only [Option.some.injEq, reduceCtorEq] at hd
          rename_i hcond
          subst hd
          exact goes_append hop hc hargs hts hu hX (fun k hk => hnot k hk) ‹_› ‹_› ‹_› hcond.2.2 hcond.1 hcond.2.1 h1 hS hs hp hr
        · simp at hd
      · rename_i x0 t0 hargs hts
        split at hd
        · simp only [Option.some.injEq] at hd; subst hd
          exact goes_len hop hc hargs hts (by simp only [Bool.false_eq_true, if_false]; exact ⟨_, ‹_›⟩) ‹_› hs hp hr
        · rename_i hu _
          simp only [Option.some.injEq] at hd; subst hd
          exact goes_len hop hc hargs hts (by simp only [if_true]; exact hu) ‹_› hs hp hr
        · simp only [Option.some.injEq] at hd; subst hd
          exact goes_lenArr hop hc hargs hts ‹_› hs hp hr
        · simp at hd
      · simp only [Option.map_eq_some_iff] at hd
        obtain ⟨Xs, hXs, rfl⟩ := hd
        exact goes_mnmx (mx := false) hop hc hXs hs hp hr
      · simp only [Option.map_eq_some_iff] at hd
        obtain ⟨Xs, hXs, rfl⟩ := hd
        exact goes_mnmx (mx := true) hop hc hXs hs hp hr
      · simp at hd
    · simp at hd
  case h_28 => simp at hd
end
end Go.Ab

/-
  A machine without memory (part 21): what an operation reads and writes; operations that change places; marks. Conditions: none (lemmas).
-/
namespace Go.Ab

def Env.sets (e : Env) (us : List (Nat × Slot)) : Env := us.foldl (fun e p => e.set p.1 p.2) e
def Heap.puts (h : Heap) (hs : List (Nat × List HObj)) : Heap := hs.foldl (fun h p => h.with p.1 p.2) h
@[simp] theorem Env.sets_nil (e : Env) : e.sets [] = e := rfl
@[simp] theorem Heap.puts_nil (h : Heap) : h.puts [] = h := rfl
theorem Env.sets_append (e : Env) (us vs : List (Nat × Slot)) : e.sets (us ++ vs) = (e.sets us).sets vs := by simp [Env.sets]
theorem Env.sets_cons (e : Env) (p : Nat × Slot) (us : List (Nat × Slot)) : e.sets (p :: us) = (e.set p.1 p.2).sets us := rfl
/-- what a row of settings leaves as it was, and what it tells. -/
theorem Env.sets_get (us : List (Nat × Slot)) (t : Nat) : (∀ e : Env, (e.sets us).get t = e.get t) ∧ t ∉ us.map Prod.fst ∨ ∃ s, (∀ e : Env, (e.sets us).get t = some s) ∧ t ∈ us.map Prod.fst := by
  induction us with
  | nil => exact .inl ⟨fun _ => rfl, by simp⟩
  | cons p us ih =>
    rcases ih with ⟨h1, h2⟩ | ⟨s, h1, h2⟩
    · by_cases hp : p.1 = t
      · exact .inr ⟨p.2, fun e => by rw [Env.sets_cons, h1, Env.get_set, if_pos hp], by simp [hp]⟩
      · refine .inl ⟨fun e => by rw [Env.sets_cons, h1, Env.get_set, if_neg hp], ?_⟩
        simp only [List.map_cons, List.mem_cons, not_or]
        exact ⟨fun h => hp h.symm, h2⟩
    · exact .inr ⟨s, fun e => by rw [Env.sets_cons, h1], by simp [h2]⟩
theorem Env.sets_other {us : List (Nat × Slot)} {t : Nat} (h : t ∉ us.map Prod.fst) (e : Env) : (e.sets us).get t = e.get t := by
  rcases Env.sets_get us t with ⟨h1, _⟩ | ⟨_, _, h2⟩
  · exact h1 e
  · exact absurd h2 h
theorem Heap.puts_at (hs : List (Nat × List HObj)) (tg : Nat) : (∀ h : Heap, (h.puts hs).at tg = h.at tg) ∨ ∃ l, (∀ h : Heap, (h.puts hs).at tg = l) ∧ tg ∈ hs.map Prod.fst := by
  induction hs with
  | nil => exact .inl fun _ => rfl
  | cons p hs ih =>
    have hc : ∀ h : Heap, h.puts (p :: hs) = (h.with p.1 p.2).puts hs := fun _ => rfl
    rcases ih with h1 | ⟨l, h1, h2⟩
    · by_cases hp : tg = p.1 ∧ p.1 < 4
      · exact .inr ⟨p.2, fun h => by rw [hc, h1, Heap.at_with, if_pos hp], by simp [hp.1]⟩
      · exact .inl fun h => by rw [hc, h1, Heap.at_with, if_neg hp]
    · exact .inr ⟨l, fun h => by rw [hc, h1], by simp [h2]⟩
theorem Heap.puts_other {hs : List (Nat × List HObj)} {tg : Nat} (h : tg ∉ hs.map Prod.fst) (k : Heap) : (k.puts hs).at tg = k.at tg := by
  rcases Heap.puts_at hs tg with h1 | ⟨_, _, h2⟩
  · exact h1 k
  · exact absurd h2 h
theorem Heap.ext_at {h k : Heap} (hk : ∀ tg, h.at tg = k.at tg) : h = k := by
  obtain ⟨a, b, c, d⟩ := h
  obtain ⟨a', b', c', d'⟩ := k
  have h0 := hk 0; have h1 := hk 1; have h2 := hk 2; have h3 := hk 3
  simp only [Heap.at] at h0 h1 h2 h3
  rw [h0, h1, h2, h3]

/-! ### operands -/
section
variable {e e2 : Env}
theorem evS_congr {X : Opd} (h : ∀ t, t ∈ X.ins → e2.get t = e.get t) : evS e2 X = evS e X := by
  cases X with
  | t n => exact h n (by simp [Opd.ins])
  | _ => rfl
theorem evw_congr {X : Opd} (h : ∀ t, t ∈ X.ins → e2.get t = e.get t) : evw e2 X = evw e X := by unfold evw; rw [evS_congr h]
theorem evD_congr {X : Opd} (h : ∀ t, t ∈ X.ins → e2.get t = e.get t) : evD e2 X = evD e X := by unfold evD; rw [evS_congr h]
theorem evI_congr {X : Opd} (h : ∀ t, t ∈ X.ins → e2.get t = e.get t) : evI e2 X = evI e X := by unfold evI; rw [evS_congr h]
theorem evB_congr {X : Opd} (h : ∀ t, t ∈ X.ins → e2.get t = e.get t) : evB e2 X = evB e X := by unfold evB; rw [evS_congr h]
theorem evO_congr {X : Option Opd} (h : ∀ t, t ∈ oins X → e2.get t = e.get t) : evO e2 X = evO e X := by
  cases X with
  | none => rfl
  | some x => simp only [evO, evI_congr h]
theorem evws_congr : ∀ {Xs : List Opd}, (∀ t, t ∈ Xs.flatMap Opd.ins → e2.get t = e.get t) → evws e2 Xs = evws e Xs
  | [], _ => rfl
  | X :: Xs, h => by
    simp only [List.flatMap_cons, List.mem_append] at h
    unfold evws
    rw [evw_congr fun t ht => h t (.inl ht), evws_congr fun t ht => h t (.inr ht)]
theorem evDs_congr : ∀ {Xs : List Opd}, (∀ t, t ∈ Xs.flatMap Opd.ins → e2.get t = e.get t) → evDs e2 Xs = evDs e Xs
  | [], _ => rfl
  | X :: Xs, h => by
    simp only [List.flatMap_cons, List.mem_append] at h
    unfold evDs
    rw [evD_congr fun t ht => h t (.inl ht), evDs_congr fun t ht => h t (.inr ht)]
theorem evt_foot {X : Opd} {c : AV} {e' : Env} (he : evt e X = some (c, e')) (h : ∀ t, t ∈ X.ins → e2.get t = e.get t) : ∃ us, e' = e.sets us ∧ evt e2 X = some (c, e2.sets us) ∧ (∀ t, t ∈ us.map Prod.fst → t ∈ X.ins) ∧ (∀ p, p ∈ us → ∃ b, p.2 = .v b) := by
  cases X with
  | t n =>
    simp only [evt] at he ⊢
    rw [h n (by simp [Opd.ins])]
    split at he <;> simp only [Option.some.injEq, Prod.mk.injEq, reduceCtorEq] at he
    rename_i a ha
    obtain ⟨rfl, rfl⟩ := he
    exact ⟨[(n, .v (weaken a))], rfl, rfl, by simp [Opd.ins], by simp⟩
  | _ =>
    simp only [evt] at he ⊢
    rw [evS_congr h]
    split at he <;> simp only [Option.some.injEq, Prod.mk.injEq, reduceCtorEq] at he
    obtain ⟨rfl, rfl⟩ := he
    exact ⟨[], rfl, by simp, by simp, by simp⟩
theorem evts_foot : ∀ {Xs : List Opd} {e e2 : Env} {cs : List AV} {e' : Env}, evts e Xs = some (cs, e') → (∀ t, t ∈ Xs.flatMap Opd.ins → e2.get t = e.get t) → ∃ us, e' = e.sets us ∧ evts e2 Xs = some (cs, e2.sets us) ∧ (∀ t, t ∈ us.map Prod.fst → t ∈ Xs.flatMap Opd.ins) ∧ (∀ p, p ∈ us → ∃ b, p.2 = .v b)
  | [], e, e2, cs, e', he, _ => by
    simp only [evts, Option.some.injEq, Prod.mk.injEq] at he
    obtain ⟨rfl, rfl⟩ := he
    exact ⟨[], rfl, rfl, by simp, by simp⟩
  | X :: Xs, e, e2, cs, e', he, h => by
    simp only [List.flatMap_cons, List.mem_append] at h
    simp only [evts] at he ⊢
    split at he
    case h_2 => simp at he
    rename_i c1 e1 h1
    split at he <;> simp only [Option.some.injEq, Prod.mk.injEq, reduceCtorEq] at he
    rename_i cs2 e3 h2
    obtain ⟨rfl, rfl⟩ := he
    obtain ⟨us, rfl, q2, q3, q4⟩ := evt_foot h1 (fun t ht => h t (.inl ht))
    obtain ⟨vs, rfl, r2, r3, r4⟩ := evts_foot (e2 := e2.sets us) h2 (fun t ht => by
      rcases Env.sets_get us t with ⟨k1, _⟩ | ⟨s, k1, _⟩
      · rw [k1, k1]; exact h t (.inr ht)
      · rw [k1, k1])
    refine ⟨us ++ vs, by rw [Env.sets_append], by rw [q2]; simp only [r2, Env.sets_append], ?_, ?_⟩
    · intro t ht
      rw [List.map_append, List.mem_append] at ht
      simp only [List.flatMap_cons, List.mem_append]
      rcases ht with ht | ht
      · exact .inl (q3 t ht)
      · exact .inr (r3 t ht)
    · intro p hp
      rcases List.mem_append.1 hp with hp | hp
      · exact q4 p hp
      · exact r4 p hp
end
/-- what an operation sets: it hangs on what it reads, and lies in what it writes. -/
def Foot (C : Ctx) (d : DOp) (e : Env) (h : Heap) (e2 : Env) (h2 : Heap) (s : Slot) (e' : Env) (h' : Heap) : Prop :=
  ∃ us hs, e' = e.sets us ∧ h' = h.puts hs ∧ opRun C d e2 h2 = some (s, e2.sets us, h2.puts hs) ∧ (∀ t, t ∈ us.map Prod.fst → t ∈ d.outs) ∧ (∀ t, t ∈ hs.map Prod.fst → t ∈ d.hw)
theorem Foot.calm {C : Ctx} {d : DOp} {e e2 : Env} {h h2 : Heap} {s : Slot} (hr : opRun C d e2 h2 = some (s, e2, h2)) : Foot C d e h e2 h2 s e h := ⟨[], [], rfl, rfl, hr, by simp, by simp⟩
theorem get_congr {h h2 : Heap} {tg : Nat} (hh : h2.at tg = h.at tg) (i : Nat) : h2.get tg i = h.get tg i := by unfold Heap.get; rw [hh]
theorem next_congr {h h2 : Heap} {tg : Nat} (hh : h2.at tg = h.at tg) : h2.next tg = h.next tg := by unfold Heap.next; rw [hh]
theorem set_puts {h h2 : Heap} {tg i : Nat} {o : HObj} (hh : h2.at tg = h.at tg) : ∃ hs, h.set tg i o = h.puts hs ∧ h2.set tg i o = h2.puts hs ∧ ∀ t, t ∈ hs.map Prod.fst → t = tg :=
  ⟨[(tg, (h.at tg).set i o)], rfl, by unfold Heap.set; rw [hh]; rfl, by simp⟩
theorem push_puts {h h2 : Heap} {tg : Nat} {o : HObj} (hh : h2.at tg = h.at tg) : ∃ hs, h.push tg o = h.puts hs ∧ h2.push tg o = h2.puts hs ∧ ∀ t, t ∈ hs.map Prod.fst → t = tg :=
  ⟨[(tg, h.at tg ++ [o])], rfl, by unfold Heap.push; rw [hh]; rfl, by simp⟩
theorem all_puts (h h' : Heap) : h' = h.puts [(0, h'.a), (1, h'.b), (2, h'.c), (3, h'.d)] := by
  cases h'; rfl

section
variable {C : Ctx} {e e' e2 : Env} {h h' h2 : Heap} {s : Slot}
theorem faddr_congr {X : Opd} {off : Nat} (hx : ∀ t, t ∈ X.ins → e2.get t = e.get t) : faddr e2 X off = faddr e X off := by
  unfold faddr; rw [evS_congr hx]
theorem regAt_congr {X : Opd} {sl : Nat} (hx : ∀ t, t ∈ X.ins → e2.get t = e.get t) (hs : e2.get sl = e.get sl) : regAt e2 sl X = regAt e sl X := by
  unfold regAt; rw [evS_congr hx, hs]
theorem buildGo_congr : ∀ {ps : List (Nat × Nat × Opd)} {c : AV}, (∀ t, t ∈ ps.flatMap (fun p => p.2.2.ins) → e2.get t = e.get t) → buildGo e2 c ps = buildGo e c ps
  | [], _, _ => rfl
  | (off, n, X) :: ps, c, hp => by
    simp only [List.flatMap_cons, List.mem_append] at hp
    unfold buildGo
    rw [evw_congr fun t ht => hp t (.inl ht)]
    split
    · split
      · split
        · exact buildGo_congr fun t ht => hp t (.inr ht)
        · rfl
      · rfl
    · rfl
theorem bsliceGo_congr {sz : Nat} : ∀ {ps : List (Nat × Opd)} {xs : List D}, (∀ t, t ∈ ps.flatMap (fun p => p.2.ins) → e2.get t = e.get t) → bsliceGo e2 sz xs ps = bsliceGo e sz xs ps
  | [], _, _ => rfl
  | (i, X) :: ps, xs, hp => by
    simp only [List.flatMap_cons, List.mem_append] at hp
    unfold bsliceGo
    rw [evD_congr fun t ht => hp t (.inl ht)]
    split
    · split
      · exact bsliceGo_congr fun t ht => hp t (.inr ht)
      · rfl
    · rfl
theorem mnmxGo_congr {mx : Bool} : ∀ {Xs : List Opd} {m : Int}, (∀ t, t ∈ Xs.flatMap Opd.ins → e2.get t = e.get t) → mnmxGo mx e2 m Xs = mnmxGo mx e m Xs
  | [], _, _ => rfl
  | X :: Xs, m, hp => by
    simp only [List.flatMap_cons, List.mem_append] at hp
    unfold mnmxGo
    rw [evI_congr fun t ht => hp t (.inl ht)]
    split
    · exact mnmxGo_congr fun t ht => hp t (.inr ht)
    · rfl
theorem heap_all {h h2 : Heap} (hh : ∀ tg, tg ∈ [0, 1, 2, 3] → h2.at tg = h.at tg) : h2 = h := by
  refine Heap.ext_at fun tg => ?_
  match tg with
  | 0 => exact hh 0 (by simp)
  | 1 => exact hh 1 (by simp)
  | 2 => exact hh 2 (by simp)
  | 3 => exact hh 3 (by simp)
  | n + 4 => rfl
theorem foot {d : DOp} (hd : d.plain = true) (hr : opRun C d e h = some (s, e', h')) (hin : ∀ t, t ∈ d.ins → e2.get t = e.get t) (hhr : ∀ tg, tg ∈ d.hr → h2.at tg = h.at tg) : Foot C d e h e2 h2 s e' h' := by
  cases d with
  | mov x take =>
    have hx : ∀ t, t ∈ x.ins → e2.get t = e.get t := fun t ht => hin t ht
    simp only [opRun] at hr
    split at hr
    · rename_i a hev
      cases take with
      | true =>
        simp only [if_true] at hr
        split at hr <;> simp only [Option.some.injEq, Prod.mk.injEq, reduceCtorEq] at hr
        rename_i c1 e1 hevt
        obtain ⟨rfl, rfl, rfl⟩ := hr
        obtain ⟨us, rfl, q2, q3, _⟩ := evt_foot hevt hx
        exact ⟨us, [], rfl, rfl, by simp [opRun, evS_congr hx, hev, q2], fun t ht => q3 t ht, by simp⟩
      | false =>
        simp only [Bool.false_eq_true, if_false, Option.some.injEq, Prod.mk.injEq] at hr
        obtain ⟨rfl, rfl, rfl⟩ := hr
        exact Foot.calm (by simp [opRun, evS_congr hx, hev])
    · simp only [Option.some.injEq, Prod.mk.injEq] at hr
      obtain ⟨rfl, rfl, rfl⟩ := hr
      exact Foot.calm (by simp [opRun, evS_congr hx, *])
    · simp only [Option.some.injEq, Prod.mk.injEq] at hr
      obtain ⟨rfl, rfl, rfl⟩ := hr
      exact Foot.calm (by simp [opRun, evS_congr hx, *])
    · simp only [Option.some.injEq, Prod.mk.injEq] at hr
      obtain ⟨rfl, rfl, rfl⟩ := hr
      exact Foot.calm (by simp [opRun, evS_congr hx, *])
    · simp at hr
  | pick c a b =>
    have hc : ∀ t, t ∈ c.ins → e2.get t = e.get t := fun t ht => hin t (by simp [DOp.ins, ht])
    have ha : ∀ t, t ∈ a.ins → e2.get t = e.get t := fun t ht => hin t (by simp [DOp.ins, ht])
    have hb : ∀ t, t ∈ b.ins → e2.get t = e.get t := fun t ht => hin t (by simp [DOp.ins, ht])
    simp only [opRun] at hr
    split at hr
    case h_2 => simp at hr
    rename_i t ht
    split at hr <;> simp only [Option.some.injEq, Prod.mk.injEq, reduceCtorEq] at hr
    rename_i r hev
    obtain ⟨rfl, rfl, rfl⟩ := hr
    refine Foot.calm ?_
    have : evw e2 (if t then a else b) = evw e (if t then a else b) := by cases t <;> simp [evw_congr ha, evw_congr hb]
    simp only [opRun, evB_congr hc, ht, this, hev]
  | boxR st x =>
    simp only [opRun] at hr
    split at hr
    case h_2 => simp at hr
    rename_i c e1 hev
    split at hr <;> simp only [Option.some.injEq, Prod.mk.injEq, reduceCtorEq] at hr
    rename_i hf
    obtain ⟨rfl, rfl, rfl⟩ := hr
    obtain ⟨us, rfl, q2, q3, _⟩ := evt_foot hev hin
    exact ⟨us, [], rfl, rfl, by simp [opRun, q2, hf], fun t ht => q3 t ht, by simp⟩
  | boxH tg x =>
    simp only [opRun] at hr
    split at hr
    case h_2 => simp at hr
    rename_i c e1 hev
    split at hr <;> simp only [Option.some.injEq, Prod.mk.injEq, reduceCtorEq] at hr
    rename_i hf
    obtain ⟨rfl, rfl, rfl⟩ := hr
    obtain ⟨us, rfl, q2, q3, _⟩ := evt_foot hev hin
    have hh := hhr tg (by simp [DOp.hr])
    obtain ⟨hs, r1, r2, r3⟩ := push_puts (o := .cells c.cells) hh
    exact ⟨us, hs, rfl, r1, by simp [opRun, q2, hf, next_congr hh, r2], fun t ht => q3 t ht, fun t ht => by simp [DOp.hw, r3 t ht]⟩
  | build z ps =>
    simp only [opRun] at hr
    split at hr <;> simp only [Option.some.injEq, Prod.mk.injEq, reduceCtorEq] at hr
    obtain ⟨rfl, rfl, rfl⟩ := hr
    exact Foot.calm (by simp [opRun, buildGo_congr hin, *])
  | bslice sz z len ps =>
    simp only [opRun] at hr
    split at hr <;> simp only [Option.some.injEq, Prod.mk.injEq, reduceCtorEq] at hr
    obtain ⟨rfl, rfl, rfl⟩ := hr
    exact Foot.calm (by simp [opRun, bsliceGo_congr hin, *])
  | load loc x n agg take =>
    have hx : ∀ t, t ∈ x.ins → e2.get t = e.get t := fun t ht => hin t (by simp [DOp.ins, ht])
    simp only [opRun] at hr
    unfold loadOp at hr
    split at hr
    · rename_i sl
      have hsl : e2.get sl = e.get sl := hin sl (by simp [DOp.ins, Loc.ins])
      split at hr
      case h_2 => simp at hr
      rename_i st c off hreg
      split at hr
      case h_2 => simp at hr
      rename_i r hrd
      split at hr
      · rename_i ht
        split at hr <;> simp only [Option.some.injEq, Prod.mk.injEq, reduceCtorEq] at hr
        rename_i c' hw
        obtain ⟨rfl, rfl, rfl⟩ := hr
        subst ht
        exact ⟨[(sl, .var st c')], [], rfl, rfl, by simp [opRun, loadOp, regAt_congr hx hsl, hreg, hrd, hw, Env.sets], by simp [DOp.outs], by simp⟩
      · simp only [Option.some.injEq, Prod.mk.injEq] at hr
        rename_i ht
        obtain ⟨rfl, rfl, rfl⟩ := hr
        exact Foot.calm (by simp [opRun, loadOp, regAt_congr hx hsl, hreg, hrd, ht])
    · split at hr
      · split at hr <;> simp only [Option.some.injEq, Prod.mk.injEq, reduceCtorEq] at hr
        obtain ⟨rfl, rfl, rfl⟩ := hr
        exact Foot.calm (by simp [opRun, loadOp, evS_congr hx, *])
      · split at hr
        case h_2 => simp at hr
        split at hr <;> simp only [Option.some.injEq, Prod.mk.injEq, reduceCtorEq] at hr
        obtain ⟨rfl, rfl, rfl⟩ := hr
        exact Foot.calm (by simp [opRun, loadOp, evS_congr hx, *])
      · simp at hr
    · rename_i tg'
      have hh : h2.at tg' = h.at tg' := hhr tg' (by simp [DOp.hr])
      split at hr
      case h_2 => simp at hr
      rename_i tg i off hev
      split at hr
      case isFalse => simp at hr
      rename_i htg
      subst htg
      split at hr
      case h_2 => simp at hr
      rename_i cs hget
      split at hr
      case h_2 => simp at hr
      rename_i r hrd
      split at hr
      · rename_i ht
        split at hr <;> simp only [Option.some.injEq, Prod.mk.injEq, reduceCtorEq] at hr
        rename_i c' hw
        obtain ⟨rfl, rfl, rfl⟩ := hr
        subst ht
        obtain ⟨hs, r1, r2, r3⟩ := set_puts (i := i) (o := .cells c') hh
        exact ⟨[], hs, rfl, r1, by simp [opRun, loadOp, evS_congr hx, hev, get_congr hh, hget, hrd, hw, r2], by simp, fun t ht => by simp [DOp.hw, r3 t ht]⟩
      · simp only [Option.some.injEq, Prod.mk.injEq] at hr
        rename_i ht
        obtain ⟨rfl, rfl, rfl⟩ := hr
        exact Foot.calm (by simp [opRun, loadOp, evS_congr hx, hev, get_congr hh, hget, hrd, ht])
  | store loc x v n take =>
    have hx : ∀ t, t ∈ x.ins → e2.get t = e.get t := fun t ht => hin t (by simp [DOp.ins, ht])
    have hv : ∀ t, t ∈ v.ins → e2.get t = e.get t := fun t ht => hin t (by simp [DOp.ins, ht])
    simp only [opRun] at hr
    -- the value
    have hval : ∃ c us, (if take then evt e v else (evw e v).map fun a => (a, e)) = some (c, e.sets us) ∧ (if take then evt e2 v else (evw e2 v).map fun a => (a, e2)) = some (c, e2.sets us) ∧ (∀ t, t ∈ us.map Prod.fst → take = true ∧ t ∈ v.ins) := by
      unfold storeOp at hr
      split at hr
      case h_2 => simp at hr
      rename_i c e1 hev
      cases take with
      | true =>
        simp only [if_true] at hev ⊢
        obtain ⟨us, rfl, q2, q3, _⟩ := evt_foot hev hv
        exact ⟨c, us, hev, q2, fun t ht => ⟨trivial, q3 t ht⟩⟩
      | false =>
        simp only [Bool.false_eq_true, if_false] at hev ⊢
        rw [evw_congr hv]
        cases hw : evw e v with
        | none => simp [hw] at hev
        | some c' =>
          simp only [hw, Option.map_some, Option.some.injEq, Prod.mk.injEq] at hev
          exact ⟨c', [], rfl, rfl, by simp⟩
    obtain ⟨c, us, v1, v2, v3⟩ := hval
    have hx' : ∀ t, t ∈ x.ins → (e2.sets us).get t = (e.sets us).get t := fun t ht => by
      rcases Env.sets_get us t with ⟨k1, _⟩ | ⟨_, k1, _⟩
      · rw [k1, k1]; exact hx t ht
      · rw [k1, k1]
    have hkeys : ∀ t, t ∈ us.map Prod.fst → t ∈ (DOp.store loc x v n take).outs := fun t ht => by
      obtain ⟨rfl, h2⟩ := v3 t ht
      simp [DOp.outs, h2]
    unfold storeOp at hr
    rw [v1] at hr
    simp only at hr
    split at hr
    case isFalse => simp at hr
    rename_i hc
    split at hr
    · rename_i sl
      have hsl : (e2.sets us).get sl = (e.sets us).get sl := by
        rcases Env.sets_get us sl with ⟨k1, _⟩ | ⟨_, k1, _⟩
        · rw [k1, k1]; exact hin sl (by simp [DOp.ins, Loc.ins])
        · rw [k1, k1]
      split at hr
      case h_2 => simp at hr
      rename_i st c0 off hreg
      split at hr <;> simp only [Option.some.injEq, Prod.mk.injEq, reduceCtorEq] at hr
      rename_i c' hw
      obtain ⟨rfl, rfl, rfl⟩ := hr
      refine ⟨us ++ [(sl, .var st c')], [], by rw [Env.sets_append]; rfl, rfl, ?_, ?_, by simp⟩
      · simp only [opRun, storeOp, v2, hc, regAt_congr hx' hsl, hreg, hw, Env.sets_append, and_self, if_true]
        rfl
      · intro t ht
        rw [List.map_append, List.mem_append] at ht
        rcases ht with ht | ht
        · exact hkeys t ht
        · simp only [List.map_cons, List.map_nil, List.mem_singleton] at ht
          simp [DOp.outs, Loc.ins, ht]
    · rename_i tg'
      have hh : h2.at tg' = h.at tg' := hhr tg' (by simp [DOp.hr])
      split at hr
      case h_2 => simp at hr
      rename_i tg i off hev
      split at hr
      case isFalse => simp at hr
      rename_i htg
      subst htg
      split at hr
      case h_2 => simp at hr
      rename_i cs hget
      split at hr <;> simp only [Option.some.injEq, Prod.mk.injEq, reduceCtorEq] at hr
      rename_i c' hw
      obtain ⟨rfl, rfl, rfl⟩ := hr
      obtain ⟨hs, r1, r2, r3⟩ := set_puts (i := i) (o := .cells c') hh
      refine ⟨us, hs, rfl, r1, ?_, hkeys, fun t ht => by simp [DOp.hw, r3 t ht]⟩
      simp only [opRun, storeOp, v2, hc, evS_congr hx', hev, get_congr hh, hget, hw, r2, and_self, if_true]
    · simp at hr
  | faddr x off =>
    simp only [opRun] at hr
    split at hr <;> simp only [Option.some.injEq, Prod.mk.injEq, reduceCtorEq] at hr
    obtain ⟨rfl, rfl, rfl⟩ := hr
    exact Foot.calm (by simp [opRun, faddr_congr hin, *])
  | idxA x i len sz =>
    have hx : ∀ t, t ∈ x.ins → e2.get t = e.get t := fun t ht => hin t (by simp [DOp.ins, ht])
    have hi : ∀ t, t ∈ i.ins → e2.get t = e.get t := fun t ht => hin t (by simp [DOp.ins, ht])
    simp only [opRun] at hr
    (repeat' split at hr) <;> first | (simp at hr; done) | skip
    simp only [Option.some.injEq, Prod.mk.injEq] at hr
    obtain ⟨rfl, rfl, rfl⟩ := hr
    exact Foot.calm (by simp [opRun, faddr_congr hx, evI_congr hi, *])
  | idxS x i sz =>
    have hx : ∀ t, t ∈ x.ins → e2.get t = e.get t := fun t ht => hin t (by simp [DOp.ins, ht])
    have hi : ∀ t, t ∈ i.ins → e2.get t = e.get t := fun t ht => hin t (by simp [DOp.ins, ht])
    have heq : opRun C (.idxS x i sz) e2 h2 = (opRun C (.idxS x i sz) e h).map fun p => (p.1, e2, h2) := by
      simp only [opRun, evI_congr hi, evS_congr hx]
      (repeat' split) <;> simp_all
    rw [hr] at heq
    have hcalm : e' = e ∧ h' = h := by
      simp only [opRun] at hr
      (repeat' split at hr) <;> first | (simp at hr; done) | (simp only [Option.some.injEq, Prod.mk.injEq] at hr; exact ⟨hr.2.1.symm, hr.2.2.symm⟩)
    obtain ⟨rfl, rfl⟩ := hcalm
    exact Foot.calm heq
  | index x i len sz agg =>
    have hx : ∀ t, t ∈ x.ins → e2.get t = e.get t := fun t ht => hin t (by simp [DOp.ins, ht])
    have hi : ∀ t, t ∈ i.ins → e2.get t = e.get t := fun t ht => hin t (by simp [DOp.ins, ht])
    have heq : opRun C (.index x i len sz agg) e2 h2 = (opRun C (.index x i len sz agg) e h).map fun p => (p.1, e2, h2) := by
      simp only [opRun, evI_congr hi, evw_congr hx]
      (repeat' split) <;> simp_all
    rw [hr] at heq
    have hcalm : e' = e ∧ h' = h := by
      simp only [opRun] at hr
      (repeat' split at hr) <;> first | (simp at hr; done) | (simp only [Option.some.injEq, Prod.mk.injEq] at hr; exact ⟨hr.2.1.symm, hr.2.2.symm⟩)
    obtain ⟨rfl, rfl⟩ := hcalm
    exact Foot.calm heq
  | sindex x i =>
    have hx : ∀ t, t ∈ x.ins → e2.get t = e.get t := fun t ht => hin t (by simp [DOp.ins, ht])
    have hi : ∀ t, t ∈ i.ins → e2.get t = e.get t := fun t ht => hin t (by simp [DOp.ins, ht])
    have heq : opRun C (.sindex x i) e2 h2 = (opRun C (.sindex x i) e h).map fun p => (p.1, e2, h2) := by
      simp only [opRun, evI_congr hi, evS_congr hx]
      (repeat' split) <;> simp_all
    rw [hr] at heq
    have hcalm : e' = e ∧ h' = h := by
      simp only [opRun] at hr
      (repeat' split at hr) <;> first | (simp at hr; done) | (simp only [Option.some.injEq, Prod.mk.injEq] at hr; exact ⟨hr.2.1.symm, hr.2.2.symm⟩)
    obtain ⟨rfl, rfl⟩ := hcalm
    exact Foot.calm heq
  | field x off n agg =>
    have heq : opRun C (.field x off n agg) e2 h2 = (opRun C (.field x off n agg) e h).map fun p => (p.1, e2, h2) := by
      simp only [opRun, evw_congr hin]
      (repeat' split) <;> simp_all
    rw [hr] at heq
    have hcalm : e' = e ∧ h' = h := by
      simp only [opRun] at hr
      (repeat' split at hr) <;> first | (simp at hr; done) | (simp only [Option.some.injEq, Prod.mk.injEq] at hr; exact ⟨hr.2.1.symm, hr.2.2.symm⟩)
    obtain ⟨rfl, rfl⟩ := hcalm
    exact Foot.calm heq
  | len str x =>
    have heq : opRun C (.len str x) e2 h2 = (opRun C (.len str x) e h).map fun p => (p.1, e2, h2) := by
      simp only [opRun, evS_congr hin]
      (repeat' split) <;> simp_all
    rw [hr] at heq
    have hcalm : e' = e ∧ h' = h := by
      simp only [opRun] at hr
      (repeat' split at hr) <;> first | (simp at hr; done) | (simp only [Option.some.injEq, Prod.mk.injEq] at hr; exact ⟨hr.2.1.symm, hr.2.2.symm⟩)
    obtain ⟨rfl, rfl⟩ := hcalm
    exact Foot.calm heq
  | bin op x y =>
    have hx : ∀ t, t ∈ x.ins → e2.get t = e.get t := fun t ht => hin t (by simp [DOp.ins, ht])
    have hy : ∀ t, t ∈ y.ins → e2.get t = e.get t := fun t ht => hin t (by simp [DOp.ins, ht])
    have heq : opRun C (.bin op x y) e2 h2 = (opRun C (.bin op x y) e h).map fun p => (p.1, e2, h2) := by
      simp only [opRun, evD_congr hx, evD_congr hy]
      (repeat' split) <;> simp_all
    rw [hr] at heq
    have hcalm : e' = e ∧ h' = h := by
      simp only [opRun] at hr
      (repeat' split at hr) <;> first | (simp at hr; done) | (simp only [Option.some.injEq, Prod.mk.injEq] at hr; exact ⟨hr.2.1.symm, hr.2.2.symm⟩)
    obtain ⟨rfl, rfl⟩ := hcalm
    exact Foot.calm heq
  | eqAgg neg sh x y =>
    have hx : ∀ t, t ∈ x.ins → e2.get t = e.get t := fun t ht => hin t (by simp [DOp.ins, ht])
    have hy : ∀ t, t ∈ y.ins → e2.get t = e.get t := fun t ht => hin t (by simp [DOp.ins, ht])
    have heq : opRun C (.eqAgg neg sh x y) e2 h2 = (opRun C (.eqAgg neg sh x y) e h).map fun p => (p.1, e2, h2) := by
      simp only [opRun, evD_congr hx, evD_congr hy]
      (repeat' split) <;> simp_all
    rw [hr] at heq
    have hcalm : e' = e ∧ h' = h := by
      simp only [opRun] at hr
      (repeat' split at hr) <;> first | (simp at hr; done) | (simp only [Option.some.injEq, Prod.mk.injEq] at hr; exact ⟨hr.2.1.symm, hr.2.2.symm⟩)
    obtain ⟨rfl, rfl⟩ := hcalm
    exact Foot.calm heq
  | nilEq neg fn x y =>
    have hx : ∀ t, t ∈ x.ins → e2.get t = e.get t := fun t ht => hin t (by simp [DOp.ins, ht])
    have hy : ∀ t, t ∈ y.ins → e2.get t = e.get t := fun t ht => hin t (by simp [DOp.ins, ht])
    have heq : opRun C (.nilEq neg fn x y) e2 h2 = (opRun C (.nilEq neg fn x y) e h).map fun p => (p.1, e2, h2) := by
      simp only [opRun, evw_congr hx, evw_congr hy]
      (repeat' split) <;> simp_all
    rw [hr] at heq
    have hcalm : e' = e ∧ h' = h := by
      simp only [opRun] at hr
      (repeat' split at hr) <;> first | (simp at hr; done) | (simp only [Option.some.injEq, Prod.mk.injEq] at hr; exact ⟨hr.2.1.symm, hr.2.2.symm⟩)
    obtain ⟨rfl, rfl⟩ := hcalm
    exact Foot.calm heq
  | un op x =>
    have heq : opRun C (.un op x) e2 h2 = (opRun C (.un op x) e h).map fun p => (p.1, e2, h2) := by
      simp only [opRun, evD_congr hin]
      (repeat' split) <;> simp_all
    rw [hr] at heq
    have hcalm : e' = e ∧ h' = h := by
      simp only [opRun] at hr
      (repeat' split at hr) <;> first | (simp at hr; done) | (simp only [Option.some.injEq, Prod.mk.injEq] at hr; exact ⟨hr.2.1.symm, hr.2.2.symm⟩)
    obtain ⟨rfl, rfl⟩ := hcalm
    exact Foot.calm heq
  | conv c x =>
    by_cases hc : c = .bytesBytes
    · subst hc
      simp only [opRun] at hr
      split at hr
      case h_2 => simp at hr
      rename_i a1 e1 hev
      split at hr <;> simp only [Option.some.injEq, Prod.mk.injEq, reduceCtorEq] at hr
      rename_i r hcv
      obtain ⟨rfl, rfl, rfl⟩ := hr
      obtain ⟨us, rfl, q2, q3, _⟩ := evt_foot hev hin
      exact ⟨us, [], rfl, rfl, by simp [opRun, q2, hcv], fun t ht => q3 t ht, by simp⟩
    · have hx : ∀ t, t ∈ x.ins → e2.get t = e.get t := fun t ht => hin t ht
      have heq : opRun C (.conv c x) e2 h2 = (opRun C (.conv c x) e h).map fun p => (p.1, e2, h2) := by
        cases c <;> first | exact absurd rfl hc | (simp only [opRun, evw_congr hx]; (repeat' split) <;> simp_all)
      rw [hr] at heq
      have hcalm : e' = e ∧ h' = h := by
        cases c <;> first | exact absurd rfl hc | (simp only [opRun] at hr; (repeat' split at hr) <;> first | (simp at hr; done) | (simp only [Option.some.injEq, Prod.mk.injEq] at hr; exact ⟨hr.2.1.symm, hr.2.2.symm⟩))
      obtain ⟨rfl, rfl⟩ := hcalm
      exact Foot.calm heq
  | slice str x sz lo hi mx =>
    have hx : ∀ t, t ∈ x.ins → e2.get t = e.get t := fun t ht => hin t (by simp [DOp.ins, ht])
    have hl : ∀ t, t ∈ oins lo → e2.get t = e.get t := fun t ht => hin t (by simp [DOp.ins, ht])
    have hh : ∀ t, t ∈ oins hi → e2.get t = e.get t := fun t ht => hin t (by simp [DOp.ins, ht])
    have hm : ∀ t, t ∈ oins mx → e2.get t = e.get t := fun t ht => hin t (by simp [DOp.ins, ht])
    have hm' : ∀ y, mx = some y → evI e2 y = evI e y := fun y hy => evI_congr fun t ht => hm t (by rw [hy]; exact ht)
    have heq : opRun C (.slice str x sz lo hi mx) e2 h2 = (opRun C (.slice str x sz lo hi mx) e h).map fun p => (p.1, e2, h2) := by
      cases str with
      | true => simp only [opRun, evO_congr hl, evO_congr hh, evS_congr hx]; (repeat' split) <;> simp_all
      | false => cases mx with
        | none => simp only [opRun, evO_congr hl, evO_congr hh, evS_congr hx]; (repeat' split) <;> simp_all
        | some y => cases hi with
          | none => simp [opRun]
          | some z => simp only [opRun, evO_congr hl, evO_congr hh, evS_congr hx, hm' y rfl]; (repeat' split) <;> simp_all
    rw [hr] at heq
    have hcalm : e' = e ∧ h' = h := by
      cases str with
      | true => simp only [opRun] at hr; (repeat' split at hr) <;> first | (simp at hr; done) | (simp only [Option.some.injEq, Prod.mk.injEq] at hr; exact ⟨hr.2.1.symm, hr.2.2.symm⟩)
      | false => cases mx with
        | none => simp only [opRun] at hr; (repeat' split at hr) <;> first | (simp at hr; done) | (simp only [Option.some.injEq, Prod.mk.injEq] at hr; exact ⟨hr.2.1.symm, hr.2.2.symm⟩)
        | some y => cases hi with
          | none => simp [opRun] at hr
          | some z => simp only [opRun] at hr; (repeat' split at hr) <;> first | (simp at hr; done) | (simp only [Option.some.injEq, Prod.mk.injEq] at hr; exact ⟨hr.2.1.symm, hr.2.2.symm⟩)
    obtain ⟨rfl, rfl⟩ := hcalm
    exact Foot.calm heq
  | sliceA x len sz lo hi =>
    have hx : ∀ t, t ∈ x.ins → e2.get t = e.get t := fun t ht => hin t (by simp [DOp.ins, ht])
    have hl : ∀ t, t ∈ oins lo → e2.get t = e.get t := fun t ht => hin t (by simp [DOp.ins, ht])
    have hh : ∀ t, t ∈ oins hi → e2.get t = e.get t := fun t ht => hin t (by simp [DOp.ins, ht])
    have heq : opRun C (.sliceA x len sz lo hi) e2 h2 = (opRun C (.sliceA x len sz lo hi) e h).map fun p => (p.1, e2, h2) := by
      simp only [opRun, evO_congr hl, evO_congr hh, evS_congr hx]
      (repeat' split) <;> simp_all
    rw [hr] at heq
    have hcalm : e' = e ∧ h' = h := by
      simp only [opRun] at hr
      (repeat' split at hr) <;> first | (simp at hr; done) | (simp only [Option.some.injEq, Prod.mk.injEq] at hr; exact ⟨hr.2.1.symm, hr.2.2.symm⟩)
    obtain ⟨rfl, rfl⟩ := hcalm
    exact Foot.calm heq
  | append b x sz bytes =>
    have hb : ∀ t, t ∈ b.ins → e2.get t = e.get t := fun t ht => hin t (by simp [DOp.ins, ht])
    have hx : ∀ t, t ∈ x.ins → e2.get t = e.get t := fun t ht => hin t (by simp [DOp.ins, ht])
    simp only [opRun] at hr
    split at hr
    · rename_i s0 xs e1 hev
      split at hr
      case isFalse => simp at hr
      rename_i h1
      split at hr
      case h_2 => simp at hr
      rename_i c hc
      split at hr
      case h_2 => simp at hr
      rename_i ys hys
      split at hr <;> simp only [Option.some.injEq, Prod.mk.injEq, reduceCtorEq] at hr
      rename_i hl
      obtain ⟨rfl, rfl, rfl⟩ := hr
      obtain ⟨us, rfl, q2, q3, _⟩ := evt_foot hev hb
      exact ⟨us, [], rfl, rfl, by simp only [opRun, q2, h1, evS_congr hx, hc, hys, hl, if_true]; rfl, fun t ht => q3 t ht, by simp⟩
    · rename_i s0 xs e1 hev
      split at hr
      case isFalse => simp at hr
      rename_i h1
      split at hr
      case h_2 => simp at hr
      rename_i c hc
      split at hr
      case h_2 => simp at hr
      rename_i y ys hys
      split at hr <;> simp only [Option.some.injEq, Prod.mk.injEq, reduceCtorEq] at hr
      rename_i hl
      obtain ⟨rfl, rfl, rfl⟩ := hr
      obtain ⟨us, rfl, q2, q3, _⟩ := evt_foot hev hb
      exact ⟨us, [], rfl, rfl, by simp only [opRun, q2, h1, evS_congr hx, hc, hys, hl, if_true]; rfl, fun t ht => q3 t ht, by simp⟩
    · simp at hr
  | call f as m =>
    have has : ∀ t, t ∈ as.flatMap Opd.ins → e2.get t = e.get t := fun t ht => hin t ht
    cases m with
    | pure =>
      have heq : opRun C (.call f as .pure) e2 h2 = (opRun C (.call f as .pure) e h).map fun p => (p.1, e2, h2) := by
        simp only [opRun, evDs_congr has]
        (repeat' split) <;> simp_all
      rw [hr] at heq
      have hcalm : e' = e ∧ h' = h := by
        simp only [opRun] at hr
        (repeat' split at hr) <;> first | (simp at hr; done) | (simp only [Option.some.injEq, Prod.mk.injEq] at hr; exact ⟨hr.2.1.symm, hr.2.2.symm⟩)
      obtain ⟨rfl, rfl⟩ := hcalm
      exact Foot.calm heq
    | own =>
      have heq : opRun C (.call f as .own) e2 h2 = (opRun C (.call f as .own) e h).map fun p => (p.1, e2, h2) := by
        simp only [opRun, evDs_congr has]
        (repeat' split) <;> simp_all
      rw [hr] at heq
      have hcalm : e' = e ∧ h' = h := by
        simp only [opRun] at hr
        (repeat' split at hr) <;> first | (simp at hr; done) | (simp only [Option.some.injEq, Prod.mk.injEq] at hr; exact ⟨hr.2.1.symm, hr.2.2.symm⟩)
      obtain ⟨rfl, rfl⟩ := hcalm
      exact Foot.calm heq
    | ro =>
      have hhe : h2 = h := heap_all hhr
      subst hhe
      have heq : opRun C (.call f as .ro) e2 h2 = (opRun C (.call f as .ro) e h2).map fun p => (p.1, e2, h2) := by
        simp only [opRun, evws_congr has]
        (repeat' split) <;> simp_all
      rw [hr] at heq
      have hcalm : e' = e ∧ h' = h2 := by
        simp only [opRun] at hr
        (repeat' split at hr) <;> first | (simp at hr; done) | (simp only [Option.some.injEq, Prod.mk.injEq] at hr; exact ⟨hr.2.1.symm, hr.2.2.symm⟩)
      obtain ⟨rfl, rfl⟩ := hcalm
      exact Foot.calm heq
    | imp =>
      have hhe : h2 = h := heap_all hhr
      subst hhe
      simp only [opRun] at hr
      split at hr
      case h_2 => simp at hr
      rename_i cs e1 hev
      split at hr <;> simp only [Option.some.injEq, Prod.mk.injEq, reduceCtorEq] at hr
      rename_i r h1 hcall
      obtain ⟨rfl, rfl, rfl⟩ := hr
      obtain ⟨us, rfl, q2, q3, _⟩ := evts_foot hev has
      refine ⟨us, _, rfl, all_puts h2 _, ?_, fun t ht => q3 t ht, by simp [DOp.hw]⟩
      rw [← all_puts]
      simp only [opRun, q2, hcall]
  | callv x as m =>
    have hx : ∀ t, t ∈ x.ins → e2.get t = e.get t := fun t ht => hin t (by simp only [DOp.ins, List.mem_append]; exact .inl ht)
    have has : ∀ t, t ∈ as.flatMap Opd.ins → e2.get t = e.get t := fun t ht => hin t (by simp only [DOp.ins, List.mem_append]; exact .inr ht)
    cases m with
    | pure =>
      have heq : opRun C (.callv x as .pure) e2 h2 = (opRun C (.callv x as .pure) e h).map fun p => (p.1, e2, h2) := by
        simp only [opRun, evS_congr hx, evDs_congr has]
        (repeat' split) <;> simp_all
      rw [hr] at heq
      have hcalm : e' = e ∧ h' = h := by
        simp only [opRun] at hr
        (repeat' split at hr) <;> first | (simp at hr; done) | (simp only [Option.some.injEq, Prod.mk.injEq] at hr; exact ⟨hr.2.1.symm, hr.2.2.symm⟩)
      obtain ⟨rfl, rfl⟩ := hcalm
      exact Foot.calm heq
    | own =>
      simp only [opRun] at hr
      (repeat' split at hr) <;> simp at hr
    | ro =>
      have hhe : h2 = h := heap_all hhr
      subst hhe
      have heq : opRun C (.callv x as .ro) e2 h2 = (opRun C (.callv x as .ro) e h2).map fun p => (p.1, e2, h2) := by
        simp only [opRun, evS_congr hx, evws_congr has]
        (repeat' split) <;> simp_all
      rw [hr] at heq
      have hcalm : e' = e ∧ h' = h2 := by
        simp only [opRun] at hr
        (repeat' split at hr) <;> first | (simp at hr; done) | (simp only [Option.some.injEq, Prod.mk.injEq] at hr; exact ⟨hr.2.1.symm, hr.2.2.symm⟩)
      obtain ⟨rfl, rfl⟩ := hcalm
      exact Foot.calm heq
    | imp =>
      have hhe : h2 = h := heap_all hhr
      subst hhe
      simp only [opRun] at hr
      split at hr
      · rename_i f hf
        split at hr
        case h_2 => simp at hr
        rename_i cs e1 hev
        split at hr <;> simp only [Option.some.injEq, Prod.mk.injEq, reduceCtorEq] at hr
        rename_i r h1 hcall
        obtain ⟨rfl, rfl, rfl⟩ := hr
        obtain ⟨us, rfl, q2, q3, _⟩ := evts_foot hev has
        refine ⟨us, _, rfl, all_puts h2 _, ?_, fun t ht => q3 t ht, by simp [DOp.hw]⟩
        rw [← all_puts]
        simp only [opRun, evS_congr hx, hf, q2, hcall]
      · rename_i f caps hf
        split at hr
        case h_2 => simp at hr
        rename_i cs e1 hev
        split at hr <;> simp only [Option.some.injEq, Prod.mk.injEq, reduceCtorEq] at hr
        rename_i r h1 hcall
        obtain ⟨rfl, rfl, rfl⟩ := hr
        obtain ⟨us, rfl, q2, q3, _⟩ := evts_foot hev has
        refine ⟨us, _, rfl, all_puts h2 _, ?_, fun t ht => q3 t ht, by simp [DOp.hw]⟩
        rw [← all_puts]
        simp only [opRun, evS_congr hx, hf, q2, hcall]
      · simp at hr
  | extract x i take =>
    cases take with
    | true =>
      simp only [opRun, if_true] at hr
      cases hev : evt e x with
      | none => simp [hev] at hr
      | some p =>
        obtain ⟨c, e1⟩ := p
        obtain ⟨us, rfl, q2, q3, _⟩ := evt_foot hev hin
        rw [hev] at hr
        have : e' = e.sets us ∧ h' = h := by
          (repeat' split at hr) <;> first | (simp at hr; done) | (simp_all; done) | skip
          all_goals (simp only [Option.some.injEq, Prod.mk.injEq] at *; simp_all)
        obtain ⟨rfl, rfl⟩ := this
        refine ⟨us, [], rfl, rfl, ?_, fun t ht => q3 t ht, by simp⟩
        simp only [opRun, if_true, q2]
        (repeat' split at hr) <;> first | (simp at hr; done) | (simp_all; done) | skip
    | false =>
      have heq : opRun C (.extract x i false) e2 h2 = (opRun C (.extract x i false) e h).map fun p => (p.1, e2, h2) := by
        simp only [opRun, evw_congr hin, Bool.false_eq_true, if_false]
        cases evw e x with
        | none => simp
        | some c => simp only [Option.map_some]; (repeat' split) <;> simp_all
      rw [hr] at heq
      have hcalm : e' = e ∧ h' = h := by
        simp only [opRun, Bool.false_eq_true, if_false] at hr
        cases hev : evw e x with
        | none => simp [hev] at hr
        | some c =>
          simp only [hev, Option.map_some] at hr
          (repeat' split at hr) <;> first | (simp at hr; done) | (simp_all; done) | skip
      obtain ⟨rfl, rfl⟩ := hcalm
      exact Foot.calm heq
  | mkfn f caps =>
    have heq : opRun C (.mkfn f caps) e2 h2 = (opRun C (.mkfn f caps) e h).map fun p => (p.1, e2, h2) := by
      simp only [opRun, evws_congr hin]
      (repeat' split) <;> simp_all
    rw [hr] at heq
    have hcalm : e' = e ∧ h' = h := by
      simp only [opRun] at hr
      (repeat' split at hr) <;> first | (simp at hr; done) | (simp only [Option.some.injEq, Prod.mk.injEq] at hr; exact ⟨hr.2.1.symm, hr.2.2.symm⟩)
    obtain ⟨rfl, rfl⟩ := hcalm
    exact Foot.calm heq
  | mkmap tg =>
    simp only [opRun] at hr
    split at hr <;> simp only [Option.some.injEq, Prod.mk.injEq, reduceCtorEq] at hr
    rename_i htg
    obtain ⟨rfl, rfl, rfl⟩ := hr
    have hh := hhr tg (by simp [DOp.hr])
    obtain ⟨hs, r1, r2, r3⟩ := push_puts (o := .map [] []) hh
    exact ⟨[], hs, rfl, r1, by simp [opRun, htg, next_congr hh, r2], by simp, fun t ht => by simp [DOp.hw, r3 t ht]⟩
  | insert tg' sh m k v =>
    have hm : ∀ t, t ∈ m.ins → e2.get t = e.get t := fun t ht => hin t (by simp [DOp.ins, ht])
    have hk : ∀ t, t ∈ k.ins → e2.get t = e.get t := fun t ht => hin t (by simp [DOp.ins, ht])
    have hv : ∀ t, t ∈ v.ins → e2.get t = e.get t := fun t ht => hin t (by simp [DOp.ins, ht])
    have hh : h2.at tg' = h.at tg' := hhr tg' (by simp [DOp.hr])
    simp only [opRun] at hr
    split at hr
    case h_2 => simp at hr
    rename_i tg i kd c e1 h1 h3 h4
    split at hr
    case isFalse => simp at hr
    rename_i htg
    subst htg
    split at hr
    case h_2 => simp at hr
    rename_i ks vs hget
    obtain ⟨us, rfl, q2, q3, _⟩ := evt_foot h4 hv
    split at hr
    · rename_i j hf
      simp only [Option.some.injEq, Prod.mk.injEq] at hr
      obtain ⟨rfl, rfl, rfl⟩ := hr
      obtain ⟨hs, r1, r2, r3⟩ := set_puts (i := i) (o := .map ks (vs.set j c)) hh
      exact ⟨us, hs, rfl, r1, by simp [opRun, evS_congr hm, evD_congr hk, h1, h3, q2, get_congr hh, hget, hf, r2], fun t ht => q3 t ht, fun t ht => by simp [DOp.hw, r3 t ht]⟩
    · rename_i hf
      simp only [Option.some.injEq, Prod.mk.injEq] at hr
      obtain ⟨rfl, rfl, rfl⟩ := hr
      obtain ⟨hs, r1, r2, r3⟩ := set_puts (i := i) (o := .map (ks ++ [kd]) (vs ++ [c])) hh
      exact ⟨us, hs, rfl, r1, by simp [opRun, evS_congr hm, evD_congr hk, h1, h3, q2, get_congr hh, hget, hf, r2], fun t ht => q3 t ht, fun t ht => by simp [DOp.hw, r3 t ht]⟩
    · simp at hr
  | lookup tg' sh m k ok z take =>
    have hm : ∀ t, t ∈ m.ins → e2.get t = e.get t := fun t ht => hin t (by simp [DOp.ins, ht])
    have hk : ∀ t, t ∈ k.ins → e2.get t = e.get t := fun t ht => hin t (by simp [DOp.ins, ht])
    have hh : h2.at tg' = h.at tg' := hhr tg' (by simp [DOp.hr])
    simp only [opRun] at hr
    split at hr
    · rename_i tg i kd h1 h3
      split at hr
      case isFalse => simp at hr
      rename_i htg
      subst htg
      split at hr
      case h_2 => simp at hr
      rename_i ks vs hget
      split at hr
      · rename_i j hf
        split at hr
        case h_2 => simp at hr
        rename_i c hc
        cases take with
        | true =>
          simp only [if_true, Option.some.injEq, Prod.mk.injEq] at hr
          obtain ⟨rfl, rfl, rfl⟩ := hr
          obtain ⟨hs, r1, r2, r3⟩ := set_puts (i := i) (o := .map ks (vs.set j (weaken c))) hh
          exact ⟨[], hs, rfl, r1, by simp [opRun, evS_congr hm, evD_congr hk, h1, h3, get_congr hh, hget, hf, hc, r2], by simp, fun t ht => by simp [DOp.hw, r3 t ht]⟩
        | false =>
          simp only [Bool.false_eq_true, if_false, Option.some.injEq, Prod.mk.injEq] at hr
          obtain ⟨rfl, rfl, rfl⟩ := hr
          exact Foot.calm (by simp [opRun, evS_congr hm, evD_congr hk, h1, h3, get_congr hh, hget, hf, hc])
      · rename_i hf
        simp only [Option.some.injEq, Prod.mk.injEq] at hr
        obtain ⟨rfl, rfl, rfl⟩ := hr
        exact Foot.calm (by simp [opRun, evS_congr hm, evD_congr hk, h1, h3, get_congr hh, hget, hf])
      · simp at hr
    · rename_i ks vs kd h1 h3
      split at hr
      · rename_i j hf
        split at hr <;> simp only [Option.some.injEq, Prod.mk.injEq, reduceCtorEq] at hr
        rename_i c hc
        obtain ⟨rfl, rfl, rfl⟩ := hr
        exact Foot.calm (by simp [opRun, evS_congr hm, evD_congr hk, h1, h3, hf, hc])
      · rename_i hf
        simp only [Option.some.injEq, Prod.mk.injEq] at hr
        obtain ⟨rfl, rfl, rfl⟩ := hr
        exact Foot.calm (by simp [opRun, evS_congr hm, evD_congr hk, h1, h3, hf])
      · simp at hr
    · simp at hr
  | nilchk x =>
    have heq : opRun C (.nilchk x) e2 h2 = (opRun C (.nilchk x) e h).map fun p => (p.1, e2, h2) := by
      simp only [opRun, evS_congr hin]
      (repeat' split) <;> simp_all
    rw [hr] at heq
    have hcalm : e' = e ∧ h' = h := by
      simp only [opRun] at hr
      (repeat' split at hr) <;> first | (simp at hr; done) | (simp only [Option.some.injEq, Prod.mk.injEq] at hr; exact ⟨hr.2.1.symm, hr.2.2.symm⟩)
    obtain ⟨rfl, rfl⟩ := hcalm
    exact Foot.calm heq
  | mnmx mx xs =>
    cases xs with
    | nil => simp [opRun] at hr
    | cons x xs =>
      have hx : ∀ t, t ∈ x.ins → e2.get t = e.get t := fun t ht => hin t (by simp [DOp.ins, ht])
      have hxs : ∀ t, t ∈ xs.flatMap Opd.ins → e2.get t = e.get t := fun t ht => hin t (by simp only [DOp.ins, List.flatMap_cons, List.mem_append]; exact .inr ht)
      have heq : opRun C (.mnmx mx (x :: xs)) e2 h2 = (opRun C (.mnmx mx (x :: xs)) e h).map fun p => (p.1, e2, h2) := by
        simp only [opRun, evS_congr hx, mnmxGo_congr hxs]
        (repeat' split) <;> simp_all
      rw [hr] at heq
      have hcalm : e' = e ∧ h' = h := by
        simp only [opRun] at hr
        (repeat' split at hr) <;> first | (simp at hr; done) | (simp only [Option.some.injEq, Prod.mk.injEq] at hr; exact ⟨hr.2.1.symm, hr.2.2.symm⟩)
      obtain ⟨rfl, rfl⟩ := hcalm
      exact Foot.calm heq
  | _ => simp [DOp.plain] at hd
end
end Go.Ab
