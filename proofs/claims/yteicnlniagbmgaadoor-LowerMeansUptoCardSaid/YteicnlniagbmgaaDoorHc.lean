/-
  The document's answers for conditions and policies; the filter of a policy does what the policy says. Conditions: none (definitions and lemmas).
-/
import Derived.Test.YteicnlniagbmgaaDoorHb
/-
  The document's answers (conditions, actions, policies, what a policy says): what these functions answer. Conditions: none.
-/
namespace Go.Ab
open Dig
set_option maxRecDepth 4000

/-! ### texts of numbers -/
def rDigits : Nat → BitVec 64 → List UInt8
  | 0, _ => []
  | k + 1, n => if n < 16#64 then [hexDigit (n % 16#64).toNat] else rDigits k (n / 16#64) ++ [hexDigit (n % 16#64).toNat]
theorem rDigits_len : ∀ (k : Nat) (n : BitVec 64), (rDigits k n).length ≤ k
  | 0, _ => by simp [rDigits]
  | k + 1, n => by
    have := rDigits_len k (n / 16#64)
    simp only [rDigits]; split <;> simp <;> omega
theorem hex_lo (m : BitVec 64) (h : ¬ 9#64 < m) : UInt8.ofNat ((48 + m.toNat) % 18446744073709551616) = hexDigit m.toNat := by
  have h1 : m.toNat ≤ 9 := by have : ¬ 9 < m.toNat := fun hc => h (BitVec.lt_def.2 (by simpa using hc)); omega
  rw [Nat.mod_eq_of_lt (by omega), hexDigit, if_pos (by omega)]
theorem hex_hi (m : BitVec 64) (h : 9#64 < m) (h16 : m.toNat < 16) : UInt8.ofNat ((87 + m.toNat) % 18446744073709551616) = hexDigit m.toNat := by
  have h1 : 9 < m.toNat := by have := BitVec.lt_def.1 h; simpa using this
  rw [Nat.mod_eq_of_lt (by omega), hexDigit, if_neg (by omega)]
@[simp] theorem conv_one (x : UInt8) : conv .bytesStr (.d (.lst [e8 x])) = some (.d (.str [x])) := by
  have h : numsByte [e8 x] = some [x] := numsByte_map [x]
  simp [conv, h]
theorem rdig_eq : ∀ (k : Nat) (n : BitVec 64), n.toNat < 16 ^ (k + 1) → k ≤ 16 → C0.pure 84 [e64 n] = some (.str (rDigits (k + 1) n)) := by
  intro k
  induction k with
  | zero =>
    intro n h hk
    refine pure_by rfl (by rfl) rfl ?_
    have hn : n < 16#64 := BitVec.lt_def.2 (by simpa using h)
    have h16 : (n % 16#64).toNat < 16 := by rw [BitVec.toNat_umod]; exact Nat.mod_lt _ (by decide)
    by_cases h9 : 9#64 < n % 16#64
    · have e := hex_hi _ h9 h16
      simp [fd84, h9, hn, rDigits, e, -BitVec.toNat_umod]
    · have e := hex_lo _ h9
      simp [fd84, h9, hn, rDigits, e, -BitVec.toNat_umod]
  | succ k ih =>
    intro n h hk
    refine pure_by rfl (by rfl) rfl ?_
    have h16 : (n % 16#64).toNat < 16 := by rw [BitVec.toNat_umod]; exact Nat.mod_lt _ (by decide)
    have hq := ih (n / 16#64) (by rw [BitVec.toNat_udiv]; rw [Nat.pow_succ] at h; exact Nat.div_lt_of_lt_mul (by simpa [Nat.mul_comm] using h)) (by omega)
    have hl := rDigits_len (k + 1) (n / 16#64)
    have had : binD .add (.str (rDigits (k + 1) (n / 16#64))) (.str [hexDigit (n % 16#64).toNat]) = some (.str (rDigits (k + 1) (n / 16#64) ++ [hexDigit (n % 16#64).toNat])) := adds _ _ (by simp; omega)
    have e0 : rDigits (k + 2) n = if n < 16#64 then [hexDigit (n % 16#64).toNat] else rDigits (k + 1) (n / 16#64) ++ [hexDigit (n % 16#64).toNat] := rfl
    rw [e0]
    by_cases h9 : 9#64 < n % 16#64
    · have e := hex_hi _ h9 h16
      by_cases hn : n < 16#64 <;> simp [fd84, h9, hn, e, hq, had, -BitVec.toNat_umod]
    · have e := hex_lo _ h9
      by_cases hn : n < 16#64 <;> simp [fd84, h9, hn, e, hq, had, -BitVec.toNat_umod]
def rText (n : BitVec 64) : List UInt8 := [48, 120] ++ rDigits 17 n
theorem rText_len (n : BitVec 64) : (rText n).length ≤ 19 := by have := rDigits_len 17 n; simp [rText]; omega
theorem rText_eq (n : BitVec 64) : C0.pure 52 [e64 n] = some (.str (rText n)) := by
  refine pure_by rfl (by rfl) rfl ?_
  have h := rdig_eq 16 n (by have := n.isLt; omega) (by omega)
  have hl := rDigits_len 17 n
  have had : binD .add (.str [48, 120]) (.str (rDigits 17 n)) = some (.str (rText n)) := adds _ _ (by simp; omega)
  simp [fd52, h, had]
/-! ### actions, conditions -/
def rAction (v : BitVec 32) : List UInt8 := if 327680#32 ≤ v ∧ v ≤ 331775#32 then [101, 114, 114, 111, 114, 58] ++ rText ((v - 327680#32).setWidth 64) else
  if v = 0#32 then [107, 105, 108, 108] else if v = 196608#32 then [116, 114, 97, 112] else if v = 2147221504#32 then [108, 111, 103] else if v = 2147418112#32 then [97, 108, 108, 111, 119] else []
theorem rAction_eq (v : BitVec 32) : C0.pure 32 [e32 v] = some (.str (rAction v)) := by
  refine pure_by rfl (by rfl) rfl ?_
  have hl := rText_len ((v - 327680#32).setWidth 64)
  have had : binD .add (.str [101, 114, 114, 111, 114, 58]) (.str (rText ((v - 327680#32).setWidth 64))) = some (.str ([101, 114, 114, 111, 114, 58] ++ rText ((v - 327680#32).setWidth 64))) := adds _ _ (by simp; omega)
  have ht := rText_eq ((v - 327680#32).setWidth 64)
  by_cases h1 : 327680#32 ≤ v
  · by_cases h2 : v ≤ 331775#32
    · simp [fd32, rAction, h1, h2, ht, had]
    · simp [fd32, rAction, h1, h2]
      by_cases h3 : v = 0#32 <;> simp [h3]
      by_cases h4 : v = 196608#32 <;> simp [h4]
      by_cases h5 : v = 2147221504#32 <;> simp [h5]
      by_cases h6 : v = 2147418112#32 <;> simp [h6]
  · simp [fd32, rAction, h1]
    by_cases h3 : v = 0#32 <;> simp [h3]
    by_cases h4 : v = 196608#32 <;> simp [h4]
    by_cases h5 : v = 2147221504#32 <;> simp [h5]
    by_cases h6 : v = 2147418112#32 <;> simp [h6]
theorem rRight_eq (c : Cond) : C0.pure 17 [eCond c] = some (eb c.right) := by
  refine pure_by rfl (by rfl) rfl ?_
  have e : c.arg < 6 ↔ c.arg ≤ 5 := by omega
  rcases and4 (0 ≤ c.arg) (c.arg ≤ 5) (0 ≤ c.cmp) (c.cmp ≤ 5) with h | ⟨h1, h⟩ | ⟨h1, h2, h⟩ | ⟨h1, h2, h3, h⟩ | ⟨h1, h2, h3, h⟩ <;> simp [fd17, Cond.right, e, *]
def rActOk (v : BitVec 32) : Bool := !decide (rAction v = [])
theorem rActOk_eq (v : BitVec 32) : rActOk v = actionOk v := by
  have e : (327680#32 ≤ v ∧ v ≤ 331775#32) ↔ v - 327680#32 ≤ 4095#32 := by bv_omega
  unfold rActOk actionOk rAction actName
  by_cases h : v - 327680#32 ≤ 4095#32
  · have h' := e.2 h
    simp [h, h', rText]
  · have h' := fun hc => h (e.1 hc)
    simp only [h', if_false, h]
    repeat' split
    all_goals simp_all
def Rule.rRight (x : Rule) : Bool := decide (x.conds.length ≤ 4) && rActOk x.action && x.conds.all Cond.right
theorem rRule_eq (x : Rule) : x.rRight = x.may := by
  unfold Rule.rRight Rule.may; rw [rActOk_eq]
  cases decide (x.conds.length ≤ 4) <;> cases actionOk x.action <;> cases x.conds.all Cond.right <;> rfl
theorem refRight_eq (p : Policy) (hp : p.small) : C0.pure 9 [ePolicy p] = some (eb p.right) := by
  refine pure_by rfl (by rfl) rfl ?_
  have ha := rAction_eq p.dflt
  have hk : rActOk p.dflt = actionOk p.dflt := rActOk_eq p.dflt
  have hn := hp.1
  by_cases hl : 64 < p.rules.length
  · have : ¬ p.rules.length ≤ 64 := by omega
    simp [fd9, hl, Policy.right, this]
  have hl' : p.rules.length ≤ 64 := by omega
  by_cases hd : rAction p.dflt = []
  · have : actionOk p.dflt = false := by rw [← hk]; simp [rActOk, hd]
    simp [fd9, ha, hl, hd, Policy.right, this]
  have hd2 : actionOk p.dflt = true := by rw [← hk]; simp [rActOk, hd]
  simp [fd9, ha, hl, hd]
  refine loop_by (fun i : Nat => p.rules.length - i) (fun i => [(1, .var 0 (.d (ePolicy p))), (3, .v (.d (ei i)))]) (fun _ => {}) (fun i => i ≤ p.rules.length ∧ p.rules.all Rule.may = (p.rules.drop i).all Rule.may) ?_ 0 ⟨by omega, rfl⟩
  intro i ⟨hi, hs⟩ B again
  by_cases h : i < p.rules.length
  · obtain ⟨x, hx, hx', hdr⟩ := drop_at _ i h
    have hy2 := hp.2 x (List.mem_of_getElem? hx)
    rw [hdr, List.all_cons, ← rRule_eq] at hs
    have hax := rAction_eq x.action
    have wi := wrap_succ h (show p.rules.length ≤ 4611686018427387904 by omega)
    by_cases h4 : 4 < x.conds.length
    · have h4' : ¬ x.conds.length ≤ 4 := by omega
      simp only [Rule.rRight, h4', decide_false, Bool.false_and] at hs
      simp [l9_2, h, hx', h4, Policy.right, hs]
    have h4' : x.conds.length ≤ 4 := by omega
    by_cases hxa : rAction x.action = []
    · have h5 : rActOk x.action = false := by simp [rActOk, hxa]
      simp only [Rule.rRight, h5, Bool.and_false, Bool.false_and] at hs
      simp [l9_2, h, hx', h4, hax, hxa, Policy.right, hs]
    have h5 : rActOk x.action = true := by simp [rActOk, hxa]
    simp only [Rule.rRight, h5, h4', decide_true, Bool.true_and] at hs
    simp [l9_2, h, hx', h4, hax, hxa]
    refine loop_by (fun k : Nat => x.conds.length - k) (fun k => [(1, .var 0 (.d (ePolicy p))), (3, .v (.d (ei i))), (4, .var 0 (.d (eRule x))), (5, .v (.d (ei k)))]) (fun _ => {}) (fun k => k ≤ x.conds.length ∧ x.conds.all Cond.right = (x.conds.drop k).all Cond.right) ?_ 0 ⟨by omega, rfl⟩
    intro k ⟨hk1, hs2⟩ B2 again2
    by_cases h6 : k < x.conds.length
    · obtain ⟨y, hy, hy', hdy⟩ := drop_at _ k h6
      have hr := rRight_eq y
      rw [hdy, List.all_cons] at hs2
      have wk := wrap_succ h6 (show x.conds.length ≤ 4611686018427387904 by omega)
      cases hry : y.right with
      | false =>
        rw [hry, Bool.false_and] at hs2
        rw [hs2, Bool.false_and] at hs
        simp [l9_0, h6, hy', hr, hry, Policy.right, hs]
      | true =>
        rw [hry, Bool.true_and] at hs2
        simp [l9_0, h6, hy', hr, hry, wk]
        simpa using again2 (k + 1) ⟨by omega, hs2⟩ (by omega)
    · have : k = x.conds.length := by omega
      subst this
      simp only [List.drop_length, List.all_nil] at hs2
      rw [hs2, Bool.true_and] at hs
      simp [l9_0, k9_1, wi]
      simpa using again (i + 1) ⟨by omega, hs⟩ (by omega)
  · have : i = p.rules.length := by omega
    subst this
    simp only [List.drop_length, List.all_nil] at hs
    simp [l9_2, k9_3, Policy.right, hs, hd2, hl']
/-! ### bits that two numbers have in common -/
def mOut (a b : BitVec 64) (i : Nat) : BitVec 64 := BitVec.ofNat 64 ((a &&& b).toNat % 2 ^ i)
theorem mOut_zero (a b : BitVec 64) : mOut a b 0 = 0#64 := by simp [mOut, Nat.mod_one]
theorem mOut_all (a b : BitVec 64) : mOut a b 64 = a &&& b := by
  apply BitVec.eq_of_toNat_eq
  rw [mOut, BitVec.toNat_ofNat, Nat.mod_mod, Nat.mod_eq_of_lt (a &&& b).isLt]
theorem sh_succ (a : BitVec 64) (i : Nat) : a >>> i / 2#64 = a >>> (i + 1) := by
  apply BitVec.eq_of_toNat_eq
  simp [BitVec.toNat_udiv, Nat.shiftRight_succ]
theorem sh_odd (a : BitVec 64) (i : Nat) : (a >>> i % 2#64 = 1#64) ↔ a.toNat.testBit i = true := by
  rw [BitVec.toNat_inj.symm]
  simp [Nat.testBit, Nat.and_one_is_mod, bne_iff_ne]
theorem one_succ (i : Nat) : BitVec.ofNat 64 (2 ^ i) * 2#64 = BitVec.ofNat 64 (2 ^ (i + 1)) := by
  rw [Nat.pow_succ, BitVec.ofNat_mul]
theorem mOut_succ (a b : BitVec 64) (i : Nat) : mOut a b (i + 1) = if a.toNat.testBit i = true ∧ b.toNat.testBit i = true then mOut a b i + BitVec.ofNat 64 (2 ^ i) else mOut a b i := by
  have h1 : (a &&& b).toNat / 2 ^ i % 2 = (if a.toNat.testBit i = true ∧ b.toNat.testBit i = true then 1 else 0) := by
    have h2 : (a &&& b).toNat.testBit i = (a.toNat.testBit i && b.toNat.testBit i) := by rw [BitVec.toNat_and, Nat.testBit_and]
    have h3 : (a &&& b).toNat.testBit i = decide ((a &&& b).toNat / 2 ^ i % 2 = 1) := Nat.testBit_eq_decide_div_mod_eq
    rw [h3] at h2
    have h4 : (a &&& b).toNat / 2 ^ i % 2 < 2 := Nat.mod_lt _ (by decide)
    split
    · rename_i hh; rw [hh.1, hh.2] at h2; simpa using h2
    · rename_i hh
      have : ¬ ((a &&& b).toNat / 2 ^ i % 2 = 1) := by
        intro hc
        rw [hc] at h2
        apply hh
        simpa using h2.symm
      omega
  unfold mOut
  rw [Nat.mod_pow_succ, h1]
  split
  · rw [Nat.mul_one, BitVec.ofNat_add]
  · rw [Nat.mul_zero, Nat.add_zero]
theorem masked_eq (a b : BitVec 64) : C0.pure 40 [e64 a, e64 b] = some (e64 (a &&& b)) := by
  refine pure_by rfl (by rfl) rfl ?_
  simp [fd40]
  refine loop_by (σ := Nat × BitVec 64 × BitVec 64 × BitVec 64 × BitVec 64) (fun s => 64 - s.1) (fun s => [(0, .v (.d (e64 s.2.1))), (1, .v (.d (e64 s.2.2.1))), (5, .v (.d (e64 s.2.2.2.1))), (6, .v (.d (e64 s.2.2.2.2))), (7, .v (.d (ei s.1)))]) (fun _ => {})
    (fun s => s.1 ≤ 64 ∧ s.2.1 = a >>> s.1 ∧ s.2.2.1 = b >>> s.1 ∧ s.2.2.2.1 = mOut a b s.1 ∧ s.2.2.2.2 = BitVec.ofNat 64 (2 ^ s.1)) ?_ (0, a, b, 0#64, 1#64) ⟨by omega, by simp, by simp, (mOut_zero a b).symm, rfl⟩
  rintro ⟨i, x, y, o, p⟩ ⟨hi, hx, hy, ho, hp⟩ B again
  simp only at hi hx hy ho hp
  by_cases h : i < 64
  · have wi := wrap_succ h (show 64 ≤ 4611686018427387904 by omega)
    have hs := mOut_succ a b i
    have hxo := sh_odd a i
    have hyo := sh_odd b i
    rw [← hx] at hxo
    rw [← hy] at hyo
    rw [← ho, ← hp] at hs
    have hx2 : x / 2#64 = a >>> (i + 1) := by rw [hx, sh_succ]
    have hy2 : y / 2#64 = b >>> (i + 1) := by rw [hy, sh_succ]
    have hp2 : p * 2#64 = BitVec.ofNat 64 (2 ^ (i + 1)) := by rw [hp, one_succ]
    have g := again (i + 1, x / 2#64, y / 2#64, mOut a b (i + 1), p * 2#64) ⟨by simp; omega, hx2, hy2, rfl, hp2⟩ (by simp; omega)
    by_cases hx1 : x % 2#64 = 1#64
    · by_cases hy1 : y % 2#64 = 1#64
      · rw [if_pos ⟨hxo.1 hx1, hyo.1 hy1⟩] at hs
        rw [hs] at g
        simp [l40_0, h, hx1, hy1, wi]
        simpa using g
      · rw [if_neg (fun hc => hy1 (hyo.2 hc.2))] at hs
        rw [hs] at g
        simp [l40_0, h, hx1, hy1, wi]
        simpa using g
    · rw [if_neg (fun hc => hx1 (hxo.2 hc.1))] at hs
      rw [hs] at g
      simp [l40_0, h, hx1, wi]
      simpa using g
  · have : i = 64 := by omega
    subst this
    rw [mOut_all] at ho
    simp [l40_0, k40_1, ho]
/-! ### conditions, rules: what they say of a record -/
def Cond.val (c : Cond) (d : Data) : BitVec 64 := (d.args.toList[c.arg.toNat]?).getD 0#64 &&& c.mask
def cmpB (k : Int) (v w : BitVec 64) : Bool := if k = 0 then decide (v = w) else if k = 1 then !decide (v = w) else if k = 2 then decide (v < w) else if k = 3 then !decide (w < v) else if k = 4 then decide (w < v) else !decide (v < w)
def Cond.holds (c : Cond) (d : Data) : Bool := c.right && cmpB c.cmp (c.val d) c.value
theorem lt_or (v w : BitVec 64) : (!decide (v < w) && !decide (w < v)) = decide (v = w) := by
  by_cases h : v = w
  · subst h; simp
  · simp [h]; bv_omega
theorem holds_eq (c : Cond) (d : Data) : C0.pure 18 [eCond c, eData d] = some (eb (c.holds d)) := by
  refine pure_by rfl (by rfl) rfl ?_
  have hr := rRight_eq c
  cases hc : c.right with
  | false => simp [fd18, hr, hc, Cond.holds]
  | true =>
    have hca := hc
    simp only [Cond.right, Bool.and_eq_true, decide_eq_true_eq] at hc
    obtain ⟨⟨⟨h1, h2⟩, h3⟩, h4⟩ := hc
    have hlt : c.arg.toNat < d.args.toList.length := by simp; omega
    obtain ⟨v, hv, hv', _⟩ := drop_at d.args.toList c.arg.toNat hlt
    have hm := masked_eq v c.mask
    have e : c.val d = v &&& c.mask := by simp [Cond.val, hv]
    simp only [Cond.holds, hca, Bool.true_and, e]
    have h5 : c.arg.toNat < 6 := by omega
    have h6 : d.args[c.arg.toNat]'h5 = v := by rw [← hv']; simp
    simp [fd18, hr, hca, h1, h2, h5, Nat.add_comm 3, h6, hm]
    generalize v &&& c.mask = u
    have hcm : c.cmp = 0 ∨ c.cmp = 1 ∨ c.cmp = 2 ∨ c.cmp = 3 ∨ c.cmp = 4 ∨ c.cmp = 5 := by omega
    have hlo := lt_or u c.value
    by_cases hl : u < c.value
    · have hne : ¬ u = c.value := by bv_omega
      have hng : ¬ c.value < u := by bv_omega
      rcases hcm with h | h | h | h | h | h <;> simp [h, hl, hne, hng, cmpB]
    · by_cases hg : c.value < u
      · have hne : ¬ u = c.value := by bv_omega
        rcases hcm with h | h | h | h | h | h <;> simp [h, hl, hne, hg, cmpB]
      · have hne : u = c.value := by bv_omega
        rcases hcm with h | h | h | h | h | h <;> simp [h, hne, cmpB]
def Rule.fits (x : Rule) (d : Data) : Bool := x.conds.all (fun c => c.holds d) && decide (x.arch = d.arch) && decide (x.nr = d.nr)
theorem fits_eq (x : Rule) (d : Data) (hx : x.conds.length ≤ 4611686018427387904) : C0.pure 60 [eRule x, eData d] = some (eb (x.fits d)) := by
  refine pure_by rfl (by rfl) rfl ?_
  simp [fd60]
  refine loop_by (σ := Nat × Nat) (fun s => x.conds.length - s.1) (fun s => [(2, .var 0 (.d (eRule x))), (3, .var 0 (.d (eData d))), (5, .v (.d (ei s.2))), (6, .v (.d (ei s.1)))]) (fun _ => {})
    (fun s => s.1 ≤ x.conds.length ∧ s.2 = ((x.conds.take s.1).filter fun c => c.holds d).length) ?_ (0, 0) ⟨by simp, by simp⟩
  rintro ⟨i, n⟩ ⟨hi, hn⟩ B again
  simp only at hi hn
  by_cases h : i < x.conds.length
  · obtain ⟨y, hy, hy', hd⟩ := drop_at _ i h
    have hh := holds_eq y d
    have wi := wrap_succ h hx
    have hle : n ≤ i := by
      rw [hn]; refine Nat.le_trans (List.length_filter_le _ _) ?_; simp; omega
    have wn := wrap_succ (Nat.lt_of_le_of_lt hle h) hx
    have ht : x.conds.take (i + 1) = x.conds.take i ++ [y] := by rw [List.take_add_one, hy]; rfl
    cases hy2 : y.holds d with
    | false =>
      have g := again (i + 1, n) ⟨by simp; omega, by simp only [ht, List.filter_append, List.length_append]; simp [hy2, hn]⟩ (by simp; omega)
      simp [l60_0, h, hy', hh, hy2, wi]
      simpa using g
    | true =>
      have g := again (i + 1, n + 1) ⟨by simp; omega, by simp only [ht, List.filter_append, List.length_append]; simp [hy2, hn]⟩ (by simp; omega)
      simp [l60_0, h, hy', hh, hy2, wi, wn]
      simpa using g
  · have : i = x.conds.length := by omega
    subst this
    rw [List.take_length] at hn
    have hall : (x.conds.all fun c => c.holds d) = decide ((n : Int) = (x.conds.length : Int)) := by
      rw [hn, Bool.eq_iff_iff, decide_eq_true_eq, List.all_eq_true]
      constructor
      · intro hc; rw [List.filter_eq_self.2 hc]
      · intro hc c hm
        have := List.length_filter_eq_length_iff.1 (by omega : (x.conds.filter fun c => c.holds d).length = x.conds.length)
        exact this c hm
    by_cases hc : n = x.conds.length
    · have hall' : (x.conds.all fun c => c.holds d) = true := by rw [hall]; simp [hc]
      by_cases h1 : x.arch = d.arch
      · by_cases h2 : x.nr = d.nr <;> simp [l60_0, k60_1, Rule.fits, hall', hc, h1, h2]
      · simp [l60_0, k60_1, Rule.fits, hall', hc, h1]
    · have hc' : ¬ (n : Int) = (x.conds.length : Int) := by omega
      have hall' : (x.conds.all fun c => c.holds d) = false := by rw [hall]; simp [hc']
      simp [l60_0, k60_1, Rule.fits, hall', hc']
/-- the first rule that fits. -/
def firstGo (d : Data) : List Rule → Nat → Int
  | [], _ => -1
  | x :: r, i => if x.fits d then i else firstGo d r (i + 1)
theorem firstGo_find (d : Data) : ∀ (l : List Rule) (i : Nat), (firstGo d l i = -1 ∧ l.find? (fun x => x.fits d) = none) ∨ ∃ k x, firstGo d l i = ((i + k : Nat) : Int) ∧ l[k]? = some x ∧ l.find? (fun x => x.fits d) = some x
  | [], i => by simp [firstGo]
  | x :: r, i => by
    cases hx : x.fits d with
    | true => right; exact ⟨0, x, by simp [firstGo, hx], by simp, by simp [hx]⟩
    | false =>
      rcases firstGo_find d r (i + 1) with ⟨h1, h2⟩ | ⟨k, y, h1, h2, h3⟩
      · left; simp [firstGo, hx, h1, h2]
      · right; exact ⟨k + 1, y, by simp only [firstGo, hx]; rw [if_neg (by simp), h1]; congr 1; omega, by simpa using h2, by simp [hx, h3]⟩
theorem first_eq (p : Policy) (d : Data) (hp : p.small) : C0.pure 36 [ePolicy p, eData d] = some (ei (firstGo d p.rules 0)) := by
  refine pure_by rfl (by rfl) rfl ?_
  have hn := hp.1
  have w0 : IntKind.wrap .i64 ((p.rules.length : Int) - 1) = (p.rules.length : Int) - 1 := wrap_i64' _ (by omega) (by omega)
  simp [fd36, w0]
  refine loop_by (σ := Nat × Int) (fun s => s.1) (fun s => [(2, .var 0 (.d (ePolicy p))), (3, .var 0 (.d (eData d))), (5, .v (.d (ei s.2))), (6, .v (.d (ei ((s.1 : Int) - 1))))]) (fun _ => {})
    (fun s => s.1 ≤ p.rules.length ∧ s.2 = firstGo d (p.rules.drop s.1) s.1) ?_ (p.rules.length, -1) ⟨by simp, by simp [firstGo]⟩
  rintro ⟨j, f⟩ ⟨hj, hf⟩ B again
  simp only at hj hf
  cases j with
  | zero =>
    rw [List.drop_zero] at hf
    simp [l36_0, k36_1, hf]
  | succ i =>
    obtain ⟨y, hy, hy', hd⟩ := drop_at p.rules i (by omega)
    have hh := fits_eq y d (by have := hp.2 y (List.mem_of_getElem? hy); omega)
    have e1 : ((i + 1 : Nat) : Int) - 1 = (i : Int) := by omega
    have w1 : IntKind.wrap .i64 ((i : Int) - 1) = (i : Int) - 1 := wrap_i64' _ (by omega) (by omega)
    have hi : i < p.rules.length := by omega
    have e2 : firstGo d (p.rules.drop i) i = if y.fits d then (i : Int) else f := by rw [hd, firstGo, hf]
    simp only [e1]
    cases hb : y.fits d with
    | false =>
      have g := again (i, f) ⟨by simp; omega, by rw [e2, hb]; rfl⟩ (by simp)
      simp [l36_0, hi, hy', hh, hb, w1]
      simpa using g
    | true =>
      have g := again (i, (i : Int)) ⟨by simp; omega, by rw [e2, hb]; rfl⟩ (by simp)
      simp [l36_0, hi, hy', hh, hb, w1]
      simpa using g
def Policy.judge (p : Policy) (d : Data) : BitVec 32 := match p.rules.find? (fun x => x.fits d) with
  | some x => x.action
  | none => p.dflt
theorem judge_eq (p : Policy) (d : Data) (hp : p.small) : C0.pure 11 [ePolicy p, eData d] = some (e32 (p.judge d)) := by
  refine pure_by rfl (by rfl) rfl ?_
  have hf := first_eq p d hp
  rcases firstGo_find d p.rules 0 with ⟨h1, h2⟩ | ⟨k, x, h1, h2, h3⟩
  · rw [h1] at hf
    simp [fd11, hf, Policy.judge, h2]
  · rw [h1, Nat.zero_add] at hf
    obtain ⟨hk, hx'⟩ := List.getElem?_eq_some_iff.1 h2
    simp [fd11, hf, Policy.judge, h3, hk, hx']
end Go.Ab

/-
  Code from behind, and what a run of it comes to: instructions at the front, branches. Conditions: none (definitions and lemmas).
-/
namespace Go.Ab

/-- what is left of a filter behind a label. -/
def sufAt (c : List Ins) (l : Int) : List Ins := c.drop (c.length - l.toNat)
theorem sufAt_cons (x : Ins) (c : List Ins) {l : Int} (h : l ≤ c.length) : sufAt (x :: c) l = sufAt c l := by
  unfold sufAt
  have e : (x :: c).length - l.toNat = (c.length - l.toNat) + 1 := by simp; omega
  rw [e, List.drop_succ_cons]
theorem sufAt_app (p c : List Ins) {l : Int} (h : l ≤ c.length) : sufAt (p ++ c) l = sufAt c l := by
  induction p with
  | nil => rfl
  | cons x p ih => rw [List.cons_append, sufAt_cons _ _ (by simp; omega), ih]
theorem sufAt_all (c : List Ins) {l : Int} (h : l = c.length) : sufAt c l = c := by subst h; simp [sufAt]
theorem sufAt_drop (c : List Ins) {l : Int} (h1 : 0 ≤ l) (h2 : l ≤ c.length) {j : Nat} (hj : (j : Int) = c.length - l) : c.drop j = sufAt c l := by
  unfold sufAt
  congr 1
  omega
/-- every instruction is one, and leads to what is there. -/
def goodL : List Ins → Prop
  | [] => True
  | x :: r => insErr r.length x = 0 ∧ goodL r
theorem goodL_at : ∀ {c : List Ins}, goodL c → ∀ i x, c[i]? = some x → insErr (c.length - (i + 1)) x = 0
  | [], _, i, x, h => by simp at h
  | y :: r, hg, 0, x, h => by
    simp at h; subst h
    simpa using hg.1
  | y :: r, hg, i + 1, x, h => by
    have := goodL_at hg.2 i x (by simpa using h)
    have e : (y :: r).length - (i + 1 + 1) = r.length - (i + 1) := by simp
    rw [e]; exact this
theorem lastEnds_cons (x : Ins) {c : List Ins} (h : c ≠ []) : lastEnds (x :: c) = lastEnds c := by
  unfold lastEnds
  have h1 : 0 < c.length := List.length_pos_iff.2 h
  have e : (x :: c).length - 1 = (c.length - 1) + 1 := by simp; omega
  rw [e, List.getElem?_cons_succ]
/-- a maker without an error, whose code is sound so far. -/
structure Mok (m : Mk) : Prop where
  e : m.e = 0
  good : goodL m.c
  last : lastEnds m.c = true
  ne : m.c ≠ []
/-- it grew, by at most so many instructions. -/
structure Grew (m m' : Mk) (n : Nat) : Prop where
  ok : Mok m'
  suf : m.c <:+ m'.c
  len : m'.c.length ≤ m.c.length + n
theorem Grew.refl {m : Mk} (h : Mok m) (n : Nat) : Grew m m n := ⟨h, List.suffix_refl _, by omega⟩
theorem Grew.trans {a b c : Mk} {i j : Nat} (h1 : Grew a b i) (h2 : Grew b c j) : Grew a c (i + j) := ⟨h2.ok, h1.suf.trans h2.suf, by have := h1.len; have := h2.len; omega⟩
theorem Grew.mono {a b : Mk} {i j : Nat} (h : Grew a b i) (hij : i ≤ j) : Grew a b j := ⟨h.ok, h.suf, by have := h.len; omega⟩
theorem Grew.ge {a b : Mk} {i : Nat} (h : Grew a b i) : a.c.length ≤ b.c.length := h.suf.length_le
/-- from a label, a run comes to this, by what is in A. -/
structure Val (d : Data) (c : List Ins) (l : Int) (g : BitVec 32 → BitVec 32) : Prop where
  lo : 1 ≤ l
  hi : l ≤ c.length
  run : ∀ s : State, (runL d (sufAt c l) s).1 = g s.a
theorem Val.mono {d : Data} {c c' : List Ins} {l : Int} {g : BitVec 32 → BitVec 32} (h : Val d c l g) (hs : c <:+ c') : Val d c' l g := by
  obtain ⟨p, rfl⟩ := hs
  refine ⟨h.lo, by have := h.hi; simp; omega, fun s => ?_⟩
  rw [sufAt_app _ _ h.hi]; exact h.run s
theorem Val.grew {d : Data} {m m' : Mk} {n : Nat} {l : Int} {g : BitVec 32 → BitVec 32} (h : Val d m.c l g) (hg : Grew m m' n) : Val d m'.c l g := h.mono hg.suf
theorem Val.label {d : Data} {c : List Ins} {l : Int} {g : BitVec 32 → BitVec 32} (h : Val d c l g) : isLabel c l = true := by
  simp [isLabel, h.lo, h.hi]
theorem Val.cons {d : Data} {x : Ins} {c : List Ins} {g : BitVec 32 → BitVec 32} (h : ∀ s : State, (runL d (x :: c) s).1 = g s.a) : Val d (x :: c) ((x :: c).length : Int) g :=
  ⟨by simp; omega, Int.le_refl _, fun s => by rw [sufAt_all _ rfl]; exact h s⟩

/-! ### an instruction at the front -/
theorem add_grew {m : Mk} (hm : Mok m) {op : Int} {k : BitVec 32} (hlen : m.c.length < 4096) (hr : Ins.right ⟨op, 0, 0, k⟩ = true) (h5 : op ≠ 5) (hb : isBranch op = false) (he : ruleErr ⟨op, 0, 0, k⟩ = 0) :
    (m.add op k).1.c = ⟨op, 0, 0, k⟩ :: m.c ∧ (m.add op k).2 = ((m.add op k).1.c.length : Int) ∧ Grew m (m.add op k).1 1 := by
  have e : m.add op k = (⟨⟨op, 0, 0, k⟩ :: m.c, 0⟩, (m.c.length : Int) + 1) := by
    simp [Mk.add, Mk.took, hm.e, codeAdd, hr, h5, hb, ahead, hlen]
  rw [e]
  refine ⟨rfl, by simp, ⟨rfl, ⟨?_, hm.good⟩, ?_, by simp⟩, List.suffix_cons _ _, by simp⟩
  · simp [insErr, hr, he, h5, hb]
  · rw [lastEnds_cons _ hm.ne]; exact hm.last

/-! ### a branch at the front -/
theorem closer_grew {c : List Ins} {to : Int} (hl : isLabel c to = true) (hlen : c.length < 4096) (hg : goodL c) (he : lastEnds c = true) :
    (closer c to).2.2 = 0 ∧ goodL (closer c to).1 ∧ lastEnds (closer c to).1 = true ∧ c <:+ (closer c to).1 ∧ (closer c to).1.length ≤ c.length + 1 ∧
      ((closer c to).1.length : Int) - (closer c to).2.1 ≤ 254 ∧ ∀ d g, Val d c to g → Val d (closer c to).1 (closer c to).2.1 g := by
  simp only [isLabel, Bool.and_eq_true, decide_eq_true_eq] at hl
  have hl' : isLabel c to = true := by simp [isLabel, hl]
  have hne : c ≠ [] := by rintro rfl; simp at hl; omega
  unfold closer
  split
  · rename_i h
    exact ⟨rfl, hg, he, List.suffix_refl _, by simp, h, fun d g h => h⟩
  · rename_i h
    have hto : to ≠ c.length := by omega
    have e : codeJump c to = (⟨5, 0, 0, BitVec.ofInt 32 (c.length - to)⟩ :: c, (c.length : Int) + 1, 0) := by simp [codeJump, hl', hto, ahead, hlen]
    have hk : (BitVec.ofInt 32 ((c.length : Int) - to)).toNat = ((c.length : Int) - to).toNat := by
      rw [BitVec.toNat_ofInt]; omega
    rw [e]
    refine ⟨rfl, ⟨?_, hg⟩, ?_, List.suffix_cons _ _, by simp, by simp, fun d g h => ?_⟩
    · have hr : Ins.right ⟨5, 0, 0, BitVec.ofInt 32 ((c.length : Int) - to)⟩ = true := by simp [Ins.right]; rfl
      have hre : ruleErr ⟨5, 0, 0, BitVec.ofInt 32 ((c.length : Int) - to)⟩ = 0 := by simp [ruleErr]
      have hb5 : isBranch 5 = false := rfl
      simp only [insErr, hr, hre, hb5, hk]
      simp; omega
    · rw [lastEnds_cons _ hne]; exact he
    · have hx := Val.cons (d := d) (x := ⟨5, 0, 0, BitVec.ofInt 32 (c.length - to)⟩) (c := c) (g := g) (fun s => by
        rw [runL]
        simp only [hk]
        rw [sufAt_drop c (by omega) hl.2 (j := ((c.length : Int) - to).toNat) (by omega)]
        simpa using h.run s)
      simpa using hx
/-- how a branch compares. -/
def cmp32 (op : Int) (a k : BitVec 32) : Bool := if op = 21 then decide (a = k) else if op = 37 then decide (k < a) else decide (k ≤ a)
theorem cmp_ops {op : Int} (h : op = 21 ∨ op = 37 ∨ op = 53) : isBranch op = true ∧ op ≠ 6 ∧ op ≠ 22 ∧ op ≠ 5 ∧ (∀ (x y : Int) k, Ins.right ⟨op, x, y, k⟩ = (decide (0 ≤ x) && decide (x ≤ 255) && decide (0 ≤ y) && decide (y ≤ 255))) ∧ (∀ (x y : Int) k, ruleErr ⟨op, x, y, k⟩ = 0) ∧ ∀ (s : State) (x y : Int) k, takesF s ⟨op, x, y, k⟩ = cmp32 op s.a k := by
  rcases h with rfl | rfl | rfl
  all_goals refine ⟨by decide, by decide, by decide, by decide, fun x y k => ?_, fun x y k => ?_, fun s x y k => ?_⟩
  all_goals first
    | (simp [ruleErr]; done)
    | (simp [takesF, cmp32]; done)
    | (simp [Ins.right]; rfl)
theorem branch_grew {m : Mk} (hm : Mok m) {op : Int} (k : BitVec 32) {t f : Int} (hop : op = 21 ∨ op = 37 ∨ op = 53) (hlen : m.c.length + 3 ≤ 4096) (ht : isLabel m.c t = true) (hf : isLabel m.c f = true) :
    Grew m (m.branch op k t f).1 3 ∧ (m.branch op k t f).2 = ((m.branch op k t f).1.c.length : Int) ∧
      ∀ d gt gf, Val d m.c t gt → Val d m.c f gf → Val d (m.branch op k t f).1.c (m.branch op k t f).2 fun a => if cmp32 op a k then gt a else gf a := by
  obtain ⟨o1, o2, o3, o4, o5, o6, o7⟩ := cmp_ops hop
  obtain ⟨a1, a2, a3, a4, a5, a6, a7⟩ := closer_grew ht (by omega) hm.good hm.last
  have hf' : isLabel (closer m.c t).1 f = true := label_mono hf a4.length_le
  obtain ⟨b1, b2, b3, b4, b5, b6, b7⟩ := closer_grew hf' (by omega) a2 a3
  have l1 := closer_facts m.c t (by omega) ht
  have l2 := closer_facts (closer m.c t).1 f (by omega) hf'
  have lt1 : 1 ≤ (closer m.c t).2.1 ∧ (closer m.c t).2.1 ≤ (closer m.c t).1.length := by
    have : isLabel (closer m.c t).1 (closer m.c t).2.1 = true := by
      simp only [isLabel, Bool.and_eq_true, decide_eq_true_eq] at ht
      unfold closer codeJump
      repeat' split
      · simp [isLabel, ht]
      · simp [isLabel, ht]
      · unfold ahead; rw [if_pos (by omega)]; simp [isLabel]; omega
      · rename_i h; simp [isLabel, ht] at h
    simpa [isLabel] using this
  have lt2 : 1 ≤ (closer (closer m.c t).1 f).2.1 ∧ (closer (closer m.c t).1 f).2.1 ≤ (closer (closer m.c t).1 f).1.length := by
    have : isLabel (closer (closer m.c t).1 f).1 (closer (closer m.c t).1 f).2.1 = true := by
      generalize (closer m.c t).1 = c1 at *
      simp only [isLabel, Bool.and_eq_true, decide_eq_true_eq] at hf'
      unfold closer codeJump
      repeat' split
      · simp [isLabel, hf']
      · simp [isLabel, hf']
      · unfold ahead; rw [if_pos (by omega)]; simp [isLabel]; omega
      · rename_i h; simp [isLabel, hf'] at h
    simpa [isLabel] using this
  have hr0 : Ins.right ⟨op, 0, 0, k⟩ = true := by rw [o5]; decide
  generalize hc1 : closer m.c t = r1 at *
  obtain ⟨c1, t1, e1⟩ := r1
  simp only at *
  generalize hc2 : closer c1 f = r2 at *
  obtain ⟨c2, f1, e2⟩ := r2
  simp only at *
  have hlt : c2.length < 4096 := by omega
  have e : m.branch op k t f = (⟨⟨op, c2.length - t1, c2.length - f1, k⟩ :: c2, 0⟩, (c2.length : Int) + 1) := by
    simp [Mk.branch, Mk.took, hm.e, codeBranch, o1, hr0, ht, hf, hc1, hc2, a1, b1, ahead, hlt]
  have hne : c2 ≠ [] := by rintro rfl; simp at lt2; omega
  have hjt : (0 : Int) ≤ c2.length - t1 ∧ (c2.length : Int) - t1 ≤ 255 := by have := b4.length_le; omega
  have hjf : (0 : Int) ≤ c2.length - f1 ∧ (c2.length : Int) - f1 ≤ 255 := by omega
  rw [e]
  refine ⟨⟨⟨rfl, ⟨?_, b2⟩, ?_, by simp⟩, (a4.trans b4).trans (List.suffix_cons _ _), by simp; omega⟩, by simp, fun d gt gf vt vf => ?_⟩
  · have hr : Ins.right ⟨op, c2.length - t1, c2.length - f1, k⟩ = true := by rw [o5]; simp only [Bool.and_eq_true, decide_eq_true_eq]; omega
    simp only [insErr, hr, o6]
    simp [o4, o1]; omega
  · rw [lastEnds_cons _ hne]; exact b3
  · have w1 := (a7 d gt vt).mono b4
    have w2 := b7 d gf (vf.mono a4)
    have hx := Val.cons (d := d) (x := ⟨op, c2.length - t1, c2.length - f1, k⟩) (c := c2) (g := fun a => if cmp32 op a k then gt a else gf a) (fun s => by
      rw [runL]
      simp only [o2, o3, o4, o1, if_false, if_true, o7]
      cases hcm : cmp32 op s.a k with
      | true =>
        simp only [if_true]
        rw [sufAt_drop c2 (by omega) w1.hi (j := ((c2.length : Int) - t1).toNat) (by omega)]
        exact w1.run s
      | false =>
        simp only [Bool.false_eq_true, if_false]
        rw [sufAt_drop c2 (by omega) w2.hi (j := ((c2.length : Int) - f1).toNat) (by omega)]
        exact w2.run s)
    simpa using hx
end Go.Ab

/-
  A condition in code: what a run of it comes to. Conditions: none (definitions and lemmas).
-/
namespace Go.Ab

/-! ### words of a record -/
def argOf (d : Data) (a : Int) : BitVec 64 := (d.args.toList[a.toNat]?).getD 0#64
theorem word_low (d : Data) {a : Int} (h0 : 0 ≤ a) (h6 : a < 6) : wordOf d (lowAt a) = some ((argOf d a).setWidth 32) := by
  obtain ⟨a0, a1, a2, a3, a4, a5, hl⟩ := vec6 d.args
  have : a = 0 ∨ a = 1 ∨ a = 2 ∨ a = 3 ∨ a = 4 ∨ a = 5 := by omega
  rcases this with rfl | rfl | rfl | rfl | rfl | rfl <;> simp [wordOf, lowAt, argOf, Data.words, hl, loW]
theorem word_high (d : Data) {a : Int} (h0 : 0 ≤ a) (h6 : a < 6) : wordOf d (highAt a) = some ((argOf d a >>> 32).setWidth 32) := by
  obtain ⟨a0, a1, a2, a3, a4, a5, hl⟩ := vec6 d.args
  have : a = 0 ∨ a = 1 ∨ a = 2 ∨ a = 3 ∨ a = 4 ∨ a = 5 := by omega
  rcases this with rfl | rfl | rfl | rfl | rfl | rfl <;> simp [wordOf, highAt, argOf, Data.words, hl, hiW]
theorem word_nr (d : Data) : wordOf d 0#32 = some d.nr := by simp [wordOf, Data.words]
theorem word_arch (d : Data) : wordOf d 4#32 = some d.arch := by simp [wordOf, Data.words]
theorem at_ok {a : Int} (h0 : 0 ≤ a) (h6 : a < 6) : (lowAt a % 4#32 = 0#32 ∧ lowAt a < 64#32) ∧ (highAt a % 4#32 = 0#32 ∧ highAt a < 64#32) := by
  have : a = 0 ∨ a = 1 ∨ a = 2 ∨ a = 3 ∨ a = 4 ∨ a = 5 := by omega
  rcases this with rfl | rfl | rfl | rfl | rfl | rfl <;> decide

/-! ### words at the front -/
theorem and_step {m : Mk} (hm : Mok m) (k : BitVec 32) (hlen : m.c.length < 4096) :
    Grew m (m.add 84 k).1 1 ∧ (m.add 84 k).2 = ((m.add 84 k).1.c.length : Int) ∧ ∀ d g, Val d m.c m.c.length g → Val d (m.add 84 k).1.c (m.add 84 k).1.c.length fun a => g (a &&& k) := by
  obtain ⟨h1, h2, h3⟩ := add_grew (k := k) hm (op := 84) hlen (by simp [Ins.right]; rfl) (by decide) (by decide) (by simp [ruleErr])
  refine ⟨h3, h2, fun d g h => ?_⟩
  rw [h1]
  refine Val.cons fun s => ?_
  have hs : stepF s ⟨84, 0, 0, k⟩ d = some { s with a := s.a &&& k } := by simp [stepF, aluOf, doW]
  have hr := h.run { s with a := s.a &&& k }
  rw [sufAt_all _ rfl] at hr
  rw [runL]
  have hb : isBranch 84 = false := by decide
  simp only [hb, hs]
  simpa using hr
theorem ld_step {m : Mk} (hm : Mok m) {k : BitVec 32} (hk : k % 4#32 = 0#32 ∧ k < 64#32) (hlen : m.c.length < 4096) :
    Grew m (m.add 32 k).1 1 ∧ (m.add 32 k).2 = ((m.add 32 k).1.c.length : Int) ∧ ∀ d g w, wordOf d k = some w → Val d m.c m.c.length g → Val d (m.add 32 k).1.c (m.add 32 k).1.c.length fun _ => g w := by
  obtain ⟨h1, h2, h3⟩ := add_grew (k := k) hm (op := 32) hlen (by simp [Ins.right]; rfl) (by decide) (by decide) (by simp [ruleErr, hk])
  refine ⟨h3, h2, fun d g w hw h => ?_⟩
  rw [h1]
  refine Val.cons fun s => ?_
  have ha : aluOf 32 = none := by decide
  have hs : stepF s ⟨32, 0, 0, k⟩ d = some { s with a := w } := by simp [stepF, ha, plainStep, hw]
  have hr := h.run { s with a := w }
  rw [sufAt_all _ rfl] at hr
  rw [runL]
  have hb : isBranch 32 = false := by decide
  simp only [hb, hs]
  simpa using hr
theorem ret_step {m : Mk} (hm : Mok m ∨ m = ⟨[], 0⟩) (k : BitVec 32) (hlen : m.c.length < 4096) :
    Mok (m.add 6 k).1 ∧ m.c <:+ (m.add 6 k).1.c ∧ (m.add 6 k).1.c.length = m.c.length + 1 ∧ (m.add 6 k).2 = ((m.add 6 k).1.c.length : Int) ∧ ∀ d, Val d (m.add 6 k).1.c (m.add 6 k).1.c.length fun _ => k := by
  have hr : Ins.right ⟨6, 0, 0, k⟩ = true := by simp [Ins.right]; rfl
  have hb : isBranch 6 = false := by decide
  have he : m.e = 0 := by rcases hm with h | h; exact h.e; rw [h]
  have e : m.add 6 k = (⟨⟨6, 0, 0, k⟩ :: m.c, 0⟩, (m.c.length : Int) + 1) := by
    simp [Mk.add, Mk.took, he, codeAdd, hr, hb, ahead, hlen]
  rw [e]
  refine ⟨⟨rfl, ⟨?_, ?_⟩, ?_, by simp⟩, List.suffix_cons _ _, by simp, by simp, fun d => Val.cons fun s => ?_⟩
  · have : ruleErr ⟨6, 0, 0, k⟩ = 0 := by simp [ruleErr]
    simp [insErr, hr, this, hb]
  · rcases hm with h | h
    · exact h.good
    · rw [h]; trivial
  · rcases hm with h | h
    · rw [lastEnds_cons _ h.ne]; exact h.last
    · rw [h]; rfl
  · rw [runL]; simp
theorem part_grew {m : Mk} (hm : Mok m) {at' : BitVec 32} (mask : BitVec 32) (hk : at' % 4#32 = 0#32 ∧ at' < 64#32) (hlen : m.c.length + 2 ≤ 4096) :
    Grew m (m.partOf at' mask) 2 ∧ ∀ d g w, wordOf d at' = some w → Val d m.c m.c.length g → Val d (m.partOf at' mask).c (m.partOf at' mask).c.length fun _ => g (w &&& mask) := by
  obtain ⟨a1, _, a3⟩ := and_step hm mask (by omega)
  obtain ⟨b1, _, b3⟩ := ld_step a1.ok hk (by have := a1.len; omega)
  exact ⟨a1.trans b1, fun d g w hw h => b3 d _ w hw (a3 d g h)⟩

/-! ### a condition -/
/-- how a comparison, by its operation, compares. -/
def cmp64 (op : Int) (v w : BitVec 64) : Bool := if op = 21 then decide (v = w) else if op = 37 then decide (w < v) else decide (w ≤ v)
theorem halves (op : Int) (v w : BitVec 64) (hop : op = 21 ∨ op = 37 ∨ op = 53) {α : Type} (t f : α) :
    (if (v >>> 32).setWidth 32 = (w >>> 32).setWidth 32 then (if cmp32 op (v.setWidth 32) (w.setWidth 32) then t else f) else if op ≠ 21 ∧ (w >>> 32).setWidth 32 < (v >>> 32).setWidth 32 then t else f) = if cmp64 op v w then t else f := by
  have hv : v.toNat = (v >>> 32).toNat * 4294967296 + (v.setWidth 32).toNat := by
    rw [BitVec.toNat_ushiftRight, BitVec.toNat_setWidth, Nat.shiftRight_eq_div_pow]; omega
  have hw : w.toNat = (w >>> 32).toNat * 4294967296 + (w.setWidth 32).toNat := by
    rw [BitVec.toNat_ushiftRight, BitVec.toNat_setWidth, Nat.shiftRight_eq_div_pow]; omega
  have hv2 : ((v >>> 32).setWidth 32).toNat = (v >>> 32).toNat := by
    rw [BitVec.toNat_setWidth, BitVec.toNat_ushiftRight, Nat.shiftRight_eq_div_pow]; have := v.isLt; omega
  have hw2 : ((w >>> 32).setWidth 32).toNat = (w >>> 32).toNat := by
    rw [BitVec.toNat_setWidth, BitVec.toNat_ushiftRight, Nat.shiftRight_eq_div_pow]; have := w.isLt; omega
  have lv := (v.setWidth 32).isLt
  have lw := (w.setWidth 32).isLt
  rw [← hv2] at hv
  rw [← hw2] at hw
  generalize (v >>> 32).setWidth 32 = vh at *
  generalize (w >>> 32).setWidth 32 = wh at *
  generalize v.setWidth 32 = vl at *
  generalize w.setWidth 32 = wl at *
  have e1 : (v = w) ↔ (v.toNat = w.toNat) := BitVec.toNat_inj.symm
  have e2 : (vh = wh) ↔ (vh.toNat = wh.toNat) := BitVec.toNat_inj.symm
  have e3 : (vl = wl) ↔ (vl.toNat = wl.toNat) := BitVec.toNat_inj.symm
  simp only [cmp32, cmp64, BitVec.lt_def, BitVec.le_def, e1, e2, e3]
  rcases hop with rfl | rfl | rfl
  all_goals simp
  all_goals repeat' split
  all_goals first | rfl | omega
theorem and_lo (u m : BitVec 64) : u.setWidth 32 &&& m.setWidth 32 = (u &&& m).setWidth 32 := by
  apply BitVec.eq_of_getLsbD_eq; intro i hi; simp [hi]
theorem and_hi (u m : BitVec 64) : (u >>> 32).setWidth 32 &&& (m >>> 32).setWidth 32 = ((u &&& m) >>> 32).setWidth 32 := by
  apply BitVec.eq_of_getLsbD_eq; intro i hi; simp [hi]
theorem second_grew {m : Mk} (hm : Mok m) {op : Int} (high : BitVec 32) {t f l : Int} (hop : op = 21 ∨ op = 37 ∨ op = 53) (hlen : m.c.length + 6 ≤ 4096) (ht : isLabel m.c t = true) (hf : isLabel m.c f = true) (hl : isLabel m.c l = true) :
    Grew m (m.second op high t f l).1 6 ∧ ∀ d (vt vf vl : BitVec 32), Val d m.c t (fun _ => vt) → Val d m.c f (fun _ => vf) → Val d m.c l (fun _ => vl) →
      Val d (m.second op high t f l).1.c (m.second op high t f l).1.c.length fun a => if a = high then vl else if op ≠ 21 ∧ high < a then vt else vf := by
  unfold Mk.second
  split
  · rename_i h21
    obtain ⟨b1, b2, b3⟩ := branch_grew hm high (op := 21) (.inl rfl) (by omega) hl hf
    refine ⟨b1.mono (by omega), fun d vt vf vl h1 h2 h3 => ?_⟩
    have := b3 d _ _ h3 h2
    rw [b2] at this
    simpa [cmp32, h21] using this
  · rename_i h21
    obtain ⟨b1, b2, b3⟩ := branch_grew hm high (op := 37) (.inr (.inl rfl)) (by omega) ht hf
    have hl2 : isLabel (m.branch 37 high t f).1.c l = true := label_mono hl b1.ge
    have hb2 : isLabel (m.branch 37 high t f).1.c (m.branch 37 high t f).2 = true := by
      rw [b2]; simp [isLabel]; have := List.length_pos_iff.2 b1.ok.ne; omega
    obtain ⟨c1, c2, c3⟩ := branch_grew b1.ok high (op := 21) (.inl rfl) (by have := b1.len; omega) hl2 hb2
    refine ⟨b1.trans c1, fun d vt vf vl h1 h2 h3 => ?_⟩
    have := c3 d _ _ (h3.grew b1) (b3 d _ _ h1 h2)
    rw [c2] at this
    simpa [cmp32, h21] using this
theorem pair_grew {m : Mk} (hm : Mok m) {op : Int} {x : Cond} {t f : Int} (hop : op = 21 ∨ op = 37 ∨ op = 53) (h0 : 0 ≤ x.arg) (h6 : x.arg < 6) (hlen : m.c.length + 13 ≤ 4096) (ht : isLabel m.c t = true) (hf : isLabel m.c f = true) :
    Grew m (m.pair op x t f) 13 ∧ ∀ d (vt vf : BitVec 32), Val d m.c t (fun _ => vt) → Val d m.c f (fun _ => vf) →
      Val d (m.pair op x t f).c (m.pair op x t f).c.length fun _ => if cmp64 op (argOf d x.arg &&& x.mask) x.value then vt else vf := by
  obtain ⟨k1, k2⟩ := at_ok h0 h6
  obtain ⟨b1, b2, b3⟩ := branch_grew hm (x.value.setWidth 32) hop (by omega) ht hf
  obtain ⟨p1, p3⟩ := part_grew b1.ok (x.mask.setWidth 32) k1 (by have := b1.len; omega)
  have g1 := b1.trans p1
  unfold Mk.pair
  simp only
  generalize (m.branch op (x.value.setWidth 32) t f).1.partOf (lowAt x.arg) (x.mask.setWidth 32) = m1 at *
  have hl1 : isLabel m1.c (m1.c.length : Int) = true := by simp [isLabel]; have := List.length_pos_iff.2 g1.ok.ne; omega
  obtain ⟨s1, s3⟩ := second_grew g1.ok ((x.value >>> 32).setWidth 32) hop (by have := g1.len; omega) (label_mono ht g1.ge) (label_mono hf g1.ge) hl1
  have g2 := g1.trans s1
  obtain ⟨q1, q3⟩ := part_grew s1.ok ((x.mask >>> 32).setWidth 32) k2 (by have := g2.len; omega)
  refine ⟨g2.trans q1, fun d vt vf v1 v2 => ?_⟩
  have e1 := b3 d _ _ v1 v2
  rw [b2] at e1
  have e2 := p3 d _ _ (word_low d h0 h6) e1
  have e3 := s3 d vt vf _ (v1.grew g1) (v2.grew g1) e2
  have e4 := q3 d _ _ (word_high d h0 h6) e3
  rw [and_hi, and_lo] at e4
  have hh := halves op (argOf d x.arg &&& x.mask) x.value hop vt vf
  refine ⟨e4.lo, e4.hi, fun s => ?_⟩
  rw [e4.run s]
  exact hh
theorem test_grew {m : Mk} (hm : Mok m) {x : Cond} (hx : x.right = true) {t f : Int} (hlen : m.c.length + 13 ≤ 4096) (ht : isLabel m.c t = true) (hf : isLabel m.c f = true) :
    Grew m (m.test x t f) 13 ∧ ∀ d (vt vf : BitVec 32), Val d m.c t (fun _ => vt) → Val d m.c f (fun _ => vf) → Val d (m.test x t f).c (m.test x t f).c.length fun _ => if x.holds d then vt else vf := by
  have hx' := hx
  simp only [Cond.right, Bool.and_eq_true, decide_eq_true_eq] at hx
  obtain ⟨⟨⟨h0, h6⟩, h7⟩, h8⟩ := hx
  obtain ⟨a, k, mask, value⟩ := x
  simp only at h0 h6 h7 h8
  have hk : k = 0 ∨ k = 1 ∨ k = 2 ∨ k = 3 ∨ k = 4 ∨ k = 5 := by omega
  have hn : Cond.not ⟨a, k, mask, value⟩ = ⟨a, notCmp k, mask, value⟩ := by simp [Cond.not, hx']
  have hv : ∀ d, Cond.val ⟨a, k, mask, value⟩ d = argOf d a &&& mask := fun d => rfl
  unfold Mk.test
  rw [hn]
  simp only [Cond.holds, hx', Bool.true_and, hv]
  rcases hk with rfl | rfl | rfl | rfl | rfl | rfl
  · obtain ⟨p1, p2⟩ := pair_grew hm (op := 21) (x := ⟨a, 0, mask, value⟩) (.inl rfl) h0 h6 hlen ht hf
    exact ⟨p1, fun d vt vf h1 h2 => p2 d vt vf h1 h2⟩
  · obtain ⟨p1, p2⟩ := pair_grew hm (op := 21) (x := ⟨a, 0, mask, value⟩) (.inl rfl) h0 h6 hlen hf ht
    refine ⟨p1, fun d vt vf h1 h2 => ?_⟩
    have := p2 d vf vt h2 h1
    refine ⟨this.lo, this.hi, fun s => (this.run s).trans ?_⟩
    simp only [cmp64, cmpB]
    by_cases h : argOf d a &&& mask = value <;> simp [h]
  · obtain ⟨p1, p2⟩ := pair_grew hm (op := 53) (x := ⟨a, 5, mask, value⟩) (.inr (.inr rfl)) h0 h6 hlen hf ht
    refine ⟨p1, fun d vt vf h1 h2 => ?_⟩
    have := p2 d vf vt h2 h1
    refine ⟨this.lo, this.hi, fun s => (this.run s).trans ?_⟩
    simp only [cmp64, cmpB]
    by_cases h : argOf d a &&& mask < value
    · simp [h, BitVec.not_le.2 h]
    · simp [h, BitVec.not_lt.1 h]
  · obtain ⟨p1, p2⟩ := pair_grew hm (op := 37) (x := ⟨a, 4, mask, value⟩) (.inr (.inl rfl)) h0 h6 hlen hf ht
    refine ⟨p1, fun d vt vf h1 h2 => ?_⟩
    have := p2 d vf vt h2 h1
    refine ⟨this.lo, this.hi, fun s => (this.run s).trans ?_⟩
    simp only [cmp64, cmpB]
    by_cases h : value < argOf d a &&& mask <;> simp [h]
  · obtain ⟨p1, p2⟩ := pair_grew hm (op := 37) (x := ⟨a, 4, mask, value⟩) (.inr (.inl rfl)) h0 h6 hlen ht hf
    exact ⟨p1, fun d vt vf h1 h2 => p2 d vt vf h1 h2⟩
  · obtain ⟨p1, p2⟩ := pair_grew hm (op := 53) (x := ⟨a, 5, mask, value⟩) (.inr (.inr rfl)) h0 h6 hlen ht hf
    refine ⟨p1, fun d vt vf h1 h2 => ?_⟩
    have := p2 d vt vf h1 h2
    refine ⟨this.lo, this.hi, fun s => (this.run s).trans ?_⟩
    simp only [cmp64, cmpB]
    by_cases h : argOf d a &&& mask < value
    · simp [h, BitVec.not_le.2 h]
    · simp [h, BitVec.not_lt.1 h]
end Go.Ab

/-
  Rules in code, the search for a call's number, machines: what a run of them comes to. Conditions: none (definitions and lemmas).
-/
namespace Go.Ab

def Rule.sat (x : Rule) (d : Data) : Bool := x.conds.all fun c => c.holds d
/-- what a row of rules of one call says. -/
def ruleVal (d : Data) (l : List Rule) (v : BitVec 32) : BitVec 32 := match l.find? (fun x => x.sat d) with
  | some x => x.action
  | none => v
def wt (x : Rule) : Nat := 1 + 13 * x.conds.length
def wts (l : List Rule) : Nat := (l.map wt).sum
theorem wts_cons (x : Rule) (l : List Rule) : wts (x :: l) = wt x + wts l := by simp [wts]
theorem Grew.top {a b : Mk} {n : Nat} (h : Grew a b n) : isLabel b.c (b.c.length : Int) = true := by
  simp [isLabel]; have := List.length_pos_iff.2 h.ok.ne; omega
theorem conds_grew : ∀ (l : List Cond) {m : Mk} (_ : Mok m) {at' other : Int}, (∀ c ∈ l, c.right = true) → m.c.length + 13 * l.length ≤ 4096 → isLabel m.c at' = true → isLabel m.c other = true →
    Grew m (l.foldr (Mk.condStep other) (m, at')).1 (13 * l.length) ∧ isLabel (l.foldr (Mk.condStep other) (m, at')).1.c (l.foldr (Mk.condStep other) (m, at')).2 = true ∧
      ∀ d (va vo : BitVec 32), Val d m.c at' (fun _ => va) → Val d m.c other (fun _ => vo) →
        Val d (l.foldr (Mk.condStep other) (m, at')).1.c (l.foldr (Mk.condStep other) (m, at')).2 fun _ => if l.all (fun c => c.holds d) then va else vo
  | [], m, hm, at', other, _, _, ha, _ => ⟨Grew.refl hm _, ha, fun d va vo h1 _ => by simpa using h1⟩
  | c :: l, m, hm, at', other, hc, hlen, ha, ho => by
    simp only [List.length_cons] at hlen
    obtain ⟨g1, g2, g3⟩ := conds_grew l hm (fun x hx => hc x (by simp [hx])) (by omega) ha ho
    simp only [List.foldr_cons]
    generalize l.foldr (Mk.condStep other) (m, at') = r at *
    obtain ⟨m1, a1⟩ := r
    simp only [Mk.condStep] at *
    obtain ⟨t1, t2⟩ := test_grew g1.ok (hc c (by simp)) (t := a1) (f := other) (by have := g1.len; omega) g2 (label_mono ho g1.ge)
    refine ⟨(g1.trans t1).mono (by simp; omega), t1.top, fun d va vo h1 h2 => ?_⟩
    have h3 := t2 d _ _ (g3 d va vo h1 h2) (h2.grew g1)
    refine ⟨h3.lo, h3.hi, fun s => (h3.run s).trans ?_⟩
    simp only [List.all_cons]
    by_cases h : c.holds d = true <;> simp [h]
theorem rule_grew {m : Mk} (hm : Mok m) {x : Rule} {other : Int} (hx : ∀ c ∈ x.conds, c.right = true) (hlen : m.c.length + wt x ≤ 4096) (ho : isLabel m.c other = true) :
    Grew m (Mk.rule x (m, other)).1 (wt x) ∧ isLabel (Mk.rule x (m, other)).1.c (Mk.rule x (m, other)).2 = true ∧
      ∀ d (vo : BitVec 32), Val d m.c other (fun _ => vo) → Val d (Mk.rule x (m, other)).1.c (Mk.rule x (m, other)).2 fun _ => if x.sat d then x.action else vo := by
  unfold wt at hlen ⊢
  obtain ⟨r1, r2, r3, r4, r5⟩ := ret_step (.inl hm) x.action (by omega)
  have g1 : Grew m (m.add 6 x.action).1 1 := ⟨r1, r2, by omega⟩
  have ht := g1.top
  rw [← r4] at ht
  obtain ⟨c1, c2, c3⟩ := conds_grew x.conds r1 hx (by omega) ht (label_mono ho g1.ge)
  unfold Mk.rule
  refine ⟨(g1.trans c1).mono (by omega), c2, fun d vo h => ?_⟩
  have h5 := r5 d
  rw [← r4] at h5
  exact c3 d _ _ h5 (h.grew g1)
theorem rules_grew : ∀ (l : List Rule) {m : Mk} (_ : Mok m) {other : Int}, (∀ x ∈ l, ∀ c ∈ x.conds, c.right = true) → m.c.length + wts l ≤ 4096 → isLabel m.c other = true →
    Grew m (m.rules l other).1 (wts l) ∧ isLabel (m.rules l other).1.c (m.rules l other).2 = true ∧ ∀ d (vo : BitVec 32), Val d m.c other (fun _ => vo) → Val d (m.rules l other).1.c (m.rules l other).2 fun _ => ruleVal d l vo
  | [], m, hm, other, _, _, ho => ⟨Grew.refl hm _, ho, fun d vo h => h⟩
  | x :: l, m, hm, other, hx, hlen, ho => by
    rw [wts_cons] at hlen
    obtain ⟨g1, g2, g3⟩ := rules_grew l hm (fun y hy => hx y (by simp [hy])) (by omega) ho
    simp only [Mk.rules, List.foldr_cons] at *
    generalize l.foldr Mk.rule (m, other) = r at *
    obtain ⟨m1, o1⟩ := r
    simp only at *
    obtain ⟨r1, r2, r3⟩ := rule_grew g1.ok (hx x (by simp)) (other := o1) (by have := g1.len; omega) g2
    refine ⟨(g1.trans r1).mono (by rw [wts_cons]; omega), r2, fun d vo h => ?_⟩
    have h3 := r3 d _ (g3 d vo h)
    refine ⟨h3.lo, h3.hi, fun s => (h3.run s).trans ?_⟩
    unfold ruleVal
    rw [List.find?_cons]
    by_cases h : x.sat d = true <;> simp [h]

/-! ### the search for a number -/
def rising (l : List (BitVec 32)) : Prop := l.Pairwise fun a b => a < b
/-- each entry leads to what its number stands for. -/
def Leads (d : Data) (c : List Ins) (l : List Entry) (cv : BitVec 32 → BitVec 32) : Prop := ∀ e ∈ l, Val d c e.pos fun _ => cv e.nr
def Labels (c : List Ins) (l : List Entry) : Prop := ∀ e ∈ l, isLabel c e.pos = true
theorem Labels.mono {c c' : List Ins} {l : List Entry} (h : Labels c l) (hs : c.length ≤ c'.length) : Labels c' l := fun e he => label_mono (h e he) hs
theorem Leads.mono {d : Data} {c c' : List Ins} {l : List Entry} {cv : BitVec 32 → BitVec 32} (h : Leads d c l cv) (hs : c <:+ c') : Leads d c' l cv := fun e he => (h e he).mono hs
theorem tree_grew (other : Int) : ∀ (n : Nat) (l : List Entry), l.length = n → l ≠ [] → rising (l.map (·.nr)) → ∀ {m : Mk}, Mok m → m.c.length + 6 * l.length ≤ 4096 + 3 → Labels m.c l → isLabel m.c other = true →
    Grew m (m.tree l other).1 (6 * l.length - 3) ∧ (m.tree l other).2 = ((m.tree l other).1.c.length : Int) ∧
      ∀ d cv vo, Leads d m.c l cv → Val d m.c other (fun _ => vo) → Val d (m.tree l other).1.c (m.tree l other).2 fun a => if a ∈ l.map (·.nr) then cv a else vo := by
  intro n
  induction n using Nat.strongRecOn with
  | ind n ih =>
    intro l hn hne hr m hm hlen hl ho
    rw [Mk.tree]
    split
    · rename_i h1
      have hh : l.take (l.length / 2) ++ l.drop (l.length / 2) = l := List.take_append_drop _ _
      have n1 : (l.take (l.length / 2)).length = l.length / 2 := by simp; omega
      have n2 : (l.drop (l.length / 2)).length = l.length - l.length / 2 := by simp
      have hhalf : l.length / 2 < l.length := by omega
      have hget : (l[l.length / 2]?).getD ⟨0#32, 0⟩ = l[l.length / 2] := by rw [List.getElem?_eq_getElem hhalf]; rfl
      have hdrop : l.drop (l.length / 2) = l[l.length / 2] :: l.drop (l.length / 2 + 1) := List.drop_eq_getElem_cons hhalf
      rw [hget]
      generalize hL : l.take (l.length / 2) = L at *
      generalize hR : l.drop (l.length / 2) = R at *
      generalize l[l.length / 2] = mid at *
      have hr' := hr
      rw [← hh, List.map_append, rising, List.pairwise_append] at hr'
      obtain ⟨hr1, hr2, hr3⟩ := hr'
      have hLne : L ≠ [] := by rintro rfl; simp at n1; omega
      have hRne : R ≠ [] := by rw [hdrop]; simp
      have hl1 : Labels m.c L := fun e he => hl e (by rw [← hh]; simp [he])
      have hl2 : Labels m.c R := fun e he => hl e (by rw [← hh]; simp [he])
      obtain ⟨a1, a2, a3⟩ := ih L.length (by omega) L rfl hLne hr1 hm (by omega) hl1 ho
      obtain ⟨b1, b2, b3⟩ := ih R.length (by omega) R rfl hRne hr2 a1.ok (by have := a1.len; omega) (hl2.mono a1.ge) (label_mono ho a1.ge)
      have t1 := a1.top
      rw [← a2] at t1
      have t2 := b1.top
      rw [← b2] at t2
      obtain ⟨c1, c2, c3⟩ := branch_grew b1.ok mid.nr (op := 53) (.inr (.inr rfl)) (by have := (a1.trans b1).len; omega) t2 (label_mono t1 b1.ge)
      refine ⟨((a1.trans b1).trans c1).mono (by omega), c2, fun d cv vo h1' h2' => ?_⟩
      have v1 := a3 d cv vo (fun e he => h1' e (by rw [← hh]; simp [he])) h2'
      have v2 := b3 d cv vo (Leads.mono (fun e he => h1' e (by rw [← hh]; simp [he])) a1.suf) (h2'.grew a1)
      have v3 := c3 d _ _ v2 (v1.grew b1)
      refine ⟨v3.lo, v3.hi, fun s => (v3.run s).trans ?_⟩
      have hmid : mid.nr ∈ R.map (·.nr) := by rw [hdrop]; simp
      have hrise : ∀ b ∈ R.map (·.nr), mid.nr ≤ b := by
        intro b hb
        rw [hdrop, List.map_cons, List.mem_cons] at hb
        rcases hb with rfl | hb
        · exact BitVec.le_refl _
        · rw [hdrop, List.map_cons, List.pairwise_cons] at hr2
          have := hr2.1 b hb
          bv_omega
      simp only [cmp32]
      simp only [show ¬ (53 : Int) = 21 by decide, show ¬ (53 : Int) = 37 by decide, if_false]
      have hmem : s.a ∈ l.map (·.nr) ↔ s.a ∈ L.map (·.nr) ∨ s.a ∈ R.map (·.nr) := by rw [← hh, List.map_append, List.mem_append]
      by_cases hle : mid.nr ≤ s.a
      · have hn : s.a ∉ L.map (·.nr) := by
          intro hc
          have := hr3 _ hc _ hmid
          bv_omega
        simp [hle, hmem, hn]
      · have hn : s.a ∉ R.map (·.nr) := fun hc => hle (hrise _ hc)
        simp only [hle, decide_false, Bool.false_eq_true, if_false]
        have : (s.a ∈ l.map (·.nr)) ↔ (s.a ∈ L.map (·.nr)) := by rw [hmem]; simp [hn]
        simp only [this]
    · rename_i h1
      match l, hne with
      | [x], _ =>
        obtain ⟨c1, c2, c3⟩ := branch_grew hm x.nr (op := 21) (.inl rfl) (by simp at hlen; omega) (hl x (by simp)) ho
        refine ⟨c1, c2, fun d cv vo h1 h2 => ?_⟩
        have v := c3 d _ _ (h1 x (by simp)) h2
        refine ⟨v.lo, v.hi, fun s => (v.run s).trans ?_⟩
        by_cases h : s.a = x.nr <;> simp [cmp32, h]
      | x :: y :: r, _ => simp at h1

/-! ### a machine -/
def nwt (g : Groups) (arch : BitVec 32) (l : List (BitVec 32)) : Nat := (l.map fun nr => wts (mget g.calls (arch, nr))).sum
theorem numbers_grew {g : Groups} {arch : BitVec 32} {other : Int} (hg : ∀ k, ∀ x ∈ mget g.calls k, ∀ c ∈ x.conds, c.right = true) : ∀ (l : List (BitVec 32)) {s : Mk × List Entry}, Mok s.1 → s.1.c.length + nwt g arch l ≤ 4096 → isLabel s.1.c other = true → Labels s.1.c s.2 →
    Grew s.1 (l.foldl (Mk.numbers g arch other) s).1 (nwt g arch l) ∧ Labels (l.foldl (Mk.numbers g arch other) s).1.c (l.foldl (Mk.numbers g arch other) s).2 ∧ (l.foldl (Mk.numbers g arch other) s).2.map (·.nr) = s.2.map (·.nr) ++ l ∧
      ∀ d vo, Val d s.1.c other (fun _ => vo) → Leads d s.1.c s.2 (fun nr => ruleVal d (mget g.calls (arch, nr)) vo) → Leads d (l.foldl (Mk.numbers g arch other) s).1.c (l.foldl (Mk.numbers g arch other) s).2 fun nr => ruleVal d (mget g.calls (arch, nr)) vo
  | [], s, hm, _, _, hl => ⟨Grew.refl hm _, hl, by simp, fun d vo _ h => h⟩
  | nr :: l, s, hm, hlen, ho, hl => by
    have e : nwt g arch (nr :: l) = wts (mget g.calls (arch, nr)) + nwt g arch l := by simp [nwt]
    rw [e] at hlen ⊢
    obtain ⟨r1, r2, r3⟩ := rules_grew (mget g.calls (arch, nr)) hm (hg _) (by omega) ho
    have hl' : Labels (Mk.numbers g arch other s nr).1.c (Mk.numbers g arch other s nr).2 := by
      intro e he
      simp only [Mk.numbers, List.mem_append, List.mem_singleton] at he ⊢
      rcases he with he | rfl
      · exact label_mono (hl e he) r1.ge
      · exact r2
    have hlen' : (Mk.numbers g arch other s nr).1.c.length + nwt g arch l ≤ 4096 := by
      show (s.1.rules (mget g.calls (arch, nr)) other).1.c.length + _ ≤ _
      have := r1.len; omega
    obtain ⟨n1, n2, n3, n4⟩ := numbers_grew hg l (s := Mk.numbers g arch other s nr) r1.ok hlen' (label_mono ho r1.ge) hl'
    refine ⟨r1.trans n1, n2, ?_, fun d vo hv hL => n4 d vo (hv.grew r1) ?_⟩
    · rw [List.foldl_cons, n3]; simp [Mk.numbers]
    · intro e he
      simp only [Mk.numbers, List.mem_append, List.mem_singleton] at he ⊢
      rcases he with he | rfl
      · exact (hL e he).grew r1
      · exact r3 d vo hv
theorem begin_grew {g : Groups} {arch : BitVec 32} {other : Int} {m : Mk} (hm : Mok m) (hg : ∀ k, ∀ x ∈ mget g.calls k, ∀ c ∈ x.conds, c.right = true) (hne : mget g.nrs arch ≠ []) (hr : rising (inOrder (mget g.nrs arch)))
    (hlen : m.c.length + nwt g arch (inOrder (mget g.nrs arch)) + 6 * (mget g.nrs arch).length ≤ 4096) (ho : isLabel m.c other = true) :
    Grew m (m.begin g arch other).1 (nwt g arch (inOrder (mget g.nrs arch)) + 6 * (mget g.nrs arch).length) ∧ isLabel (m.begin g arch other).1.c (m.begin g arch other).2 = true ∧
      ∀ d vo, Val d m.c other (fun _ => vo) → Val d (m.begin g arch other).1.c (m.begin g arch other).2 fun _ => if d.nr ∈ mget g.nrs arch then ruleVal d (mget g.calls (arch, d.nr)) vo else vo := by
  obtain ⟨n1, n2, n3, n4⟩ := numbers_grew (arch := arch) (other := other) hg (inOrder (mget g.nrs arch)) (s := (m, [])) hm (by simp only; omega) ho (by intro e he; cases he)
  have hil := inOrder_len (mget g.nrs arch)
  unfold Mk.begin
  simp only
  generalize (inOrder (mget g.nrs arch)).foldl (Mk.numbers g arch other) (m, []) = r at *
  obtain ⟨m1, l⟩ := r
  simp only [List.map_nil, List.nil_append] at *
  have hl : l.length = (mget g.nrs arch).length := by rw [← hil, ← n3, List.length_map]
  have hpos := List.length_pos_iff.2 hne
  have hlne : l ≠ [] := by rintro rfl; simp at hl; omega
  obtain ⟨t1, t2, t3⟩ := tree_grew other l.length l rfl hlne (by rw [n3]; exact hr) n1.ok (by have := n1.len; omega) n2 (label_mono ho n1.ge)
  obtain ⟨a1, a2, a3⟩ := ld_step t1.ok (k := 0#32) (by decide) (by have := (n1.trans t1).len; omega)
  refine ⟨((n1.trans t1).trans a1).mono (by omega), by rw [a2]; exact a1.top, fun d vo h => ?_⟩
  have v1 := t3 d _ vo (n4 d vo h (fun e he => by cases he)) (h.grew n1)
  rw [t2] at v1
  have v2 := a3 d _ _ (word_nr d) v1
  rw [← a2, n3] at v2
  simpa only [inOrder_mem] using v2

/-! ### what the groups are -/
structure GFull (g : Groups) (l : List Rule) : Prop where
  calls : ∀ k, mget g.calls k = l.filter (inCall k)
  nrs : ∀ a n, n ∈ mget g.nrs a ↔ ∃ x ∈ l, x.arch = a ∧ x.nr = n
  nodup : ∀ a, (mget g.nrs a).Nodup
  ms : ∀ a, a ∈ g.ms ↔ ∃ x ∈ l, x.arch = a
  msnd : g.ms.Nodup
theorem GFull.step {g : Groups} {l : List Rule} (h : GFull g l) (x : Rule) : GFull (g.step x) (l ++ [x]) where
  calls := by
    intro k
    rw [Groups.step, mget_mput, List.filter_append]
    by_cases hk : k = (x.arch, x.nr)
    · subst hk; simp [h.calls, inCall]
    · simp [hk, h.calls, inCall]
  nrs := by
    intro a n
    have key : (mget g.calls (x.arch, x.nr)).length = 0 ↔ ¬ ∃ y ∈ l, y.arch = x.arch ∧ y.nr = x.nr := by
      rw [h.calls, List.length_eq_zero_iff, List.filter_eq_nil_iff]
      simp only [inCall, decide_eq_true_eq, Prod.mk.injEq, not_exists, not_and]
      constructor
      · intro hh y hy h1 h2; exact hh y hy h1.symm h2.symm
      · intro hh y hy h1 h2; exact hh y hy h1.symm h2.symm
    have hsp : (∃ y ∈ l ++ [x], y.arch = a ∧ y.nr = n) ↔ (∃ y ∈ l, y.arch = a ∧ y.nr = n) ∨ (x.arch = a ∧ x.nr = n) := by
      constructor
      · rintro ⟨y, hy, h1, h2⟩
        rcases List.mem_append.1 hy with hy | hy
        · exact .inl ⟨y, hy, h1, h2⟩
        · simp at hy; subst hy; exact .inr ⟨h1, h2⟩
      · rintro (⟨y, hy, h1⟩ | h1)
        · exact ⟨y, by simp [hy], h1⟩
        · exact ⟨x, by simp, h1⟩
    rw [hsp]
    simp only [Groups.step]
    split
    · rw [mget_mput]
      split
      · rename_i ha; subst ha
        rw [List.mem_append, h.nrs, List.mem_singleton]
        constructor
        · rintro (h1 | h1)
          · exact .inl h1
          · exact .inr ⟨rfl, h1.symm⟩
        · rintro (h1 | h1)
          · exact .inl h1
          · exact .inr h1.2.symm
      · rename_i ha
        rw [h.nrs]
        constructor
        · exact .inl
        · rintro (h1 | h1)
          · exact h1
          · exact absurd h1.1.symm ha
    · rename_i hc
      rw [key, Classical.not_not] at hc
      rw [h.nrs]
      constructor
      · exact .inl
      · rintro (h1 | ⟨rfl, rfl⟩)
        · exact h1
        · exact hc
  nodup := by
    intro a
    simp only [Groups.step]
    split
    · rename_i hc
      rw [mget_mput]
      split
      · rename_i ha; subst ha
        rw [List.nodup_append]
        refine ⟨h.nodup _, by simp, ?_⟩
        intro n hn n' hn'
        simp at hn'; subst hn'
        rintro rfl
        rw [h.nrs] at hn
        rw [h.calls, List.length_eq_zero_iff, List.filter_eq_nil_iff] at hc
        obtain ⟨y, hy, h1, h2⟩ := hn
        exact hc y hy (by simp [inCall, h1, h2])
      · exact h.nodup a
    · exact h.nodup a
  ms := by
    intro a
    have hsp : (∃ y ∈ l ++ [x], y.arch = a) ↔ (∃ y ∈ l, y.arch = a) ∨ x.arch = a := by
      constructor
      · rintro ⟨y, hy, h1⟩
        rcases List.mem_append.1 hy with hy | hy
        · exact .inl ⟨y, hy, h1⟩
        · simp at hy; subst hy; exact .inr h1
      · rintro (⟨y, hy, h1⟩ | h1)
        · exact ⟨y, by simp [hy], h1⟩
        · exact ⟨x, by simp, h1⟩
    rw [hsp, ← h.ms]
    simp only [Groups.step]
    split
    · split
      · rw [List.mem_append, List.mem_singleton]
        constructor
        · rintro (h1 | h1)
          · exact .inl h1
          · exact .inr h1.symm
        · rintro (h1 | h1)
          · exact .inl h1
          · exact .inr h1.symm
      · rename_i hc hn
        have : x.arch ∈ g.ms := by
          rw [h.ms]
          obtain ⟨n, hn'⟩ := List.exists_mem_of_length_pos (Nat.pos_of_ne_zero hn)
          obtain ⟨y, hy, h1, _⟩ := (h.nrs _ _).1 hn'
          exact ⟨y, hy, h1⟩
        constructor
        · exact .inl
        · rintro (h1 | rfl)
          · exact h1
          · exact this
    · rename_i hc
      have : x.arch ∈ g.ms := by
        rw [h.ms]
        rw [h.calls] at hc
        obtain ⟨y, hy⟩ := List.exists_mem_of_length_pos (Nat.pos_of_ne_zero hc)
        have := List.mem_filter.1 hy
        simp only [inCall, decide_eq_true_eq, Prod.mk.injEq] at this
        exact ⟨y, this.1, this.2.1.symm⟩
      constructor
      · exact .inl
      · rintro (h1 | rfl)
        · exact h1
        · exact this
  msnd := by
    simp only [Groups.step]
    split
    · split
      · rename_i hn
        rw [List.nodup_append]
        refine ⟨h.msnd, by simp, ?_⟩
        intro n hn1 n' hn'
        simp at hn'; subst hn'
        rintro rfl
        rw [h.ms] at hn1
        obtain ⟨y, hy, h1⟩ := hn1
        rw [List.length_eq_zero_iff] at hn
        have : y.nr ∈ mget g.nrs x.arch := (h.nrs _ _).2 ⟨y, hy, h1, rfl⟩
        rw [hn] at this
        cases this
      · exact h.msnd
    · exact h.msnd
theorem groups_full (l : List Rule) : GFull (groups l) l := by
  suffices h : ∀ (r : List Rule) (g : Groups) (l0 : List Rule), GFull g l0 → GFull (r.foldl Groups.step g) (l0 ++ r) by
    have h0 : GFull ⟨[], [], []⟩ [] := ⟨by intro k; simp [mget, kidx], by intro a n; simp [mget, kidx], by intro a; simp [mget, kidx], by intro a; simp, by simp⟩
    have := h l _ _ h0
    rw [List.nil_append] at this
    exact this
  intro r
  induction r with
  | nil => intro g l0 h; simpa using h
  | cons x r ih => intro g l0 h; have := ih _ _ (h.step x); simpa using this
end Go.Ab

/-
  The filter of a policy: it is sound, not too long, and does what the policy says. Conditions: none (definitions and lemmas).
-/
namespace Go.Ab

/-! ### numbers in order -/
theorem mem_tw {α : Type} (p : α → Bool) : ∀ (l : List α) (y : α), y ∈ l.takeWhile p → p y = true ∧ y ∈ l
  | [], y, h => by simp at h
  | x :: l, y, h => by
    rw [List.takeWhile_cons] at h
    split at h
    · rename_i hp
      rcases List.mem_cons.1 h with rfl | h
      · exact ⟨hp, by simp⟩
      · have := mem_tw p l y h
        exact ⟨this.1, by simp [this.2]⟩
    · cases h
theorem ones : ∀ l : List Rule, (l.map fun _ => (1 : Nat)).sum = l.length
  | [] => rfl
  | x :: l => by have := ones l; simp only [List.map_cons, List.sum_cons, List.length_cons]; omega
theorem rising_putIn {x : BitVec 32} {out : List (BitVec 32)} (h : rising out) (hx : x ∉ out) : rising (putIn x out) := by
  have h0 := List.takeWhile_append_dropWhile (p := fun y => decide (y ≤ x)) (l := out)
  have hd : out.drop (out.takeWhile fun y => decide (y ≤ x)).length = out.dropWhile fun y => decide (y ≤ x) := by
    conv => lhs; arg 2; rw [← h0]
    exact List.drop_left
  unfold putIn
  rw [hd]
  rw [rising, ← h0, List.pairwise_append] at h
  obtain ⟨h1, h2, h3⟩ := h
  have hlt : ∀ y ∈ out.takeWhile (fun y => decide (y ≤ x)), y < x := by
    intro y hy
    have hle : y ≤ x := by simpa using (mem_tw _ _ _ hy).1
    have hne : y ≠ x := by rintro rfl; exact hx (mem_tw _ _ _ hy).2
    bv_omega
  have hgt : ∀ y ∈ out.dropWhile (fun y => decide (y ≤ x)), x < y := by
    cases hc : out.dropWhile (fun y => decide (y ≤ x)) with
    | nil => intro y hy; cases hy
    | cons z r =>
      have hz : x < z := by
        have hh := List.head?_dropWhile_not (fun y => decide (y ≤ x)) out
        rw [hc] at hh
        simp only [List.head?_cons] at hh
        have : ¬ z ≤ x := by simpa using hh
        bv_omega
      intro y hy
      rw [hc] at h2
      rcases List.mem_cons.1 hy with rfl | hy
      · exact hz
      · have := (List.pairwise_cons.1 h2).1 y hy
        bv_omega
  rw [rising, List.pairwise_append]
  refine ⟨h1, ?_, ?_⟩
  · rw [List.pairwise_cons]; exact ⟨hgt, h2⟩
  · intro a ha b hb
    rcases List.mem_cons.1 hb with rfl | hb
    · exact hlt a ha
    · exact h3 a ha b hb
theorem rising_inOrder {l : List (BitVec 32)} (h : l.Nodup) : rising (inOrder l) := by
  suffices hh : ∀ (l out : List (BitVec 32)), rising out → l.Nodup → (∀ x ∈ l, x ∉ out) → rising (l.foldl (fun out x => putIn x out) out) from hh l [] (by simp [rising]) h (by simp)
  intro l
  induction l with
  | nil => intro out h _ _; exact h
  | cons x l ih =>
    intro out ho hn hx
    rw [List.nodup_cons] at hn
    refine ih _ (rising_putIn ho (hx x (by simp))) hn.2 fun y hy hc => ?_
    rw [putIn_mem] at hc
    rcases hc with rfl | hc
    · exact hn.1 hy
    · exact hx y (by simp [hy]) hc
theorem rising_nodup {l : List (BitVec 32)} (h : rising l) : l.Nodup := List.Pairwise.imp (fun hab => by bv_omega) h

/-! ### sums -/
theorem sum_split (w : Rule → Nat) (p : Rule → Bool) : ∀ l : List Rule, (l.map w).sum = ((l.filter p).map w).sum + ((l.filter fun x => !p x).map w).sum
  | [] => rfl
  | x :: l => by
    have := sum_split w p l
    simp only [List.map_cons, List.sum_cons, List.filter_cons]
    cases p x <;> simp <;> omega
theorem sum_by {κ : Type} [DecidableEq κ] (f : Rule → κ) (w : Rule → Nat) : ∀ (Ks : List κ), Ks.Nodup → ∀ l : List Rule, (Ks.map fun k => ((l.filter fun x => decide (f x = k)).map w).sum).sum ≤ (l.map w).sum
  | [], _, l => by simp
  | k :: Ks, hn, l => by
    rw [List.nodup_cons] at hn
    have ih := sum_by f w Ks hn.2 (l.filter fun x => !decide (f x = k))
    rw [sum_split w (fun x => decide (f x = k)) l, List.map_cons, List.sum_cons]
    have e : (Ks.map fun k' => (((l.filter fun x => !decide (f x = k)).filter fun x => decide (f x = k')).map w).sum) = (Ks.map fun k' => ((l.filter fun x => decide (f x = k')).map w).sum) := by
      apply List.map_congr_left
      intro k' hk'
      rw [List.filter_filter]
      congr 2
      apply List.filter_congr
      intro x _
      by_cases h : f x = k'
      · have : ¬ f x = k := by rintro rfl; exact hn.1 (h ▸ hk')
        simp [h, this]
        rintro rfl; exact hn.1 hk'
      · simp [h]
    rw [e] at ih
    omega
theorem sum_le {α : Type} (f g : α → Nat) : ∀ l : List α, (∀ x ∈ l, f x ≤ g x) → (l.map f).sum ≤ (l.map g).sum
  | [], _ => by simp
  | x :: l, h => by
    have h1 := h x (by simp)
    have h2 := sum_le f g l fun y hy => h y (by simp [hy])
    simp only [List.map_cons, List.sum_cons]; omega
theorem sum_ones {α : Type} (f : α → Nat) : ∀ l : List α, (∀ x ∈ l, 1 ≤ f x) → l.length ≤ (l.map f).sum
  | [], _ => by simp
  | x :: l, h => by
    have h1 := h x (by simp)
    have h2 := sum_ones f l fun y hy => h y (by simp [hy])
    simp only [List.map_cons, List.sum_cons, List.length_cons]; omega
def ofArch (a : BitVec 32) (l : List Rule) : List Rule := l.filter fun x => decide (x.arch = a)
theorem call_filter (a n : BitVec 32) (l : List Rule) : l.filter (inCall (a, n)) = (ofArch a l).filter fun x => decide (x.nr = n) := by
  unfold ofArch
  rw [List.filter_filter]
  apply List.filter_congr
  intro x _
  simp only [inCall, Prod.mk.injEq]
  by_cases h1 : x.arch = a <;> by_cases h2 : x.nr = n <;> simp [h1, h2]
  · intro h; exact absurd h.symm h2
  · intro h; exact absurd h.symm h1
  · intro h; exact absurd h.symm h1
theorem nwt_le (l : List Rule) (a : BitVec 32) {N : List (BitVec 32)} (h : N.Nodup) : nwt (groups l) a N ≤ wts (ofArch a l) := by
  have := sum_by (fun x => x.nr) wt N h (ofArch a l)
  refine Nat.le_trans (Nat.le_of_eq ?_) this
  unfold nwt wts
  congr 1
  apply List.map_congr_left
  intro n _
  rw [(groups_full l).calls, call_filter]
def ncalls (l : List Rule) : Nat := ((groups l).ms.map fun a => (mget (groups l).nrs a).length).sum
theorem nrs_le (l : List Rule) (a : BitVec 32) : (mget (groups l).nrs a).length ≤ (ofArch a l).length := by
  have h := sum_by (fun x => x.nr) (fun _ => 1) (mget (groups l).nrs a) ((groups_full l).nodup a) (ofArch a l)
  have h2 := sum_ones (fun n => (((ofArch a l).filter fun x => decide (x.nr = n)).map fun _ => 1).sum) (mget (groups l).nrs a) (by
    intro n hn
    obtain ⟨x, hx, h1, h2⟩ := ((groups_full l).nrs a n).1 hn
    have hm : x ∈ (ofArch a l).filter fun x => decide (x.nr = n) := by simp [ofArch, hx, h1, h2]
    have := List.length_pos_of_mem hm
    rw [ones]; exact this)
  have e := ones (ofArch a l)
  rw [e] at h
  exact Nat.le_trans h2 h
theorem ncalls_le (l : List Rule) : ncalls l ≤ l.length := by
  have h := sum_by (fun x => x.arch) (fun _ => 1) (groups l).ms (groups_full l).msnd l
  have h2 := sum_le (fun a => (mget (groups l).nrs a).length) (fun a => ((l.filter fun x => decide (x.arch = a)).map fun _ => 1).sum) (groups l).ms (by
    intro a _
    rw [ones]; exact nrs_le l a)
  have e := ones l
  rw [e] at h
  exact Nat.le_trans h2 h
def bw (g : Groups) (a : BitVec 32) : Nat := nwt g a (inOrder (mget g.nrs a)) + 6 * (mget g.nrs a).length
theorem sum_add {α : Type} (f g : α → Nat) : ∀ l : List α, (l.map fun x => f x + g x).sum = (l.map f).sum + (l.map g).sum
  | [] => rfl
  | x :: l => by have := sum_add f g l; simp only [List.map_cons, List.sum_cons]; omega
theorem sum_mul {α : Type} (k : Nat) (f : α → Nat) : ∀ l : List α, (l.map fun x => k * f x).sum = k * (l.map f).sum
  | [] => rfl
  | x :: l => by have := sum_mul k f l; simp only [List.map_cons, List.sum_cons, Nat.mul_add]; omega
theorem bw_le (l : List Rule) : ((groups l).ms.map (bw (groups l))).sum ≤ wts l + 6 * ncalls l := by
  have e : ((groups l).ms.map (bw (groups l))).sum = ((groups l).ms.map fun a => nwt (groups l) a (inOrder (mget (groups l).nrs a))).sum + 6 * ncalls l := by
    unfold bw ncalls
    rw [sum_add, sum_mul]
  have h := sum_by (fun x => x.arch) wt (groups l).ms (groups_full l).msnd l
  have h2 := sum_le (fun a => nwt (groups l) a (inOrder (mget (groups l).nrs a))) (fun a => ((l.filter fun x => decide (x.arch = a)).map wt).sum) (groups l).ms (by
    intro a _
    exact nwt_le l a (rising_nodup (rising_inOrder ((groups_full l).nodup a))))
  have := Nat.le_trans h2 h
  rw [e]
  unfold wts
  omega
theorem wts_le {l : List Rule} (h : ∀ x ∈ l, x.conds.length ≤ 4) : wts l ≤ 53 * l.length := by
  induction l with
  | nil => simp [wts]
  | cons x l ih =>
    have h1 := h x (by simp)
    have h2 := ih fun y hy => h y (by simp [hy])
    rw [wts_cons, List.length_cons]; unfold wt; omega
theorem ms_le (l : List Rule) : (groups l).ms.length ≤ l.length := by
  show (l.foldl Groups.step ⟨[], [], []⟩).ms.length ≤ l.length
  simpa using groups_ms l ⟨[], [], []⟩

/-! ### all machines -/
def archVal (g : Groups) (d : Data) (vo : BitVec 32) (a : BitVec 32) : BitVec 32 := if d.nr ∈ mget g.nrs a then ruleVal d (mget g.calls (a, d.nr)) vo else vo
theorem roots_grew {g : Groups} {other : Int} (hg : ∀ k, ∀ x ∈ mget g.calls k, ∀ c ∈ x.conds, c.right = true) : ∀ (ms : List (BitVec 32)) {s : Mk × List Entry}, Mok s.1 → s.1.c.length + (ms.map (bw g)).sum ≤ 4096 → isLabel s.1.c other = true → Labels s.1.c s.2 →
    (∀ a ∈ ms, mget g.nrs a ≠ [] ∧ rising (inOrder (mget g.nrs a))) →
    Grew s.1 (ms.foldl (Mk.roots g other) s).1 (ms.map (bw g)).sum ∧ Labels (ms.foldl (Mk.roots g other) s).1.c (ms.foldl (Mk.roots g other) s).2 ∧ (ms.foldl (Mk.roots g other) s).2.map (·.nr) = s.2.map (·.nr) ++ ms ∧
      ∀ d vo, Val d s.1.c other (fun _ => vo) → Leads d s.1.c s.2 (archVal g d vo) → Leads d (ms.foldl (Mk.roots g other) s).1.c (ms.foldl (Mk.roots g other) s).2 (archVal g d vo)
  | [], s, hm, _, _, hl, _ => ⟨Grew.refl hm _, hl, by simp, fun d vo _ h => h⟩
  | a :: ms, s, hm, hlen, ho, hl, hr => by
    rw [List.map_cons, List.sum_cons] at hlen ⊢
    obtain ⟨q1, q2⟩ := hr a (by simp)
    obtain ⟨r1, r2, r3⟩ := begin_grew (arch := a) hm hg q1 q2 (by have : bw g a = _ := rfl; unfold bw at hlen; omega) ho
    have r1' : Grew s.1 (Mk.roots g other s a).1 (bw g a) := r1
    have hl' : Labels (Mk.roots g other s a).1.c (Mk.roots g other s a).2 := by
      intro e he
      simp only [Mk.roots, List.mem_append, List.mem_singleton] at he ⊢
      rcases he with he | rfl
      · exact label_mono (hl e he) r1.ge
      · exact r2
    obtain ⟨n1, n2, n3, n4⟩ := roots_grew hg ms (s := Mk.roots g other s a) r1'.ok (by have := r1'.len; omega) (label_mono ho r1'.ge) hl' (fun b hb => hr b (by simp [hb]))
    refine ⟨r1'.trans n1, n2, ?_, fun d vo hv hL => n4 d vo (hv.grew r1') ?_⟩
    · rw [List.foldl_cons, n3]; simp [Mk.roots]
    · intro e he
      simp only [Mk.roots, List.mem_append, List.mem_singleton] at he ⊢
      rcases he with he | rfl
      · exact (hL e he).grew r1'
      · exact r3 d vo hv
theorem chain_grew : ∀ (l : List Entry) {s : Mk × Int}, Mok s.1 → s.1.c.length + 3 * l.length ≤ 4096 → Labels s.1.c l → isLabel s.1.c s.2 = true →
    Grew s.1 (l.foldl Mk.chain s).1 (3 * l.length) ∧ isLabel (l.foldl Mk.chain s).1.c (l.foldl Mk.chain s).2 = true ∧ (l ≠ [] → (l.foldl Mk.chain s).2 = ((l.foldl Mk.chain s).1.c.length : Int)) ∧
      ∀ d cv g, Leads d s.1.c l cv → Val d s.1.c s.2 g → Val d (l.foldl Mk.chain s).1.c (l.foldl Mk.chain s).2 fun a => if a ∈ l.map (·.nr) then cv a else g a
  | [], s, hm, _, _, ho => ⟨Grew.refl hm _, ho, fun h => absurd rfl h, fun d cv g _ h => by simpa using h⟩
  | x :: l, s, hm, hlen, hl, ho => by
    simp only [List.length_cons] at hlen ⊢
    obtain ⟨b1, b2, b3⟩ := branch_grew hm x.nr (op := 21) (.inl rfl) (by omega) (hl x (by simp)) ho
    have t := b1.top
    rw [← b2] at t
    obtain ⟨c1, c2, c3, c4⟩ := chain_grew l (s := Mk.chain s x) b1.ok (by have : (Mk.chain s x).1.c.length ≤ s.1.c.length + 3 := b1.len; omega) (Labels.mono (fun e he => hl e (by simp [he])) b1.ge) t
    refine ⟨(b1.trans c1).mono (by omega), c2, fun _ => ?_, fun d cv g hL hv => ?_⟩
    · by_cases hl0 : l = []
      · subst hl0; exact b2
      · exact c3 hl0
    · have v1 := b3 d _ _ (hL x (by simp)) hv
      have v2 := c4 d cv _ (Leads.mono (fun e he => hL e (by simp [he])) b1.suf) v1
      refine ⟨v2.lo, v2.hi, fun st => (v2.run st).trans ?_⟩
      simp only [List.map_cons, List.mem_cons, cmp32, if_true, decide_eq_true_eq]
      by_cases h1 : st.a ∈ l.map (·.nr)
      · simp [h1]
      · by_cases h2 : st.a = x.nr
        · simp [h2]
        · simp [h1, h2]
theorem sound_of {m : Mk} (h : Mok m) (hl : m.c.length ≤ 4096) : soundF m.c = true := by
  rw [soundF_iff]
  have := List.length_pos_iff.2 h.ne
  exact ⟨by omega, hl, goodL_at h.good, h.last⟩
theorem find_fits (d : Data) (l : List Rule) (v : BitVec 32) : ruleVal d (l.filter (inCall (d.arch, d.nr))) v = match l.find? (fun x => x.fits d) with
    | some x => x.action
    | none => v := by
  unfold ruleVal
  rw [List.find?_filter]
  have : (fun x => decide (inCall (d.arch, d.nr) x = true ∧ Rule.sat x d = true)) = fun x => Rule.fits x d := by
    funext x
    simp only [inCall, Rule.fits, Rule.sat, Prod.mk.injEq, decide_eq_true_eq]
    rw [Bool.eq_iff_iff]
    simp only [decide_eq_true_eq, Bool.and_eq_true]
    constructor
    · rintro ⟨⟨h1, h2⟩, h3⟩; exact ⟨⟨h3, h1.symm⟩, h2.symm⟩
    · rintro ⟨⟨h3, h1⟩, h2⟩; exact ⟨⟨h1.symm, h2.symm⟩, h3⟩
  rw [this]
  all_goals (cases l.find? (fun x => Rule.fits x d) <;> rfl)
/-- THE FILTER DOES WHAT THE POLICY SAYS. -/
theorem lower_means {p : Policy} (h : p.right = true) : (lowerF p).2 = 0 ∧ soundF (lowerF p).1 = true ∧ (lowerF p).1.length ≤ 4096 ∧ (lowerF p).1.length ≤ 2 + wts p.rules + 6 * ncalls p.rules + 3 * (groups p.rules).ms.length ∧
    (p.rules = [] → (lowerF p).1.length = 1) ∧ ∀ d, (runL d (lowerF p).1 State.zero).1 = p.judge d := by
  by_cases hre : p.rules = []
  · obtain ⟨rules, dflt⟩ := p
    simp only at hre
    subst hre
    obtain ⟨r1, r2, r3, r4, r5⟩ := ret_step (m := ⟨[], 0⟩) (.inr rfl) dflt (by simp)
    have hlow : lowerMk ⟨[], dflt⟩ = ((⟨[], 0⟩ : Mk).add 6 dflt).1 := rfl
    have hF : lowerF ⟨[], dflt⟩ = (((⟨[], 0⟩ : Mk).add 6 dflt).1.c, 0) := by unfold lowerF; rw [if_pos h, hlow, if_pos r1.e]
    have h1 : ((⟨[], 0⟩ : Mk).add 6 dflt).1.c.length = 1 := r3
    rw [hF]
    refine ⟨rfl, sound_of r1 (by omega), by simp only; omega, by simp only; omega, fun _ => h1, fun d => ?_⟩
    have v := (r5 d).run State.zero
    rw [sufAt_all _ rfl] at v
    exact v
  have hp := h
  simp only [Policy.right, Bool.and_eq_true, decide_eq_true_eq, List.all_eq_true, Rule.may] at hp
  obtain ⟨⟨hr, _⟩, hn⟩ := hp
  have hconds : ∀ x ∈ p.rules, x.conds.length ≤ 4 := fun x hx => (hr x hx).2
  have hcr : ∀ x ∈ p.rules, ∀ c ∈ x.conds, c.right = true := fun x hx => (hr x hx).1.1
  have hw := wts_le hconds
  have hb := bw_le p.rules
  have hnc := ncalls_le p.rules
  have hms := ms_le p.rules
  have hfull := groups_full p.rules
  obtain ⟨r1, r2, r3, r4, r5⟩ := ret_step (m := ⟨[], 0⟩) (.inr rfl) p.dflt (by simp)
  have hlab : isLabel ((⟨[], 0⟩ : Mk).add 6 p.dflt).1.c ((⟨[], 0⟩ : Mk).add 6 p.dflt).2 = true := by rw [r4, r3]; rfl
  have hval : ∀ d, Val d ((⟨[], 0⟩ : Mk).add 6 p.dflt).1.c ((⟨[], 0⟩ : Mk).add 6 p.dflt).2 (fun _ => p.dflt) := by intro d; rw [r4]; exact r5 d
  have hg : ∀ k, ∀ x ∈ mget (groups p.rules).calls k, ∀ c ∈ x.conds, c.right = true := by
    intro k x hx
    rw [hfull.calls] at hx
    exact hcr x (List.mem_filter.1 hx).1
  have hlow : lowerMk p = if 0 < ((groups p.rules).ms.foldl (Mk.roots (groups p.rules) ((⟨[], 0⟩ : Mk).add 6 p.dflt).2) (((⟨[], 0⟩ : Mk).add 6 p.dflt).1, [])).2.length then ((((groups p.rules).ms.foldl (Mk.roots (groups p.rules) ((⟨[], 0⟩ : Mk).add 6 p.dflt).2) (((⟨[], 0⟩ : Mk).add 6 p.dflt).1, [])).2.foldl Mk.chain (((groups p.rules).ms.foldl (Mk.roots (groups p.rules) ((⟨[], 0⟩ : Mk).add 6 p.dflt).2) (((⟨[], 0⟩ : Mk).add 6 p.dflt).1, [])).1, ((⟨[], 0⟩ : Mk).add 6 p.dflt).2)).1.add 32 4#32).1 else (((groups p.rules).ms.foldl (Mk.roots (groups p.rules) ((⟨[], 0⟩ : Mk).add 6 p.dflt).2) (((⟨[], 0⟩ : Mk).add 6 p.dflt).1, [])).2.foldl Mk.chain (((groups p.rules).ms.foldl (Mk.roots (groups p.rules) ((⟨[], 0⟩ : Mk).add 6 p.dflt).2) (((⟨[], 0⟩ : Mk).add 6 p.dflt).1, [])).1, ((⟨[], 0⟩ : Mk).add 6 p.dflt).2)).1 := rfl
  generalize (⟨[], 0⟩ : Mk).add 6 p.dflt = s0 at *
  obtain ⟨m0, other⟩ := s0
  simp only at *
  have hlen0 : m0.c.length = 1 := by rw [r3]; rfl
  obtain ⟨a1, a2, a3, a4⟩ := roots_grew (other := other) hg (groups p.rules).ms (s := (m0, [])) r1 (by simp only; omega) hlab (by intro e he; cases he) (by
    intro a ha
    refine ⟨?_, rising_inOrder (hfull.nodup a)⟩
    obtain ⟨x, hx, h1⟩ := (hfull.ms a).1 ha
    exact List.ne_nil_of_mem ((hfull.nrs a x.nr).2 ⟨x, hx, h1, rfl⟩))
  generalize (groups p.rules).ms.foldl (Mk.roots (groups p.rules) other) (m0, []) = s1 at *
  obtain ⟨m1, roots⟩ := s1
  simp only [List.map_nil, List.nil_append] at *
  have hrl : roots.length = (groups p.rules).ms.length := by rw [← a3, List.length_map]
  obtain ⟨c1, c2, c3, c4⟩ := chain_grew roots (s := (m1, other)) a1.ok (by have := a1.len; simp only; omega) a2 (label_mono hlab a1.ge)
  generalize roots.foldl Mk.chain (m1, other) = s2 at *
  obtain ⟨m2, next⟩ := s2
  simp only at *
  have g2 := a1.trans c1
  have hl2 := g2.len
  by_cases hroots : 0 < roots.length
  · rw [if_pos hroots] at hlow
    have hne : roots ≠ [] := List.length_pos_iff.1 hroots
    obtain ⟨d1, d2, d3⟩ := ld_step c1.ok (k := 4#32) (by decide) (by omega)
    have hl3 := (g2.trans d1).len
    have he : (lowerMk p).e = 0 := by rw [hlow]; exact d1.ok.e
    have hF : lowerF p = ((m2.add 32 4#32).1.c, 0) := by unfold lowerF; rw [if_pos h, if_pos he, hlow]
    rw [hF]
    refine ⟨rfl, sound_of d1.ok (by omega), by simp only; omega, by simp only; omega, fun h0 => ?_, fun d => ?_⟩
    · exact absurd h0 hre
    · have v1 := c4 d _ _ (a4 d p.dflt (hval d) (by intro e he; cases he)) ((hval d).grew a1)
      rw [c3 hne] at v1
      have v2 := d3 d _ _ (word_arch d) v1
      have v3 := v2.run State.zero
      rw [sufAt_all _ rfl, a3] at v3
      rw [v3]
      unfold archVal Policy.judge
      have hf := find_fits d p.rules p.dflt
      rw [← hfull.calls] at hf
      refine Eq.trans ?_ hf
      by_cases hm : d.arch ∈ (groups p.rules).ms
      · rw [if_pos hm]
        by_cases hnr : d.nr ∈ mget (groups p.rules).nrs d.arch
        · rw [if_pos hnr]
        · rw [if_neg hnr]
          have : mget (groups p.rules).calls (d.arch, d.nr) = [] := by
            rw [hfull.calls, List.filter_eq_nil_iff]
            intro x hx hc
            simp only [inCall, decide_eq_true_eq, Prod.mk.injEq] at hc
            exact hnr ((hfull.nrs _ _).2 ⟨x, hx, hc.1.symm, hc.2.symm⟩)
          rw [this]; rfl
      · rw [if_neg hm]
        have : mget (groups p.rules).calls (d.arch, d.nr) = [] := by
          rw [hfull.calls, List.filter_eq_nil_iff]
          intro x hx hc
          simp only [inCall, decide_eq_true_eq, Prod.mk.injEq] at hc
          exact hm ((hfull.ms _).2 ⟨x, hx, hc.1.symm⟩)
        rw [this]; rfl
  · exfalso
    obtain ⟨x, hx⟩ := List.exists_mem_of_ne_nil _ hre
    have := List.length_pos_of_mem ((hfull.ms x.arch).2 ⟨x, hx, rfl⟩)
    omega
end Go.Ab
