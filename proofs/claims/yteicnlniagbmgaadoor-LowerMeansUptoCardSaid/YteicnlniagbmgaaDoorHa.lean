/-
  What the program's functions answer: words, codes, the maker, rules, the tree. Conditions: none (definitions and lemmas).
-/
import Derived.Test.YteicnlniagbmgaaDoorSf
import Derived.Test.YteicnlniagbmgaaDoorAbLitb
/-
  The program's types, and how their values stand in the machine without memory. Conditions: none (definitions and lemmas).
-/
namespace Go.Ab

structure Ins where
  op : Int
  jt : Int
  jf : Int
  k : BitVec 32
  deriving DecidableEq
structure Data where
  nr : BitVec 32
  arch : BitVec 32
  ip : BitVec 64
  args : Vector (BitVec 64) 6
structure State where
  a : BitVec 32
  x : BitVec 32
  m : Vector (BitVec 32) 16
structure Cond where
  arg : Int
  cmp : Int
  mask : BitVec 64
  value : BitVec 64
  deriving DecidableEq
structure Rule where
  arch : BitVec 32
  nr : BitVec 32
  conds : List Cond
  action : BitVec 32
structure Policy where
  rules : List Rule
  dflt : BitVec 32

def eIns (x : Ins) : D := .agg [ei x.op, ei x.jt, ei x.jf, e32 x.k]
abbrev eFilter (f : List Ins) : D := .lst (f.map eIns)
def eData (d : Data) : D := .agg (e32 d.nr :: e32 d.arch :: e64 d.ip :: d.args.toList.map e64)
def eState (s : State) : D := .agg (e32 s.a :: e32 s.x :: s.m.toList.map e32)
def eCond (c : Cond) : D := .agg [ei c.arg, ei c.cmp, e64 c.mask, e64 c.value]
def eRule (r : Rule) : D := .agg [e32 r.arch, e32 r.nr, .lst (r.conds.map eCond), e32 r.action]
def ePolicy (p : Policy) : D := .agg [.lst (p.rules.map eRule), e32 p.dflt]

/-! ### structs: their cells -/
section
variable (x : Ins) (c : Cond) (r : Rule) (p : Policy) (d : Data) (s : State)
@[simp] theorem cells_ins : AV.cells (.d (eIns x)) = [.d (ei x.op), .d (ei x.jt), .d (ei x.jf), .d (e32 x.k)] := (rfl)
@[simp] theorem agg_ins : AV.isAgg (.d (eIns x)) = true := (rfl)
@[simp] theorem fine_ins : AV.fine (.d (eIns x)) = true := (rfl)
@[simp] theorem dcells_ins : D.cells (eIns x) = [ei x.op, ei x.jt, ei x.jf, e32 x.k] := (rfl)
@[simp] theorem dfine_ins : D.fine (eIns x) = true := (rfl)
@[simp] theorem fold_ins (a b c : Int) (k : BitVec 32) : D.agg [.int .i64 a, .int .i64 b, .int .i64 c, e32 k] = eIns ⟨a, b, c, k⟩ := rfl
@[simp] theorem cells_cond : AV.cells (.d (eCond c)) = [.d (ei c.arg), .d (ei c.cmp), .d (e64 c.mask), .d (e64 c.value)] := (rfl)
@[simp] theorem agg_cond : AV.isAgg (.d (eCond c)) = true := (rfl)
@[simp] theorem fine_cond : AV.fine (.d (eCond c)) = true := (rfl)
@[simp] theorem dcells_cond : D.cells (eCond c) = [ei c.arg, ei c.cmp, e64 c.mask, e64 c.value] := (rfl)
@[simp] theorem dfine_cond : D.fine (eCond c) = true := (rfl)
@[simp] theorem fold_cond (a b : Int) (m v : BitVec 64) : D.agg [.int .i64 a, .int .i64 b, e64 m, e64 v] = eCond ⟨a, b, m, v⟩ := rfl
@[simp] theorem cells_rule : AV.cells (.d (eRule r)) = [.d (e32 r.arch), .d (e32 r.nr), .d (.lst (r.conds.map eCond)), .d (e32 r.action)] := (rfl)
@[simp] theorem agg_rule : AV.isAgg (.d (eRule r)) = true := (rfl)
@[simp] theorem fine_rule : AV.fine (.d (eRule r)) = true := (rfl)
@[simp] theorem dcells_rule : D.cells (eRule r) = [e32 r.arch, e32 r.nr, .lst (r.conds.map eCond), e32 r.action] := (rfl)
@[simp] theorem dfine_rule : D.fine (eRule r) = true := (rfl)
@[simp] theorem fold_rule (a n v : BitVec 32) (l : List Cond) : D.agg [e32 a, e32 n, .lst (l.map eCond), e32 v] = eRule ⟨a, n, l, v⟩ := rfl
@[simp] theorem cells_policy : AV.cells (.d (ePolicy p)) = [.d (.lst (p.rules.map eRule)), .d (e32 p.dflt)] := (rfl)
@[simp] theorem agg_policy : AV.isAgg (.d (ePolicy p)) = true := (rfl)
@[simp] theorem fine_policy : AV.fine (.d (ePolicy p)) = true := (rfl)
@[simp] theorem cells_data : AV.cells (.d (eData d)) = .d (e32 d.nr) :: .d (e32 d.arch) :: .d (e64 d.ip) :: d.args.toList.map fun v => .d (e64 v) := by simp [eData, AV.cells]
@[simp] theorem agg_data : AV.isAgg (.d (eData d)) = true := (rfl)
@[simp] theorem fine_data : AV.fine (.d (eData d)) = true := (rfl)
@[simp] theorem cells_state : AV.cells (.d (eState s)) = .d (e32 s.a) :: .d (e32 s.x) :: s.m.toList.map fun v => .d (e32 v) := by simp [eState, AV.cells]
@[simp] theorem agg_state : AV.isAgg (.d (eState s)) = true := (rfl)
@[simp] theorem fine_state : AV.fine (.d (eState s)) = true := (rfl)
end
/-! ### numbers: one cell -/
section
variable (a b : BitVec 32) (c d : BitVec 64) (u v : UInt8)
@[simp] theorem cells_32 : AV.cells (.d (e32 a)) = [.d (e32 a)] := (rfl)
@[simp] theorem cells_64 : AV.cells (.d (e64 c)) = [.d (e64 c)] := (rfl)
@[simp] theorem cells_8 : AV.cells (.d (e8 u)) = [.d (e8 u)] := (rfl)
@[simp] theorem dcells_32 : D.cells (e32 a) = [e32 a] := (rfl)
@[simp] theorem dcells_64 : D.cells (e64 c) = [e64 c] := (rfl)
@[simp] theorem dcells_8 : D.cells (e8 u) = [e8 u] := (rfl)
@[simp] theorem agg_32 : AV.isAgg (.d (e32 a)) = false := (rfl)
@[simp] theorem agg_64 : AV.isAgg (.d (e64 c)) = false := (rfl)
@[simp] theorem agg_8 : AV.isAgg (.d (e8 u)) = false := (rfl)
@[simp] theorem fine_32 : AV.fine (.d (e32 a)) = true := (rfl)
@[simp] theorem fine_64 : AV.fine (.d (e64 c)) = true := (rfl)
@[simp] theorem fine_8 : AV.fine (.d (e8 u)) = true := (rfl)
@[simp] theorem dfine_32 : D.fine (e32 a) = true := (rfl)
@[simp] theorem dfine_64 : D.fine (e64 c) = true := (rfl)
@[simp] theorem dfine_8 : D.fine (e8 u) = true := (rfl)
end
/-! ### arithmetic -/
theorem wrap_u32 (n : Int) : IntKind.wrap .u32 n = n % 4294967296 := rfl
theorem wrap_u64 (n : Int) : IntKind.wrap .u64 n = n % 18446744073709551616 := rfl
theorem wrap_u8 (n : Int) : IntKind.wrap .u8 n = n % 256 := rfl
theorem e32_inj (a b : BitVec 32) : (e32 a = e32 b) = (a = b) := by
  simp only [e32, D.int.injEq, true_and, eq_iff_iff]
  exact ⟨fun h => BitVec.eq_of_toNat_eq (by exact_mod_cast h), fun h => by rw [h]⟩
theorem e64_inj (a b : BitVec 64) : (e64 a = e64 b) = (a = b) := by
  simp only [e64, D.int.injEq, true_and, eq_iff_iff]
  exact ⟨fun h => BitVec.eq_of_toNat_eq (by exact_mod_cast h), fun h => by rw [h]⟩
theorem ofInt_nat (w : Nat) (n : Nat) : BitVec.ofInt w (n : Int) = BitVec.ofNat w n := BitVec.ofInt_natCast w n
theorem wrap32_nat (n : Nat) : D.int .u32 (IntKind.wrap .u32 (n : Int)) = e32 (BitVec.ofNat 32 n) := by
  simp only [wrap_u32, e32, BitVec.toNat_ofNat]; congr 1
theorem wrap64_nat (n : Nat) : D.int .u64 (IntKind.wrap .u64 (n : Int)) = e64 (BitVec.ofNat 64 n) := by
  simp only [wrap_u64, e64, BitVec.toNat_ofNat]; congr 1
theorem wrap8_nat (n : Nat) : D.int .u8 (IntKind.wrap .u8 (n : Int)) = e8 (UInt8.ofNat n) := by
  simp only [wrap_u8, e8, UInt8.toNat_ofNat']; congr 1
theorem wrap32_int (n : Int) : D.int .u32 (IntKind.wrap .u32 n) = e32 (BitVec.ofInt 32 n) := by
  simp only [wrap_u32, e32, BitVec.toNat_ofInt]; congr 1; omega
theorem wrap64_int (n : Int) : D.int .u64 (IntKind.wrap .u64 n) = e64 (BitVec.ofInt 64 n) := by
  simp only [wrap_u64, e64, BitVec.toNat_ofInt]; congr 1; omega
section
variable (a b : BitVec 32) (c d : BitVec 64) (u v : UInt8) (n : Int)
@[simp] theorem add32 : binD .add (e32 a) (e32 b) = some (e32 (a + b)) := by
  show some (D.int .u32 (IntKind.wrap .u32 ((a.toNat : Int) + b.toNat))) = _
  rw [← Int.natCast_add, wrap32_nat]; congr 2
@[simp] theorem sub32 : binD .sub (e32 a) (e32 b) = some (e32 (a - b)) := by
  show some (D.int .u32 (IntKind.wrap .u32 ((a.toNat : Int) - b.toNat))) = _
  rw [wrap32_int]; congr 2; apply BitVec.eq_of_toNat_eq; simp only [BitVec.toNat_ofInt, BitVec.toNat_sub]; omega
@[simp] theorem mul32 : binD .mul (e32 a) (e32 b) = some (e32 (a * b)) := by
  show some (D.int .u32 (IntKind.wrap .u32 ((a.toNat : Int) * b.toNat))) = _
  rw [← Int.natCast_mul, wrap32_nat]; congr 2
@[simp] theorem and32 : binD .and (e32 a) (e32 b) = some (e32 (a &&& b)) := by
  show some (D.int .u32 (IntKind.wrap .u32 (((BitVec.ofInt 32 (a.toNat : Int)) &&& (BitVec.ofInt 32 (b.toNat : Int))).toNat : Int))) = _
  rw [wrap32_nat]; congr 2; simp [ofInt_nat]
@[simp] theorem or32 : binD .or (e32 a) (e32 b) = some (e32 (a ||| b)) := by
  show some (D.int .u32 (IntKind.wrap .u32 (((BitVec.ofInt 32 (a.toNat : Int)) ||| (BitVec.ofInt 32 (b.toNat : Int))).toNat : Int))) = _
  rw [wrap32_nat]; congr 2; simp [ofInt_nat]
@[simp] theorem xor32 : binD .xor (e32 a) (e32 b) = some (e32 (a ^^^ b)) := by
  show some (D.int .u32 (IntKind.wrap .u32 (((BitVec.ofInt 32 (a.toNat : Int)) ^^^ (BitVec.ofInt 32 (b.toNat : Int))).toNat : Int))) = _
  rw [wrap32_nat]; congr 2; simp [ofInt_nat]
@[simp] theorem andNot32 : binD .andNot (e32 a) (e32 b) = some (e32 (a &&& ~~~b)) := by
  show some (D.int .u32 (IntKind.wrap .u32 (((BitVec.ofInt 32 (a.toNat : Int)) &&& ~~~(BitVec.ofInt 32 (b.toNat : Int))).toNat : Int))) = _
  rw [wrap32_nat]; congr 2; rw [ofInt_nat, ofInt_nat, BitVec.ofNat_toNat, BitVec.ofNat_toNat, BitVec.ofNat_toNat]; simp
@[simp] theorem eql32 : binD .eql (e32 a) (e32 b) = some (.bool (decide (a = b))) := by
  show some (D.bool ((a.toNat : Int) == (b.toNat : Int))) = _
  congr 2; rw [Bool.eq_iff_iff]; simp [BitVec.toNat_eq]; omega
@[simp] theorem neq32 : binD .neq (e32 a) (e32 b) = some (.bool (!decide (a = b))) := by
  show some (D.bool ((a.toNat : Int) != (b.toNat : Int))) = _
  congr 2; rw [Bool.eq_iff_iff]; simp [BitVec.toNat_eq]; omega
@[simp] theorem lss32 : binD .lss (e32 a) (e32 b) = some (.bool (decide (a < b))) := by
  show some (D.bool (decide ((a.toNat : Int) < (b.toNat : Int)))) = _
  congr 2; rw [decide_eq_decide, BitVec.lt_def]; omega
@[simp] theorem leq32 : binD .leq (e32 a) (e32 b) = some (.bool (decide (a ≤ b))) := by
  show some (D.bool (decide ((a.toNat : Int) ≤ (b.toNat : Int)))) = _
  congr 2; rw [decide_eq_decide, BitVec.le_def]; omega
@[simp] theorem gtr32 : binD .gtr (e32 a) (e32 b) = some (.bool (decide (b < a))) := by
  show some (D.bool (decide ((a.toNat : Int) > (b.toNat : Int)))) = _
  congr 2; rw [decide_eq_decide, BitVec.lt_def]; omega
@[simp] theorem geq32 : binD .geq (e32 a) (e32 b) = some (.bool (decide (b ≤ a))) := by
  show some (D.bool (decide ((a.toNat : Int) ≥ (b.toNat : Int)))) = _
  congr 2; rw [decide_eq_decide, BitVec.le_def]; omega
@[simp] theorem quo32 (h : b ≠ 0) : binD .quo (e32 a) (e32 b) = some (e32 (a / b)) := by
  have hb : ((b.toNat : Int)) ≠ 0 := by intro hc; exact h (BitVec.eq_of_toNat_eq (by simpa using hc))
  show (if ((b.toNat : Int)) = 0 then none else some (D.int .u32 (IntKind.wrap .u32 ((a.toNat : Int).tdiv b.toNat)))) = _
  rw [if_neg hb, ← Int.ofNat_tdiv, wrap32_nat]; congr 2; apply BitVec.eq_of_toNat_eq
  simp [BitVec.toNat_udiv]; exact Nat.lt_of_le_of_lt (Nat.div_le_self _ _) a.isLt
@[simp] theorem rem32 (h : b ≠ 0) : binD .rem (e32 a) (e32 b) = some (e32 (a % b)) := by
  have hb : ((b.toNat : Int)) ≠ 0 := by intro hc; exact h (BitVec.eq_of_toNat_eq (by simpa using hc))
  show (if ((b.toNat : Int)) = 0 then none else some (D.int .u32 ((a.toNat : Int).tmod b.toNat))) = _
  rw [if_neg hb, ← Int.ofNat_tmod]; simp [e32, BitVec.toNat_umod]
@[simp] theorem add64 : binD .add (e64 c) (e64 d) = some (e64 (c + d)) := by
  show some (D.int .u64 (IntKind.wrap .u64 ((c.toNat : Int) + d.toNat))) = _
  rw [← Int.natCast_add, wrap64_nat]; congr 2
@[simp] theorem sub64 : binD .sub (e64 c) (e64 d) = some (e64 (c - d)) := by
  show some (D.int .u64 (IntKind.wrap .u64 ((c.toNat : Int) - d.toNat))) = _
  rw [wrap64_int]; congr 2; apply BitVec.eq_of_toNat_eq; simp only [BitVec.toNat_ofInt, BitVec.toNat_sub]; omega
@[simp] theorem mul64 : binD .mul (e64 c) (e64 d) = some (e64 (c * d)) := by
  show some (D.int .u64 (IntKind.wrap .u64 ((c.toNat : Int) * d.toNat))) = _
  rw [← Int.natCast_mul, wrap64_nat]; congr 2
@[simp] theorem and64 : binD .and (e64 c) (e64 d) = some (e64 (c &&& d)) := by
  show some (D.int .u64 (IntKind.wrap .u64 (((BitVec.ofInt 64 (c.toNat : Int)) &&& (BitVec.ofInt 64 (d.toNat : Int))).toNat : Int))) = _
  rw [wrap64_nat]; congr 2; simp [ofInt_nat]
@[simp] theorem or64 : binD .or (e64 c) (e64 d) = some (e64 (c ||| d)) := by
  show some (D.int .u64 (IntKind.wrap .u64 (((BitVec.ofInt 64 (c.toNat : Int)) ||| (BitVec.ofInt 64 (d.toNat : Int))).toNat : Int))) = _
  rw [wrap64_nat]; congr 2; simp [ofInt_nat]
@[simp] theorem eql64 : binD .eql (e64 c) (e64 d) = some (.bool (decide (c = d))) := by
  show some (D.bool ((c.toNat : Int) == (d.toNat : Int))) = _
  congr 2; rw [Bool.eq_iff_iff]; simp [BitVec.toNat_eq]; omega
@[simp] theorem neq64 : binD .neq (e64 c) (e64 d) = some (.bool (!decide (c = d))) := by
  show some (D.bool ((c.toNat : Int) != (d.toNat : Int))) = _
  congr 2; rw [Bool.eq_iff_iff]; simp [BitVec.toNat_eq]; omega
@[simp] theorem lss64 : binD .lss (e64 c) (e64 d) = some (.bool (decide (c < d))) := by
  show some (D.bool (decide ((c.toNat : Int) < (d.toNat : Int)))) = _
  congr 2; rw [decide_eq_decide, BitVec.lt_def]; omega
@[simp] theorem leq64 : binD .leq (e64 c) (e64 d) = some (.bool (decide (c ≤ d))) := by
  show some (D.bool (decide ((c.toNat : Int) ≤ (d.toNat : Int)))) = _
  congr 2; rw [decide_eq_decide, BitVec.le_def]; omega
@[simp] theorem gtr64 : binD .gtr (e64 c) (e64 d) = some (.bool (decide (d < c))) := by
  show some (D.bool (decide ((c.toNat : Int) > (d.toNat : Int)))) = _
  congr 2; rw [decide_eq_decide, BitVec.lt_def]; omega
@[simp] theorem geq64 : binD .geq (e64 c) (e64 d) = some (.bool (decide (d ≤ c))) := by
  show some (D.bool (decide ((c.toNat : Int) ≥ (d.toNat : Int)))) = _
  congr 2; rw [decide_eq_decide, BitVec.le_def]; omega
@[simp] theorem quo64 (h : d ≠ 0) : binD .quo (e64 c) (e64 d) = some (e64 (c / d)) := by
  have hb : ((d.toNat : Int)) ≠ 0 := by intro hc; exact h (BitVec.eq_of_toNat_eq (by simpa using hc))
  show (if ((d.toNat : Int)) = 0 then none else some (D.int .u64 (IntKind.wrap .u64 ((c.toNat : Int).tdiv d.toNat)))) = _
  rw [if_neg hb, ← Int.ofNat_tdiv, wrap64_nat]; congr 2; apply BitVec.eq_of_toNat_eq
  simp [BitVec.toNat_udiv]; exact Nat.lt_of_le_of_lt (Nat.div_le_self _ _) c.isLt
@[simp] theorem rem64 (h : d ≠ 0) : binD .rem (e64 c) (e64 d) = some (e64 (c % d)) := by
  have hb : ((d.toNat : Int)) ≠ 0 := by intro hc; exact h (BitVec.eq_of_toNat_eq (by simpa using hc))
  show (if ((d.toNat : Int)) = 0 then none else some (D.int .u64 ((c.toNat : Int).tmod d.toNat))) = _
  rw [if_neg hb, ← Int.ofNat_tmod]; simp [e64, BitVec.toNat_umod]
end
/-! ### shifts, conversions -/
theorem shl_bv {w : Nat} (a : BitVec w) (n : Nat) : a.toNat * 2 ^ (min n w) % 2 ^ w = (a <<< n).toNat := by
  rw [BitVec.toNat_shiftLeft, Nat.shiftLeft_eq]
  by_cases h : n ≤ w
  · rw [Nat.min_eq_left h]
  · rw [Nat.min_eq_right (by omega)]
    have h1 : 2 ^ n = 2 ^ w * 2 ^ (n - w) := by rw [← Nat.pow_add]; congr 1; omega
    rw [h1, ← Nat.mul_assoc, Nat.mul_right_comm, Nat.mul_mod_left, Nat.mul_mod_left]
theorem shr_bv {w : Nat} (a : BitVec w) (n : Nat) : a.toNat / 2 ^ (min n w) = (a >>> n).toNat := by
  rw [BitVec.toNat_ushiftRight, Nat.shiftRight_eq_div_pow]
  by_cases h : n ≤ w
  · rw [Nat.min_eq_left h]
  · rw [Nat.min_eq_right (by omega), Nat.div_eq_of_lt a.isLt, Nat.div_eq_of_lt (Nat.lt_of_lt_of_le a.isLt (Nat.pow_le_pow_right (by omega) (by omega)))]
theorem shl32_n (a : BitVec 32) (k : IntKind) (n : Nat) : binD .shl (e32 a) (.int k (n : Int)) = some (e32 (a <<< n)) := by
  show (if (n : Int) < 0 then none else some (D.int .u32 (IntKind.wrap .u32 ((a.toNat : Int) * 2 ^ (min n 32))))) = _
  rw [if_neg (by omega), show ((a.toNat : Int) * 2 ^ (min n 32)) = ((a.toNat * 2 ^ (min n 32) : Nat) : Int) by simp, wrap32_nat]
  congr 2; apply BitVec.eq_of_toNat_eq; rw [BitVec.toNat_ofNat, shl_bv]
theorem shr32_n (a : BitVec 32) (k : IntKind) (n : Nat) : binD .shr (e32 a) (.int k (n : Int)) = some (e32 (a >>> n)) := by
  show (if (n : Int) < 0 then none else some (D.int .u32 ((a.toNat : Int).fdiv (2 ^ (min n 32))))) = _
  rw [if_neg (by omega), Int.fdiv_eq_ediv_of_nonneg _ (Int.le_of_lt (Int.pow_pos (by omega))), show ((a.toNat : Int) / 2 ^ (min n 32)) = ((a.toNat / 2 ^ (min n 32) : Nat) : Int) by simp, shr_bv]; rfl
theorem shl64_n (a : BitVec 64) (k : IntKind) (n : Nat) : binD .shl (e64 a) (.int k (n : Int)) = some (e64 (a <<< n)) := by
  show (if (n : Int) < 0 then none else some (D.int .u64 (IntKind.wrap .u64 ((a.toNat : Int) * 2 ^ (min n 64))))) = _
  rw [if_neg (by omega), show ((a.toNat : Int) * 2 ^ (min n 64)) = ((a.toNat * 2 ^ (min n 64) : Nat) : Int) by simp, wrap64_nat]
  congr 2; apply BitVec.eq_of_toNat_eq; rw [BitVec.toNat_ofNat, shl_bv]
theorem shr64_n (a : BitVec 64) (k : IntKind) (n : Nat) : binD .shr (e64 a) (.int k (n : Int)) = some (e64 (a >>> n)) := by
  show (if (n : Int) < 0 then none else some (D.int .u64 ((a.toNat : Int).fdiv (2 ^ (min n 64))))) = _
  rw [if_neg (by omega), Int.fdiv_eq_ediv_of_nonneg _ (Int.le_of_lt (Int.pow_pos (by omega))), show ((a.toNat : Int) / 2 ^ (min n 64)) = ((a.toNat / 2 ^ (min n 64) : Nat) : Int) by simp, shr_bv]; rfl
section
variable (a b : BitVec 32) (c d : BitVec 64) (u v : UInt8) (n : Int) (x y : Bool)
@[simp] theorem shl32_64 : binD .shl (e32 a) (e64 d) = some (e32 (a <<< d.toNat)) := shl32_n a .u64 _
@[simp] theorem shl32_32 : binD .shl (e32 a) (e32 b) = some (e32 (a <<< b.toNat)) := shl32_n a .u32 _
@[simp] theorem shl32_i (h : 0 ≤ n) : binD .shl (e32 a) (.int .i64 n) = some (e32 (a <<< n.toNat)) := by
  have := shl32_n a .i64 n.toNat; rwa [Int.toNat_of_nonneg h] at this
@[simp] theorem shr32_64 : binD .shr (e32 a) (e64 d) = some (e32 (a >>> d.toNat)) := shr32_n a .u64 _
@[simp] theorem shr32_32 : binD .shr (e32 a) (e32 b) = some (e32 (a >>> b.toNat)) := shr32_n a .u32 _
@[simp] theorem shr32_i (h : 0 ≤ n) : binD .shr (e32 a) (.int .i64 n) = some (e32 (a >>> n.toNat)) := by
  have := shr32_n a .i64 n.toNat; rwa [Int.toNat_of_nonneg h] at this
@[simp] theorem shl64_64 : binD .shl (e64 c) (e64 d) = some (e64 (c <<< d.toNat)) := shl64_n c .u64 _
@[simp] theorem shr64_64 : binD .shr (e64 c) (e64 d) = some (e64 (c >>> d.toNat)) := shr64_n c .u64 _
@[simp] theorem shl64_i (h : 0 ≤ n) : binD .shl (e64 c) (.int .i64 n) = some (e64 (c <<< n.toNat)) := by
  have := shl64_n c .i64 n.toNat; rwa [Int.toNat_of_nonneg h] at this
@[simp] theorem shr64_i (h : 0 ≤ n) : binD .shr (e64 c) (.int .i64 n) = some (e64 (c >>> n.toNat)) := by
  have := shr64_n c .i64 n.toNat; rwa [Int.toNat_of_nonneg h] at this
@[simp] theorem conv32_64 : conv (.int .u32) (.d (e64 c)) = some (.d (e32 (c.setWidth 32))) := by
  show some (AV.d (D.int .u32 (IntKind.wrap .u32 (c.toNat : Int)))) = _
  rw [wrap32_nat]; congr 3
@[simp] theorem conv64_32 : conv (.int .u64) (.d (e32 a)) = some (.d (e64 (a.setWidth 64))) := by
  show some (AV.d (D.int .u64 (IntKind.wrap .u64 (a.toNat : Int)))) = _
  rw [wrap64_nat]; congr 3; apply BitVec.eq_of_toNat_eq; simp
@[simp] theorem conv64_64 : conv (.int .u64) (.d (e64 c)) = some (.d (e64 c)) := by
  show some (AV.d (D.int .u64 (IntKind.wrap .u64 (c.toNat : Int)))) = _
  rw [wrap64_nat]; simp
@[simp] theorem conv32_32 : conv (.int .u32) (.d (e32 a)) = some (.d (e32 a)) := by
  show some (AV.d (D.int .u32 (IntKind.wrap .u32 (a.toNat : Int)))) = _
  rw [wrap32_nat]; simp
@[simp] theorem conv32_i : conv (.int .u32) (.d (.int .i64 n)) = some (.d (e32 (BitVec.ofInt 32 n))) := by
  show some (AV.d (D.int .u32 (IntKind.wrap .u32 n))) = _
  rw [wrap32_int]
@[simp] theorem conv64_i : conv (.int .u64) (.d (.int .i64 n)) = some (.d (e64 (BitVec.ofInt 64 n))) := by
  show some (AV.d (D.int .u64 (IntKind.wrap .u64 n))) = _
  rw [wrap64_int]
@[simp] theorem conv32_8 : conv (.int .u32) (.d (e8 u)) = some (.d (e32 (BitVec.ofNat 32 u.toNat))) := by
  show some (AV.d (D.int .u32 (IntKind.wrap .u32 (u.toNat : Int)))) = _
  rw [wrap32_nat]
@[simp] theorem conv64_8 : conv (.int .u64) (.d (e8 u)) = some (.d (e64 (BitVec.ofNat 64 u.toNat))) := by
  show some (AV.d (D.int .u64 (IntKind.wrap .u64 (u.toNat : Int)))) = _
  rw [wrap64_nat]
@[simp] theorem conv8_32 : conv (.int .u8) (.d (e32 a)) = some (.d (e8 (UInt8.ofNat a.toNat))) := by
  show some (AV.d (D.int .u8 (IntKind.wrap .u8 (a.toNat : Int)))) = _
  rw [wrap8_nat]
@[simp] theorem conv8_64 : conv (.int .u8) (.d (e64 c)) = some (.d (e8 (UInt8.ofNat c.toNat))) := by
  show some (AV.d (D.int .u8 (IntKind.wrap .u8 (c.toNat : Int)))) = _
  rw [wrap8_nat]
theorem wrap_i64 (n : Int) (h1 : -9223372036854775808 ≤ n) (h2 : n < 9223372036854775808) : IntKind.wrap .i64 n = n := by
  have key : ∀ m : Int, m = n % 18446744073709551616 → (if (true && decide (m ≥ (9223372036854775808 : Int))) = true then m - 18446744073709551616 else m) = n := by
    intro m hm
    by_cases h : m ≥ 9223372036854775808 <;> simp [h] <;> omega
  exact key _ rfl
@[simp] theorem convi_32 : conv (.int .i64) (.d (e32 a)) = some (.d (.int .i64 (a.toNat : Int))) := by
  show some (AV.d (D.int .i64 (IntKind.wrap .i64 (a.toNat : Int)))) = _
  rw [wrap_i64 _ (by omega) (by omega)]
@[simp] theorem convi_8 : conv (.int .i64) (.d (e8 u)) = some (.d (.int .i64 (u.toNat : Int))) := by
  show some (AV.d (D.int .i64 (IntKind.wrap .i64 (u.toNat : Int)))) = _
  have := u.toNat_lt
  rw [wrap_i64 _ (by omega) (by omega)]
@[simp] theorem convi_i : conv (.int .i64) (.d (.int .i64 n)) = some (.d (.int .i64 (IntKind.wrap .i64 n))) := rfl
@[simp] theorem addi (m : Int) : binD .add (.int .i64 m) (.int .i64 n) = some (.int .i64 (IntKind.wrap .i64 (m + n))) := rfl
@[simp] theorem subi (m : Int) : binD .sub (.int .i64 m) (.int .i64 n) = some (.int .i64 (IntKind.wrap .i64 (m - n))) := rfl
@[simp] theorem muli (m : Int) : binD .mul (.int .i64 m) (.int .i64 n) = some (.int .i64 (IntKind.wrap .i64 (m * n))) := rfl
@[simp] theorem eqli (m : Int) : binD .eql (.int .i64 m) (.int .i64 n) = some (.bool (decide (m = n))) := rfl
@[simp] theorem neqi (m : Int) : binD .neq (.int .i64 m) (.int .i64 n) = some (.bool (!decide (m = n))) := rfl
@[simp] theorem eqls (s t : List UInt8) : binD .eql (.str s) (.str t) = some (.bool (decide (s = t))) := by
  show some (D.bool (s == t)) = _
  congr 2; rw [Bool.eq_iff_iff]; simp
@[simp] theorem neqs (s t : List UInt8) : binD .neq (.str s) (.str t) = some (.bool (!decide (s = t))) := by
  show some (D.bool (!(s == t))) = _
  congr 2; rw [Bool.eq_iff_iff]; simp
@[simp] theorem adds (s t : List UInt8) (h : s.length + t.length ≤ 9223372036854775807) : binD .add (.str s) (.str t) = some (.str (s ++ t)) := by
  show (if ((s.length + t.length : Nat) : Int) > IntKind.i64.max then none else some (D.str (s ++ t))) = _
  rw [if_neg]; show ¬ ((s.length + t.length : Nat) : Int) > 9223372036854775807; omega
@[simp] theorem lssi (m : Int) : binD .lss (.int .i64 m) (.int .i64 n) = some (.bool (decide (m < n))) := rfl
@[simp] theorem leqi (m : Int) : binD .leq (.int .i64 m) (.int .i64 n) = some (.bool (decide (m ≤ n))) := rfl
@[simp] theorem gtri (m : Int) : binD .gtr (.int .i64 m) (.int .i64 n) = some (.bool (decide (n < m))) := rfl
@[simp] theorem geqi (m : Int) : binD .geq (.int .i64 m) (.int .i64 n) = some (.bool (decide (n ≤ m))) := rfl
@[simp] theorem quoi (m : Int) (h : n ≠ 0) : binD .quo (.int .i64 m) (.int .i64 n) = some (.int .i64 (IntKind.wrap .i64 (m.tdiv n))) := by
  show (if n = 0 then none else _) = _
  rw [if_neg h]
@[simp] theorem remi (m : Int) (h : n ≠ 0) : binD .rem (.int .i64 m) (.int .i64 n) = some (.int .i64 (m.tmod n)) := by
  show (if n = 0 then none else _) = _
  rw [if_neg h]
@[simp] theorem eql8 : binD .eql (e8 u) (e8 v) = some (.bool (decide (u = v))) := by
  show some (D.bool ((u.toNat : Int) == (v.toNat : Int))) = _
  congr 2; rw [Bool.eq_iff_iff]; simp [← UInt8.toNat_inj]; omega
@[simp] theorem neq8 : binD .neq (e8 u) (e8 v) = some (.bool (!decide (u = v))) := by
  show some (D.bool ((u.toNat : Int) != (v.toNat : Int))) = _
  congr 2; rw [Bool.eq_iff_iff]; simp [← UInt8.toNat_inj]; omega
@[simp] theorem geq8 : binD .geq (e8 u) (e8 v) = some (.bool (decide (v ≤ u))) := by
  show some (D.bool (decide ((u.toNat : Int) ≥ (v.toNat : Int)))) = _
  congr 2; rw [decide_eq_decide, UInt8.le_iff_toNat_le]; omega
@[simp] theorem leq8 : binD .leq (e8 u) (e8 v) = some (.bool (decide (u ≤ v))) := by
  show some (D.bool (decide ((u.toNat : Int) ≤ (v.toNat : Int)))) = _
  congr 2; rw [decide_eq_decide, UInt8.le_iff_toNat_le]; omega
@[simp] theorem lss8 : binD .lss (e8 u) (e8 v) = some (.bool (decide (u < v))) := by
  show some (D.bool (decide ((u.toNat : Int) < (v.toNat : Int)))) = _
  congr 2; rw [decide_eq_decide, UInt8.lt_iff_toNat_lt]; omega
@[simp] theorem gtr8 : binD .gtr (e8 u) (e8 v) = some (.bool (decide (v < u))) := by
  show some (D.bool (decide ((u.toNat : Int) > (v.toNat : Int)))) = _
  congr 2; rw [decide_eq_decide, UInt8.lt_iff_toNat_lt]; omega
@[simp] theorem intD_32 : intD (e32 a) = some (a.toNat : Int) := rfl
@[simp] theorem intD_64 : intD (e64 c) = some (c.toNat : Int) := rfl
@[simp] theorem intD_8 : intD (e8 u) = some (u.toNat : Int) := rfl
@[simp] theorem neg32 : unD .neg (e32 a) = some (e32 (-a)) := by
  show some (D.int .u32 (IntKind.wrap .u32 (0 - (a.toNat : Int)))) = _
  rw [wrap32_int]; congr 2; apply BitVec.eq_of_toNat_eq; simp only [BitVec.toNat_ofInt, BitVec.toNat_neg]; omega
@[simp] theorem not32 : unD .xor (e32 a) = some (e32 (~~~a)) := by
  show some (D.int .u32 (IntKind.wrap .u32 (((BitVec.ofInt 32 4294967295) ^^^ (BitVec.ofInt 32 (a.toNat : Int))).toNat : Int))) = _
  rw [wrap32_nat]; congr 2
  rw [ofInt_nat, BitVec.ofNat_toNat, BitVec.ofNat_toNat, show BitVec.ofInt 32 4294967295 = BitVec.allOnes 32 from rfl, BitVec.allOnes_xor]; simp
@[simp] theorem negi : unD .neg (.int .i64 n) = some (.int .i64 (IntKind.wrap .i64 (0 - n))) := rfl
end
@[simp] theorem fold8 (b : UInt8) : D.int .u8 (b.toNat : Int) = e8 b := rfl
/-! ### rows: their heads' sizes, bytes -/
@[simp] theorem numsByte_map : ∀ (l : List UInt8), numsByte (l.map e8) = some l
  | [] => rfl
  | x :: l => by
    show (match numsByte (l.map e8) with | some s => some (UInt8.ofNat ((x.toNat : Int).toNat) :: s) | none => none) = _
    rw [numsByte_map l]; simp
theorem bytesD_eq (s : List UInt8) : bytesD s = s.map e8 := rfl
end Go.Ab

/-
  The program as one row of functions (printed by a program of mine). Conditions: none (definitions and lemmas).
-/
namespace Go.Ab
open Dig
def tabS : List (Nat × DFun) := [(0, fd0), (1, fd1), (2, fd2), (3, fd3), (4, fd4), (5, fd5), (6, fd6), (7, fd7), (8, fd8), (9, fd9), (10, fd10), (11, fd11), (12, fd12), (13, fd13), (14, fd14), (15, fd15), (16, fd16), (17, fd17), (18, fd18), (19, fd19), (20, fd20), (21, fd21), (22, fd22), (23, fd23), (24, fd24), (25, fd25), (26, fd26), (27, fd27), (28, fd28), (29, fd29), (30, fd30), (31, fd31), (32, fd32), (33, fd33), (34, fd34), (35, fd35), (36, fd36), (37, fd37), (38, fd38), (39, fd39), (40, fd40), (41, fd41), (42, fd42), (43, fd43), (44, fd44), (45, fd45), (46, fd46), (47, fd47), (48, fd48), (49, fd49), (50, fd50), (51, fd51), (52, fd52), (53, fd53), (54, fd54), (55, fd55), (56, fd56), (57, fd57), (58, fd58), (59, fd59), (60, fd60), (61, fd61), (62, fd62), (63, fd63), (64, fd64), (65, fd65), (66, fd66), (67, fd67), (68, fd68), (69, fd69), (70, fd70), (71, fd71), (72, fd72), (73, fd73), (74, fd74), (75, fd75), (76, fd76), (77, fd77), (79, fd79), (80, fd80), (81, fd81), (82, fd82), (83, fd83), (84, fd84), (85, fd85), (86, fd86), (87, fd87), (88, fd88), (89, fd89), (90, fd90), (91, fd91), (92, fd92), (93, fd93), (94, fd94), (95, fd95), (96, fd96), (97, fd97), (98, fd98), (99, fd99), (100, fd100), (101, fd101), (102, fd102), (103, fd103), (104, fd104), (105, fd105), (106, fd106), (107, fd107), (108, fd108), (109, fd109), (110, fd110)]
def lookS : List (Nat × DFun) → Nat → Option DFun
  | [], _ => none
  | p :: r, n => if p.1 = n then some p.2 else lookS r n
end Go.Ab

/-
  The program: its functions, its variable, and what is told of functions by other means. Conditions: none (definitions and lemmas).
-/
namespace Go.Ab
open Dig

/-- the shapes of operations, as they stand in the variable. -/
structure Shape where
  op : Int
  word : List UInt8
  has : Bool
  ways : Bool
def eShape (s : Shape) : List D := [ei s.op, .str s.word, eb s.has, eb s.ways]
def bs (s : String) : List UInt8 := s.toUTF8.data.toList
def shapes : List Shape := [⟨0, bs "ld", true, false⟩, ⟨1, bs "ldx", true, false⟩, ⟨2, bs "st", true, false⟩, ⟨3, bs "stx", true, false⟩,
  ⟨4, bs "add", true, false⟩, ⟨20, bs "sub", true, false⟩, ⟨36, bs "mul", true, false⟩, ⟨52, bs "div", true, false⟩, ⟨68, bs "or", true, false⟩, ⟨84, bs "and", true, false⟩, ⟨100, bs "lsh", true, false⟩, ⟨116, bs "rsh", true, false⟩, ⟨164, bs "xor", true, false⟩,
  ⟨12, bs "addx", false, false⟩, ⟨28, bs "subx", false, false⟩, ⟨44, bs "mulx", false, false⟩, ⟨60, bs "divx", false, false⟩, ⟨76, bs "orx", false, false⟩, ⟨92, bs "andx", false, false⟩, ⟨108, bs "lshx", false, false⟩, ⟨124, bs "rshx", false, false⟩, ⟨172, bs "xorx", false, false⟩,
  ⟨132, bs "neg", false, false⟩, ⟨7, bs "tax", false, false⟩, ⟨135, bs "txa", false, false⟩, ⟨32, bs "abs", true, false⟩, ⟨96, bs "mem", true, false⟩, ⟨97, bs "memx", true, false⟩, ⟨5, bs "ja", true, false⟩, ⟨6, bs "ret", true, false⟩, ⟨22, bs "reta", false, false⟩,
  ⟨21, bs "jeq", true, true⟩, ⟨37, bs "jgt", true, true⟩, ⟨53, bs "jge", true, true⟩, ⟨69, bs "jset", true, true⟩, ⟨29, bs "jeqx", false, true⟩, ⟨45, bs "jgtx", false, true⟩, ⟨61, bs "jgex", false, true⟩, ⟨77, bs "jsetx", false, true⟩]
def shapesD : D := .agg (shapes.flatMap eShape)
/-- names.name: the name of a number, of a map in which each number stands once. -/
def isStr : D → Bool
  | .str _ => true
  | _ => false
def isU32 : D → Bool
  | .int .u32 _ => true
  | _ => false
def numD : D → Int
  | .int _ n => n
  | _ => 0
def nameOf : List D → List D → Int → D
  | k :: ks, v :: vs, m => if numD v = m then k else nameOf ks vs m
  | _, _, _ => .str []
def nameCall : List D → Option D
  | [.fmap ks vs, .int .u32 n] => if ks.all isStr = true ∧ vs.all isU32 = true ∧ (vs.map numD).Nodup ∧ ks.length = vs.length then some (nameOf ks vs n) else none
  | _ => none
theorem nameCall_eq (ks vs : List D) (n : Int) (h1 : ks.all isStr = true) (h2 : vs.all isU32 = true) (h3 : (vs.map numD).Nodup) (h4 : ks.length = vs.length) : nameCall [.fmap ks vs, .int .u32 n] = some (nameOf ks vs n) := by
  simp only [nameCall, if_pos (And.intro h1 (And.intro h2 (And.intro h3 h4)))]
def orcS (f : Nat) (as : List D) : Option D := if f = 78 then nameCall as else none
def S0 : Sys := { prog := lookS tabS, glob := fun g => if g = 0 then some shapesD else none, orc := orcS }
noncomputable abbrev C0 : Ctx := Clim S0
theorem orc_none {f : Nat} {as : List D} (h : (f == 78) = false) : S0.orc f as = none := by
  have h1 : f ≠ 78 := by simpa using h
  show orcS f as = none
  rw [orcS, if_neg h1]
/-- a function's answer, of data, by its code. -/
theorem pure_by {f : Nat} {fd : DFun} {ds : List D} {d : D} (ho : (f == 78) = false) (hf : lookS tabS f = some fd) (hl : ds.length = fd.nparams)
    (g : Goes' C0 [.c fd.body] (initEnv 0 (ds.map AV.d)) {} (PureQ fd.results d)) : C0.pure f ds = some d :=
  pure_goes (orc_none ho) hf hl g
theorem own_by {f : Nat} {fd : DFun} {ds : List D} {r : AV} {h' : Heap} (hf : lookS tabS f = some fd) (hl : ds.length = fd.nparams) (hr : heapless r = true)
    (g : Goes' C0 [.c fd.body] (initEnv 0 (ds.map AV.d)) {} (ImpQ fd.results r h')) : C0.own f ds = some r :=
  own_goes hf hl hr g
theorem imp_by {f : Nat} {fd : DFun} {as : List AV} {h : Heap} {r : AV} {h' : Heap} (hf : lookS tabS f = some fd) (hl : as.length = fd.nparams)
    (g : Goes' C0 [.c fd.body] (initEnv 0 as) h (ImpQ fd.results r h')) : C0.imp f as h = some (r, h') :=
  imp_goes hf hl g
/-- of an answer and a heap that are told by a relation. -/
def ImpE (rs : List Res) (P : AV → Heap → Prop) : XP := fun x e h => match resAll e h rs with
  | some as => retOk x = true ∧ P (pack as) h
  | none => False
attribute [simp] ImpE
theorem impE_by {f : Nat} {fd : DFun} {as : List AV} {h : Heap} {P : AV → Heap → Prop} (hf : lookS tabS f = some fd) (hl : as.length = fd.nparams)
    (g : Goes' C0 [.c fd.body] (initEnv 0 as) h (ImpE fd.results P)) : ∃ r h', C0.imp f as h = some (r, h') ∧ P r h' := by
  obtain ⟨x, e1, h1, hr, hx⟩ := g
  have hq : ImpE fd.results P x e1 h1 := by cases x <;> exact hx
  unfold ImpE at hq
  split at hq
  · rename_i rs hrs
    exact ⟨pack rs, h1, imp_of_runs hf hl hr (by intro id hc; subst hc; simp [retOk] at hq) hrs, hq.2⟩
  · exact hq.elim
@[simp] theorem get_app {α : Type} (a b : List α) (i : Nat) : (a ++ b)[a.length + i]? = b[i]? := by rw [List.getElem?_append_right (by omega)]; congr 1; omega
@[simp] theorem get_app0 {α : Type} (a b : List α) : (a ++ b)[a.length]? = b[0]? := get_app a b 0
@[simp] theorem set_app {α : Type} (a b : List α) (i : Nat) (x : α) : (a ++ b).set (a.length + i) x = a ++ b.set i x := by rw [List.set_append_right _ _ (by omega)]; congr 2; omega
@[simp] theorem set_app0 {α : Type} (a b : List α) (x : α) : (a ++ b).set a.length x = a ++ b.set 0 x := set_app a b 0 x
@[simp] theorem glob0 : C0.glob 0 = some shapesD := rfl
end Go.Ab

/-
  Instructions and words: what the program's functions answer. Conditions: none.
-/
namespace Go.Ab
open Dig
set_option maxRecDepth 4000

/-! ### the shapes of operations -/
def shapeOf (op : Int) : Option Shape := shapes.find? fun s => s.op == op
theorem shapes_len : shapes.length = 39 := rfl
@[simp] theorem shapes_read : AV.read (.d shapesD) 0 156 true = some (.d shapesD) := rfl
@[simp] theorem shapes_agg : AV.isAgg (.d shapesD) = true := (rfl)
theorem shapes_at (i : Nat) (h : i < 39) : AV.read (.d shapesD) (i * 4) 4 true = some (.d (.agg (eShape (shapes[i]'h)))) := by
  have : ∀ i : Fin 39, AV.read (.d shapesD) (i * 4) 4 true = some (.d (.agg (eShape (shapes[i]'i.isLt)))) := by
    intro i
    repeat (refine Fin.cases ?_ (fun i => ?_) i; rfl)
    exact i.elim0
  exact this ⟨i, h⟩
def shapeD (s : Option Shape) : D := match s with
  | some s => .agg (eShape s)
  | none => .agg [ei 0, .str [], eb false, eb false]
@[simp] theorem shapeD_some (s : Shape) : shapeD (some s) = .agg [ei s.op, .str s.word, eb s.has, eb s.ways] := rfl
@[simp] theorem shapeD_none : shapeD none = .agg [ei 0, .str [], eb false, eb false] := rfl
theorem of_eq (op : Int) : C0.pure 53 [ei op] = some (.tup [shapeD (shapeOf op), eb (shapeOf op).isSome]) := by
  refine pure_by rfl (by rfl) rfl ?_
  simp [fd53]
  refine loop_by (fun i : Nat => 39 - i) (fun i => [(0, .v (.d (ei op))), (2, .var 0 (.d (.agg [ei 0, .str [], eb false, eb false]))), (6, .v (.d shapesD)), (7, .v (.d (ei i)))]) (fun _ => {}) (fun i => i ≤ 39 ∧ shapeOf op = (shapes.drop i).find? fun s => s.op == op) ?_ 0 ⟨by omega, rfl⟩
  intro i ⟨hi, hs⟩ B again
  by_cases h : i < 39
  · have hd : shapes.drop i = shapes[i]'h :: shapes.drop (i + 1) := List.drop_eq_getElem_cons h
    rw [hd, List.find?_cons] at hs
    have h' : (i : Int) < 39 := by omega
    by_cases hop : (shapes[i]'h).op = op
    · simp [hop] at hs
      simp [l53_0, h', h, shapes_at, eShape, hop, hs]
    · have hop' : ((shapes[i]'h).op == op) = false := by simpa using hop
      simp only [hop'] at hs
      simp [l53_0, h', h, shapes_at, eShape, hop, wrap_succ h]
      simpa using again (i + 1) ⟨by omega, hs⟩ (by omega)
  · have : i = 39 := by omega
    subst this
    rw [show shapes.drop 39 = [] from rfl, List.find?_nil] at hs
    simp [l53_0, hs, k53_1]
@[simp] theorem of_some {op : Int} {s : Shape} (h : shapeOf op = some s) : C0.pure 53 [.int .i64 op] = some (.tup [.agg [ei op, .str s.word, eb s.has, eb s.ways], eb true]) := by
  have h1 := of_eq op
  have h2 : s.op = op := by have := List.find?_some h; simpa using this
  simpa [h, h2] using h1
@[simp] theorem of_none {op : Int} (h : shapeOf op = none) : C0.pure 53 [.int .i64 op] = some (.tup [.agg [ei 0, .str [], eb false, eb false], eb false]) := by
  have h1 := of_eq op
  simpa [h] using h1
/-- what holds of all shapes holds of an operation that has one. -/
theorem shape_mem {op : Int} {s : Shape} (h : shapeOf op = some s) : s ∈ shapes ∧ s.op = op :=
  ⟨List.mem_of_find?_eq_some h, by have := List.find?_some h; simpa using this⟩

/-! ### what an instruction is -/
def Ins.right (x : Ins) : Bool := match shapeOf x.op with
  | none => false
  | some s => (s.has || x.k == 0) && if s.ways then decide (0 ≤ x.jt) && decide (x.jt ≤ 255) && decide (0 ≤ x.jf) && decide (x.jf ≤ 255) else x.jt == 0 && x.jf == 0
theorem right_eq (x : Ins) : C0.pure 45 [eIns x] = some (eb x.right) := by
  refine pure_by rfl (by rfl) rfl ?_
  simp only [fd45]
  cases hs : shapeOf x.op with
  | none => simp [hs, Ins.right]
  | some s =>
    cases hh : s.has <;> cases hw : s.ways
    · rcases and3 (x.k = 0#32) (x.jt = 0) (x.jf = 0) with h | ⟨h1, h⟩ | ⟨h1, h2, h⟩ | ⟨h1, h2, h⟩ <;> simp [*, Ins.right]
    · by_cases h0 : x.k = 0#32
      · rcases and4 (0 ≤ x.jt) (x.jt ≤ 255) (0 ≤ x.jf) (x.jf ≤ 255) with h | ⟨h1, h⟩ | ⟨h1, h2, h⟩ | ⟨h1, h2, h3, h⟩ | ⟨h1, h2, h3, h⟩ <;> simp [*, Ins.right]
      · simp [*, Ins.right]
    · rcases and2 (x.jt = 0) (x.jf = 0) with h | ⟨h1, h⟩ | ⟨h1, h⟩ <;> simp [*, Ins.right]
    · rcases and4 (0 ≤ x.jt) (x.jt ≤ 255) (0 ≤ x.jf) (x.jf ≤ 255) with h | ⟨h1, h⟩ | ⟨h1, h2, h⟩ | ⟨h1, h2, h3, h⟩ | ⟨h1, h2, h3, h⟩ <;> simp [*, Ins.right]

/-- arithmetic: its kind, and whether it is by X. -/
def aluOf (op : Int) : Option (Int × Bool) :=
  if op ∈ [4, 20, 36, 52, 68, 84, 100, 116, 164] then some (op, false)
  else if op ∈ [12, 28, 44, 60, 76, 92, 108, 124, 172] then some (op - 8, true) else none
def isBranch (op : Int) : Bool := op ∈ [21, 37, 53, 69, 29, 45, 61, 77]
def isEnd (op : Int) : Bool := decide (op = 6) || decide (op = 22)
def andI (a b : Int) : Int := IntKind.wrap .i64 ((BitVec.ofInt 64 a &&& BitVec.ofInt 64 b).toNat : Int)
def andNotI (a b : Int) : Int := IntKind.wrap .i64 ((BitVec.ofInt 64 a &&& ~~~BitVec.ofInt 64 b).toNat : Int)
@[simp] theorem andi (a b : Int) : binD .and (.int .i64 a) (.int .i64 b) = some (.int .i64 (andI a b)) := rfl
@[simp] theorem andNoti (a b : Int) : binD .andNot (.int .i64 a) (.int .i64 b) = some (.int .i64 (andNotI a b)) := rfl
theorem shapes_facts : ∀ s ∈ shapes, (andI s.op 7 == 5 && s.op != 5) = isBranch s.op ∧ (aluOf s.op = if andI s.op 7 != 4 || s.op == 132 then none else some (andNotI s.op 8, decide (0 < andI s.op 8))) := by decide
theorem no_shape_branch {op : Int} (h : shapeOf op = none) : isBranch op = false := by
  cases hb : isBranch op with
  | false => rfl
  | true =>
    simp only [isBranch, decide_eq_true_eq, List.mem_cons, List.not_mem_nil, or_false] at hb
    rcases hb with rfl | rfl | rfl | rfl | rfl | rfl | rfl | rfl <;> exact absurd h (by decide)
theorem no_shape_alu {op : Int} (h : shapeOf op = none) : aluOf op = none := by
  unfold aluOf
  rw [if_neg, if_neg]
  · intro hb
    simp only [List.mem_cons, List.not_mem_nil, or_false] at hb
    rcases hb with rfl | rfl | rfl | rfl | rfl | rfl | rfl | rfl | rfl <;> exact absurd h (by decide)
  · intro hb
    simp only [List.mem_cons, List.not_mem_nil, or_false] at hb
    rcases hb with rfl | rfl | rfl | rfl | rfl | rfl | rfl | rfl | rfl <;> exact absurd h (by decide)
@[simp] theorem branch_eq (x : Ins) : C0.pure 33 [eIns x] = some (eb (isBranch x.op)) := by
  refine pure_by rfl (by rfl) rfl ?_
  obtain ⟨op, jt, jf, k⟩ := x
  show Goes' _ _ _ _ (PureQ _ (eb (isBranch op)))
  cases hs : shapeOf op with
  | none => simp [fd33, hs, no_shape_branch hs]
  | some s =>
    have hm := shape_mem hs
    have hf := (shapes_facts s hm.1).1
    rw [hm.2] at hf
    rw [← hf]
    by_cases h5 : op = 5
    · subst h5
      by_cases h7 : andI 5 7 = 5 <;> simp [fd33, hs, h7]
    · by_cases h7 : andI op 7 = 5 <;> simp [fd33, hs, h5, h7]
def aluD (o : Option (Int × Bool)) : D := match o with
  | some p => .tup [ei p.1, eb p.2, eb true]
  | none => .tup [ei 0, eb false, eb false]
theorem alu_eq (x : Ins) : C0.pure 54 [eIns x] = some (aluD (aluOf x.op)) := by
  refine pure_by rfl (by rfl) rfl ?_
  obtain ⟨op, jt, jf, k⟩ := x
  show Goes' _ _ _ _ (PureQ _ (aluD (aluOf op)))
  cases hs : shapeOf op with
  | none => simp [fd54, hs, no_shape_alu hs, aluD]
  | some s =>
    have hm := shape_mem hs
    have hf := (shapes_facts s hm.1).2
    rw [hm.2] at hf
    rw [hf]
    by_cases h5 : op = 132
    · subst h5
      by_cases h7 : andI 132 7 = 4 <;> simp [fd54, hs, h7, aluD]
    · by_cases h7 : andI op 7 = 4 <;> simp [fd54, hs, h5, h7, aluD]
@[simp] theorem alu_some {x : Ins} {k : Int} {b : Bool} (h : aluOf x.op = some (k, b)) : C0.pure 54 [eIns x] = some (.tup [ei k, eb b, eb true]) := by rw [alu_eq, h]; rfl
@[simp] theorem alu_none {x : Ins} (h : aluOf x.op = none) : C0.pure 54 [eIns x] = some (.tup [ei 0, eb false, eb false]) := by rw [alu_eq, h]; rfl
@[simp] theorem ends_eq (x : Ins) : C0.pure 77 [eIns x] = some (eb (isEnd x.op)) := by
  refine pure_by rfl (by rfl) rfl ?_
  by_cases h : x.op = 6 <;> simp [fd77, isEnd, h]
attribute [simp] right_eq

/-! ### arithmetic of words -/
def doW (kind : Int) (a b : BitVec 32) : Option (BitVec 32) :=
  if kind = 4 then some (a + b) else if kind = 20 then some (a - b) else if kind = 36 then some (a * b)
  else if kind = 52 then (if b = 0#32 then none else some (a / b)) else if kind = 68 then some (a ||| b) else if kind = 84 then some (a &&& b)
  else if kind = 100 then some (a <<< (b &&& 31#32).toNat) else if kind = 116 then some (a >>> (b &&& 31#32).toNat) else if kind = 164 then some (a ^^^ b) else none
def wordD (o : Option (BitVec 32)) : D := match o with
  | some v => .tup [e32 v, eb true]
  | none => .tup [e32 0#32, eb false]
@[simp] theorem do_eq (kind : Int) (a b : BitVec 32) : C0.pure 55 [.int .i64 kind, e32 a, e32 b] = some (wordD (doW kind a b)) := by
  refine pure_by rfl (by rfl) rfl ?_
  simp only [fd55, doW]
  by_cases h1 : kind = 4
  · simp [h1, wordD]
  by_cases h2 : kind = 20
  · simp [h2, wordD]
  by_cases h3 : kind = 36
  · simp [h3, wordD]
  by_cases h4 : kind = 52
  · by_cases hb : b = 0#32 <;> simp [h4, hb, wordD]
  by_cases h5 : kind = 68
  · simp [h5, wordD]
  by_cases h6 : kind = 84
  · simp [h6, wordD]
  by_cases h7 : kind = 100
  · simp [h7, wordD]
  by_cases h8 : kind = 116
  · simp [h8, wordD]
  by_cases h9 : kind = 164
  · simp [h9, wordD]
  · simp [h1, h2, h3, h4, h5, h6, h7, h8, h9, wordD]
theorem neg_eq (a : BitVec 32) : C0.pure 59 [e32 a] = some (e32 (-a)) := by
  refine pure_by rfl (by rfl) rfl ?_
  simp [fd59]
end Go.Ab

/-
  Names, conditions, policies, code from behind: what the program's functions answer. Conditions: none.
-/
namespace Go.Ab
open Dig
set_option maxRecDepth 4000

/-! ### a number's text -/
def nib (n : BitVec 64) (k : Nat) : BitVec 64 := n >>> (4 * k) &&& 15#64
def hexDigit (d : Nat) : UInt8 := if d < 10 then UInt8.ofNat (48 + d) else UInt8.ofNat (87 + d)
def textGo (n : BitVec 64) : Nat → Bool → List UInt8
  | 0, _ => []
  | k + 1, b => if b || decide (0#64 < nib n k) || k == 0 then hexDigit (nib n k).toNat :: textGo n k true else textGo n k false
def numText (n : BitVec 64) : List UInt8 := [48, 120] ++ textGo n 16 false
theorem textGo_len (n : BitVec 64) : ∀ (k : Nat) (b : Bool), (textGo n k b).length ≤ k
  | 0, _ => by simp [textGo]
  | k + 1, b => by
    have h1 := textGo_len n k true
    have h2 := textGo_len n k false
    simp only [textGo]; split <;> simp <;> omega
def hexDigits : List UInt8 := [48, 49, 50, 51, 52, 53, 54, 55, 56, 57, 97, 98, 99, 100, 101, 102]
@[simp] theorem fold_hex : D.str [48, 49, 50, 51, 52, 53, 54, 55, 56, 57, 97, 98, 99, 100, 101, 102] = D.str hexDigits := rfl
theorem digits_at (d : BitVec 64) (h : d ≤ 15#64) : hexDigits[d.toNat]? = some (hexDigit d.toNat) := by
  have h1 : d.toNat < 16 := by have := BitVec.le_def.1 h; simp at this; omega
  have : ∀ i : Fin 16, hexDigits[i.val]? = some (hexDigit i.val) := by decide
  exact this ⟨_, h1⟩
theorem nib_le (n : BitVec 64) (k : Nat) : nib n k ≤ 15#64 := by
  rw [BitVec.le_def, nib, BitVec.toNat_and]; exact Nat.and_le_right
set_option maxHeartbeats 1000000 in
theorem text_eq (n : BitVec 64) : C0.pure 80 [e64 n] = some (.str (numText n)) := by
  refine pure_by rfl (by rfl) rfl ?_
  simp [fd80, conv]
  refine loop_by (σ := Nat × List UInt8 × Bool) (fun s => s.1) (fun s => [(0, .v (.d (e64 n))), (3, .v (.acc 1 (s.2.1.map e8))), (4, .v (.d (eb s.2.2))), (5, .v (.d (ei (4 * (s.1 : Int) - 4))))]) (fun _ => {}) (fun s => s.1 ≤ 16 ∧ s.2.1.length + s.1 ≤ 18 ∧ s.2.1 ++ textGo n s.1 s.2.2 = numText n) ?_ (16, [48, 120], false) ⟨by simp, by simp, by simp [numText]⟩
  rintro ⟨k, pre, b⟩ ⟨hk, hl, hs⟩ B again
  simp only at hk hl hs
  cases k with
  | zero =>
    simp [textGo] at hs
    simp [l80_0, k80_1, conv, hs]
  | succ j =>
    have e1 : (4 * ((j + 1 : Nat) : Int) - 4) = ((4 * j : Nat) : Int) := by omega
    have h15 := nib_le n j
    have hd := digits_at (nib n j) h15
    have hlen : pre.length + 1 ≤ 70368744177664 := by omega
    have hw : IntKind.wrap .i64 (((4 * j : Nat) : Int) - 4) = 4 * (j : Int) - 4 := by rw [wrap_i64' _ (by omega) (by omega)]; omega
    simp only [e1]
    have go : ∀ b' : Bool, (b || decide (0#64 < nib n j) || j == 0) = b' → (∀ pre', (if b' then pre ++ [hexDigit (nib n j).toNat] else pre) = pre' → Goes' C0 [.l B, .b 0, .c k80_1] [(0, .v (.d (e64 n))), (3, .v (.acc 1 (pre'.map e8))), (4, .v (.d (eb b'))), (5, .v (.d (ei (4 * (j : Int) - 4))))] {} (PureQ [.tmp 2] (.str (numText n)))) := by
      intro b' hb pre' hp
      refine again (j, pre', b') ⟨by omega, ?_, ?_⟩ (by simp)
      · subst hp; cases b' <;> simp <;> omega
      · subst hp; rw [← hs]; simp only [textGo, hb]
        cases b' <;> simp

    have h0 : (0 : Int) ≤ 4 * (j : Int) := by omega
    have ht : (4 * (j : Int)).toNat = 4 * j := by omega
    have hnib : n >>> (4 * j) &&& 15#64 = nib n j := rfl
    have hw' : IntKind.wrap .i64 (4 * (j : Int) - 4) = 4 * (j : Int) - 4 := by simpa using hw
    by_cases hb : b = true
    · subst hb
      have g := go true (by simp) _ rfl
      simp [l80_0, hd, hw', hlen, h0, ht, hnib]
      simpa using g
    · have hb' : b = false := by simpa using hb
      subst hb'
      by_cases hn : 0#64 < nib n j
      · have g := go true (by simp [hn]) _ rfl
        simp [l80_0, hd, hw', hlen, h0, ht, hnib, hn]
        simpa using g
      · by_cases hj : j = 0
        · have g := go true (by simp [hj]) _ rfl
          subst hj
          have hn0 : n &&& 15#64 = nib n 0 := by simp [nib]
          have w4 : IntKind.wrap .i64 (-4) = -4 := wrap_i64' _ (by omega) (by omega)
          simp [l80_0, hd, hlen, hn, hn0, w4]
          simpa using g
        · have g := go false (by simp [hj, hn]) _ rfl
          have h4 : ¬ 4 * (j : Int) = 0 := by omega
          simp [l80_0, hd, hw', hlen, hn, h4, h0, ht, hnib]
          simpa using g

/-! ### actions -/
def actionMap : D := .fmap [.str [107, 105, 108, 108], .str [116, 114, 97, 112], .str [108, 111, 103], .str [97, 108, 108, 111, 119]] [n32 0, n32 196608, n32 2147221504, n32 2147418112]
@[simp] theorem actions_eq : C0.pure 79 [] = some actionMap := by
  refine pure_by rfl (by rfl) rfl ?_
  simp [fd79, findK]
  rfl
def actName (v : BitVec 32) : List UInt8 := if v = 0#32 then [107, 105, 108, 108] else if v = 196608#32 then [116, 114, 97, 112] else if v = 2147221504#32 then [108, 111, 103] else if v = 2147418112#32 then [97, 108, 108, 111, 119] else []
@[simp] theorem actName_eq (v : BitVec 32) : C0.pure 78 [actionMap, e32 v] = some (.str (actName v)) := by
  refine pure_of_orc ?_
  have h (n : Nat) (hn : n < 4294967296) : ((n : Int) = (v.toNat : Int)) = (v = BitVec.ofNat 32 n) := by
    simp only [eq_iff_iff]
    constructor
    · intro h; apply BitVec.eq_of_toNat_eq; simp; omega
    · rintro rfl; simp; omega
  have h2 : nameOf [.str [107, 105, 108, 108], .str [116, 114, 97, 112], .str [108, 111, 103], .str [97, 108, 108, 111, 119]] [n32 0, n32 196608, n32 2147221504, n32 2147418112] (v.toNat : Int) = .str (actName v) := by
    show (if ((0 : Nat) : Int) = (v.toNat : Int) then (D.str [107, 105, 108, 108]) else if ((196608 : Nat) : Int) = (v.toNat : Int) then (.str [116, 114, 97, 112]) else if ((2147221504 : Nat) : Int) = (v.toNat : Int) then (.str [108, 111, 103]) else if ((2147418112 : Nat) : Int) = (v.toNat : Int) then (.str [97, 108, 108, 111, 119]) else (.str [])) = _
    simp only [h 0 (by omega), h 196608 (by omega), h 2147221504 (by omega), h 2147418112 (by omega), actName]
    repeat' split
    all_goals rfl
  refine Eq.trans (show orcS 78 [actionMap, e32 v] = nameCall [actionMap, .int .u32 (v.toNat : Int)] from rfl) ?_
  have h3 := nameCall_eq [.str [107, 105, 108, 108], .str [116, 114, 97, 112], .str [108, 111, 103], .str [97, 108, 108, 111, 119]] [n32 0, n32 196608, n32 2147221504, n32 2147418112] (v.toNat : Int) rfl rfl (by decide) rfl
  rw [actionMap, h3, h2]
def actionOk (v : BitVec 32) : Bool := !decide (actName v = []) || decide (v - 327680#32 ≤ 4095#32)
def actionText (v : BitVec 32) : List UInt8 := if actName v = [] then if v - 327680#32 ≤ 4095#32 then [101, 114, 114, 111, 114, 58] ++ numText ((v - 327680#32).setWidth 64) else [] else actName v
@[simp] theorem action_eq (v : BitVec 32) : C0.pure 48 [e32 v] = some (.tup [.str (actionText v), ei (if actionOk v then 0 else 1)]) := by
  refine pure_by rfl (by rfl) rfl ?_
  have hl : (numText ((v - 327680#32).setWidth 64)).length ≤ 18 := by simp [numText]; have := textGo_len ((v - 327680#32).setWidth 64) 16 false; omega
  have hs : ([101, 114, 114, 111, 114, 58] : List UInt8).length + (numText ((v - 327680#32).setWidth 64)).length ≤ 9223372036854775807 := by simp; omega
  by_cases h1 : actName v = []
  · by_cases h2 : v - 327680#32 ≤ 4095#32
    · simp [fd48, h1, h2, actionOk, actionText, text_eq]
      rw [adds _ _ hs]
      simp
    · simp [fd48, h1, h2, actionOk, actionText]
  · simp [fd48, h1, actionOk, actionText]

/-! ### conditions, rules, policies -/
def Cond.right (c : Cond) : Bool := decide (0 ≤ c.arg) && decide (c.arg < 6) && decide (0 ≤ c.cmp) && decide (c.cmp ≤ 5)
@[simp] theorem condRight_eq (c : Cond) : C0.pure 38 [eCond c] = some (eb c.right) := by
  refine pure_by rfl (by rfl) rfl ?_
  rcases and4 (0 ≤ c.arg) (c.arg < 6) (0 ≤ c.cmp) (c.cmp ≤ 5) with h | ⟨h1, h⟩ | ⟨h1, h2, h⟩ | ⟨h1, h2, h3, h⟩ | ⟨h1, h2, h3, h⟩ <;> simp [fd38, Cond.right, *]
def kindsD : D := .agg [.str [101, 113], .fnc 102, ei 1, .str [110, 101], .fnc 103, ei 0, .str [108, 116], .fnc 104, ei 5, .str [108, 101], .fnc 105, ei 4, .str [103, 116], .fnc 106, ei 3, .str [103, 101], .fnc 107, ei 2]
@[simp] theorem kinds_eq : C0.pure 88 [] = some kindsD := by
  refine pure_by rfl (by rfl) rfl ?_
  simp [fd88]
  rfl
def notCmp (c : Int) : Int := if c = 0 then 1 else if c = 1 then 0 else if c = 2 then 5 else if c = 3 then 4 else if c = 4 then 3 else 2
def Cond.not (c : Cond) : Cond := if c.right then { c with cmp := notCmp c.cmp } else c
@[simp] theorem condNot_eq (c : Cond) : C0.pure 63 [eCond c] = some (eCond c.not) := by
  refine pure_by rfl (by rfl) rfl ?_
  obtain ⟨a, m, b, v⟩ := c
  cases hr : Cond.right ⟨a, m, b, v⟩ with
  | false => simp [fd63, Cond.not, hr]
  | true =>
    have hm : m = 0 ∨ m = 1 ∨ m = 2 ∨ m = 3 ∨ m = 4 ∨ m = 5 := by simp [Cond.right] at hr; omega
    rcases hm with rfl | rfl | rfl | rfl | rfl | rfl <;> simp [fd63, Cond.not, hr, kindsD, notCmp]
def Rule.may (x : Rule) : Bool := x.conds.all Cond.right && actionOk x.action && decide (x.conds.length ≤ 4)
theorem may_eq (x : Rule) (hx : x.conds.length ≤ 4611686018427387904) : C0.pure 47 [eRule x] = some (eb x.may) := by
  refine pure_by rfl (by rfl) rfl ?_
  simp [fd47]
  refine loop_by (fun i : Nat => x.conds.length - i) (fun i => [(1, .var 0 (.d (eRule x))), (8, .v (.d (.lst (x.conds.map eCond)))), (9, .v (.d (ei x.conds.length))), (10, .v (.d (ei i)))]) (fun _ => {}) (fun i => i ≤ x.conds.length ∧ x.conds.all Cond.right = (x.conds.drop i).all Cond.right) ?_ 0 ⟨by omega, rfl⟩
  intro i ⟨hi, hs⟩ B again
  by_cases h : i < x.conds.length
  · obtain ⟨y, hy, hy', hd⟩ := drop_at _ i h
    rw [hd, List.all_cons] at hs
    cases hr : y.right with
    | false =>
      rw [hr, Bool.false_and] at hs
      simp [l47_0, h, hy', hr, Rule.may, hs]
    | true =>
      rw [hr, Bool.true_and] at hs
      simp [l47_0, h, hy', hr, wrap_succ h hx]
      simpa using again (i + 1) ⟨by omega, hs⟩ (by omega)
  · have : i = x.conds.length := by omega
    subst this
    simp only [List.drop_length, List.all_nil] at hs
    by_cases ha : actionOk x.action = true
    · by_cases hl : x.conds.length ≤ 4 <;> simp [l47_0, k47_1, Rule.may, hs, ha, hl]
    · simp [l47_0, k47_1, Rule.may, hs, ha]
def Policy.right (p : Policy) : Bool := p.rules.all Rule.may && actionOk p.dflt && decide (p.rules.length ≤ 64)
/-- rows that are no longer than may be counted. -/
def Policy.small (p : Policy) : Prop := p.rules.length ≤ 1099511627776 ∧ ∀ x ∈ p.rules, x.conds.length ≤ 1099511627776
theorem policyRight_eq (p : Policy) (hp : p.small) : C0.pure 24 [ePolicy p] = some (eb p.right) := by
  refine pure_by rfl (by rfl) rfl ?_
  simp [fd24]
  refine loop_by (fun i : Nat => p.rules.length - i) (fun i => [(1, .var 0 (.d (ePolicy p))), (8, .v (.d (.lst (p.rules.map eRule)))), (9, .v (.d (ei p.rules.length))), (10, .v (.d (ei i)))]) (fun _ => {}) (fun i => i ≤ p.rules.length ∧ p.rules.all Rule.may = (p.rules.drop i).all Rule.may) ?_ 0 ⟨by omega, rfl⟩
  intro i ⟨hi, hs⟩ B again
  have hn := hp.1
  by_cases h : i < p.rules.length
  · obtain ⟨y, hy, hy', hd⟩ := drop_at _ i h
    have hy2 := hp.2 y (List.mem_of_getElem? hy)
    rw [hd, List.all_cons] at hs
    have hm := may_eq y (by omega)
    cases hr : y.may with
    | false =>
      rw [hr, Bool.false_and] at hs
      simp [l24_0, h, hy', hm, hr, Policy.right, hs]
    | true =>
      rw [hr, Bool.true_and] at hs
      simp [l24_0, h, hy', hm, hr, wrap_succ h (show p.rules.length ≤ 4611686018427387904 by omega)]
      simpa using again (i + 1) ⟨by omega, hs⟩ (by omega)
  · have : i = p.rules.length := by omega
    subst this
    simp only [List.drop_length, List.all_nil] at hs
    by_cases ha : actionOk p.dflt = true
    · by_cases hl : p.rules.length ≤ 64 <;> simp [l24_0, k24_1, Policy.right, hs, ha, hl]
    · simp [l24_0, k24_1, Policy.right, hs, ha]
end Go.Ab

/-
  Code from behind: what the program's functions answer. Conditions: none.
-/
namespace Go.Ab
open Dig
set_option maxRecDepth 4000

/-! ### where an argument's words are -/
def lowAt (a : Int) : BitVec 32 := if 0 ≤ a ∧ a < 6 then BitVec.ofInt 32 (16 + 8 * a) else 64#32
def highAt (a : Int) : BitVec 32 := if 0 ≤ a ∧ a < 6 then BitVec.ofInt 32 (16 + 8 * a) + 4#32 else 64#32
@[simp] theorem low_eq (a : Int) : C0.pure 65 [.int .i64 a] = some (e32 (lowAt a)) := by
  refine pure_by rfl (by rfl) rfl ?_
  by_cases h1 : a < 0
  · simp [fd65, h1, lowAt, show ¬ 0 ≤ a by omega]
  · by_cases h2 : 6 ≤ a
    · simp [fd65, h1, h2, lowAt, show ¬ a < 6 by omega]
    · simp [fd65, h1, h2, lowAt, show a < 6 by omega, show 0 ≤ a by omega, wrap_i64' (8 * a) (by omega) (by omega), wrap_i64' (16 + 8 * a) (by omega) (by omega)]
@[simp] theorem high_eq (a : Int) : C0.pure 67 [.int .i64 a] = some (e32 (highAt a)) := by
  refine pure_by rfl (by rfl) rfl ?_
  by_cases h1 : a < 0
  · simp [fd67, h1, highAt, show ¬ 0 ≤ a by omega]
  · by_cases h2 : 6 ≤ a
    · simp [fd67, h1, h2, highAt, show ¬ a < 6 by omega]
    · simp [fd67, h1, h2, highAt, lowAt, show a < 6 by omega, show 0 ≤ a by omega]

/-! ### code that grows -/
abbrev Grown := List Ins × Int × Int
def eGrown (r : Grown) : D := .tup [.lst (r.1.map eIns), ei r.2.1, ei r.2.2]
def ahead (c : List Ins) (x : Ins) : Grown := if c.length < 4096 then (x :: c, (c.length : Int) + 1, 0) else (c, 0, 3)
theorem ahead_eq (c : List Ins) (x : Ins) (hc : c.length ≤ 4096) : C0.pure 81 [.lst (c.map eIns), .lst [eIns x]] = some (eGrown (ahead c x)) := by
  refine pure_by rfl (by rfl) rfl ?_
  have hw : IntKind.wrap .i64 ((c.length : Int) + 1) = (c.length : Int) + 1 := wrap_i64' _ (by omega) (by omega)
  by_cases h : c.length < 4096
  · have h1 : ¬ (4096 : Int) < (c.length : Int) + 1 := by omega
    have h2 : 1 * 32 ≤ 70368744177664 := by omega
    have h3 : (1 + c.length) * 32 ≤ 70368744177664 := by omega
    simp [fd81, hw, h, h1, h2, h3, ahead, eGrown]
  · have h1 : (4096 : Int) < (c.length : Int) + 1 := by omega
    simp [fd81, hw, h, h1, ahead, eGrown]
def isLabel (c : List Ins) (l : Int) : Bool := decide (1 ≤ l) && decide (l ≤ c.length)
@[simp] theorem label_eq (c : List Ins) (l : Int) : C0.pure 82 [.lst (c.map eIns), .int .i64 l] = some (eb (isLabel c l)) := by
  refine pure_by rfl (by rfl) rfl ?_
  rcases and2 (1 ≤ l) (l ≤ c.length) with h | ⟨h1, h⟩ | ⟨h1, h⟩ <;> simp [fd82, isLabel, *]
def codeAdd (c : List Ins) (x : Ins) : Grown := if !x.right || decide (x.op = 5) || isBranch x.op then (c, 0, 1) else ahead c x
theorem codeAdd_eq (c : List Ins) (x : Ins) (hc : c.length ≤ 4096) : C0.pure 50 [.lst (c.map eIns), eIns x] = some (eGrown (codeAdd c x)) := by
  refine pure_by rfl (by rfl) rfl ?_
  have ha := ahead_eq c x hc
  cases hr : x.right with
  | false => simp [fd50, hr, codeAdd, eGrown]
  | true =>
    by_cases h5 : x.op = 5
    · simp [fd50, hr, h5, codeAdd, eGrown]
    · cases hb : isBranch x.op <;> simp [fd50, hr, h5, hb, codeAdd, ha, eGrown]
def codeJump (c : List Ins) (to : Int) : Grown := if isLabel c to then if to = c.length then (c, to, 0) else ahead c ⟨5, 0, 0, BitVec.ofInt 32 (c.length - to)⟩ else (c, 0, 4)
theorem codeJump_eq (c : List Ins) (to : Int) (hc : c.length ≤ 4096) : C0.pure 99 [.lst (c.map eIns), .int .i64 to] = some (eGrown (codeJump c to)) := by
  refine pure_by rfl (by rfl) rfl ?_
  cases hl : isLabel c to with
  | false => simp [fd99, hl, codeJump, eGrown]
  | true =>
    by_cases he : to = c.length
    · subst he
      simp [fd99, hl, codeJump, eGrown]
    · have hw : IntKind.wrap .i64 ((c.length : Int) - to) = (c.length : Int) - to := by simp [isLabel] at hl; exact wrap_i64' _ (by omega) (by omega)
      have ha := ahead_eq c ⟨5, 0, 0, BitVec.ofInt 32 (c.length - to)⟩ hc
      simp [fd99, hl, he, codeJump, hw, ha, eGrown]
def closer (c : List Ins) (to : Int) : Grown := if (c.length : Int) - to ≤ 254 then (c, to, 0) else codeJump c to
theorem closer_eq (c : List Ins) (to : Int) (hc : c.length ≤ 4096) (hl : isLabel c to = true) : C0.pure 83 [.lst (c.map eIns), .int .i64 to] = some (eGrown (closer c to)) := by
  refine pure_by rfl (by rfl) rfl ?_
  have hw : IntKind.wrap .i64 ((c.length : Int) - to) = (c.length : Int) - to := by simp [isLabel] at hl; exact wrap_i64' _ (by omega) (by omega)
  have hj := codeJump_eq c to hc
  by_cases h : (c.length : Int) - to ≤ 254
  · simp [fd83, hw, h, closer, eGrown]
  · simp [fd83, hw, h, closer, hj, eGrown]
def codeBranch (c : List Ins) (op : Int) (k : BitVec 32) (t f : Int) : Grown :=
  if !isBranch op || !(Ins.right ⟨op, 0, 0, k⟩) then (c, 0, 1) else if !isLabel c t || !isLabel c f then (c, 0, 4) else
  if (closer c t).2.2 ≠ 0 then (c, 0, (closer c t).2.2) else
  if (closer (closer c t).1 f).2.2 ≠ 0 then (c, 0, (closer (closer c t).1 f).2.2) else
  let out := (closer (closer c t).1 f).1
  let r := ahead out ⟨op, out.length - (closer c t).2.1, out.length - (closer (closer c t).1 f).2.1, k⟩
  if r.2.2 ≠ 0 then (c, 0, r.2.2) else (r.1, r.2.1, 0)
theorem ahead_len (c : List Ins) (x : Ins) (hc : c.length ≤ 4096) : (ahead c x).1.length ≤ 4096 ∧ c.length ≤ (ahead c x).1.length := by
  unfold ahead; split <;> simp <;> omega
theorem closer_facts (c : List Ins) (to : Int) (hc : c.length ≤ 4096) (hl : isLabel c to = true) : (closer c to).1.length ≤ 4096 ∧ c.length ≤ (closer c to).1.length ∧ 0 ≤ (closer c to).2.1 ∧ (closer c to).2.1 ≤ 4096 := by
  simp only [isLabel, Bool.and_eq_true, decide_eq_true_eq] at hl
  unfold closer codeJump
  repeat' split
  · simp; omega
  · simp; omega
  · have := ahead_len c ⟨5, 0, 0, BitVec.ofInt 32 (c.length - to)⟩ hc
    refine ⟨this.1, this.2, ?_⟩
    unfold ahead; split <;> simp <;> omega
  · simp; omega
theorem label_mono {c d : List Ins} {l : Int} (h : isLabel c l = true) (hd : c.length ≤ d.length) : isLabel d l = true := by
  simp only [isLabel, Bool.and_eq_true, decide_eq_true_eq] at h ⊢; omega
theorem codeBranch_eq (c : List Ins) (op : Int) (k : BitVec 32) (t f : Int) (hc : c.length ≤ 4096) : C0.pure 51 [.lst (c.map eIns), .int .i64 op, e32 k, .int .i64 t, .int .i64 f] = some (eGrown (codeBranch c op k t f)) := by
  refine pure_by rfl (by rfl) rfl ?_
  cases hb : isBranch op with
  | false => simp [fd51, hb, codeBranch, eGrown]
  | true =>
  cases hr : Ins.right ⟨op, 0, 0, k⟩ with
  | false => simp [fd51, hb, hr, codeBranch, eGrown]
  | true =>
  cases ht : isLabel c t with
  | false => simp [fd51, hb, hr, ht, codeBranch, eGrown]
  | true =>
  cases hf : isLabel c f with
  | false => simp [fd51, hb, hr, ht, hf, codeBranch, eGrown]
  | true =>
  have h1 := closer_eq c t hc ht
  have g1 := closer_facts c t hc ht
  have h2 := closer_eq (closer c t).1 f g1.1 (label_mono hf g1.2.1)
  have g2 := closer_facts (closer c t).1 f g1.1 (label_mono hf g1.2.1)
  unfold codeBranch
  generalize closer c t = r1 at *
  obtain ⟨c1, t1, e1⟩ := r1
  generalize closer c1 f = r2 at *
  obtain ⟨c2, f2, e2⟩ := r2
  simp only [eGrown] at h1 h2 g1 g2 ⊢
  by_cases he1 : e1 = 0
  · by_cases he2 : e2 = 0
    · have w1 : IntKind.wrap .i64 ((c2.length : Int) - t1) = (c2.length : Int) - t1 := wrap_i64' _ (by omega) (by omega)
      have w2 : IntKind.wrap .i64 ((c2.length : Int) - f2) = (c2.length : Int) - f2 := wrap_i64' _ (by omega) (by omega)
      have h3 := ahead_eq c2 ⟨op, c2.length - t1, c2.length - f2, k⟩ g2.1
      generalize ahead c2 ⟨op, c2.length - t1, c2.length - f2, k⟩ = r3 at *
      obtain ⟨c3, l3, e3⟩ := r3
      simp only [eGrown] at h3
      by_cases he3 : e3 = 0 <;> simp [fd51, hb, hr, ht, hf, h1, h2, h3, he1, he2, he3, w1, w2]
    · simp [fd51, hb, hr, ht, hf, h1, h2, he1, he2]
  · simp [fd51, hb, hr, ht, hf, h1, h2, he1]
end Go.Ab

/-
  The maker of filters: what the program's functions answer, and what they leave in memory. Conditions: none.
-/
namespace Go.Ab
open Dig
set_option maxRecDepth 4000

structure Mk where
  c : List Ins
  e : Int
def mB (m : Mk) : List HObj := [.cells [.d (.lst (m.c.map eIns)), .d (ei m.e)]]
/-- the heap: variables, the maker, and the others. -/
abbrev hp (a : List HObj) (m : Mk) (c d : List HObj) : Heap := ⟨a, mB m, c, d⟩
def Mk.took (m : Mk) (r : Grown) : Mk × Int := if m.e = 0 then (⟨r.1, r.2.2⟩, r.2.1) else (m, 0)
def Mk.add (m : Mk) (op : Int) (k : BitVec 32) : Mk × Int := m.took (codeAdd m.c ⟨op, 0, 0, k⟩)
def Mk.branch (m : Mk) (op : Int) (k : BitVec 32) (t f : Int) : Mk × Int := m.took (codeBranch m.c op k t f)
section
variable (a c d : List HObj) (m : Mk)
theorem took_eq (r : Grown) : C0.imp 49 [.ptr 1 0 0, .d (.lst (r.1.map eIns)), .d (.int .i64 r.2.1), .d (.int .i64 r.2.2)] (hp a m c d) = some (.d (ei (m.took r).2), hp a (m.took r).1 c d) := by
  refine imp_by (by rfl) rfl ?_
  by_cases h : m.e = 0 <;> simp [fd49, mB, h, Mk.took]
theorem took_first (r : Grown) (x : List D) : C0.imp 49 [.ptr 1 0 0, .d (.lst (r.1.map eIns)), .d (.int .i64 r.2.1), .d (.int .i64 r.2.2)] ⟨a, [.cells [.acc 0 x, .d (ei 0)]], c, d⟩ = some (.d (ei r.2.1), hp a ⟨r.1, r.2.2⟩ c d) := by
  refine imp_by (by rfl) rfl ?_
  simp [fd49, mB]
theorem add_eq (op : Int) (k : BitVec 32) (hm : m.c.length ≤ 4096) : C0.imp 25 [.ptr 1 0 0, .d (.int .i64 op), .d (e32 k)] (hp a m c d) = some (.d (ei (m.add op k).2), hp a (m.add op k).1 c d) := by
  refine imp_by (by rfl) rfl ?_
  have h1 := codeAdd_eq m.c ⟨op, 0, 0, k⟩ hm
  have h2 := took_eq a c d m (codeAdd m.c ⟨op, 0, 0, k⟩)
  simp [fd25, mB, h1, h2, eGrown, Mk.add]
theorem add_first (op : Int) (k : BitVec 32) : C0.imp 25 [.ptr 1 0 0, .d (.int .i64 op), .d (e32 k)] ⟨a, [.cells [.acc 0 [], .d (ei 0)]], c, d⟩ = some (.d (ei ((⟨[], 0⟩ : Mk).add op k).2), hp a ((⟨[], 0⟩ : Mk).add op k).1 c d) := by
  refine imp_by (by rfl) rfl ?_
  have h1 := codeAdd_eq [] ⟨op, 0, 0, k⟩ (by simp)
  have h2 := took_first a c d (codeAdd [] ⟨op, 0, 0, k⟩) []
  simp only [hp, mB, List.map_nil] at h2 h1
  simp [fd25, mB, h1, h2, eGrown, Mk.add, Mk.took]
theorem branch_eq' (op : Int) (k : BitVec 32) (t f : Int) (hm : m.c.length ≤ 4096) : C0.imp 31 [.ptr 1 0 0, .d (.int .i64 op), .d (e32 k), .d (.int .i64 t), .d (.int .i64 f)] (hp a m c d) = some (.d (ei (m.branch op k t f).2), hp a (m.branch op k t f).1 c d) := by
  refine imp_by (by rfl) rfl ?_
  have h1 := codeBranch_eq m.c op k t f hm
  have h2 := took_eq a c d m (codeBranch m.c op k t f)
  simp [fd31, mB, h1, h2, eGrown, Mk.branch]
end
/-! ### the maker's code is never too long -/
theorem codeAdd_len (c : List Ins) (x : Ins) (hc : c.length ≤ 4096) : (codeAdd c x).1.length ≤ 4096 := by
  unfold codeAdd; split
  · exact hc
  · exact (ahead_len c x hc).1
theorem codeBranch_len (c : List Ins) (op : Int) (k : BitVec 32) (t f : Int) (hc : c.length ≤ 4096) : (codeBranch c op k t f).1.length ≤ 4096 := by
  unfold codeBranch
  split
  · exact hc
  split
  · exact hc
  rename_i h2
  simp only [Bool.or_eq_true, Bool.not_eq_true', not_or, Bool.not_eq_false] at h2
  have g1 := closer_facts c t hc h2.1
  have g2 := closer_facts (closer c t).1 f g1.1 (label_mono h2.2 g1.2.1)
  split
  · exact hc
  split
  · exact hc
  · simp only
    split
    · exact hc
    · exact (ahead_len _ _ g2.1).1
theorem Mk.add_len (m : Mk) (op : Int) (k : BitVec 32) (hm : m.c.length ≤ 4096) : (m.add op k).1.c.length ≤ 4096 := by
  unfold Mk.add Mk.took; split
  · exact codeAdd_len _ _ hm
  · exact hm
theorem Mk.branch_len (m : Mk) (op : Int) (k : BitVec 32) (t f : Int) (hm : m.c.length ≤ 4096) : (m.branch op k t f).1.c.length ≤ 4096 := by
  unfold Mk.branch Mk.took; split
  · exact codeBranch_len _ _ _ _ _ hm
  · exact hm

/-! ### a condition -/
def Mk.partOf (m : Mk) (at' mask : BitVec 32) : Mk := ((m.add 84 mask).1.add 32 at').1
theorem Mk.partOf_len (m : Mk) (at' mask : BitVec 32) (hm : m.c.length ≤ 4096) : (m.partOf at' mask).c.length ≤ 4096 := Mk.add_len _ _ _ (Mk.add_len _ _ _ hm)
theorem part_eq (a c d a2 c2 d2 : List HObj) (m m2 : Mk) (r : Int) (at' mask : BitVec 32) (g : Nat) (caps : List AV) (hne : caps ≠ []) (hm : m2.c.length ≤ 4096)
    (hg : C0.imp g caps (hp a m c d) = some (.d (ei r), hp a2 m2 c2 d2)) : ∃ r h', C0.imp 64 [.ptr 1 0 0, .d (e32 at'), .d (e32 mask), .fn g caps] (hp a m c d) = some (r, h') ∧ h' = hp a2 (m2.partOf at' mask) c2 d2 := by
  refine impE_by (by rfl) rfl ?_
  have h1 := add_eq a2 c2 d2 m2 84 mask hm
  have h2 := add_eq a2 c2 d2 (m2.add 84 mask).1 32 at' (Mk.add_len _ _ _ hm)
  simp [fd64, hg, h1, h2, Mk.partOf]
end Go.Ab

/-
  The maker of filters: a condition. Conditions: none.
-/
namespace Go.Ab
open Dig
set_option maxRecDepth 4000

def vars4 (t f op : Int) : List HObj := [.cells [.ptr 1 0 0], .cells [.d (ei t)], .cells [.d (ei f)], .cells [.d (ei op)]]
def vars5 (t f op l : Int) : List HObj := [.cells [.ptr 1 0 0], .cells [.d (ei t)], .cells [.d (ei f)], .cells [.d (ei op)], .cells [.d (ei l)]]
section
variable (a c d : List HObj) (m : Mk)
theorem test1_eq (op t f : Int) (low : BitVec 32) (hm : m.c.length ≤ 4096) :
    C0.imp 66 [.ptr 0 a.length 0, .ptr 0 (a.length + 3) 0, .ptr 2 c.length 0, .ptr 0 (a.length + 1) 0, .ptr 0 (a.length + 2) 0] (hp (a ++ vars4 t f op) m (c ++ [.cells [.d (e32 low)]]) d) =
      some (.d (ei (m.branch op low t f).2), hp (a ++ vars4 t f op) (m.branch op low t f).1 (c ++ [.cells [.d (e32 low)]]) d) := by
  refine imp_by (by rfl) rfl ?_
  have h1 := branch_eq' (a ++ vars4 t f op) (c ++ [.cells [.d (e32 low)]]) d m op low t f hm
  simp only [vars4] at h1
  simp [fd66, vars4, h1]
def Mk.second (m : Mk) (op : Int) (high : BitVec 32) (t f l : Int) : Mk × Int × Int :=
  if op = 21 then ((m.branch 21 high l f).1, (m.branch 21 high l f).2, f)
  else (((m.branch 37 high t f).1.branch 21 high l (m.branch 37 high t f).2).1, ((m.branch 37 high t f).1.branch 21 high l (m.branch 37 high t f).2).2, (m.branch 37 high t f).2)
theorem test2_eq (op t f l : Int) (high : BitVec 32) (hm : m.c.length ≤ 4096) :
    C0.imp 68 [.ptr 0 (a.length + 3) 0, .ptr 0 a.length 0, .ptr 3 d.length 0, .ptr 0 (a.length + 1) 0, .ptr 0 (a.length + 2) 0, .ptr 0 (a.length + 4) 0] (hp (a ++ vars5 t f op l) m c (d ++ [.cells [.d (e32 high)]])) =
      some (.d (ei (m.second op high t f l).2.1), hp (a ++ vars5 t (m.second op high t f l).2.2 op l) (m.second op high t f l).1 c (d ++ [.cells [.d (e32 high)]])) := by
  refine imp_by (by rfl) rfl ?_
  by_cases h : op = 21
  · subst h
    have h1 := branch_eq' (a ++ vars5 t f 21 l) c (d ++ [.cells [.d (e32 high)]]) m 21 high l f hm
    simp only [vars5] at h1
    simp [fd68, vars5, Mk.second, h1]
  · have h1 := branch_eq' (a ++ vars5 t f op l) c (d ++ [.cells [.d (e32 high)]]) m 37 high t f hm
    have h2 := branch_eq' (a ++ vars5 t (m.branch 37 high t f).2 op l) c (d ++ [.cells [.d (e32 high)]]) (m.branch 37 high t f).1 21 high l (m.branch 37 high t f).2 (Mk.branch_len _ _ _ _ _ hm)
    simp only [vars5] at h1 h2
    simp [fd68, vars5, Mk.second, h, h1, h2]
theorem Mk.second_len (op : Int) (high : BitVec 32) (t f l : Int) (hm : m.c.length ≤ 4096) : (m.second op high t f l).1.c.length ≤ 4096 := by
  unfold Mk.second; split
  · exact Mk.branch_len _ _ _ _ _ hm
  · exact Mk.branch_len _ _ _ _ _ (Mk.branch_len _ _ _ _ _ hm)
/-- a comparison, by its operation. -/
def Mk.pair (m : Mk) (op : Int) (x : Cond) (t f : Int) : Mk :=
  let m1 := (m.branch op (x.value.setWidth 32) t f).1.partOf (lowAt x.arg) (x.mask.setWidth 32)
  (m1.second op ((x.value >>> 32).setWidth 32) t f m1.c.length).1.partOf (highAt x.arg) ((x.mask >>> 32).setWidth 32)
def opOf (cmp : Int) : Int := if cmp = 4 then 37 else if cmp = 5 then 53 else 21
def swapped (cmp : Int) : Bool := decide (cmp = 1) || decide (cmp = 2) || decide (cmp = 3)
def Mk.test (m : Mk) (x : Cond) (t f : Int) : Mk :=
  if swapped x.cmp then m.pair (opOf x.not.cmp) x.not f t else m.pair (opOf x.cmp) x t f
theorem Mk.pair_len (op : Int) (x : Cond) (t f : Int) (hm : m.c.length ≤ 4096) : (m.pair op x t f).c.length ≤ 4096 :=
  Mk.partOf_len _ _ _ (Mk.second_len _ _ _ _ _ _ (Mk.partOf_len _ _ _ (Mk.branch_len _ _ _ _ _ hm)))
theorem Mk.test_len (x : Cond) (t f : Int) (hm : m.c.length ≤ 4096) : (m.test x t f).c.length ≤ 4096 := by
  unfold Mk.test; split <;> exact Mk.pair_len _ _ _ _ _ hm
end
/-- both parts of a comparison, in the heap. -/
theorem parts_eq (a c d : List HObj) (m : Mk) (op : Int) (x : Cond) (t f : Int) (hm : m.c.length ≤ 4096) :
    ∃ r1 r2, ∀ m1, m1 = (m.branch op (x.value.setWidth 32) t f).1.partOf (lowAt x.arg) (x.mask.setWidth 32) →
      C0.imp 64 [.ptr 1 0 0, .d (e32 (lowAt x.arg)), .d (e32 (x.mask.setWidth 32)), .fn 66 [.ptr 0 a.length 0, .ptr 0 (a.length + 3) 0, .ptr 2 c.length 0, .ptr 0 (a.length + 1) 0, .ptr 0 (a.length + 2) 0]]
        (hp (a ++ vars4 t f op) m (c ++ [.cells [.d (e32 (x.value.setWidth 32))]]) (d ++ [.cells [.d (e32 ((x.value >>> 32).setWidth 32))]])) =
        some (r1, hp (a ++ vars4 t f op) m1 (c ++ [.cells [.d (e32 (x.value.setWidth 32))]]) (d ++ [.cells [.d (e32 ((x.value >>> 32).setWidth 32))]])) ∧
      C0.imp 64 [.ptr 1 0 0, .d (e32 (highAt x.arg)), .d (e32 ((x.mask >>> 32).setWidth 32)), .fn 68 [.ptr 0 (a.length + 3) 0, .ptr 0 a.length 0, .ptr 3 d.length 0, .ptr 0 (a.length + 1) 0, .ptr 0 (a.length + 2) 0, .ptr 0 (a.length + 4) 0]]
        (hp (a ++ vars5 t f op m1.c.length) m1 (c ++ [.cells [.d (e32 (x.value.setWidth 32))]]) (d ++ [.cells [.d (e32 ((x.value >>> 32).setWidth 32))]])) =
        some (r2, hp (a ++ vars5 t (m1.second op ((x.value >>> 32).setWidth 32) t f m1.c.length).2.2 op m1.c.length) (m.pair op x t f) (c ++ [.cells [.d (e32 (x.value.setWidth 32))]]) (d ++ [.cells [.d (e32 ((x.value >>> 32).setWidth 32))]])) := by
  have hb := Mk.branch_len m op (x.value.setWidth 32) t f hm
  have h1 := test1_eq a c (d ++ [.cells [.d (e32 ((x.value >>> 32).setWidth 32))]]) m op t f (x.value.setWidth 32) hm
  obtain ⟨r1, g1, p1, q1⟩ := part_eq _ _ _ _ _ _ _ _ _ (lowAt x.arg) (x.mask.setWidth 32) _ _ (by simp) hb h1
  have hm1 := Mk.partOf_len (m.branch op (x.value.setWidth 32) t f).1 (lowAt x.arg) (x.mask.setWidth 32) hb
  have h2 := test2_eq a (c ++ [.cells [.d (e32 (x.value.setWidth 32))]]) d ((m.branch op (x.value.setWidth 32) t f).1.partOf (lowAt x.arg) (x.mask.setWidth 32)) op t f ((m.branch op (x.value.setWidth 32) t f).1.partOf (lowAt x.arg) (x.mask.setWidth 32)).c.length ((x.value >>> 32).setWidth 32) hm1
  obtain ⟨r2, g2, p2, q2⟩ := part_eq _ _ _ _ _ _ _ _ _ (highAt x.arg) ((x.mask >>> 32).setWidth 32) _ _ (by simp) (Mk.second_len _ _ _ _ _ _ hm1) h2
  refine ⟨r1, r2, fun m1 hm1 => ?_⟩
  subst hm1
  exact ⟨by rw [p1, q1], by rw [p2, q2]; rfl⟩
theorem test_eq (a c d : List HObj) (m : Mk) (x : Cond) (t f : Int) (hm : m.c.length ≤ 4096) :
    ∃ r h', C0.imp 39 [.ptr 1 0 0, .d (eCond x), .d (.int .i64 t), .d (.int .i64 f)] (hp a m c d) = some (r, h') ∧ r = .d (ei (m.test x t f).c.length) ∧ ∃ a' c' d', h' = hp (a ++ a') (m.test x t f) (c ++ c') (d ++ d') := by
  refine impE_by (by rfl) rfl ?_
  cases hs : swapped x.cmp with
  | true =>
    have ht : m.test x t f = m.pair (opOf x.not.cmp) x.not f t := by simp [Mk.test, hs]
    obtain ⟨r1, r2, hr⟩ := parts_eq a c d m (opOf x.not.cmp) x.not f t hm
    obtain ⟨h1, h2⟩ := hr _ rfl
    clear hr
    rw [ht]
    have hs' : x.cmp = 1 ∨ x.cmp = 2 ∨ x.cmp = 3 := by simpa [swapped, or_assoc] using hs
    by_cases h4 : x.not.cmp = 4
    · simp [opOf, h4, vars4, vars5, hp, mB] at h1 h2
      rcases hs' with h3 | h3 | h3 <;> simp [fd39, h3, h4, h1, h2, hp, mB, opOf]
    · by_cases h5 : x.not.cmp = 5
      · simp [opOf, h5, vars4, vars5, hp, mB] at h1 h2
        rcases hs' with h3 | h3 | h3 <;> simp [fd39, h3, h5, h1, h2, hp, mB, opOf]
      · simp [opOf, h4, h5, vars4, vars5, hp, mB] at h1 h2
        rcases hs' with h3 | h3 | h3 <;> simp [fd39, h3, h4, h5, h1, h2, hp, mB, opOf]
  | false =>
    have ht : m.test x t f = m.pair (opOf x.cmp) x t f := by simp [Mk.test, hs]
    obtain ⟨r1, r2, hr⟩ := parts_eq a c d m (opOf x.cmp) x t f hm
    obtain ⟨h1, h2⟩ := hr _ rfl
    clear hr
    rw [ht]
    have hs' : (¬ x.cmp = 1 ∧ ¬ x.cmp = 2) ∧ ¬ x.cmp = 3 := by simpa [swapped] using hs
    by_cases h4 : x.cmp = 4
    · simp [opOf, h4, vars4, vars5, hp, mB] at h1 h2
      simp [fd39, h4, h1, h2, hp, mB, opOf]
    · by_cases h5 : x.cmp = 5
      · simp [opOf, h5, vars4, vars5, hp, mB] at h1 h2
        simp [fd39, h5, h1, h2, hp, mB, opOf]
      · simp [opOf, h4, h5, vars4, vars5, hp, mB] at h1 h2
        simp [fd39, hs', h4, h5, h1, h2, hp, mB, opOf]
end Go.Ab

/-
  The maker of filters: a call's rules, a search for a number, numbers in order. Conditions: none.
-/
namespace Go.Ab
open Dig
set_option maxRecDepth 4000

def Mk.condStep (other : Int) (x : Cond) (s : Mk × Int) : Mk × Int := (s.1.test x s.2 other, (s.1.test x s.2 other).c.length)
def Mk.rule (x : Rule) (s : Mk × Int) : Mk × Int := x.conds.foldr (Mk.condStep s.2) (s.1.add 6 x.action)
def Mk.rules (m : Mk) (l : List Rule) (other : Int) : Mk × Int := l.foldr Mk.rule (m, other)
theorem Mk.conds_len (other : Int) : ∀ (l : List Cond) (s : Mk × Int), s.1.c.length ≤ 4096 → (l.foldr (Mk.condStep other) s).1.c.length ≤ 4096
  | [], _, h => h
  | x :: l, s, h => Mk.test_len _ _ _ _ (Mk.conds_len other l s h)
theorem Mk.rule_len (x : Rule) (s : Mk × Int) (h : s.1.c.length ≤ 4096) : (Mk.rule x s).1.c.length ≤ 4096 := Mk.conds_len _ _ _ (Mk.add_len _ _ _ h)
theorem Mk.rules_len : ∀ (l : List Rule) (s : Mk × Int), s.1.c.length ≤ 4096 → (l.foldr Mk.rule s).1.c.length ≤ 4096
  | [], _, h => h
  | x :: l, s, h => Mk.rule_len x _ (Mk.rules_len l s h)
abbrev Hs := List HObj × List HObj × List HObj
theorem rules_eq (a c d : List HObj) (m : Mk) (l : List Rule) (other : Int) (hm : m.c.length ≤ 4096) (hl : l.length ≤ 1099511627776) (hc : ∀ x ∈ l, x.conds.length ≤ 1099511627776) :
    ∃ r h', C0.imp 29 [.ptr 1 0 0, .d (.lst (l.map eRule)), .d (.int .i64 other)] (hp a m c d) = some (r, h') ∧ r = .d (ei (m.rules l other).2) ∧ ∃ a' c' d', h' = hp (a ++ a') (m.rules l other).1 (c ++ c') (d ++ d') := by
  refine impE_by (by rfl) rfl ?_
  simp [fd29]
  have w0 : IntKind.wrap .i64 ((l.length : Int) - 1) = (l.length : Int) - 1 := wrap_i64' _ (by omega) (by omega)
  rw [w0]
  have l0 : hp a m c d = hp (a ++ []) ((l.drop l.length).foldr Mk.rule (m, other)).1 (c ++ []) (d ++ []) := by simp
  have e0 : other = ((l.drop l.length).foldr Mk.rule (m, other)).2 := by simp
  rw [l0]
  conv => arg 3; rw [e0]
  refine loop_by (σ := Nat × Hs) (fun s => s.1) (fun s => [(0, .v (.ptr 1 0 0)), (1, .v (.d (.lst (l.map eRule)))), (2, .v (.d (ei ((l.drop s.1).foldr Mk.rule (m, other)).2))), (7, .v (.d (ei ((s.1 : Int) - 1))))])
    (fun s => hp (a ++ s.2.1) ((l.drop s.1).foldr Mk.rule (m, other)).1 (c ++ s.2.2.1) (d ++ s.2.2.2)) (fun s => s.1 ≤ l.length) ?_ (l.length, [], [], []) (by simp)
  rintro ⟨n, a', c', d'⟩ hn B again
  simp only at hn again ⊢
  cases n with
  | zero => simp [l29_3, k29_4, Mk.rules]
  | succ j =>
    have e1 : (((j + 1 : Nat) : Int) - 1) = (j : Int) := by omega
    obtain ⟨x, hx, hx', hd⟩ := drop_at l j (by omega)
    have hxm := hc x (List.mem_of_getElem? hx)
    have hj : j < l.length := by omega
    generalize hs : (l.drop (j + 1)).foldr Mk.rule (m, other) = s at *
    have hsl : s.1.c.length ≤ 4096 := by rw [← hs]; exact Mk.rules_len _ _ hm
    have hadd := add_eq (a ++ a') (c ++ c') (d ++ d') s.1 6 x.action hsl
    have hal := Mk.add_len s.1 6 x.action hsl
    have wc : IntKind.wrap .i64 ((x.conds.length : Int) - 1) = (x.conds.length : Int) - 1 := wrap_i64' _ (by omega) (by omega)
    have wj : IntKind.wrap .i64 ((j : Int) - 1) = (j : Int) - 1 := wrap_i64' _ (by omega) (by omega)
    simp only [e1]
    simp [l29_3, hj, hx', hadd, wc]
    have l1 : hp (a ++ a') (s.1.add 6 x.action).1 (c ++ c') (d ++ d') = hp (a ++ a' ++ []) ((x.conds.drop x.conds.length).foldr (Mk.condStep s.2) (s.1.add 6 x.action)).1 (c ++ c' ++ []) (d ++ d' ++ []) := by simp
    have e2 : (s.1.add 6 x.action).2 = ((x.conds.drop x.conds.length).foldr (Mk.condStep s.2) (s.1.add 6 x.action)).2 := by simp
    rw [l1]
    conv => arg 3; rw [e2]
    refine loop_by (σ := Nat × Hs) (fun s => s.1) (fun t => [(0, .v (.ptr 1 0 0)), (1, .v (.d (.lst (l.map eRule)))), (2, .v (.d (ei s.2))), (7, .v (.d (ei (j : Int)))), (8, .v (.d (ei ((x.conds.drop t.1).foldr (Mk.condStep s.2) (s.1.add 6 x.action)).2))), (9, .v (.d (ei ((t.1 : Int) - 1))))])
      (fun t => hp (a ++ a' ++ t.2.1) ((x.conds.drop t.1).foldr (Mk.condStep s.2) (s.1.add 6 x.action)).1 (c ++ c' ++ t.2.2.1) (d ++ d' ++ t.2.2.2)) (fun t => t.1 ≤ x.conds.length) ?_ (x.conds.length, [], [], []) (by simp)
    rintro ⟨n, a2, c2, d2⟩ hn2 B2 again2
    simp only at hn2 again2 ⊢
    cases n with
    | zero =>
      have g := again (j, a' ++ a2, c' ++ c2, d' ++ d2) (by simp; omega) (by simp)
      simp only [hd, List.foldr_cons, hs] at g
      simp [l29_0, k29_1, k29_2, wj]
      simpa [Mk.rule] using g
    | succ k =>
      have e3 : (((k + 1 : Nat) : Int) - 1) = (k : Int) := by omega
      obtain ⟨y, hy, hy', hd2⟩ := drop_at x.conds k (by omega)
      have hk : k < x.conds.length := by omega
      generalize hs2 : (x.conds.drop (k + 1)).foldr (Mk.condStep s.2) (s.1.add 6 x.action) = s2 at *
      have hs2l : s2.1.c.length ≤ 4096 := by rw [← hs2]; exact Mk.conds_len _ _ _ hal
      obtain ⟨r, h', p, hr, a3, c3, d3, q⟩ := test_eq (a ++ a' ++ a2) (c ++ c' ++ c2) (d ++ d' ++ d2) s2.1 y s2.2 s.2 hs2l
      have wk : IntKind.wrap .i64 ((k : Int) - 1) = (k : Int) - 1 := wrap_i64' _ (by omega) (by omega)
      have g := again2 (k, a2 ++ a3, c2 ++ c3, d2 ++ d3) (by simp; omega) (by simp)
      simp only [hd2, List.foldr_cons, hs2] at g
      simp only [List.append_assoc] at p q
      simp only [e3]
      subst hr q
      simp [l29_0, hj, hx', hk, hy', p, wk]
      simpa [Mk.condStep] using g
end Go.Ab

/-
  The maker of filters: numbers in order, a search for a number. Conditions: none.
-/
namespace Go.Ab
open Dig
set_option maxRecDepth 4000

@[simp] theorem same_eq28 (v : BitVec 32) : C0.pure 28 [e32 v] = some (e32 v) := by
  refine pure_by rfl (by rfl) rfl ?_
  simp [fd28]
/-- a number at its place among others, behind those that are no greater. -/
def putIn (x : BitVec 32) (out : List (BitVec 32)) : List (BitVec 32) := out.takeWhile (fun y => decide (y ≤ x)) ++ x :: out.drop (out.takeWhile fun y => decide (y ≤ x)).length
def inOrder (l : List (BitVec 32)) : List (BitVec 32) := l.foldl (fun out x => putIn x out) []
theorem putIn_len (x : BitVec 32) (out : List (BitVec 32)) : (putIn x out).length = out.length + 1 := by
  have : (out.takeWhile fun y => decide (y ≤ x)).length ≤ out.length := List.Sublist.length_le (List.takeWhile_sublist _)
  simp [putIn]; omega
theorem fold_snoc {α β : Type} (f : β → α → β) (b : β) (l : List α) (i : Nat) (x : α) (h : l[i]? = some x) : (l.take (i + 1)).foldl f b = f ((l.take i).foldl f b) x := by
  rw [List.take_add_one, h]; simp
theorem takeWhile_at {α : Type} (p : α → Bool) : ∀ (l : List α) (i : Nat), (∀ y ∈ l.take i, p y = true) → i ≤ l.length → (∀ y, l[i]? = some y → p y = false) → l.takeWhile p = l.take i
  | [], i, _, hi, _ => by simp
  | x :: l, 0, _, _, hx => by have := hx x (by simp); simp [List.takeWhile, this]
  | x :: l, i + 1, h, hi, hx => by
    have h1 : p x = true := h x (by simp)
    simp only [List.takeWhile_cons, h1, if_true, List.take_succ_cons]
    rw [takeWhile_at p l i (fun y hy => h y (by simp [hy])) (by simpa using hi) (fun y hy => hx y (by simpa using hy))]
theorem sorted_eq (l : List (BitVec 32)) (hl : l.length ≤ 1099511627776) : C0.pure 27 [.lst (l.map e32), .fnc 28] = some (.lst ((inOrder l).map e32)) := by
  refine pure_by rfl (by rfl) rfl ?_
  simp [fd27]
  refine loop_by (σ := Nat × Nat × List (BitVec 32)) (fun s => l.length - s.1) (fun s => [(1, .v (.d (.fnc 28))), (5, .v (.acc s.2.1 (s.2.2.map e32))), (9, .v (.d (.lst (l.map e32)))), (10, .v (.d (ei l.length))), (11, .v (.d (ei s.1)))])
    (fun _ => {}) (fun s => s.1 ≤ l.length ∧ s.2.2 = (l.take s.1).foldl (fun out x => putIn x out) [] ∧ s.2.2.length = s.1) ?_ (0, 0, []) (by simp)
  rintro ⟨i, z, out⟩ ⟨hi, ho, hlo⟩ B again
  simp only at hi ho hlo again ⊢
  by_cases h : i < l.length
  · obtain ⟨x, hx, hx', hd⟩ := drop_at l i h
    have wi := wrap_succ h (show l.length ≤ 4611686018427387904 by omega)
    simp [l27_3, h, hx']
    have w (s : Nat) : True := trivial
    refine loop_by (fun k : Nat => out.length - k) (fun k => [(1, .v (.d (.fnc 28))), (5, .v (.acc z (out.map e32))), (7, .v (.d (e32 x))), (8, .v (.d (ei k))), (9, .v (.d (.lst (l.map e32)))), (10, .v (.d (ei l.length))), (11, .v (.d (ei i)))])
      (fun _ => {}) (fun k => k ≤ out.length ∧ ∀ y ∈ out.take k, decide (y ≤ x) = true) ?_ 0 (by simp)
    rintro k ⟨hk, hle⟩ B2 again2
    have fin : (∀ y, out[k]? = some y → decide (y ≤ x) = false) → putIn x out = out.take k ++ x :: out.drop k := by
      intro hstop
      have := takeWhile_at (fun y => decide (y ≤ x)) out k hle hk hstop
      rw [putIn, this, List.length_take, Nat.min_eq_left hk]
    have b1 : (1 + (out.length - k)) * 4 ≤ 70368744177664 := by omega
    have b2 : (k + (out.length - k + 1)) * 4 ≤ 70368744177664 := by omega
    have hm : min k out.length = k := Nat.min_eq_left hk
    by_cases hk2 : k < out.length
    · obtain ⟨y, hy, hy', hd2⟩ := drop_at out k hk2
      have hk2' : (k : Int) < out.length := by omega
      by_cases hyx : y ≤ x
      · have wk := wrap_succ hk2 (show out.length ≤ 4611686018427387904 by omega)
        simp [l27_0, hk2, hy', hyx, wk]
        refine again2 (k + 1) ⟨by omega, ?_⟩ (by omega)
        rw [List.take_add_one, hy]
        intro z hz
        simp only [Option.toList_some, List.mem_append, List.mem_singleton] at hz
        rcases hz with hz | rfl
        · exact hle _ hz
        · simpa using hyx
      · have hf := fin (by intro z hz; rw [hy] at hz; simp at hz; subst hz; simpa using hyx)
        have g := again (i + 1, 1, putIn x out) ⟨by simp; omega, by simp only; rw [fold_snoc _ _ _ _ _ hx, ho], by simp only; rw [putIn_len, hlo]⟩ (by simp; omega)
        rw [hf] at g
        simp [l27_0, k27_1, k27_2, hk2, hk2', hy', hyx, wi, hk, b1, b2, hm]
        simpa using g
    · have hf := fin (by intro z hz; rw [List.getElem?_eq_none (by omega)] at hz; simp at hz)
      have g := again (i + 1, 1, putIn x out) ⟨by simp; omega, by simp only; rw [fold_snoc _ _ _ _ _ hx, ho], by simp only; rw [putIn_len, hlo]⟩ (by simp; omega)
      rw [hf] at g
      simp [l27_0, k27_1, k27_2, hk2, wi, hk, b1, b2, hm]
      simpa using g
  · have : i = l.length := by omega
    subst this
    simp [l27_3, k27_4, inOrder, ho]

/-! ### a search for a number -/
structure Entry where
  nr : BitVec 32
  pos : Int
def eEntry (x : Entry) : D := .agg [e32 x.nr, ei x.pos]
section
variable (x : Entry)
@[simp] theorem cells_entry : AV.cells (.d (eEntry x)) = [.d (e32 x.nr), .d (ei x.pos)] := (rfl)
@[simp] theorem agg_entry : AV.isAgg (.d (eEntry x)) = true := (rfl)
@[simp] theorem fine_entry : AV.fine (.d (eEntry x)) = true := (rfl)
@[simp] theorem dcells_entry : D.cells (eEntry x) = [e32 x.nr, ei x.pos] := (rfl)
@[simp] theorem dfine_entry : D.fine (eEntry x) = true := (rfl)
@[simp] theorem fold_entry (a : BitVec 32) (b : Int) : D.agg [e32 a, .int .i64 b] = eEntry ⟨a, b⟩ := rfl
end
def Mk.tree (m : Mk) (l : List Entry) (other : Int) : Mk × Int :=
  if h : 1 < l.length then
    let r1 := Mk.tree m (l.take (l.length / 2)) other
    let r2 := Mk.tree r1.1 (l.drop (l.length / 2)) other
    r2.1.branch 53 ((l[l.length / 2]?).getD ⟨0#32, 0⟩).nr r2.2 r1.2
  else match l with
    | [] => (m, 0)
    | x :: _ => m.branch 21 x.nr x.pos other
termination_by l.length
decreasing_by
  · simp; omega
  · simp; omega
theorem Mk.tree_len (l : List Entry) (other : Int) : ∀ (m : Mk), m.c.length ≤ 4096 → (m.tree l other).1.c.length ≤ 4096 := by
  suffices hh : ∀ n (l : List Entry), l.length = n → ∀ (m : Mk), m.c.length ≤ 4096 → (m.tree l other).1.c.length ≤ 4096 from hh _ l rfl
  intro n
  induction n using Nat.strongRecOn with
  | ind n ih =>
    intro l hn m hm
    rw [Mk.tree]
    split
    · exact Mk.branch_len _ _ _ _ _ (ih _ (by simp; omega) _ rfl _ (ih _ (by simp; omega) _ rfl _ hm))
    · split
      · exact hm
      · exact Mk.branch_len _ _ _ _ _ hm
theorem tree_eq (a c d : List HObj) (l : List Entry) (other : Int) (hl : l.length ≤ 1099511627776) (hne : l ≠ []) (m : Mk) (hm : m.c.length ≤ 4096) :
    C0.imp 30 [.ptr 1 0 0, .d (.lst (l.map eEntry)), .d (.int .i64 other)] (hp a m c d) = some (.d (ei (m.tree l other).2), hp a (m.tree l other).1 c d) := by
  suffices hh : ∀ n (l : List Entry), l.length = n → n ≤ 1099511627776 → l ≠ [] → ∀ (m : Mk), m.c.length ≤ 4096 → C0.imp 30 [.ptr 1 0 0, .d (.lst (l.map eEntry)), .d (.int .i64 other)] (hp a m c d) = some (.d (ei (m.tree l other).2), hp a (m.tree l other).1 c d) from hh _ l rfl hl hne m hm
  clear hl hne hm m l
  intro n
  induction n using Nat.strongRecOn with
  | ind n ih =>
    intro l hn hl hne m hm
    refine imp_by (by rfl) rfl ?_
    rw [Mk.tree]
    by_cases h : 1 < l.length
    · have h1 : ¬ l.length = 1 := by omega
      have hq : IntKind.wrap .i64 ((l.length : Int) / 2) = ((l.length / 2 : Nat) : Int) := by
        rw [Int.natCast_ediv]; exact wrap_i64' _ (by omega) (by omega)
      have hb : l.length / 2 ≤ l.length := by omega
      have hb2 : l.length / 2 < l.length := by omega
      have h2 := ih (l.take (l.length / 2)).length (by simp; omega) (l.take (l.length / 2)) rfl (by simp; omega) (List.ne_nil_of_length_pos (by simp; omega)) m hm
      have hm2 := Mk.tree_len (l.take (l.length / 2)) other m hm
      have h3 := ih (l.drop (l.length / 2)).length (by simp; omega) (l.drop (l.length / 2)) rfl (by simp; omega) (List.ne_nil_of_length_pos (by simp; omega)) _ hm2
      have hm3 := Mk.tree_len (l.drop (l.length / 2)) other _ hm2
      obtain ⟨x, hx, hx', _⟩ := drop_at l (l.length / 2) hb2
      have h4 := branch_eq' a c d ((m.tree (l.take (l.length / 2)) other).1.tree (l.drop (l.length / 2)) other).1 53 x.nr ((m.tree (l.take (l.length / 2)) other).1.tree (l.drop (l.length / 2)) other).2 (m.tree (l.take (l.length / 2)) other).2 hm3
      simp only [List.map_take, List.map_drop] at h2 h3
      simp only [dif_pos h, hx, Option.getD_some]
      generalize l.length / 2 = q at *
      simp [fd30, h1, hq, hb, hb2, h2, h3, h4, hx']
    · match l, hne with
      | [x], _ =>
        have h4 := branch_eq' a c d m 21 x.nr x.pos other hm
        simp [fd30, h4]
      | x :: y :: l, _ => simp at h
end Go.Ab
