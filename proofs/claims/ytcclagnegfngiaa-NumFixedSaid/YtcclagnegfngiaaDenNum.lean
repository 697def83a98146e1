/- DEN, 4: arithmetic of the plain interpreter is the machine's. -/
import Derived.Test.YtcclagnegfngiaaDenMem
import GoSem.Dispatch
set_option autoImplicit false
set_option linter.unusedSimpArgs false
set_option linter.unusedVariables false
namespace Den
open Go Go.RowKit

theorem wrap_small (k : IntKind) (m : Nat) (h : m ≤ topF k) : k.wrap (Int.ofNat m) = Int.ofNat m := by
  cases k <;> simp only [topF] at h <;> simp only [IntKind.wrap, IntKind.bits, IntKind.signed, Int.ofNat_eq_natCast] <;> simp <;> omega
theorem wrapF_eq (k : IntKind) (n : Int) : wrapF k n = k.wrap n := by
  cases n with
  | ofNat m =>
    simp only [wrapF]
    cases hb : Nat.ble m (topF k)
    · rfl
    · exact (wrap_small k m (ble_le hb)).symm
  | negSucc m => rfl
theorem ble_iff (a b : Nat) : Nat.ble a b = decide (a ≤ b) := by
  cases h : Nat.ble a b
  · symm; exact decide_eq_false fun h' => by rw [Nat.ble_eq_true_of_le h'] at h; cases h
  · symm; exact decide_eq_true (ble_le h)
theorem beq_iff (a b : Nat) : Nat.beq a b = decide (a = b) := by
  cases h : Nat.beq a b
  · symm; exact decide_eq_false fun h' => by rw [beq_yes h'] at h; cases h
  · symm; exact decide_eq_true (beq_eq h)
theorem ltF_eq (x y : Int) : ltF x y = decide (x < y) := by
  cases x with
  | ofNat a => cases y with
    | ofNat b => simp only [ltF, ble_iff]; congr 1; simp only [eq_iff_iff, Int.ofNat_eq_natCast]; omega
    | negSucc b => simp only [ltF]; symm; apply decide_eq_false; simp only [Int.ofNat_eq_natCast]; omega
  | negSucc a => cases y with
    | ofNat b => simp only [ltF]; symm; apply decide_eq_true; simp only [Int.ofNat_eq_natCast]; omega
    | negSucc b => simp only [ltF, ble_iff]; congr 1; simp only [eq_iff_iff]; omega
theorem eqF_eq (x y : Int) : eqF x y = decide (x = y) := by
  cases x with
  | ofNat a => cases y with
    | ofNat b => simp only [eqF, beq_iff]; congr 1; simp only [eq_iff_iff, Int.ofNat_eq_natCast]; omega
    | negSucc b => simp only [eqF]; symm; apply decide_eq_false; simp only [Int.ofNat_eq_natCast]; omega
  | negSucc a => cases y with
    | ofNat b => simp only [eqF]; symm; apply decide_eq_false; simp only [Int.ofNat_eq_natCast]; omega
    | negSucc b => simp only [eqF, beq_iff]; congr 1; simp only [eq_iff_iff]; omega
theorem onNat_eq {x y : Int} {f : Nat → Nat → Int} {g : Int} (h : ∀ a b, x = Int.ofNat a → y = Int.ofNat b → f a b = g) : onNat x y f g = g := by
  cases x with
  | ofNat a => cases y with
    | ofNat b => exact h a b rfl rfl
    | negSucc b => rfl
  | negSucc a => rfl
theorem subNF_eq (a b : Nat) : subNF a b = Int.ofNat a - Int.ofNat b := by
  simp only [subNF, ble_iff]
  by_cases h : b ≤ a
  · rw [decide_eq_true h]
    have : a.sub b = a - b := rfl
    simp only [cond_true, Int.ofNat_eq_natCast, this]
    omega
  · rw [decide_eq_false h]
    have h1 : b.sub a = b - a := rfl
    have h2 : (b - a).sub 1 = b - a - 1 := rfl
    simp only [cond_false, Int.ofNat_eq_natCast, h1, h2]
    omega
theorem mkNat_eq (k : IntKind) (m : Nat) : mkNat k m = some (.int k (Int.ofNat m)) := by cases m <;> rfl
theorem mkInt_eq (k : IntKind) (n : Int) : mkInt k n = some (.int k n) := by cases n with
  | ofNat m => exact mkNat_eq k m
  | negSucc m => rfl
theorem kEq_eq {a b : IntKind} (h : kEq a b = true) : a = b := by
  have := beq_eq h
  cases a <;> cases b <;> first | rfl | (simp [kidx] at this)
theorem kbits_eq (k : IntKind) : kbits k = k.bits := by cases k <;> rfl

theorem wrap_mod (k : IntKind) (n : Nat) : k.wrap (Int.ofNat (n % 2 ^ k.bits)) = k.wrap (Int.ofNat n) := by
  cases k <;> simp only [IntKind.wrap, IntKind.bits, IntKind.signed, Int.ofNat_eq_natCast] <;> simp
theorem ofInt_nat (n a : Nat) : (BitVec.ofInt n (Int.ofNat a)).toNat = a % 2 ^ n := by simp [Int.ofNat_eq_natCast]
theorem xAnd_eq (k : IntKind) (x y : Int) : xAnd k x y = k.wrap ((BitVec.ofInt k.bits x &&& BitVec.ofInt k.bits y).toNat) := by
  refine onNat_eq fun a b hx hy => ?_
  subst hx hy
  rw [wrapF_eq, BitVec.toNat_and, ofInt_nat, ofInt_nat, ← Nat.and_mod_two_pow]
  exact (wrap_mod k _).symm
theorem xOr_eq (k : IntKind) (x y : Int) : xOr k x y = k.wrap ((BitVec.ofInt k.bits x ||| BitVec.ofInt k.bits y).toNat) := by
  refine onNat_eq fun a b hx hy => ?_
  subst hx hy
  rw [wrapF_eq, BitVec.toNat_or, ofInt_nat, ofInt_nat, ← Nat.or_mod_two_pow]
  exact (wrap_mod k _).symm
theorem xXor_eq (k : IntKind) (x y : Int) : xXor k x y = k.wrap ((BitVec.ofInt k.bits x ^^^ BitVec.ofInt k.bits y).toNat) := by
  refine onNat_eq fun a b hx hy => ?_
  subst hx hy
  rw [wrapF_eq, BitVec.toNat_xor, ofInt_nat, ofInt_nat, ← Nat.xor_mod_two_pow]
  exact (wrap_mod k _).symm

theorem beq_eq_decide (a b : Int) : (a == b) = decide (a = b) := by
  by_cases h : a = b
  · subst h; simp
  · rw [decide_eq_false h]; simpa using h
theorem le_dec (a b : Int) : decide (a ≤ b) = !decide (b < a) := by
  by_cases h : a ≤ b
  · rw [decide_eq_true h, decide_eq_false (by omega)]; rfl
  · rw [decide_eq_false h, decide_eq_true (by omega)]; rfl
section
variable {P : Program} {ρ : Ren}
theorem intOp_sound {op : BinOp} {k : IntKind} {a b : Int} {r : AV} (hs : isShift op = false) (h : intOp op k a b = some r) (t : TypeId) (w : World) :
    ∃ cv, (binOp op t (.int k a) (.int k b)).run P w = .ok cv w ∧ VR ρ r cv := by
  cases op <;> simp only [isShift] at hs <;> simp only [intOp, mkInt_eq, wrapF_eq, Option.some.injEq] at h
  case shl => cases hs
  case shr => cases hs
  case add =>
    subst h
    refine ⟨_, by simp [binOp, Op.intArith]; rfl, ?_⟩
    rw [onNat_eq (fun x y hx hy => by subst hx hy; rfl)]; rfl
  case sub =>
    subst h
    refine ⟨_, by simp [binOp, Op.intArith]; rfl, ?_⟩
    rw [onNat_eq (fun x y hx hy => by subst hx hy; exact subNF_eq x y)]; rfl
  case mul =>
    subst h
    refine ⟨_, by simp [binOp, Op.intArith]; rfl, ?_⟩
    rw [onNat_eq (fun x y hx hy => by subst hx hy; rfl)]; rfl
  case quo =>
    rw [eqF_eq] at h
    by_cases hb : b = Int.ofNat 0
    · rw [decide_eq_true hb] at h; cases h
    · rw [decide_eq_false hb] at h
      simp only [cond_false, Option.some.injEq] at h
      subst h
      have hb' : ¬ b = 0 := hb
      refine ⟨_, by simp [binOp, Op.intDiv, hb']; rfl, ?_⟩
      rw [onNat_eq (fun x y hx hy => by subst hx hy; rfl)]; rfl
  case rem =>
    rw [eqF_eq] at h
    by_cases hb : b = Int.ofNat 0
    · rw [decide_eq_true hb] at h; cases h
    · rw [decide_eq_false hb] at h
      simp only [cond_false, Option.some.injEq] at h
      subst h
      have hb' : ¬ b = 0 := hb
      refine ⟨_, by simp [binOp, Op.intDiv, hb']; rfl, ?_⟩
      rw [onNat_eq (fun x y hx hy => by subst hx hy; rfl)]; rfl
  case and => subst h; refine ⟨_, by simp [binOp, Op.intBits]; rfl, ?_⟩; rw [xAnd_eq]; simp [VR]
  case or => subst h; refine ⟨_, by simp [binOp, Op.intBits]; rfl, ?_⟩; rw [xOr_eq]; simp [VR]
  case xor => subst h; refine ⟨_, by simp [binOp, Op.intBits]; rfl, ?_⟩; rw [xXor_eq]; simp [VR]
  case andNot => subst h; refine ⟨_, by simp [binOp, Op.intBits]; rfl, ?_⟩; simp [VR, xAndNot]
  case eql => subst h; refine ⟨_, by simp [binOp, Op.intCmp]; rfl, ?_⟩; simp [VR, eqF_eq, beq_eq_decide]
  case neq => subst h; refine ⟨_, by simp [binOp, Op.intCmp]; rfl, ?_⟩; simp [VR, eqF_eq, bne, beq_eq_decide]
  case lss => subst h; refine ⟨_, by simp [binOp, Op.intCmp]; rfl, ?_⟩; simp [VR, ltF_eq]
  case leq => subst h; refine ⟨_, by simp [binOp, Op.intCmp]; rfl, ?_⟩; simp [VR, ltF_eq, le_dec]
  case gtr => subst h; refine ⟨_, by simp [binOp, Op.intCmp]; rfl, ?_⟩; simp [VR, ltF_eq]
  case geq => subst h; refine ⟨_, by simp [binOp, Op.intCmp]; rfl, ?_⟩; simp [VR, ltF_eq, le_dec]
theorem shOp_sound {op : BinOp} {k k' : IntKind} {a b : Int} {r : AV} (h : shOp op k a b = some r) (t : TypeId) (w : World) :
    ∃ cv, (binOp op t (.int k a) (.int k' b)).run P w = .ok cv w ∧ VR ρ r cv := by
  cases op <;> simp only [shOp] at h <;> try cases h
  case shl =>
    obtain ⟨n, hn, h1⟩ := bind_some h
    clear h
    have h := h1
    clear h1
    cases b with
    | negSucc b => cases hn
    | ofNat b =>
      injection hn with hn
      rw [mkInt_eq] at h
      injection h with h
      subst h
      have hb : ¬ (Int.ofNat b < 0) := by simp only [Int.ofNat_eq_natCast]; omega
      have hm : min (Int.ofNat b).toNat k.bits = n := by rw [← hn, kbits_eq]; rfl
      refine ⟨.int k (k.wrap (a * 2 ^ n)), by simp only [binOp, Op.shift, if_neg hb, hm]; rfl, ?_⟩
      rw [wrapF_eq]
      cases a with
      | ofNat a =>
        have e : Int.ofNat (a.mul (Nat.pow 2 n)) = Int.ofNat a * 2 ^ n := by
          show ((a * 2 ^ n : Nat) : Int) = (a : Int) * 2 ^ n
          simp
        simp only [VR, shlF, e]
      | negSucc a => rfl
  case shr =>
    obtain ⟨n, hn, h1⟩ := bind_some h
    clear h
    have h := h1
    clear h1
    cases b with
    | negSucc b => cases hn
    | ofNat b =>
      injection hn with hn
      rw [mkInt_eq] at h
      injection h with h
      subst h
      have hb : ¬ (Int.ofNat b < 0) := by simp only [Int.ofNat_eq_natCast]; omega
      have hm : min (Int.ofNat b).toNat k.bits = n := by rw [← hn, kbits_eq]; rfl
      refine ⟨.int k (a.fdiv (2 ^ n)), by simp only [binOp, Op.shift, if_neg hb, hm]; rfl, ?_⟩
      cases a with
      | ofNat a =>
        have e : Int.ofNat (a.div (Nat.pow 2 n)) = (Int.ofNat a).fdiv (2 ^ n) := by
          show ((a / 2 ^ n : Nat) : Int) = (a : Int).fdiv (2 ^ n)
          rw [Int.fdiv_eq_ediv_of_nonneg _ (Int.pow_nonneg (by decide))]
          simp
        simp only [VR, shrF, e]
      | negSucc a => rfl
theorem notF_eq (k : IntKind) (x : Int) : notF k x = k.wrap ((BitVec.ofInt k.bits (if k.signed then -1 else k.max) ^^^ BitVec.ofInt k.bits x).toNat) := by
  cases x with
  | negSucc a => rfl
  | ofNat a =>
    simp only [notF]
    cases hb : Nat.ble a (topF k)
    · rfl
    · have ha := ble_le hb
      simp only [cond_true]
      have e : BitVec.ofInt k.bits (if k.signed then -1 else k.max) = BitVec.allOnes k.bits := by cases k <;> rfl
      rw [e, BitVec.allOnes_xor, BitVec.toNat_not, ofInt_nat]
      cases k <;> simp only [topF] at ha <;> simp only [IntKind.wrap, IntKind.bits, IntKind.signed, topF, cond_true, cond_false, Int.ofNat_eq_natCast]
      all_goals (have hm := Nat.mod_eq_of_lt (show a < 2 ^ 64 by omega))
      all_goals (simp; try omega)
end
end Den
