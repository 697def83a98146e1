/- DEN, 13: one operation of a region, and regions in the order of the text. -/
import Derived.Test.YtcclagnegfngiaaDenExec3
set_option autoImplicit false
set_option linter.unusedSimpArgs false
set_option linter.unusedVariables false
namespace Den
open Go Go.RowKit

structure FrR (ρ : Ren) (nt : Nat) (A : Fr) (a : Act) : Prop where
  defers : a.defers = []
  size : a.tmps.size = nt
  slots : ∀ t, VR ρ (slot A t) (a.eval (.tmp t))

section
variable {P : Program} {E : Env} {B : Nat} {w0 : World} {ρ : Ren} {H : Heap} {w : World} {A : Fr} {a : Act} {nt : Nat}

theorem undef_VR (ρ : Ren) : VR ρ undefA undef := ⟨#[], rfl, by simp [VRs]⟩
theorem FrR.mono {ρ' : Ren} (hle : Ren.le ρ ρ') (h : FrR ρ nt A a) : FrR ρ' nt A a := ⟨h.defers, h.size, fun t => (h.slots t).mono hle⟩
theorem slot_set (A : Fr) (d : Nat) (v : AV) (t : Nat) : slot (A.set d v) t = if t = d then v else slot A t := by
  simp only [slot, Tr.get_set]
  by_cases h : t = d
  · rw [if_pos h, if_pos h]
  · rw [if_neg h, if_neg h]
theorem eval_put_some (a : Act) (d : Nat) (v : Value) (h : d < a.tmps.size) (t : Nat) : (a.put (some d) v).eval (.tmp t) = if t = d then v else a.eval (.tmp t) := by
  simp only [Act.eval, Act.put, Array.getD_eq_getD_getElem?, Array.getElem?_setIfInBounds]
  by_cases e : t = d
  · subst e; simp [h]
  · have : ¬ d = t := fun q => e q.symm
    simp [this, e]
theorem FrR.put (h : FrR ρ nt A a) {d : Option Nat} {v : AV} {A' : Fr} (hp : Den.put nt A d v = some A') {cv : Value} (hv : VR ρ v cv) : FrR ρ nt A' (a.put d cv) := by
  cases d with
  | none => simp [Den.put] at hp; subst hp; exact h
  | some d =>
    obtain ⟨hb, hp⟩ := guardO_some hp
    injection hp with hp
    subst hp
    have hb := ble_le hb
    have hd : d < a.tmps.size := by rw [h.size]; exact hb
    refine ⟨h.defers, by simp [Act.put, h.size], fun t => ?_⟩
    rw [slot_set, eval_put_some a d cv hd]
    split
    · exact hv
    · exact h.slots t
def boolOf : Value → Option Bool | .bool b => some b | _ => none
theorem isB_sound {want : Bool} {v : AV} {cv : Value} (hv : VR ρ v cv) : isB want v = (boolOf cv == some want) := by
  cases v with
  | bool b => obtain rfl := hv; cases b <;> cases want <;> rfl
  | int k n => obtain rfl := hv; rfl
  | str s => obtain ⟨t, rfl, _⟩ := hv; rfl
  | ptr p => obtain ⟨t, rfl, _⟩ := hv; rfl
  | slice p n c => obtain ⟨t, u, rfl, _⟩ := hv; rfl
  | fn f p q => obtain ⟨t, u, rfl, _⟩ := hv; rfl
  | nilfn => obtain rfl := hv; rfl
  | agg l => obtain ⟨t, rfl, _⟩ := hv; rfl
  | tup l => obtain ⟨t, rfl, _⟩ := hv; rfl
  | iface t x => obtain ⟨t, rfl, _⟩ := hv; rfl
  | nilif => obtain rfl := hv; rfl
  | map r => obtain ⟨rfl, _⟩ := hv; rfl
theorem wantedA_eq (h : FrR ρ nt A a) (ops : Array Oper) (o : Oper) : wantedA ops.toList A o.guard = Region.wanted o (yielded ops a.tmps) := by
  unfold wantedA Region.wanted
  cases hg : o.guard with
  | none => rfl
  | some g =>
    obtain ⟨j, want⟩ := g
    simp only [yielded, Array.getElem?_toList]
    cases hj : ops[j]? with
    | none => simp
    | some oj =>
      simp only [Option.bind_some]
      cases hd : oj.dst with
      | none => simp
      | some d =>
        simp only [Option.bind_some]
        have hs := h.slots d
        rw [isB_sound hs]
        have e : a.eval (.tmp d) = (a.tmps[d]?).getD undef := by simp [Act.eval, Array.getD_eq_getD_getElem?]
        rw [e]
        cases hx : a.tmps[d]? with
        | none => rfl
        | some v => cases v <;> rfl

def CallOk (P : Program) (E : Env) (B : Nat) (w0 : World) (call : CallF) : Prop :=
  ∀ f args H p, call f args H = some p → (∃ fu, E.fns.get f = some fu ∧ fu.body.isSome = true) ∧
    ∀ ρ w (cargs : Array Value), Good B w0 ρ H w → VRs ρ args cargs.toList →
      Calls P f cargs w fun e w' => ∃ ρ' cv, e = .returned cv ∧ Ren.le ρ ρ' ∧ Good B w0 ρ' p.2 w' ∧ VR ρ' p.1 cv

theorem op_step (hE : EnvOk P E) {call : CallF} (hcall : CallOk P E B w0 call) {ops : Array Oper} {i : Nat} {o : Oper} (hio : ops[i]? = some o) {k : Fr → Heap → Option (Fr × Heap)} {out : Fr × Heap}
    (hd : doOp E nt call ops.toList o k A H = some out) (hG : Good B w0 ρ H w) {ap : Act} (hF : FrR ρ nt A ap) (hexec : execOp a.eval o = execOp ap.eval o)
    (hwant : Region.wanted o (yielded ops a.tmps) = Region.wanted o (yielded ops ap.tmps)) {K : Act → World → Prop} {Q : Exit → Act → World → Prop}
    (hK : ∀ ρ' v cv H1 w' A1, Ren.le ρ ρ' → Good B w0 ρ' H1 w' → VR ρ' v cv → put nt A o.dst v = some A1 → k A1 H1 = some out → K (a.put o.dst cv) w') : wpOp P ops Q i K a w := by
  unfold wpOp
  simp only [hio]
  rw [hwant, ← wantedA_eq hF]
  simp only [doOp] at hd
  cases hw : wantedA ops.toList A o.guard
  · rw [hw, cond_false] at hd
    obtain ⟨A1, hp, hk⟩ := bind_some hd
    simp only [Bool.false_eq_true, if_false]
    exact hK ρ undefA undef H w A1 (Ren.le_refl ρ) hG (undef_VR ρ) hp hk
  · rw [hw, cond_true] at hd
    obtain ⟨q, hex, hafter⟩ := bind_some hd
    obtain ⟨r, H1⟩ := q
    simp only at hafter
    simp only [if_true]
    refine .inl ?_
    unfold Oper.wp
    rw [hexec]
    have hsome : ∀ f args, (r, H1).1 = .enter f args → ∃ fu, E.fns.get f = some fu ∧ fu.body.isSome = true := by
      intro f args hr
      simp only at hr
      subst hr
      simp only [after] at hafter
      obtain ⟨q, hq, _⟩ := bind_some hafter
      exact (hcall _ _ _ _ hq).1
    obtain ⟨nx, w', ρ', h1, h2, h3, h4⟩ := exec_sound hE hG hF.slots hex hsome
    rw [h1]
    cases r with
    | val v =>
      obtain ⟨cv, rfl, hv⟩ := h4
      obtain ⟨A1, hp, hk⟩ := bind_some hafter
      exact hK ρ' v cv H1 w' A1 h2 h3 hv hp hk
    | skip =>
      obtain rfl : nx = .skip := h4
      obtain ⟨A1, hp, hk⟩ := bind_some hafter
      exact hK ρ' undefA undef H1 w' A1 h2 h3 (undef_VR ρ') hp hk
    | enter f args =>
      obtain ⟨l, rfl, hv⟩ := h4
      obtain ⟨q, hq, hk⟩ := bind_some hafter
      obtain ⟨rv, H2⟩ := q
      obtain ⟨A1, hp, hk⟩ := bind_some hk
      refine ((hcall _ _ _ _ hq).2 ρ' w' l h3 hv).mono ?_
      rintro e w'' ⟨ρ'', cv, rfl, g1, g2, g3⟩
      exact hK ρ'' rv cv H2 w'' A1 (Ren.le_trans h2 g1) g2 g3 hp hk

theorem runOps_sound (hE : EnvOk P E) {call : CallF} (hcall : CallOk P E B w0 call) {ops : Array Oper} {out : Fr × Heap} {Q : Exit → Act → World → Prop} :
    ∀ (n i : Nat), i + n = ops.size → ∀ {ρ : Ren} {A : Fr} {H : Heap} {a : Act} {w : World}, runOps E nt call ops.toList (ops.toList.drop i) A H = some out → Good B w0 ρ H w → FrR ρ nt A a →
      (∀ ρ' a' w', Ren.le ρ ρ' → Good B w0 ρ' out.2 w' → FrR ρ' nt out.1 a' → Q .normal a' w') → wpOps P ops Q (List.range' i n) a w
  | 0, i, hn, ρ, A, H, a, w, hr, hG, hF, hQ => by
    have : ops.toList.drop i = [] := by rw [List.drop_eq_nil_iff]; simp; omega
    rw [this] at hr
    simp only [runOps, Option.some.injEq] at hr
    subst hr
    exact hQ ρ a w (Ren.le_refl ρ) hG hF
  | n + 1, i, hn, ρ, A, H, a, w, hr, hG, hF, hQ => by
    have hi : i < ops.toList.length := by simp; omega
    have hio : ops[i]? = some ops.toList[i] := by rw [← Array.getElem?_toList]; exact List.getElem?_eq_getElem hi
    rw [List.drop_eq_getElem_cons hi] at hr
    simp only [runOps] at hr
    rw [List.range'_succ, wpOps_cons]
    refine op_step hE hcall hio hr hG hF rfl rfl ?_
    intro ρ' v cv H1 w' A1 h1 h2 h3 h4 h5
    exact runOps_sound hE hcall n (i + 1) (by omega) h5 h2 ((hF.mono h1).put h4 h3) fun ρ2 a2 w2 g1 g2 g3 => hQ ρ2 a2 w2 (Ren.le_trans h1 g1) g2 g3
end
end Den
