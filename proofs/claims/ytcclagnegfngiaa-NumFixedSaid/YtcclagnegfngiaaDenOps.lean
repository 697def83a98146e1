/- DEN, 5: the plain interpreter's operations are the machine's. -/
import Derived.Test.YtcclagnegfngiaaDenNum
import Derived.Laws.Entries
import Derived.Laws.Strings
import Derived.ChangeKeysEq
set_option autoImplicit false
set_option linter.unusedSimpArgs false
set_option linter.unusedVariables false
namespace Den
open Go Go.RowKit

structure EnvOk (P : Program) (E : Env) : Prop where
  info : ∀ t i, E.info.get t = some i → P.info? t = some i
  fns : ∀ f fu, E.fns.get f = some fu → P.funcs[f]? = some fu
  fname : ∀ f fu, E.fns.get f = some fu → fu.body.isSome = true → (fu.name == "runtime.NumGoroutine") = false
  mixed : P.follows .mixedOrders = true

def NxR (ρ : Ren) : Nx → Next → Prop
  | .val v, n => ∃ u, n = .value u ∧ VR ρ v u
  | .skip, n => n = .skip
  | .enter f args, n => ∃ l, n = .enter f l ∧ VRs ρ args l.toList

section
variable {P : Program} {E : Env} {B : Nat} {w0 : World} {ρ : Ren} {H : Heap} {w : World}

theorem info_run {t : TypeId} {i : TypeInfo} (h : P.info? t = some i) (w : World) : (typeInfo t).run P w = .ok i w := by simp [typeInfo, h]
theorem und_sound (hE : EnvOk P E) {t : TypeId} {d : TypeDesc} (h : E.und t = some d) : P.underlying t = some d := by
  obtain ⟨i, hi, h⟩ := bind_some h
  have h1 := hE.info t i hi
  unfold Program.underlying
  rw [h1]
  unfold undOf at h
  split at h
  · next n u hd =>
    obtain ⟨j, hj, h⟩ := bind_some h
    have h2 := hE.info u j hj
    obtain ⟨desc, _, _, _, _, _, _, _, _, _⟩ := i
    simp only at hd
    subst hd
    simp [h2]
    simpa using h
  · next hd =>
    obtain ⟨desc, _, _, _, _, _, _, _, _, _⟩ := i
    simp only at h hd
    split
    · next heq => simp at heq; exact absurd heq.1 (hd _ _)
    · next i heq => simp at heq; subst heq; exact h
    · next heq => simp at heq
theorem size_sound (hE : EnvOk P E) {t : TypeId} {n : Nat} (h : E.size t = some n) (w : World) : (Go.sizeOf t).run P w = .ok n w := by
  obtain ⟨i, hi, h⟩ := bind_some h
  injection h with h
  have h1 := hE.info t i hi
  simp [Go.sizeOf, info_run h1, h]
theorem bytes_sound (hE : EnvOk P E) {t : TypeId} {n : Nat} (h : E.bytes t = some n) : ∃ i, P.info? t = some i ∧ i.bytes = n := by
  obtain ⟨i, hi, h⟩ := bind_some h
  injection h with h
  exact ⟨i, hE.info t i hi, h⟩
theorem zero_sound (hE : EnvOk P E) {t : TypeId} {z : AV} (h : E.zero t = some z) (ρ : Ren) (w : World) : ∃ cz, (zeroValue t).run P w = .ok cz w ∧ VR ρ z cz := by
  obtain ⟨i, hi, h⟩ := bind_some h
  obtain ⟨z', hz, h⟩ := bind_some h
  have h1 := hE.info t i hi
  exact ⟨z', by simp [zeroValue, info_run h1, hz], ofV_sound ρ _ h⟩
theorem agg_sound (hE : EnvOk P E) {t : TypeId} {g : Bool} (h : E.isAgg t = some g) (w : World) : (isAgg t).run P w = .ok g w := by
  obtain ⟨d, hd, h⟩ := bind_some h
  injection h with h
  have h1 := und_sound hE hd
  subst h
  cases d <;> simp [isAgg, run_underlying h1, descAgg]

theorem ldVar_sound (hE : EnvOk P E) (hG : Good B w0 ρ H w) {t : TypeId} {a : AAddr} {av : AV} (h : ldVar E H t a = some av) {ca : Addr} (hA : AR ρ a ca) :
    ∃ cv, (Go.loadVar t ca).run P w = .ok cv w ∧ VR ρ av cv := by
  obtain ⟨g, hg, h⟩ := bind_some h
  obtain ⟨b, v, o⟩ := a
  cases g with
  | false =>
    obtain ⟨cv, h1, h2⟩ := hG.ld h hA
    exact ⟨cv, by simp [Go.loadVar, agg_sound hE hg, h1], h2⟩
  | true =>
    obtain ⟨n, hn, h⟩ := bind_some h
    obtain ⟨cs, hcs, h⟩ := bind_some h
    injection h with h
    subst h
    obtain ⟨l, h1, h2, h3⟩ := hG.loadCells (P := P) hcs hA
    exact ⟨.agg l.toArray, by simp [Go.loadVar, agg_sound hE hg, size_sound hE hn, h1], ⟨l.toArray, rfl, h2⟩⟩
theorem stVar_sound (hE : EnvOk P E) (hG : Good B w0 ρ H w) {t : TypeId} {a : AAddr} {av : AV} {H' : Heap} (h : stVar E H t a av = some H') {ca : Addr} (hA : AR ρ a ca) {cv : Value} (hv : VR ρ av cv) :
    ∃ w1, (Go.storeVar t ca cv).run P w = .ok () w1 ∧ Good B w0 ρ H' w1 := by
  obtain ⟨n, hn, h⟩ := bind_some h
  obtain ⟨hb, h⟩ := guardO_some h
  obtain ⟨b, v, o⟩ := a
  obtain ⟨w1, h1, h2⟩ := hG.stCells (P := P) h hA hv.cells
  have hl := hv.cells.length
  have hl2 := beq_eq hb
  refine ⟨w1, ?_, h2⟩
  have e : cv.cells.size = n := by simpa [hl2] using hl
  simp [Go.storeVar, size_sound hE hn, e, h1]
theorem ev1_sound {A : Fr} {a : Act} (hF : ∀ t, VR ρ (slot A t) (a.eval (.tmp t))) {x : Operand} {av : AV} (h : ev1 A x = some av) : VR ρ av (a.eval x) := by
  cases x with
  | tmp t => simp [ev1] at h; subst h; exact hF t
  | const v => exact ofV_sound ρ v h
  | func f => simp [ev1] at h; subst h; exact ⟨#[], #[], rfl, by simp [VRs], by simp [VRs]⟩
  | global g => simp [ev1] at h
theorem evL_sound {A : Fr} {a : Act} (hF : ∀ t, VR ρ (slot A t) (a.eval (.tmp t))) : ∀ {l : List Operand} {as : AVs}, evL A l = some as → VRs ρ as (l.map a.eval)
  | [], as, h => by simp [evL] at h; subst h; simp [VRs]
  | x :: l, as, h => by
    obtain ⟨v, hv, h⟩ := bind_some h
    obtain ⟨vs, hvs, h⟩ := bind_some h
    injection h with h
    subst h
    exact ⟨_, _, rfl, ev1_sound hF hv, evL_sound hF hvs⟩
theorem optA_sound {A : Fr} {a : Act} (hF : ∀ t, VR ρ (slot A t) (a.eval (.tmp t))) {x : Option Operand} {v : Option AV} (h : optA A x = some v) :
    match v with | none => x.map a.eval = none | some v => ∃ u, x.map a.eval = some u ∧ VR ρ v u := by
  cases x with
  | none => simp [optA] at h; subst h; rfl
  | some x =>
    obtain ⟨v', hv, h⟩ := bind_some h
    injection h with h
    subst h
    exact ⟨_, rfl, ev1_sound hF hv⟩

/-! shapes -/
theorem asPtr_sound {v : AV} {a : AAddr} (h : asPtr v = some a) {cv : Value} (hv : VR ρ v cv) : ∃ ca, cv = .pointer (some ca) ∧ AR ρ a ca := by
  cases v <;> simp [asPtr] at h
  subst h
  obtain ⟨ca, rfl, x, rfl, hA⟩ := hv
  exact ⟨x, rfl, hA⟩
theorem asNat_sound {v : AV} {n : Nat} (h : asNat v = some n) {cv : Value} (hv : VR ρ v cv) : ∃ k, cv = .int k (n : Int) := by
  cases v <;> simp [asNat] at h
  next k i =>
    cases i <;> simp [asNatI] at h
    subst h
    exact ⟨k, hv⟩
theorem asStr_sound {v : AV} {s : List Nat} (h : asStr v = some s) {cv : Value} (hv : VR ρ v cv) : ∃ t, cv = .string t ∧ t.data.toList.map UInt8.toNat = s := by
  cases v <;> simp [asStr] at h
  subst h
  exact hv
theorem asAgg_sound {v : AV} {cs : AVs} (h : asAgg v = some cs) {cv : Value} (hv : VR ρ v cv) : ∃ l, cv = .agg l ∧ VRs ρ cs l.toList := by
  cases v <;> simp [asAgg] at h
  subst h
  exact hv
theorem asTup_sound {v : AV} {cs : AVs} (h : asTup v = some cs) {cv : Value} (hv : VR ρ v cv) : ∃ l, cv = .tuple l ∧ VRs ρ cs l.toList := by
  cases v <;> simp [asTup] at h
  subst h
  exact hv
theorem asBoolA_sound {v : AV} {b : Bool} (h : asBoolA v = some b) {cv : Value} (hv : VR ρ v cv) : cv = .bool b := by
  cases v <;> simp [asBoolA] at h
  subst h
  exact hv
def SlR (ρ : Ren) (s : Sl) (ca : Option Addr) (c : Nat) : Prop :=
  match s.1 with | none => ca = none ∧ s.2.2 = .kn c | some a => ∃ x, ca = some x ∧ AR ρ a x ∧ CR ρ a x s.2.2 s.2.1 c
theorem asSlice_sound {v : AV} {s : Sl} (h : asSlice v = some s) {cv : Value} (hv : VR ρ v cv) : ∃ ca c, cv = .slice ca s.2.1 c ∧ SlR ρ s ca c := by
  cases v <;> simp [asSlice] at h
  subst h
  obtain ⟨ca, c, rfl, h⟩ := hv
  exact ⟨ca, c, rfl, h⟩
theorem idx_sound {v : AV} {n i : Nat} (h : idx v n = some i) {cv : Value} (hv : VR ρ v cv) : i < n ∧ ∃ k, cv = .int k (i : Int) := by
  obtain ⟨j, hj, h⟩ := bind_some h
  obtain ⟨hb, h⟩ := guardO_some h
  injection h with h
  subst h
  exact ⟨ble_le hb, asNat_sound hj hv⟩
theorem bound_sound {v : AV} {n i : Nat} (h : bound v n = some i) {cv : Value} (hv : VR ρ v cv) : i ≤ n ∧ ∃ k, cv = .int k (i : Int) := by
  obtain ⟨j, hj, h⟩ := bind_some h
  obtain ⟨hb, h⟩ := guardO_some h
  injection h with h
  subst h
  exact ⟨ble_le hb, asNat_sound hj hv⟩
theorem plus_AR {a : AAddr} {ca : Addr} (h : AR ρ a ca) (n : Nat) : AR ρ (a.plus n) (ca.add n) := by
  obtain ⟨c, hc, hv, hx⟩ := h
  obtain ⟨b, v, o⟩ := a
  refine ⟨c, hc, hv, fun e => ?_⟩
  obtain ⟨h1, rfl⟩ := hx e
  simp only at h1
  rw [add_at]
  show c.sh ≤ o + n ∧ _ = (⟨c.cb, o + n - c.sh, none⟩ : Addr)
  exact ⟨by omega, by congr 1; simp only; omega⟩
end
end Den
