/- DEN, 16: what the plain interpreter answers the machine answers. -/
import Derived.Test.YtcclagnegfngiaaDenDraw2
import Derived.LoopN
set_option autoImplicit false
set_option linter.unusedSimpArgs false
set_option linter.unusedVariables false
namespace Den
open Go Go.RowKit

def toExit : Ex → Exit
  | .normal => .normal
  | .exit id => .exit id
  | .ret => .ret

section
variable {P : Program} {E : Env} {B : Nat} {w0 : World}

theorem frameOf_slot {ρ : Ren} : ∀ (args : AVs) (l : List Value), VRs ρ args l → ∀ (n : Nat) (A : Fr) (t : Nat), (t < n → VR ρ (slot (frameOf args n A) t) undef → True) ∧
    (slot (frameOf args n A) t = if n ≤ t ∧ t < n + args.len then (args.get (t - n)).getD undefA else slot A t)
  | .nil, l, h, n, A, t => ⟨fun _ _ => trivial, by
      have : AVs.nil.len = 0 := rfl
      rw [this, if_neg (by omega)]; rfl⟩
  | .cons a as, l, h, n, A, t => ⟨fun _ _ => trivial, by
      obtain ⟨v, vs, rfl, h1, h2⟩ := h
      have hl : (AVs.cons a as).len = as.len + 1 := rfl
      have e : frameOf (.cons a as) n A = frameOf as (n + 1) (A.set n a) := rfl
      rw [e, (frameOf_slot as vs h2 (n + 1) (A.set n a) t).2, hl, slot_set]
      by_cases h3 : t = n
      · subst h3
        rw [if_neg (by omega), if_pos rfl, if_pos (by omega), Nat.sub_self]
        rfl
      · by_cases h4 : n + 1 ≤ t ∧ t < n + 1 + as.len
        · rw [if_pos h4, if_pos (by omega), show t - n = (t - (n + 1)) + 1 from by omega]
          rfl
        · rw [if_neg h4, if_neg h3, if_neg (by omega)]⟩
theorem frame_start {ρ : Ren} {args : AVs} {cargs : Array Value} (h : VRs ρ args cargs.toList) {nt : Nat} (hn : args.len ≤ nt) :
    FrR ρ nt (frameOf args 0 .nil) { tmps := cargs ++ Array.replicate (nt - cargs.size) undef, defers := [] } := by
  have hlen := h.length
  have hsz : cargs.size = args.len := by simpa using hlen
  refine ⟨rfl, by simp; omega, fun t => ?_⟩
  rw [(frameOf_slot args cargs.toList h 0 .nil t).2]
  simp only [Act.eval, Array.getD_eq_getD_getElem?, Nat.zero_le, true_and, Nat.zero_add, Nat.sub_zero]
  by_cases ht : t < args.len
  · rw [if_pos ht]
    have hget : ∃ x, args.get t = some x := by
      clear h hlen hn hsz
      induction args using AVs.rec (motive_1 := fun _ => True) generalizing t with
      | nil => simp [AVs.len] at ht
      | cons a as _ ih =>
        cases t with
        | zero => exact ⟨a, rfl⟩
        | succ t => exact ih (t := t) (by simp [AVs.len] at ht; omega)
      | _ => trivial
    obtain ⟨x, hx⟩ := hget
    obtain ⟨v, h1, h2⟩ := h.get hx
    rw [hx, Array.getElem?_append_left (by omega)]
    have h1' : cargs[t]? = some v := by simpa using h1
    rw [h1']
    exact h2
  · rw [if_neg ht, Array.getElem?_append_right (by omega)]
    have : slot (Tr.nil : Fr) t = undefA := rfl
    rw [this]
    have e : ((Array.replicate (nt - cargs.size) undef)[t - cargs.size]?).getD undef = undef := by
      simp only [Array.getElem?_replicate]
      split <;> rfl
    rw [e]
    exact undef_VR ρ

theorem res1_sound {ρ : Ren} {H : Heap} {w : World} {A : Fr} {a : Act} {nt : Nat} (hE : EnvOk P E) (hG : Good B w0 ρ H w) (hF : FrR ρ nt A a) {r : ResultVar} {v : AV} (h : res1 E H A r = some v) :
    ∃ cv, (match r with | .tmp t => pure (a.tmps.getD t undef) | .cell x t => do loadVar t (← asAddr (a.tmps.getD x undef)) : Sem Value).run P w = .ok cv w ∧ VR ρ v cv := by
  cases r with
  | tmp t => simp [res1] at h; subst h; exact ⟨_, rfl, hF.slots t⟩
  | cell x t =>
    obtain ⟨ad, ha, h⟩ := bind_some h
    have hs := hF.slots x
    obtain ⟨ca, hca, hA⟩ := asPtr_sound ha hs
    obtain ⟨cv, h1, h2⟩ := ldVar_sound hE hG h hA
    have hca' : a.tmps.getD x undef = .pointer (some ca) := hca
    exact ⟨cv, by simp only [hca']; simpa [asAddr] using h1, h2⟩
theorem resA_sound {ρ : Ren} {H : Heap} {w : World} {A : Fr} {a : Act} {nt : Nat} (hE : EnvOk P E) (hG : Good B w0 ρ H w) (hF : FrR ρ nt A a) : ∀ {l : List ResultVar} {vs : AVs}, resA E H A l = some vs →
    ∃ cvs : List Value, (l.mapM fun r => (match r with | .tmp t => pure (a.tmps.getD t undef) | .cell x t => do loadVar t (← asAddr (a.tmps.getD x undef)) : Sem Value)).run P w = .ok cvs w ∧ VRs ρ vs cvs
  | [], vs, h => by simp [resA] at h; subst h; exact ⟨[], rfl, by simp [VRs]⟩
  | r :: l, vs, h => by
    obtain ⟨v, hv, h⟩ := bind_some h
    obtain ⟨vs', hvs, h⟩ := bind_some h
    injection h with h
    subst h
    obtain ⟨cv, h1, h2⟩ := res1_sound hE hG hF hv
    obtain ⟨cvs, h3, h4⟩ := resA_sound hE hG hF hvs
    exact ⟨cv :: cvs, by simp only [List.mapM_cons, Sem.run_bind, h1, Result.andThen_ok, h3, Sem.run_pure], cv, cvs, rfl, h2, h4⟩
theorem results_sound {ρ : Ren} {H : Heap} {w : World} {A : Fr} {a : Act} {nt : Nat} (hE : EnvOk P E) (hG : Good B w0 ρ H w) (hF : FrR ρ nt A a) {fu : Func} {vs : AVs} (h : resA E H A fu.results.toList = some vs) :
    ∃ cv, (results fu a.tmps).run P w = .ok cv w ∧ VR ρ (mkRes vs) cv := by
  obtain ⟨cvs, h1, h2⟩ := resA_sound hE hG hF h
  have hm : (fu.results.mapM fun r => (match r with | .tmp t => pure (a.tmps.getD t undef) | .cell x t => do loadVar t (← asAddr (a.tmps.getD x undef)) : Sem Value)).run P w = .ok cvs.toArray w := by
    rw [Array.mapM_eq_mapM_toList, Sem.run_map, h1]
    rfl
  have hr : (results fu a.tmps).run P w = .ok (if h : cvs.toArray.size = 1 then cvs.toArray[0] else .tuple cvs.toArray) w := by
    unfold results
    rw [Sem.run_bind]
    refine Eq.trans (congrArg (fun x => Result.andThen x _) hm) ?_
    rfl
  refine ⟨_, hr, ?_⟩
  cases vs with
  | nil => simp [VRs] at h2; subst h2; exact ⟨#[], rfl, by simp [VRs]⟩
  | cons v vs =>
    cases vs with
    | nil =>
      obtain ⟨c, cs, rfl, h3, h4⟩ := h2
      simp [VRs] at h4
      subst h4
      exact h3
    | cons v2 vs =>
      obtain ⟨c, cs, rfl, h3, h4⟩ := h2
      obtain ⟨c2, cs2, rfl, h5, h6⟩ := h4
      rw [dif_neg (by simp)]
      exact ⟨_, rfl, c, _, rfl, h3, c2, cs2, rfl, h5, h6⟩

def CodeOk (P : Program) (E : Env) (B : Nat) (w0 : World) (rec : Nat → Code → Fr → Heap → Out) : Prop :=
  ∀ nt c A H ex A' H', rec nt c A H = some (ex, A', H') → ∀ ρ a w, Good B w0 ρ H w → FrR ρ nt A a → ∀ Q : Exit → Act → World → Prop,
    (∀ ρ' a' w', Ren.le ρ ρ' → Good B w0 ρ' H' w' → FrR ρ' nt A' a' → Q (toExit ex) a' w') → c.wp P Q a w

theorem callW_ok (hE : EnvOk P E) {rec : Nat → Code → Fr → Heap → Out} (hrec : CodeOk P E B w0 rec) : CallOk P E B w0 (callW E rec) := by
  intro f args H p h
  obtain ⟨fu, hfu, h⟩ := bind_some h
  replace h := bind_some h; obtain ⟨body, hbody, h⟩ := h
  replace h := guardO_some h; obtain ⟨hlen, h⟩ := h
  replace h := bind_some h; obtain ⟨q, hq, h⟩ := h
  obtain ⟨ex, A', H'⟩ := q
  replace h := guardO_some h; obtain ⟨hend, h⟩ := h
  replace h := bind_some h; obtain ⟨vs, hvs, h⟩ := h
  injection h with h
  subst h
  refine ⟨⟨fu, hfu, by rw [hbody]; rfl⟩, fun ρ w cargs hG hv => ?_⟩
  refine calls_of_wp (hE.fns f fu hfu) hbody ?_
  refine hrec _ _ _ _ _ _ _ hq ρ _ w hG (frame_start hv (ble_le hlen)) _ fun ρ' a' w' h1 h2 h3 => ?_
  obtain ⟨cv, h4, h5⟩ := results_sound hE h2 h3 hvs
  cases ex with
  | normal => exact ⟨h3.defers, cv, h4, ρ', cv, rfl, h1, h2, h5⟩
  | ret => exact ⟨h3.defers, cv, h4, ρ', cv, rfl, h1, h2, h5⟩
  | exit id => cases hend

theorem evCode_sound (hE : EnvOk P E) : ∀ f, CodeOk P E B w0 (evCode E f) := by
  intro f
  induction f using Nat.strongRecOn with
  | _ f ih =>
  cases f with
  | zero => intro nt c A H ex A' H' h; cases h
  | succ f =>
  have ihf := ih f (Nat.lt_succ_self f)
  intro nt c A H ex A' H' h ρ a w hG hF Q hQ
  have h : stepC E (evCode E f) nt c A H = some (ex, A', H') := h
  cases c with
  | skip =>
    simp only [stepC, Option.some.injEq, Prod.mk.injEq] at h
    obtain ⟨rfl, rfl, rfl⟩ := h
    exact wp_skip (hQ ρ a w (Ren.le_refl ρ) hG hF)
  | exit id =>
    simp only [stepC, Option.some.injEq, Prod.mk.injEq] at h
    obtain ⟨rfl, rfl, rfl⟩ := h
    exact wp_exit (hQ ρ a w (Ren.le_refl ρ) hG hF)
  | ret =>
    simp only [stepC, Option.some.injEq, Prod.mk.injEq] at h
    obtain ⟨rfl, rfl, rfl⟩ := h
    exact wp_ret (hQ ρ a w (Ren.le_refl ρ) hG hF)
  | seq x y =>
    obtain ⟨q, hq, h⟩ := bind_some h
    obtain ⟨ex1, A1, H1⟩ := q
    refine wp_seq (ihf nt x A H ex1 A1 H1 hq ρ a w hG hF _ fun ρ1 a1 w1 g1 g2 g3 => ?_)
    cases ex1 with
    | normal => exact ihf nt y A1 H1 ex A' H' h ρ1 a1 w1 g2 g3 Q fun ρ2 a2 w2 k1 k2 k3 => hQ ρ2 a2 w2 (Ren.le_trans g1 k1) k2 k3
    | exit id =>
      simp only [Option.some.injEq, Prod.mk.injEq] at h
      obtain ⟨rfl, rfl, rfl⟩ := h
      exact hQ ρ1 a1 w1 g1 g2 g3
    | ret =>
      simp only [Option.some.injEq, Prod.mk.injEq] at h
      obtain ⟨rfl, rfl, rfl⟩ := h
      exact hQ ρ1 a1 w1 g1 g2 g3
  | cond x y z =>
    obtain ⟨v, hv, h⟩ := bind_some h
    obtain ⟨t, ht, h⟩ := bind_some h
    have hc := asBoolA_sound ht (ev1_sound hF.slots hv)
    refine wp_cond hc ?_
    cases t
    · exact ihf nt z A H ex A' H' h ρ a w hG hF Q hQ
    · exact ihf nt y A H ex A' H' h ρ a w hG hF Q hQ
  | block id c =>
    obtain ⟨q, hq, h⟩ := bind_some h
    obtain ⟨ex1, A1, H1⟩ := q
    refine wp_block (ihf nt c A H ex1 A1 H1 hq ρ a w hG hF _ fun ρ1 a1 w1 g1 g2 g3 => ?_)
    cases ex1 with
    | normal =>
      simp only [Option.some.injEq, Prod.mk.injEq] at h
      obtain ⟨rfl, rfl, rfl⟩ := h
      exact hQ ρ1 a1 w1 g1 g2 g3
    | ret =>
      simp only [Option.some.injEq, Prod.mk.injEq] at h
      obtain ⟨rfl, rfl, rfl⟩ := h
      exact hQ ρ1 a1 w1 g1 g2 g3
    | exit id' =>
      simp only at h
      cases hb : Nat.beq id' id
      · rw [hb, cond_false] at h
        simp only [Option.some.injEq, Prod.mk.injEq] at h
        obtain ⟨rfl, rfl, rfl⟩ := h
        have hne : id' ≠ id := fun e => by rw [beq_yes e] at hb; cases hb
        simp only [toExit, Exit.inBlock, if_neg hne]
        exact hQ ρ1 a1 w1 g1 g2 g3
      · rw [hb, cond_true] at h
        simp only [Option.some.injEq, Prod.mk.injEq] at h
        obtain ⟨rfl, rfl, rfl⟩ := h
        simp only [toExit, Exit.inBlock, if_pos (beq_eq hb)]
        exact hQ ρ1 a1 w1 g1 g2 g3
  | loop c =>
    -- the rounds
    have rounds : ∀ g, g ≤ f → ∀ A H ex A' H', evCode E (g + 1) nt (.loop c) A H = some (ex, A', H') → ∀ ρ a w, Good B w0 ρ H w → FrR ρ nt A a → ∀ Q : Exit → Act → World → Prop,
        (∀ ρ' a' w', Ren.le ρ ρ' → Good B w0 ρ' H' w' → FrR ρ' nt A' a' → Q (toExit ex) a' w') → Code.rounds P c Q (g + 1) a w := by
      intro g
      induction g with
      | zero =>
        intro hg A H ex A' H' h ρ a w hG hF Q hQ
        have h : seqW (evCode E 0 nt c A H) (evCode E 0 nt (.loop c)) = some (ex, A', H') := h
        obtain ⟨q, hq, h⟩ := bind_some h
        cases hq
      | succ g ihg =>
        intro hg A H ex A' H' h ρ a w hG hF Q hQ
        have h : seqW (evCode E (g + 1) nt c A H) (evCode E (g + 1) nt (.loop c)) = some (ex, A', H') := h
        obtain ⟨q, hq, h⟩ := bind_some h
        obtain ⟨ex1, A1, H1⟩ := q
        rw [rounds_succ]
        refine ih (g + 1) (by omega) nt c A H ex1 A1 H1 hq ρ a w hG hF _ fun ρ1 a1 w1 g1 g2 g3 => ?_
        cases ex1 with
        | normal => exact ihg (by omega) A1 H1 ex A' H' h ρ1 a1 w1 g2 g3 Q fun ρ2 a2 w2 k1 k2 k3 => hQ ρ2 a2 w2 (Ren.le_trans g1 k1) k2 k3
        | exit id =>
          simp only [Option.some.injEq, Prod.mk.injEq] at h
          obtain ⟨rfl, rfl, rfl⟩ := h
          exact hQ ρ1 a1 w1 g1 g2 g3
        | ret =>
          simp only [Option.some.injEq, Prod.mk.injEq] at h
          obtain ⟨rfl, rfl, rfl⟩ := h
          exact hQ ρ1 a1 w1 g1 g2 g3
    exact wp_loop_rounds (f + 1) (rounds f (Nat.le_refl f) A H ex A' H' h ρ a w hG hF Q hQ)
  | region id ops draw =>
    have hcall : CallOk P E B w0 (callW E (evCode E f)) := callW_ok hE ihf
    cases draw with
    | false =>
      obtain ⟨q, hq, h⟩ := bind_some h
      obtain ⟨A1, H1⟩ := q
      simp only [Option.some.injEq, Prod.mk.injEq] at h
      obtain ⟨rfl, rfl, rfl⟩ := h
      refine wp_region ?_
      rw [List.range_eq_range']
      exact runOps_sound hE hcall ops.size 0 (by omega) hq hG hF hQ
    | true =>
      have h : drawW E nt (callW E (evCode E f)) ops A H = some (ex, A', H') := h
      obtain ⟨hg, h⟩ := guardO_some h
      simp only [Bool.and_eq_true] at hg
      replace h := bind_some h; obtain ⟨q, hq, h⟩ := h
      obtain ⟨A1, H1⟩ := q
      simp only [Option.some.injEq, Prod.mk.injEq] at h
      obtain ⟨rfl, rfl, rfl⟩ := h
      exact drawRegion_sound hE hcall hg.1 hg.2 hq hG hF hQ id (planOf_len ops)
  | _ => cases h

/-- A CALL: what the plain interpreter answers, on an empty heap, the machine answers -/
theorem callA_calls (hE : EnvOk P E) {fuel : Nat} {f : FuncId} {v : AV} {H' : Heap} (h : callA E fuel f .nil ⟨0, .nil⟩ = some (v, H')) (w : World) :
    Calls P f #[] w fun e w' => ∃ ρ cv, e = .returned cv ∧ Below w.heap.size w w' ∧ VR ρ v cv := by
  have hG : Good w.heap.size w (fun _ => none) ⟨0, .nil⟩ w := ⟨Below.refl _ _, Nat.le_refl _, (fun b b' c c' hb => by cases hb), (fun b c hb => by cases hb), (fun b r hr => by simp [Heap.row, Tr.get] at hr)⟩
  refine (((callW_ok hE (evCode_sound hE fuel)) f .nil _ _ h).2 (fun _ => none) w #[] hG (by simp [VRs])).mono ?_
  rintro e w' ⟨ρ', cv, rfl, _, h2, h3⟩
  exact ⟨ρ', cv, rfl, h2.below, h3⟩
end
end Den
