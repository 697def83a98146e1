/- DEN, 15: regions that draw, the main part. -/
import Derived.Test.YtcclagnegfngiaaDenDraw
set_option autoImplicit false
set_option linter.unusedSimpArgs false
set_option linter.unusedVariables false
namespace Den
open Go Go.RowKit

section
variable {P : Program} {E : Env} {B : Nat} {w0 : World} {ρ : Ren} {H : Heap} {w : World} {A : Fr} {a : Act} {nt : Nat} {ops : Array Oper}
variable {done es : List Nat} {pend : List (Nat × Value)} {listed : Array Bool}

theorem readyL_spec {i : Nat} {o : Oper} (h : readyL done i o = true) : i ∉ done ∧ ∀ x ∈ depsOf o, x ∈ done := by
  simp only [readyL, Bool.and_eq_true, Bool.not_eq_true', List.all_eq_true] at h
  refine ⟨fun hi => ?_, fun x hx => inL_mem.1 (h.2 x hx)⟩
  rw [inL_mem.2 hi] at h
  cases h.1
theorem not_inL {n : Nat} {l : List Nat} : (!inL n l) = true ↔ n ∉ l := by
  rw [← inL_mem]; cases inL n l <;> simp
theorem earlyOk_spec {i : Nat} {o : Oper} (h : earlyOk E ops (numbered ops.toList 0) done i o = true) :
    early E o.op = true ∧ (∀ j oj, ops[j]? = some oj → j ≠ i → j ∉ done → i ∈ depsOf oj ∨ o.apart ops oj = true) ∧
    ∃ d, o.dst = some d ∧ d ∉ o.looksAt ops ∧ ∀ j oj, ops[j]? = some oj → j ∈ done → d ∉ oj.looksAt ops ∧ oj.dst ≠ some d := by
  simp only [earlyOk, Bool.and_eq_true] at h
  obtain ⟨h1, h2, h3⟩ := h
  refine ⟨h1, fun j oj hj hne hnd => ?_, ?_⟩
  · have := List.all_eq_true.1 h2 _ (num_mem hj)
    simp only [Bool.or_eq_true] at this
    rcases this with h | h | h | h
    · exact absurd (beq_eq h) hne
    · exact absurd (inL_mem.1 h) hnd
    · exact .inl (inL_mem.1 h)
    · exact .inr h
  · cases hd : o.dst with
    | none => rw [hd] at h3; cases h3
    | some d =>
      rw [hd] at h3
      simp only [freshAll, Bool.and_eq_true] at h3
      refine ⟨d, rfl, not_inL.1 h3.1, fun j oj hj hjd => ?_⟩
      have := List.all_eq_true.1 h3.2 _ (num_mem hj)
      simp only [Bool.or_eq_true, Bool.and_eq_true] at this
      rcases this with h | h
      · exact absurd hjd (not_inL.1 h)
      · refine ⟨not_inL.1 h.1, fun e => ?_⟩
        rw [e] at h
        have h2 := h.2
        rw [oEq_refl] at h2
        cases h2
theorem blocked_spec {i : Nat} (h : blocked (numbered ops.toList 0) done i = true) : ∀ j oj, ops[j]? = some oj → j ≠ i → j ∉ done → ∃ d ∈ depsOf oj, d ∉ done := by
  intro j oj hj hne hnd
  have := List.all_eq_true.1 h _ (num_mem hj)
  simp only [Bool.or_eq_true, List.any_eq_true] at this
  rcases this with h | h | ⟨d, hd, h⟩
  · exact absurd (beq_eq h) hne
  · exact absurd (inL_mem.1 h) hnd
  · exact ⟨d, hd, not_inL.1 h⟩

theorem FrR.reput {d : Option Nat} {u v : Value} (h : FrR ρ nt A (a.put d u)) (hv : ∀ x, d = some x → VR ρ (slot A x) v) : FrR ρ nt A (a.put d v) := by
  cases d with
  | none => exact h
  | some d =>
    have hsz : a.tmps.size = nt := by have := h.size; simpa [Act.put] using this
    have hdef : a.defers = [] := h.defers
    refine ⟨hdef, by simpa [Act.put] using hsz, fun t => ?_⟩
    by_cases hd : d < a.tmps.size
    · rw [eval_put_some a d v hd]
      have := h.slots t
      rw [eval_put_some a d u hd] at this
      split
      · next e => subst e; exact hv t rfl
      · next e => rw [if_neg e] at this; exact this
    · have e : ∀ x : Value, a.put (some d) x = a := fun x => by
        simp only [Act.put, Array.setIfInBounds, dif_neg hd]
      have := h.slots t
      rw [e] at this ⊢
      exact this

/-- an early operation is planned -/
theorem Inv.plan (hE : EnvOk P E) (hns : Region.noSelect ops = true) (h : Inv P E B w0 nt ops done es A H pend listed ρ a w) {call : CallF} {i : Nat} {r : List (Nat × Bool)} (hp : planOk E ops (numbered ops.toList 0) done ((i, true) :: r) = true) {out : Fr × Heap}
    (hd : drawOps E nt call ops.toList es ((i, true) :: r) A H = some out) :
    ∃ A' cv, Inv P E B w0 nt ops (i :: done) (es ++ [i]) A' H (pend ++ [(i, cv)]) listed ρ a w ∧ planOk E ops (numbered ops.toList 0) (i :: done) r = true ∧ drawOps E nt call ops.toList (es ++ [i]) r A' H = some out := by
  simp only [planOk] at hp
  cases hio : ops.toList[i]? with
  | none => rw [hio] at hp; cases hp
  | some o =>
  rw [hio] at hp
  simp only [Bool.and_eq_true, cond_true] at hp
  obtain ⟨hrd, hek, hrest⟩ := hp
  have hio' : ops[i]? = some o := by simpa using hio
  obtain ⟨hnd, hdeps⟩ := readyL_spec hrd
  obtain ⟨he1, he2, d, hod, hown, hfresh⟩ := earlyOk_spec hek
  have hdi : dstOf ops i = some d := by simp [dstOf, hio', hod]
  have hlt := (Array.getElem?_eq_some_iff.1 hio').1
  -- what it comes to
  have key : ∃ A' v cv, put nt A o.dst v = some A' ∧ VR ρ v cv ∧ Evals P ops o (puts ops a pend) w cv ∧ drawOps E nt call ops.toList (es ++ [i]) r A' H = some out := by
    simp only [drawOps, hio, cond_true, doOp] at hd
    cases hw : wantedA ops.toList A o.guard
    · rw [hw, cond_false] at hd
      obtain ⟨A', h1, h2⟩ := bind_some hd
      exact ⟨A', undefA, undef, h1, undef_VR ρ, .inr ⟨by rw [← wantedA_eq h.fr]; exact hw, rfl⟩, h2⟩
    · rw [hw, cond_true] at hd
      obtain ⟨q, hex, haf⟩ := bind_some hd
      obtain ⟨v, cv, hq, hrun, hv⟩ := exec_early hE h.good h.fr.slots hex he1
      subst hq
      obtain ⟨A', h1, h2⟩ := bind_some haf
      exact ⟨A', v, cv, h1, hv, .inl ⟨by rw [← wantedA_eq h.fr]; exact hw, hrun⟩, h2⟩
  obtain ⟨A', v, cv, hput, hv, hev, hrun⟩ := key
  have hputs : puts ops a (pend ++ [(i, cv)]) = (puts ops a pend).put o.dst cv := by rw [puts_append]; simp [puts, hdi, hod]
  refine ⟨A', cv, ⟨h.lsz, fun j hj => (List.mem_cons.1 hj).elim (fun e => e ▸ hlt) (h.dlt j), fun j hj => ?_, ?_, ?_, ?_, by rw [hputs]; exact h.fr.put hput hv, h.good, ?_⟩, hrest, hrun⟩
  · rw [h.lst j hj]
    simp only [List.map_append, List.map_cons, List.map_nil, List.mem_append, List.mem_cons, List.not_mem_nil, or_false]
    by_cases hji : j = i
    · subst hji
      simp [hnd]
    · simp [hji]
  · simp only [List.map_append, List.map_cons, List.map_nil]
    exact h.sub.append (List.Sublist.refl _)
  · rw [List.pairwise_append]
    refine ⟨h.pw, by simp, fun j hj i' hi' => ?_⟩
    simp only [List.mem_cons, List.not_mem_nil, or_false] at hi'
    subst hi'
    intro oj oi hoj hoi
    rw [hio'] at hoi
    injection hoi with hoi
    subst hoi
    have hs := h.one j hj
    obtain ⟨o2, d2, h1, h2, h3, h4, h5, h6, h7⟩ := hs.ok
    rw [hoj] at h1
    injection h1 with h1
    subst h1
    refine ⟨fun e => hnd (e ▸ hs.mem), fun hm => hnd (h6 _ hm), fun x hx => ?_, h7 i' o hio' hnd⟩
    rw [hod] at hx
    injection hx with hx
    subst hx
    exact hfresh j oj hoj hs.mem
  · intro j hj
    rcases List.mem_append.1 hj with hj | hj
    · obtain ⟨hm, o2, d2, h1, h2, h3, h4, h5, h6, h7⟩ := h.one j hj
      exact ⟨List.mem_cons_of_mem _ hm, o2, d2, h1, h2, h3, h4, h5, fun x hx => List.mem_cons_of_mem _ (h6 x hx), fun k ok hk hkn => h7 k ok hk fun hkd => hkn (List.mem_cons_of_mem _ hkd)⟩
    · simp only [List.mem_cons, List.not_mem_nil, or_false] at hj
      subst hj
      exact ⟨List.mem_cons_self, o, d, hio', hod, he1, hown, fun hm => hnd (hdeps _ hm), fun x hx => List.mem_cons_of_mem _ (hdeps x hx),
        fun k ok hk hkn => he2 k ok hk (fun e => hkn (e ▸ List.mem_cons_self)) (fun hkd => hkn (List.mem_cons_of_mem _ hkd))⟩
  · intro p hp o' ho'
    rw [hputs]
    rcases List.mem_append.1 hp with hp | hp
    · have hpm := (h.one _ (h.pend_es hp)).mem
      have hf := hfresh p.1 o' ho' hpm
      have := h.ev p hp o' ho'
      have e := Evals.puts (P := P) (w := w) hns ho' (a := puts ops a pend) (l := [(i, cv)]) (cv := p.2) (by
        intro q hq x hx
        simp only [List.mem_cons, List.not_mem_nil, or_false] at hq
        subst hq
        rw [hdi] at hx
        injection hx with hx
        subst hx
        exact hf.1)
      simp only [puts, hdi, ← hod] at e
      exact e.2 this
    · simp only [List.mem_cons, List.not_mem_nil, or_false] at hp
      subst hp
      rw [hio'] at ho'
      injection ho' with ho'
      subst ho'
      have e := Evals.puts (P := P) (w := w) hns hio' (a := puts ops a pend) (l := [(i, cv)]) (cv := cv) (by
        intro q hq x hx
        simp only [List.mem_cons, List.not_mem_nil, or_false] at hq
        subst hq
        rw [hdi] at hx
        injection hx with hx
        subst hx
        exact hown)
      simp only [puts, hdi, ← hod] at e
      exact e.2 hev

/-- what is pending is asked again -/
theorem recheck (hE : EnvOk P E) (hns : Region.noSelect ops = true) (hG : Good B w0 ρ H w) : ∀ (l2 l1 : List (Nat × Value)), FrR ρ nt A (puts ops a (l1 ++ l2)) →
    (∀ p ∈ l2, again1 E ops.toList A H p.1 = true ∧ ∃ o d, ops[p.1]? = some o ∧ o.dst = some d ∧ early E o.op = true ∧ d ∉ o.looksAt ops) →
    (l2.map (·.1)).Pairwise (PairOk ops) →
    ∃ l2', l2'.map (·.1) = l2.map (·.1) ∧ FrR ρ nt A (puts ops a (l1 ++ l2')) ∧ ∀ p ∈ l2', ∀ o, ops[p.1]? = some o → Evals P ops o (puts ops a (l1 ++ l2')) w p.2
  | [], l1, hF, _, _ => ⟨[], rfl, hF, by simp⟩
  | (i, cv) :: t, l1, hF, hag, hpw => by
    obtain ⟨hag1, o, d, hio, hod, hearly, hown⟩ := hag (i, cv) List.mem_cons_self
    simp only at hag1 hio
    simp only [List.map_cons, List.pairwise_cons] at hpw
    have hdi : dstOf ops i = some d := by simp [dstOf, hio, hod]
    have hio' : ops.toList[i]? = some o := by simpa using hio
    -- a list of later ones with the same numbers
    have later : ∀ t' : List (Nat × Value), t'.map (·.1) = t.map (·.1) → ∀ p ∈ t', (∀ x, dstOf ops p.1 = some x → x ∉ o.looksAt ops) ∧ (∀ x, some d = some x → dstOf ops p.1 ≠ some x) := by
      intro t' ht' p hp
      have hm : p.1 ∈ t.map (·.1) := by rw [← ht']; exact List.mem_map_of_mem hp
      obtain ⟨q, hq, hqp⟩ := List.mem_map.1 hm
      obtain ⟨_, o2, d2, h1, h2, _, _⟩ := hag q (List.mem_cons_of_mem _ hq)
      rw [hqp] at h1
      have hpo := hpw.1 p.1 hm o o2 hio h1
      have hd2 : dstOf ops p.1 = o2.dst := by simp [dstOf, h1]
      refine ⟨fun x hx => (hpo.2.2.1 x (by rw [← hd2]; exact hx)).1, fun x hx e => ?_⟩
      injection hx with hx
      subst hx
      exact (hpo.2.2.1 d (by rw [← hd2]; exact e)).2 hod
    have evals_at : ∀ (u : Value) (t' : List (Nat × Value)), t'.map (·.1) = t.map (·.1) → ∀ y, (Evals P ops o (puts ops a (l1 ++ (i, u) :: t')) w y ↔ Evals P ops o (puts ops a l1) w y) := by
      intro u t' ht' y
      rw [puts_append]
      refine Evals.puts hns hio fun p hp x hx => ?_
      rcases List.mem_cons.1 hp with rfl | hp
      · simp only at hx
        rw [hdi] at hx
        injection hx with hx
        subst hx
        exact hown
      · exact (later t' ht' p hp).1 x hx
    have key : ∃ cv', VR ρ (slot A d) cv' ∧ Evals P ops o (puts ops a (l1 ++ (i, cv) :: t)) w cv' := by
      simp only [again1, hio', hod] at hag1
      cases hw : wantedA ops.toList A o.guard
      · rw [hw, cond_false] at hag1
        have := vEq_eq hag1
        exact ⟨undef, by rw [← this]; exact undef_VR ρ, .inr ⟨by rw [← wantedA_eq hF]; exact hw, rfl⟩⟩
      · rw [hw, cond_true] at hag1
        cases hex : execA E A H o.op with
        | none => rw [hex] at hag1; cases hag1
        | some q =>
          rw [hex] at hag1
          obtain ⟨v, cv', hq, hrun, hv⟩ := exec_early hE hG hF.slots hex hearly
          subst hq
          have := vEq_eq hag1
          exact ⟨cv', by rw [← this]; exact hv, .inl ⟨by rw [← wantedA_eq hF]; exact hw, hrun⟩⟩
    obtain ⟨cv', hv', hev'⟩ := key
    have form : ∀ u, puts ops a (l1 ++ (i, u) :: t) = (puts ops a (l1 ++ t)).put (some d) u := by
      intro u
      rw [puts_append, puts_append]
      simp only [puts, hdi]
      exact puts_comm ops u t _ fun p hp x hx => (later t rfl p hp).2 x hx
    have hF2 : FrR ρ nt A (puts ops a ((l1 ++ [(i, cv')]) ++ t)) := by
      rw [List.append_assoc, List.singleton_append, form]
      rw [form] at hF
      exact hF.reput fun x hx => by injection hx with hx; subst hx; exact hv'
    obtain ⟨t', h1, h2, h3⟩ := recheck hE hns hG t (l1 ++ [(i, cv')]) hF2 (fun p hp => hag p (List.mem_cons_of_mem _ hp)) hpw.2
    rw [List.append_assoc, List.singleton_append] at h2 h3
    refine ⟨(i, cv') :: t', by simp [h1], h2, fun p hp o' ho' => ?_⟩
    rcases List.mem_cons.1 hp with rfl | hp
    · simp only at ho' ⊢
      rw [hio] at ho'
      injection ho' with ho'
      subst ho'
      exact (evals_at cv' t' h1 cv').2 ((evals_at cv t rfl cv').1 hev')
    · exact h3 p hp o' ho'

theorem again_spec {all : List Oper} {ds : List Nat} : ∀ {l : List Nat}, again E all ds A H l = true → ∀ i ∈ l, i ∈ ds ∨ again1 E all A H i = true
  | [], _, i, hi => by simp at hi
  | j :: l, h, i, hi => by
    simp only [again, Bool.and_eq_true, Bool.or_eq_true] at h
    rcases List.mem_cons.1 hi with rfl | hi
    · exact h.1.imp inL_mem.1 id
    · exact again_spec h.2 i hi

theorem sat (hE : EnvOk P E) (hns : Region.noSelect ops = true) {call : CallF} {out : Fr × Heap} : ∀ (rest : List (Nat × Bool)) {done es : List Nat} {A : Fr} {pend : List (Nat × Value)}, Inv P E B w0 nt ops done es A H pend listed ρ a w →
    planOk E ops (numbered ops.toList 0) done rest = true → drawOps E nt call ops.toList es rest A H = some out →
    ∃ done' es' A' pend' rest', Inv P E B w0 nt ops done' es' A' H pend' listed ρ a w ∧ planOk E ops (numbered ops.toList 0) done' rest' = true ∧ drawOps E nt call ops.toList es' rest' A' H = some out ∧
      pend'.length + rest'.length = pend.length + rest.length ∧ (rest' = [] ∨ ∃ i r, rest' = (i, false) :: r)
  | [], done, es, A, pend, h, hp, hd => ⟨done, es, A, pend, [], h, hp, hd, rfl, .inl rfl⟩
  | (i, false) :: r, done, es, A, pend, h, hp, hd => ⟨done, es, A, pend, _, h, hp, hd, rfl, .inr ⟨i, r, rfl⟩⟩
  | (i, true) :: r, done, es, A, pend, h, hp, hd => by
    obtain ⟨A', cv, h1, h2, h3⟩ := h.plan hE hns hp hd
    obtain ⟨d, e, A2, p2, r2, g1, g2, g3, g4, g5⟩ := sat hE hns r h1 h2 h3
    refine ⟨d, e, A2, p2, r2, g1, g2, g3, ?_, g5⟩
    rw [g4]
    simp
    omega

theorem draw_main (hE : EnvOk P E) (hns : Region.noSelect ops = true) {call : CallF} (hcall : CallOk P E B w0 call) {out : Fr × Heap} {Q : Exit → Act → World → Prop} :
    ∀ (fuel : Nat) {rest : List (Nat × Bool)} {done es : List Nat} {A : Fr} {H : Heap} {pend : List (Nat × Value)} {listed : Array Bool} {ρ : Ren} {a : Act} {w : World}, Inv P E B w0 nt ops done es A H pend listed ρ a w →
    planOk E ops (numbered ops.toList 0) done rest = true → drawOps E nt call ops.toList es rest A H = some out → pend.length + rest.length ≤ fuel →
    (∀ ρ' a' w', Ren.le ρ ρ' → Good B w0 ρ' out.2 w' → FrR ρ' nt out.1 a' → Q .normal a' w') → wpAny P .any ops Q fuel listed a w := by
  intro fuel
  induction fuel with
  | zero =>
    intro rest done es A H pend listed ρ a w h hp hd hlen hQ
    have hpn : pend = [] := List.eq_nil_of_length_eq_zero (by omega)
    have hrn : rest = [] := List.eq_nil_of_length_eq_zero (by omega)
    subst hpn hrn
    simp only [drawOps, Option.some.injEq] at hd
    subst hd
    refine ⟨?_, hQ ρ a w (Ren.le_refl ρ) h.good h.fr⟩
    cases hr : Region.ready .any ops listed with
    | nil => rfl
    | cons i l =>
      have hi : i ∈ Region.ready .any ops listed := by rw [hr]; exact List.mem_cons_self
      obtain ⟨hun, o, hio, _⟩ := mem_ready.1 hi
      have hlt := (Array.getElem?_eq_some_iff.1 hio).1
      have := List.all_eq_true.1 hp _ (num_mem hio)
      have hl := (h.lst i hlt).2 ⟨inL_mem.1 this, by simp⟩
      have hlt' : i < listed.size := by rw [h.lsz]; exact hlt
      simp [hlt'] at hun hl
      rw [hun] at hl
      cases hl
  | succ fuel ih =>
    intro rest done es A H pend listed ρ a w h hp hd hlen hQ
    obtain ⟨done, es, A, pend', rest', h, hp, hd, hleneq, hform⟩ := sat hE hns rest h hp hd
    have hlen : pend'.length + rest'.length ≤ fuel + 1 := by omega
    clear hleneq
    generalize pend' = pend at *
    generalize rest' = rest at *
    have listed_done : ∀ x, listed.getD x false = true → x ∈ done := by
      intro x hx
      have hlt : x < ops.size := by
        rcases Nat.lt_or_ge x listed.size with h1 | h1
        · rw [← h.lsz]; exact h1
        · simp [Array.getElem?_eq_none h1] at hx
      exact ((h.lst x hlt).1 hx).1
    have to_ready : ∀ i o, ops[i]? = some o → listed.getD i false = false → (∀ x ∈ depsOf o, listed.getD x false = true) → i ∈ Region.ready .any ops listed := by
      intro i o hio hun hdeps
      have hlt := (Array.getElem?_eq_some_iff.1 hio).1
      have hlt' : i < listed.size := by rw [h.lsz]; exact hlt
      refine mem_ready.2 ⟨?_, o, hio, fun e he hb => hdeps _ (depsOf_mem.2 ⟨e, he, hb, rfl⟩)⟩
      simp [hlt'] at hun ⊢
      exact hun
    refine ⟨fun hnil => ?_, fun i hi => ?_⟩
    · -- nothing is ready: all is done
      cases pend with
      | cons p t =>
        exfalso
        have hmem : p ∈ p :: t := List.mem_cons_self
        have hpes := h.pend_es hmem
        obtain ⟨o, d, ho, hod, _, _, hself, hdeps, _⟩ := (h.one _ hpes).ok
        have hin := to_ready p.1 o ho (h.unlisted hmem) (fun x hx => by
          have hxd := hdeps x hx
          have hlx := h.dlt x hxd
          have hox : ops[x]? = some ops[x] := Array.getElem?_eq_getElem hlx
          refine (h.lst x hlx).2 ⟨hxd, fun hxp => ?_⟩
          simp only [List.map_cons, List.mem_cons] at hxp
          rcases hxp with rfl | hxp
          · exact hself hx
          · have hpw := List.Pairwise.sublist h.sub h.pw
            simp only [List.map_cons, List.pairwise_cons] at hpw
            exact (hpw.1 x hxp o ops[x] ho hox).2.1 hx)
        rw [hnil] at hin
        cases hin
      | nil =>
        rcases hform with rfl | ⟨e, r, rfl⟩
        · simp only [drawOps, Option.some.injEq] at hd
          subst hd
          exact hQ ρ a w (Ren.le_refl ρ) h.good h.fr
        · exfalso
          simp only [planOk] at hp
          cases hio : ops.toList[e]? with
          | none => rw [hio] at hp; cases hp
          | some o =>
            rw [hio] at hp
            simp only [Bool.and_eq_true] at hp
            obtain ⟨hnd, hdeps⟩ := readyL_spec hp.1
            have hio' : ops[e]? = some o := by simpa using hio
            have hlt := (Array.getElem?_eq_some_iff.1 hio').1
            have hun : listed.getD e false = false := by
              cases hl : listed.getD e false
              · rfl
              · exact absurd (listed_done e hl) hnd
            have hin := to_ready e o hio' hun fun x hx => (h.lst x (h.dlt x (hdeps x hx))).2 ⟨hdeps x hx, by simp⟩
            rw [hnil] at hin
            cases hin
    · obtain ⟨hun, o, hio, hall⟩ := mem_ready.1 hi
      have hlt := (Array.getElem?_eq_some_iff.1 hio).1
      have hlt' : i < listed.size := by rw [h.lsz]; exact hlt
      have hun' : listed.getD i false = false := by simp [hlt'] at hun ⊢; exact hun
      have hready : ∀ x ∈ depsOf o, listed.getD x false = true := fun x hx => by
        obtain ⟨e, he, hb, hon⟩ := depsOf_mem.1 hx
        rw [← hon]
        exact hall e he hb
      by_cases hpend : i ∈ pend.map (·.1)
      · -- one that is pending
        obtain ⟨p, hpm, hpi⟩ := List.mem_map.1 hpend
        obtain ⟨i', cv⟩ := p
        simp only at hpi
        subst hpi
        obtain ⟨l1, l2, hl⟩ := List.append_of_mem hpm
        obtain ⟨hev, hinv⟩ := h.take hns hl hio hready
        refine hev.step hio (ih hinv hp hd ?_ hQ)
        rw [hl] at hlen
        simp at hlen ⊢
        omega
      · have hnd : i ∉ done := fun hdn => by
          have := (h.lst i hlt).2 ⟨hdn, hpend⟩
          rw [hun'] at this
          cases this
        rcases hform with rfl | ⟨e, r, rfl⟩
        · exfalso
          exact hnd (inL_mem.1 (List.all_eq_true.1 hp _ (num_mem hio)))
        · simp only [planOk] at hp
          cases heo : ops.toList[e]? with
          | none => rw [heo] at hp; cases hp
          | some oe =>
          rw [heo] at hp
          simp only [Bool.and_eq_true, cond_false] at hp
          obtain ⟨hrd, hbl, hrest⟩ := hp
          have hie : i = e := by
            by_cases hie : i = e
            · exact hie
            · exfalso
              obtain ⟨x, hx, hxn⟩ := blocked_spec hbl i o hio hie hnd
              exact hxn (listed_done x (hready x hx))
          subst hie
          have hoe : oe = o := by
            have : ops[i]? = some oe := by simpa using heo
            rw [hio] at this
            injection this with this
            exact this.symm
          subst hoe
          obtain ⟨_, hdeps⟩ := readyL_spec hrd
          have hlooks := h.looks hio hready (.inl hnd)
          obtain ⟨hx1, hx2⟩ := exec_puts hns hio pend a hlooks
          simp only [drawOps, heo, cond_false] at hd
          refine op_step hE hcall hio hd h.good h.fr hx1.symm hx2.symm ?_
          intro ρ' v cv H1 w' A1 k1 k2 k3 k4 k5
          obtain ⟨hag, hd2⟩ := guardO_some k5
          -- the frame with all that is pending
          have hcomm : puts ops (a.put oe.dst cv) pend = (puts ops a pend).put oe.dst cv := by
            refine puts_comm ops cv pend a fun p hp x hx hpx => ?_
            obtain ⟨op, d, hop, hod, _, _, _, _, hall2⟩ := (h.one _ (h.pend_es hp)).ok
            have hxd : op.dst = some x := by simpa [dstOf, hop] using hpx
            rcases hall2 i oe hio hnd with h1 | h1
            · have := hready _ h1
              rw [h.unlisted hp] at this
              cases this
            · exact (Oper.apart_spec h1).2.1 x hxd hx
          have hF1 : FrR ρ' nt A1 (puts ops (a.put oe.dst cv) ([] ++ pend)) := by
            rw [List.nil_append, hcomm]
            exact (h.fr.mono k1).put k4 k3
          obtain ⟨pend2, m1, m2, m3⟩ := recheck hE hns k2 pend [] hF1 (fun p hp => by
            have hpes := h.pend_es hp
            obtain ⟨op, d, hop, hod, he, hown, _⟩ := (h.one _ hpes).ok
            refine ⟨?_, op, d, hop, hod, he, hown⟩
            rcases again_spec hag p.1 hpes with h1 | h1
            · have := hready _ h1
              rw [h.unlisted hp] at this
              cases this
            · exact h1) (List.Pairwise.sublist h.sub h.pw)
          rw [List.nil_append] at m2 m3
          refine ih (rest := r) (done := i :: done) (es := es) (A := A1) (H := H1) (pend := pend2) (ρ := ρ') ⟨by simpa using h.lsz, fun j hj => (List.mem_cons.1 hj).elim (fun e => e ▸ hlt) (h.dlt j), fun j hj => ?_, by rw [m1]; exact h.sub, h.pw, fun j hj => ?_, m2, k2, m3⟩ hrest hd2 ?_ (fun ρ2 a2 w2 g1 g2 g3 => hQ ρ2 a2 w2 (Ren.le_trans k1 g1) g2 g3)
          · rw [m1]
            by_cases hji : j = i
            · subst hji
              have h1 : (listed.setIfInBounds j true).getD j false = true := by simp [hlt']
              rw [h1]
              simp only [true_iff]
              exact ⟨List.mem_cons_self, hpend⟩
            · rw [getD_set_ne false (fun e => hji e.symm), h.lst j hj]
              simp only [List.mem_cons]
              constructor
              · rintro ⟨h1, h2⟩; exact ⟨.inr h1, h2⟩
              · rintro ⟨h1, h2⟩; exact ⟨h1.resolve_left hji, h2⟩
          · obtain ⟨hm, o2, d2, h1, h2, h3, h4, h5, h6, h7⟩ := h.one j hj
            exact ⟨List.mem_cons_of_mem _ hm, o2, d2, h1, h2, h3, h4, h5, fun x hx => List.mem_cons_of_mem _ (h6 x hx), fun k ok hk hkn => h7 k ok hk fun hkd => hkn (List.mem_cons_of_mem _ hkd)⟩
          · have : pend2.length = pend.length := by
              have := congrArg List.length m1
              simpa using this
            simp at hlen
            omega

/-- A REGION THAT DRAWS ITS ORDER -/
theorem drawRegion_sound (hE : EnvOk P E) {call : CallF} (hcall : CallOk P E B w0 call) (hns : Region.noSelect ops = true) (hp : planOk E ops (numbered ops.toList 0) [] (planOf E ops) = true) {out : Fr × Heap}
    (hd : drawOps E nt call ops.toList [] (planOf E ops) A H = some out) (hG : Good B w0 ρ H w) (hF : FrR ρ nt A a) {Q : Exit → Act → World → Prop} (hQ : ∀ ρ' a' w', Ren.le ρ ρ' → Good B w0 ρ' out.2 w' → FrR ρ' nt out.1 a' → Q .normal a' w') (id : Nat)
    (hlen : (planOf E ops).length ≤ ops.size) : (Code.region id ops true).wp P Q a w := by
  refine wp_region_any hE.mixed ?_
  refine draw_main hE hns hcall ops.size (pend := []) (listed := Array.replicate ops.size false) (done := []) (es := []) ⟨by simp, by simp, fun j hj => by simp [hj], by simp, by simp, by simp, hF, hG.drew, by simp⟩ hp hd (by simpa using hlen) hQ
theorem planGo_len (ops : Array Oper) (all : List (Nat × Oper)) : ∀ (f : Nat) (done : List Nat), (planGo E ops all f done).length ≤ f
  | 0, done => by simp [planGo]
  | f + 1, done => by
    simp only [planGo]
    split
    · have := planGo_len ops all f
      simp only [List.length_cons]
      exact Nat.succ_le_succ (this _)
    · split
      · have := planGo_len ops all f
        simp only [List.length_cons]
        exact Nat.succ_le_succ (this _)
      · simp
theorem planOf_len (ops : Array Oper) : (planOf E ops).length ≤ ops.size := planGo_len ops _ _ _
end
end Den
