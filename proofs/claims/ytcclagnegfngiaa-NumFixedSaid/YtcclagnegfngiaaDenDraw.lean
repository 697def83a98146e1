/- DEN, 14: a region that draws its order comes to what the plan comes to, in whatever order. -/
import Derived.Test.YtcclagnegfngiaaDenCode
set_option autoImplicit false
set_option linter.unusedSimpArgs false
set_option linter.unusedVariables false
namespace Den
open Go Go.RowKit

theorem cEq_eq {a b : Cap} (h : cEq a b = true) : a = b := by
  cases a <;> cases b <;> simp only [cEq] at h <;> first | cases h | (rw [beq_eq h])
theorem oEq_eq {a b : Option Nat} (h : oEq a b = true) : a = b := by
  cases a <;> cases b <;> simp only [oEq] at h <;> first | rfl | cases h | (rw [beq_eq h])
theorem oEq_refl (a : Option Nat) : oEq a a = true := by cases a <;> simp [oEq]
theorem aEq_eq {a b : Option AAddr} (h : aEq a b = true) : a = b := by
  cases a with
  | none => cases b with
    | none => rfl
    | some y => cases h
  | some x => cases b with
    | none => cases h
    | some y =>
      obtain ⟨b1, v1, o1⟩ := x
      obtain ⟨b2, v2, o2⟩ := y
      simp only [aEq, Bool.and_eq_true] at h
      rw [beq_eq h.1, beq_eq h.2.1, beq_eq h.2.2]
theorem strEq_eq : ∀ {a b : List Nat}, strEq a b = true → a = b
  | [], [], _ => rfl
  | [], _ :: _, h => by cases h
  | _ :: _, [], h => by cases h
  | x :: a, y :: b, h => by
    simp only [strEq, Bool.and_eq_true] at h
    rw [beq_eq h.1, strEq_eq h.2]
mutual
theorem vEq_eq : ∀ {a b : AV}, vEq a b = true → a = b
  | .bool a, b, h => by
    cases b <;> simp only [vEq] at h <;> first | cases h | skip
    next b => cases a <;> cases b <;> first | rfl | cases h
  | .int k n, b, h => by
    cases b <;> simp only [vEq] at h <;> first | cases h | skip
    next k' m =>
      simp only [Bool.and_eq_true] at h
      rw [kEq_eq h.1]
      have := h.2
      rw [eqF_eq] at this
      rw [of_decide_eq_true this]
  | .str s, b, h => by
    cases b <;> simp only [vEq] at h <;> first | cases h | (rw [strEq_eq h])
  | .ptr a, b, h => by
    cases b <;> simp only [vEq] at h <;> first | cases h | (rw [aEq_eq h])
  | .slice a n c, b, h => by
    cases b <;> simp only [vEq] at h <;> first | cases h | skip
    next b m d =>
      simp only [Bool.and_eq_true] at h
      rw [aEq_eq h.1, beq_eq h.2.1, cEq_eq h.2.2]
  | .fn f p q, b, h => by
    cases b <;> simp only [vEq] at h <;> first | cases h | skip
    next g r s =>
      simp only [Bool.and_eq_true] at h
      rw [beq_eq h.1, vsEq_eq h.2.1, vsEq_eq h.2.2]
  | .nilfn, b, h => by cases b <;> first | rfl | cases h
  | .agg a, b, h => by
    cases b <;> simp only [vEq] at h <;> first | cases h | (rw [vsEq_eq h])
  | .tup a, b, h => by
    cases b <;> simp only [vEq] at h <;> first | cases h | (rw [vsEq_eq h])
  | .iface t a, b, h => by
    cases b <;> simp only [vEq] at h <;> first | cases h | skip
    next u b =>
      simp only [Bool.and_eq_true] at h
      rw [beq_eq h.1, vEq_eq h.2]
  | .nilif, b, h => by cases b <;> first | rfl | cases h
  | .map a, b, h => by
    cases b <;> simp only [vEq] at h <;> first | cases h | (rw [oEq_eq h])
theorem vsEq_eq : ∀ {a b : AVs}, vsEq a b = true → a = b
  | .nil, b, h => by cases b <;> first | rfl | cases h
  | .cons a as, b, h => by
    cases b <;> simp only [vsEq] at h <;> first | cases h | skip
    next b bs =>
      simp only [Bool.and_eq_true] at h
      rw [vEq_eq h.1, vsEq_eq h.2]
end
theorem inL_mem {n : Nat} : ∀ {l : List Nat}, inL n l = true ↔ n ∈ l
  | [] => by simp [inL]
  | m :: l => by
    simp only [inL, Bool.or_eq_true, inL_mem (l := l), List.mem_cons]
    constructor
    · rintro (h | h)
      · exact .inl (beq_eq h).symm
      · exact .inr h
    · rintro (h | h)
      · exact .inl (beq_yes h.symm)
      · exact .inr h
theorem numbered_mem : ∀ (l : List Oper) (n i : Nat) (o : Oper), (i, o) ∈ numbered l n ↔ n ≤ i ∧ l[i - n]? = some o
  | [], n, i, o => by simp [numbered]
  | x :: l, n, i, o => by
    simp only [numbered, List.mem_cons, numbered_mem l (n.succ) i o, Prod.mk.injEq]
    constructor
    · rintro (⟨rfl, rfl⟩ | ⟨h1, h2⟩)
      · simp
      · refine ⟨by omega, ?_⟩
        rw [show i - n = (i - n.succ) + 1 from by omega]
        simpa using h2
    · rintro ⟨h1, h2⟩
      rcases Nat.eq_or_lt_of_le h1 with h | h
      · subst h; simp at h2; exact .inl ⟨rfl, h2.symm⟩
      · refine .inr ⟨h, ?_⟩
        rw [show i - n = (i - n.succ) + 1 from by omega] at h2
        simpa using h2
theorem num_mem {ops : Array Oper} {i : Nat} {o : Oper} (h : ops[i]? = some o) : (i, o) ∈ numbered ops.toList 0 := by
  rw [numbered_mem]; simpa using h
theorem depsOf_mem {o : Oper} {d : Nat} : d ∈ depsOf o ↔ ∃ e ∈ o.after, Region.binds .any e = true ∧ e.on = d := by
  simp [depsOf, List.mem_map, List.mem_filter, and_assoc]

/-! putting several values -/
def dstOf (ops : Array Oper) (i : Nat) : Option Nat := (ops[i]?).bind (·.dst)
def puts (ops : Array Oper) (a : Act) : List (Nat × Value) → Act
  | [] => a
  | p :: l => puts ops (a.put (dstOf ops p.1) p.2) l
theorem puts_comm (ops : Array Oper) {d : Option Nat} (v : Value) : ∀ (l : List (Nat × Value)) (a : Act), (∀ p ∈ l, ∀ x, d = some x → dstOf ops p.1 ≠ some x) → puts ops (a.put d v) l = (puts ops a l).put d v
  | [], a, _ => rfl
  | p :: l, a, h => by
    simp only [puts]
    rw [Act.put_comm a v p.2 (fun x hx => h p List.mem_cons_self x hx)]
    exact puts_comm ops v l _ fun q hq => h q (List.mem_cons_of_mem _ hq)
theorem puts_append (ops : Array Oper) : ∀ (l m : List (Nat × Value)) (a : Act), puts ops a (l ++ m) = puts ops (puts ops a l) m
  | [], m, a => rfl
  | p :: l, m, a => by simp only [List.cons_append, puts]; exact puts_append ops l m _
theorem put_put (a : Act) (d : Option Nat) (u v : Value) : (a.put d u).put d v = a.put d v := by
  cases d with
  | none => rfl
  | some d => simp [Act.put]

def Evals (P : Program) (ops : Array Oper) (o : Oper) (a : Act) (w : World) (cv : Value) : Prop :=
  (Region.wanted o (yielded ops a.tmps) = true ∧ (execOp a.eval o).run P w = .ok (.value cv) w) ∨ (Region.wanted o (yielded ops a.tmps) = false ∧ cv = undef)

section
variable {P : Program} {E : Env} {B : Nat} {w0 : World} {ρ : Ren} {H : Heap} {w : World} {A : Fr} {a : Act} {nt : Nat} {ops : Array Oper}

theorem exec_puts (hns : Region.noSelect ops = true) {i : Nat} {o : Oper} (hio : ops[i]? = some o) : ∀ (l : List (Nat × Value)) (a : Act), (∀ p ∈ l, ∀ x, dstOf ops p.1 = some x → x ∉ o.looksAt ops) →
    execOp (puts ops a l).eval o = execOp a.eval o ∧ Region.wanted o (yielded ops (puts ops a l).tmps) = Region.wanted o (yielded ops a.tmps)
  | [], a, _ => ⟨rfl, rfl⟩
  | p :: l, a, h => by
    obtain ⟨h1, h2⟩ := exec_puts hns hio l (a.put (dstOf ops p.1) p.2) fun q hq => h q (List.mem_cons_of_mem _ hq)
    have hp := h p List.mem_cons_self
    simp only [puts]
    rw [h1, h2]
    exact ⟨execOp_put o (fun cs b => Region.noSelect_spec hns i o cs b hio) a _ p.2 hp, wanted_put o a _ p.2 hp⟩
theorem Evals.puts (hns : Region.noSelect ops = true) {i : Nat} {o : Oper} (hio : ops[i]? = some o) {l : List (Nat × Value)} (h : ∀ p ∈ l, ∀ x, dstOf ops p.1 = some x → x ∉ o.looksAt ops) {cv : Value} :
    Evals P ops o (Den.puts ops a l) w cv ↔ Evals P ops o a w cv := by
  obtain ⟨h1, h2⟩ := exec_puts hns hio l a h
  unfold Evals
  rw [h1, h2]
theorem Evals.step {Q : Exit → Act → World → Prop} {K : Act → World → Prop} {i : Nat} {o : Oper} (hio : ops[i]? = some o) {cv : Value} (h : Evals P ops o a w cv) (hK : K (a.put o.dst cv) w) : wpOp P ops Q i K a w := by
  unfold wpOp
  simp only [hio]
  rcases h with ⟨h1, h2⟩ | ⟨h1, rfl⟩
  · rw [h1]
    simp only [if_true, Oper.wp, h2, Oper.upon]
    exact .inl hK
  · rw [h1]
    simpa using hK

/-- what the plan knows of two early operations, the first one planned ahead -/
def PairOk (ops : Array Oper) (i j : Nat) : Prop := ∀ oi oj, ops[i]? = some oi → ops[j]? = some oj →
  i ≠ j ∧ j ∉ depsOf oi ∧ (∀ x, oj.dst = some x → x ∉ oi.looksAt ops ∧ oi.dst ≠ some x) ∧ (i ∈ depsOf oj ∨ oi.apart ops oj = true)
structure SingleOk (E : Env) (ops : Array Oper) (done : List Nat) (i : Nat) : Prop where
  mem : i ∈ done
  ok : ∃ o d, ops[i]? = some o ∧ o.dst = some d ∧ early E o.op = true ∧ d ∉ o.looksAt ops ∧ i ∉ depsOf o ∧ (∀ x ∈ depsOf o, x ∈ done) ∧
    ∀ j oj, ops[j]? = some oj → j ∉ done → i ∈ depsOf oj ∨ o.apart ops oj = true
structure Inv (P : Program) (E : Env) (B : Nat) (w0 : World) (nt : Nat) (ops : Array Oper) (done es : List Nat) (A : Fr) (H : Heap) (pend : List (Nat × Value)) (listed : Array Bool) (ρ : Ren) (a : Act) (w : World) : Prop where
  lsz : listed.size = ops.size
  dlt : ∀ i ∈ done, i < ops.size
  lst : ∀ j, j < ops.size → (listed.getD j false = true ↔ (j ∈ done ∧ j ∉ pend.map (·.1)))
  sub : (pend.map (·.1)).Sublist es
  pw : es.Pairwise (PairOk ops)
  one : ∀ i ∈ es, SingleOk E ops done i
  fr : FrR ρ nt A (puts ops a pend)
  good : Good B w0 ρ H w
  ev : ∀ p ∈ pend, ∀ o, ops[p.1]? = some o → Evals P ops o (puts ops a pend) w p.2

section
variable {done es : List Nat} {pend : List (Nat × Value)} {listed : Array Bool}

theorem Inv.pend_es (h : Inv P E B w0 nt ops done es A H pend listed ρ a w) {p : Nat × Value} (hp : p ∈ pend) : p.1 ∈ es := h.sub.subset (List.mem_map_of_mem hp)
theorem Inv.unlisted (h : Inv P E B w0 nt ops done es A H pend listed ρ a w) {p : Nat × Value} (hp : p ∈ pend) : listed.getD p.1 false = false := by
  obtain ⟨o, d, ho, _⟩ := (h.one _ (h.pend_es hp)).ok
  have hlt := (Array.getElem?_eq_some_iff.1 ho).1
  cases hl : listed.getD p.1 false
  · rfl
  · exact absurd (List.mem_map_of_mem hp) ((h.lst _ hlt).1 hl).2

/-- a ready operation looks at nothing that a pending one writes -/
theorem Inv.looks (h : Inv P E B w0 nt ops done es A H pend listed ρ a w) {i : Nat} {o : Oper} (hio : ops[i]? = some o) (hready : ∀ x ∈ depsOf o, listed.getD x false = true) (hi : i ∉ done ∨ i ∈ pend.map (·.1)) :
    ∀ p ∈ pend, ∀ x, dstOf ops p.1 = some x → x ∉ o.looksAt ops := by
  intro p hp x hx
  have hpes := h.pend_es hp
  obtain ⟨op, d, hop, hod, _, hown, _, _, hall⟩ := (h.one _ hpes).ok
  have hxd : op.dst = some x := by simpa [dstOf, hop] using hx
  have hnot : p.1 ∉ depsOf o := fun hd => by have := hready _ hd; rw [h.unlisted hp] at this; cases this
  by_cases hpi : p.1 = i
  · rw [hpi, hio] at hop
    injection hop with hop
    subst hop
    rw [hod] at hxd
    injection hxd with hxd
    subst hxd
    exact hown
  · rcases hi with hi | hi
    · rcases hall i o hio hi with h1 | h1
      · exact absurd h1 hnot
      · exact (Oper.apart_spec h1).1 x hxd
    · -- both pending
      have hies : i ∈ es := h.sub.subset hi
      have hpw := h.pw
      rw [List.pairwise_iff_getElem] at hpw
      obtain ⟨n, hn, hne⟩ := List.getElem_of_mem hpes
      obtain ⟨m, hm, hme⟩ := List.getElem_of_mem hies
      rcases Nat.lt_trichotomy n m with hlt | heq | hgt
      · have := hpw n m hn hm hlt op o (by rw [hne]; exact hop) (by rw [hme]; exact hio)
        rcases this.2.2.2 with h1 | h1
        · rw [hne] at h1; exact absurd h1 hnot
        · exact (Oper.apart_spec h1).1 x hxd
      · subst heq; exact absurd (hne.symm.trans hme) hpi
      · have := hpw m n hm hn hgt o op (by rw [hme]; exact hio) (by rw [hne]; exact hop)
        exact (this.2.2.1 x hxd).1
/-- values pending have places of their own -/
theorem Inv.apart_dst (h : Inv P E B w0 nt ops done es A H pend listed ρ a w) {i : Nat} {o : Oper} (hio : ops[i]? = some o) (hi : i ∈ es) : ∀ p ∈ pend, p.1 ≠ i → ∀ x, o.dst = some x → dstOf ops p.1 ≠ some x := by
  intro p hp hne x hx hpx
  have hpes := h.pend_es hp
  obtain ⟨op, d, hop, hod, _⟩ := (h.one _ hpes).ok
  have hxd : op.dst = some x := by simpa [dstOf, hop] using hpx
  have hpw := h.pw
  rw [List.pairwise_iff_getElem] at hpw
  obtain ⟨n, hn, hne1⟩ := List.getElem_of_mem hpes
  obtain ⟨m, hm, hme⟩ := List.getElem_of_mem hi
  rcases Nat.lt_trichotomy n m with hlt | heq | hgt
  · exact ((hpw n m hn hm hlt op o (by rw [hne1]; exact hop) (by rw [hme]; exact hio)).2.2.1 x hx).2 hxd
  · subst heq; exact hne (hne1.symm.trans hme)
  · exact ((hpw m n hm hn hgt o op (by rw [hme]; exact hio) (by rw [hne1]; exact hop)).2.2.1 x hxd).2 hx

theorem pend_nodup (h : Inv P E B w0 nt ops done es A H pend listed ρ a w) : (pend.map (·.1)).Nodup := by
  refine List.Sublist.nodup h.sub ?_
  rw [List.nodup_iff_pairwise_ne]
  refine List.Pairwise.imp_of_mem (fun {i j} hi hj hij => ?_) h.pw
  obtain ⟨o, _, ho, _⟩ := (h.one _ hi).ok
  obtain ⟨o2, _, ho2, _⟩ := (h.one _ hj).ok
  exact (hij o o2 ho ho2).1

theorem Inv.take (hns : Region.noSelect ops = true) (h : Inv P E B w0 nt ops done es A H pend listed ρ a w) {l1 l2 : List (Nat × Value)} {i : Nat} {cv : Value} (hl : pend = l1 ++ (i, cv) :: l2) {o : Oper} (hio : ops[i]? = some o)
    (hready : ∀ x ∈ depsOf o, listed.getD x false = true) :
    Evals P ops o a w cv ∧ Inv P E B w0 nt ops done es A H (l1 ++ l2) (listed.setIfInBounds i true) ρ (a.put o.dst cv) w := by
  have hmem : (i, cv) ∈ pend := by rw [hl]; simp
  have hies := h.pend_es hmem
  have hlooks := h.looks hio hready (.inr (List.mem_map_of_mem hmem))
  have hev := (Evals.puts hns hio hlooks).1 (h.ev _ hmem o hio)
  have hnd := pend_nodup h
  have hlt := (Array.getElem?_eq_some_iff.1 hio).1
  have hdi : dstOf ops i = o.dst := by simp [dstOf, hio]
  have hne : ∀ p ∈ l1 ++ l2, p ∈ pend ∧ p.1 ≠ i := by
    intro p hp
    refine ⟨by rw [hl]; simp only [List.mem_append, List.mem_cons] at hp ⊢; rcases hp with hp | hp <;> simp [hp], fun e => ?_⟩
    rw [hl] at hnd
    simp only [List.map_append, List.map_cons] at hnd
    rw [List.nodup_append] at hnd
    rcases List.mem_append.1 hp with hp | hp
    · exact hnd.2.2 p.1 (List.mem_map_of_mem hp) i (by simp) e
    · exact (List.nodup_cons.1 hnd.2.1).1 (e ▸ List.mem_map_of_mem hp)
  have hputs : puts ops (a.put o.dst cv) (l1 ++ l2) = puts ops a pend := by
    rw [hl, puts_append, puts_append]
    simp only [puts]
    rw [hdi]
    congr 1
    refine puts_comm ops cv l1 a fun p hp x hx => ?_
    have := hne p (List.mem_append_left _ hp)
    exact h.apart_dst hio hies p this.1 this.2 x hx
  refine ⟨hev, ⟨by simpa using h.lsz, h.dlt, fun j hj => ?_, ?_, h.pw, h.one, by rw [hputs]; exact h.fr, h.good, fun p hp o' ho' => by rw [hputs]; exact h.ev p (hne p hp).1 o' ho'⟩⟩
  · by_cases hji : j = i
    · subst hji
      have h1 : (listed.setIfInBounds j true).getD j false = true := by simp [h.lsz, hlt]
      rw [h1]
      simp only [true_iff]
      refine ⟨(h.one _ hies).mem, fun hm => ?_⟩
      obtain ⟨p, hp, hpj⟩ := List.mem_map.1 hm
      exact (hne p hp).2 hpj
    · rw [getD_set_ne false (fun e => hji e.symm), h.lst j hj, hl]
      simp only [List.map_append, List.map_cons, List.mem_append, List.mem_cons]
      constructor
      · rintro ⟨h1, h2⟩
        exact ⟨h1, fun h3 => h2 (h3.imp id .inr)⟩
      · rintro ⟨h1, h2⟩
        refine ⟨h1, fun h3 => ?_⟩
        rcases h3 with h3 | h3 | h3
        · exact h2 (.inl h3)
        · exact hji h3
        · exact h2 (.inr h3)
  · refine List.Sublist.trans ?_ h.sub
    rw [hl]
    simp only [List.map_append, List.map_cons]
    exact List.Sublist.append (List.Sublist.refl _) (List.sublist_cons_self _ _)
end
end
end Den
