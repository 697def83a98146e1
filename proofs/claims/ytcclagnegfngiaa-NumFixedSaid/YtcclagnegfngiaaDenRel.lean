/- DEN, 2: how the plain interpreter's values and heap stand to the machine's. -/
import Derived.Test.YtcclagnegfngiaaDenEv
import Derived.Below
import Derived.Laws.Rows
set_option autoImplicit false
set_option linter.unusedSimpArgs false
set_option linter.unusedVariables false
namespace Den
open Go Go.RowKit

theorem beq_no {a b : Nat} (h : a ≠ b) : Nat.beq a b = false := by
  cases e : Nat.beq a b
  · rfl
  · exact absurd (Nat.eq_of_beq_eq_true e) h
theorem beq_yes {a b : Nat} (h : a = b) : Nat.beq a b = true := by subst h; exact Nat.beq_refl a

/-! trees -/
section
variable {α : Type}
theorem Tr.get_nil (n : Nat) : (Tr.nil : Tr α).get n = none := by simp [Tr.get]
theorem Tr.get_node (l r : Tr α) (v : Option α) (n : Nat) : (Tr.node l v r).get n = if n = 0 then v else if n % 2 = 1 then l.get (n / 2) else r.get (n / 2 - 1) := by
  have hm : n.mod 2 = n % 2 := rfl
  have hd : n.div 2 = n / 2 := rfl
  have hs : ∀ k : Nat, k.sub 1 = k - 1 := fun _ => rfl
  simp only [Tr.get, hm, hd, hs]
  by_cases h0 : n = 0
  · subst h0; rfl
  · have h1 : n.beq 0 = false := beq_no h0
    rw [h1, if_neg h0]
    by_cases h2 : n % 2 = 1
    · rw [if_pos h2, h2]; rfl
    · have h3 : (n % 2).beq 1 = false := beq_no h2
      rw [if_neg h2, h3]; rfl
theorem Tr.setF_eq (f : Nat) (t : Tr α) (n : Nat) (x : α) : Tr.setF (f + 1) t n x = match t with
    | .nil => if n = 0 then .node .nil (some x) .nil else if n % 2 = 1 then .node (Tr.setF f .nil (n / 2) x) none .nil else .node .nil none (Tr.setF f .nil (n / 2 - 1) x)
    | .node l v r => if n = 0 then .node l (some x) r else if n % 2 = 1 then .node (Tr.setF f l (n / 2) x) v r else .node l v (Tr.setF f r (n / 2 - 1) x) := by
  have hm : n.mod 2 = n % 2 := rfl
  have hd : n.div 2 = n / 2 := rfl
  have hs : ∀ k : Nat, k.sub 1 = k - 1 := fun _ => rfl
  by_cases h0 : n = 0
  · subst h0; cases t <;> rfl
  · have h1 : n.beq 0 = false := beq_no h0
    by_cases h2 : n % 2 = 1
    · have h3 : (n % 2).beq 1 = true := by simp [h2]
      cases t <;> simp only [Tr.setF, hm, hd, hs, h1, h3, cond_false, cond_true, if_neg h0, if_pos h2]
    · have h3 : (n % 2).beq 1 = false := beq_no h2
      cases t <;> simp only [Tr.setF, hm, hd, hs, h1, h3, cond_false, cond_true, if_neg h0, if_neg h2]
theorem Tr.get_setF (x : α) : ∀ (f n : Nat) (t : Tr α) (m : Nat), n < f → (Tr.setF f t n x).get m = if m = n then some x else t.get m
  | 0, n, t, m, h => by omega
  | f + 1, n, t, m, h => by
    rw [Tr.setF_eq]
    have ih := fun k (hk : k < f) (t : Tr α) (m : Nat) => Tr.get_setF x f k t m hk
    by_cases hn : n = 0
    · subst hn
      cases t with
      | nil => simp only [if_true, Tr.get_node, Tr.get_nil]; split <;> simp_all
      | node l v r => simp only [if_true, Tr.get_node]; split <;> simp_all
    · simp only [if_neg hn]
      by_cases h2 : n % 2 = 1
      · simp only [if_pos h2]
        cases t with
        | nil =>
          simp only [Tr.get_node, Tr.get_nil, ih (n / 2) (by omega)]
          by_cases hm : m = 0
          · subst hm; simp; omega
          · simp only [if_neg hm]
            by_cases hm2 : m % 2 = 1
            · simp only [if_pos hm2]; congr 1; simp only [eq_iff_iff]; omega
            · simp only [if_neg hm2]; rw [if_neg (by omega)]
        | node l v r =>
          simp only [Tr.get_node, ih (n / 2) (by omega)]
          by_cases hm : m = 0
          · subst hm; simp; omega
          · simp only [if_neg hm]
            by_cases hm2 : m % 2 = 1
            · simp only [if_pos hm2]; congr 1; simp only [eq_iff_iff]; omega
            · simp only [if_neg hm2]; rw [if_neg (by omega)]
      · simp only [if_neg h2]
        cases t with
        | nil =>
          simp only [Tr.get_node, Tr.get_nil, ih (n / 2 - 1) (by omega)]
          by_cases hm : m = 0
          · subst hm; simp; omega
          · simp only [if_neg hm]
            by_cases hm2 : m % 2 = 1
            · simp only [if_pos hm2]; rw [if_neg (by omega)]
            · simp only [if_neg hm2]; congr 1; simp only [eq_iff_iff]; omega
        | node l v r =>
          simp only [Tr.get_node, ih (n / 2 - 1) (by omega)]
          by_cases hm : m = 0
          · subst hm; simp; omega
          · simp only [if_neg hm]
            by_cases hm2 : m % 2 = 1
            · simp only [if_pos hm2]; rw [if_neg (by omega)]
            · simp only [if_neg hm2]; congr 1; simp only [eq_iff_iff]; omega
theorem Tr.get_set (t : Tr α) (n : Nat) (x : α) (m : Nat) : (t.set n x).get m = if m = n then some x else t.get m :=
  Tr.get_setF x (n + 1) n t m (Nat.lt_succ_self n)
end

/-! the machine's place of a row -/
structure Copy where
  cb : Nat
  sh : Nat
  ver : Nat
  rs : Nat
abbrev Ren := Nat → Option Copy
def Ren.le (ρ ρ' : Ren) : Prop := ∀ b c, ρ b = some c → ∃ c', ρ' b = some c' ∧ (c' = c ∨ c.ver < c'.ver)
theorem Ren.le_refl (ρ : Ren) : Ren.le ρ ρ := fun _ c h => ⟨c, h, .inl rfl⟩
theorem Ren.le_trans {a b c : Ren} (h : Ren.le a b) (k : Ren.le b c) : Ren.le a c := fun i x hx => by
  obtain ⟨y, hy, h1⟩ := h i x hx
  obtain ⟨z, hz, h2⟩ := k i y hy
  refine ⟨z, hz, ?_⟩
  rcases h1 with rfl | h1 <;> rcases h2 with rfl | h2
  · exact .inl rfl
  · exact .inr h2
  · exact .inr h1
  · exact .inr (Nat.lt_trans h1 h2)
def AR (ρ : Ren) (a : AAddr) (ca : Addr) : Prop := ∃ c, ρ a.b = some c ∧ a.v ≤ c.ver ∧ (a.v = c.ver → c.sh ≤ a.o ∧ ca = ⟨c.cb, a.o - c.sh, none⟩)
def CR (ρ : Ren) (a : AAddr) (ca : Addr) (cap : Cap) (len c : Nat) : Prop := match cap with
  | .kn k => c = k
  | .op z => len ≤ c ∧ 0 < z ∧ ∀ cp, ρ a.b = some cp → a.v = cp.ver → ca.off + c * z = cp.rs

mutual
def VR (ρ : Ren) : AV → Value → Prop
  | .bool b, v => v = .bool b
  | .int k n, v => v = .int k n
  | .str s, v => ∃ t, v = .string t ∧ t.data.toList.map UInt8.toNat = s
  | .ptr a, v => ∃ ca, v = .pointer ca ∧ (match a with | none => ca = none | some a => ∃ x, ca = some x ∧ AR ρ a x)
  | .slice a n cap, v => ∃ ca c, v = .slice ca n c ∧ (match a with | none => ca = none ∧ cap = .kn c | some a => ∃ x, ca = some x ∧ AR ρ a x ∧ CR ρ a x cap n c)
  | .fn f p q, v => ∃ p' q', v = .func (.func f) p' q' ∧ VRs ρ p p'.toList ∧ VRs ρ q q'.toList
  | .nilfn, v => v = .nilFunc
  | .agg cs, v => ∃ l, v = .agg l ∧ VRs ρ cs l.toList
  | .tup cs, v => ∃ l, v = .tuple l ∧ VRs ρ cs l.toList
  | .iface t a, v => ∃ u, v = .iface t u ∧ VR ρ a u
  | .nilif, v => v = .nilIface
  | .map r, v => v = .map none ∧ r = none
def VRs (ρ : Ren) : AVs → List Value → Prop
  | .nil, l => l = []
  | .cons a as, l => ∃ v vs, l = v :: vs ∧ VR ρ a v ∧ VRs ρ as vs
end

theorem AR.mono {ρ ρ' : Ren} (h : Ren.le ρ ρ') {a : AAddr} {ca : Addr} (k : AR ρ a ca) : AR ρ' a ca := by
  obtain ⟨c, hc, hv, hx⟩ := k
  obtain ⟨c', hc', e⟩ := h _ _ hc
  refine ⟨c', hc', ?_, ?_⟩
  · rcases e with rfl | e <;> omega
  · intro hv'
    rcases e with rfl | e
    · exact hx hv'
    · omega
theorem CR.mono {ρ ρ' : Ren} (h : Ren.le ρ ρ') {a : AAddr} {ca : Addr} {cap : Cap} {len c : Nat} (hA : AR ρ a ca) (k : CR ρ a ca cap len c) : CR ρ' a ca cap len c := by
  cases cap with
  | kn k' => exact k
  | op z =>
    refine ⟨k.1, k.2.1, fun cp hcp hv => ?_⟩
    obtain ⟨c0, hc0, hv0, _⟩ := hA
    obtain ⟨c', hc', e⟩ := h _ _ hc0
    rw [hcp] at hc'
    injection hc' with hc'
    subst hc'
    rcases e with rfl | e
    · exact k.2.2 _ hc0 hv
    · omega
mutual
theorem VR.mono {ρ ρ' : Ren} (h : Ren.le ρ ρ') : ∀ {a : AV} {v : Value}, VR ρ a v → VR ρ' a v
  | .bool _, _, k => k
  | .int _ _, _, k => k
  | .str _, _, k => k
  | .ptr a, _, k => by
    obtain ⟨ca, hv, hk⟩ := k
    refine ⟨ca, hv, ?_⟩
    cases a with
    | none => exact hk
    | some a => obtain ⟨x, hx, hA⟩ := hk; exact ⟨x, hx, hA.mono h⟩
  | .slice a n cap, _, k => by
    obtain ⟨ca, c, hv, hk⟩ := k
    refine ⟨ca, c, hv, ?_⟩
    cases a with
    | none => exact hk
    | some a => obtain ⟨x, hx, hA, hC⟩ := hk; exact ⟨x, hx, hA.mono h, hC.mono h hA⟩
  | .fn f p q, _, k => by
    obtain ⟨p', q', hv, h1, h2⟩ := k
    exact ⟨p', q', hv, VRs.mono h h1, VRs.mono h h2⟩
  | .nilfn, _, k => k
  | .agg cs, _, k => by obtain ⟨l, hv, h1⟩ := k; exact ⟨l, hv, VRs.mono h h1⟩
  | .tup cs, _, k => by obtain ⟨l, hv, h1⟩ := k; exact ⟨l, hv, VRs.mono h h1⟩
  | .iface t a, _, k => by obtain ⟨u, hv, h1⟩ := k; exact ⟨u, hv, VR.mono h h1⟩
  | .nilif, _, k => k
  | .map r, _, k => k
theorem VRs.mono {ρ ρ' : Ren} (h : Ren.le ρ ρ') : ∀ {as : AVs} {l : List Value}, VRs ρ as l → VRs ρ' as l
  | .nil, _, k => k
  | .cons a as, _, k => by
    obtain ⟨v, vs, hv, h1, h2⟩ := k
    exact ⟨v, vs, hv, VR.mono h h1, VRs.mono h h2⟩
end

/-! lists -/
theorem VRs.length {ρ : Ren} : ∀ {as : AVs} {l : List Value}, VRs ρ as l → l.length = as.len
  | .nil, _, h => by simp [VRs] at h; simp [h, AVs.len]
  | .cons a as, _, h => by
    obtain ⟨v, vs, rfl, _, h2⟩ := h
    simp [AVs.len, VRs.length h2]
theorem VRs.get {ρ : Ren} : ∀ {as : AVs} {l : List Value}, VRs ρ as l → ∀ {n : Nat} {a : AV}, as.get n = some a → ∃ v, l[n]? = some v ∧ VR ρ a v
  | .nil, _, h, n, a, e => by simp [AVs.get] at e
  | .cons x as, _, h, n, a, e => by
    obtain ⟨v, vs, rfl, h1, h2⟩ := h
    cases n with
    | zero => simp [AVs.get] at e; subst e; exact ⟨v, rfl, h1⟩
    | succ n =>
      have e' : as.get n = some a := by simpa [AVs.get] using e
      obtain ⟨u, hu, hr⟩ := VRs.get h2 e'
      exact ⟨u, by simpa using hu, hr⟩
theorem VRs.app {ρ : Ren} : ∀ {as bs : AVs} {l m : List Value}, VRs ρ as l → VRs ρ bs m → VRs ρ (as.app bs) (l ++ m)
  | .nil, bs, _, m, h, k => by simp [VRs] at h; subst h; simpa [AVs.app] using k
  | .cons a as, bs, _, m, h, k => by
    obtain ⟨v, vs, rfl, h1, h2⟩ := h
    exact ⟨v, vs ++ m, rfl, h1, VRs.app h2 k⟩
theorem VRs.drop {ρ : Ren} : ∀ {as : AVs} {l : List Value}, VRs ρ as l → ∀ n, VRs ρ (as.drop n) (l.drop n)
  | .nil, _, h, n => by simp [VRs] at h; subst h; simp [AVs.drop, VRs]
  | .cons a as, _, h, n => by
    obtain ⟨v, vs, rfl, h1, h2⟩ := h
    cases n with
    | zero => exact ⟨v, vs, rfl, h1, h2⟩
    | succ n => simpa [AVs.drop] using VRs.drop h2 n
theorem VRs.take {ρ : Ren} : ∀ {as : AVs} {l : List Value}, VRs ρ as l → ∀ n, VRs ρ (as.take n) (l.take n)
  | .nil, _, h, n => by simp [VRs] at h; subst h; simp [AVs.take, VRs]
  | .cons a as, _, h, n => by
    obtain ⟨v, vs, rfl, h1, h2⟩ := h
    cases n with
    | zero => simp [AVs.take, VRs]
    | succ n => exact ⟨v, vs.take n, by simp, h1, VRs.take h2 n⟩
theorem VRs.set {ρ : Ren} : ∀ {as : AVs} {l : List Value}, VRs ρ as l → ∀ n {x : AV} {u : Value}, VR ρ x u → VRs ρ (as.set n x) (l.set n u)
  | .nil, _, h, n, x, u, k => by simp [VRs] at h; subst h; simp [AVs.set, VRs]
  | .cons a as, _, h, n, x, u, k => by
    obtain ⟨v, vs, rfl, h1, h2⟩ := h
    cases n with
    | zero => exact ⟨u, vs, rfl, k, h2⟩
    | succ n => exact ⟨v, vs.set n u, rfl, h1, VRs.set h2 n k⟩
theorem VRs.rep {ρ : Ren} {as : AVs} {l : List Value} (h : VRs ρ as l) : ∀ n, VRs ρ (as.rep n) (List.replicate n l).flatten
  | 0 => by simp [AVs.rep, VRs]
  | n + 1 => by simpa [AVs.rep, List.replicate_succ] using h.app (VRs.rep h n)
theorem AVs.len_app : ∀ (a b : AVs), (a.app b).len = a.len + b.len
  | .nil, b => by simp [AVs.app, AVs.len]
  | .cons x a, b => by simp [AVs.app, AVs.len, AVs.len_app a b]; omega

/-- the cells of a value -/
theorem VR.cells {ρ : Ren} {a : AV} {v : Value} (h : VR ρ a v) : VRs ρ a.cells v.cells.toList := by
  cases a with
  | agg cs => obtain ⟨l, rfl, h1⟩ := h; simpa [AV.cells, Value.cells] using h1
  | tup cs => obtain ⟨l, rfl, h1⟩ := h; exact ⟨_, [], by simp [Value.cells], ⟨l, rfl, h1⟩, by simp [VRs]⟩
  | bool b => obtain rfl := h; exact ⟨_, [], by simp [Value.cells], rfl, by simp [VRs]⟩
  | int k n => obtain rfl := h; exact ⟨_, [], by simp [Value.cells], rfl, by simp [VRs]⟩
  | str s => obtain ⟨t, rfl, ht⟩ := h; exact ⟨_, [], by simp [Value.cells], ⟨t, rfl, ht⟩, by simp [VRs]⟩
  | ptr a => obtain ⟨ca, rfl, hk⟩ := h; exact ⟨_, [], by simp [Value.cells], ⟨ca, rfl, hk⟩, by simp [VRs]⟩
  | slice a n cap => obtain ⟨ca, c, rfl, hk⟩ := h; exact ⟨_, [], by simp [Value.cells], ⟨ca, c, rfl, hk⟩, by simp [VRs]⟩
  | fn f p q => obtain ⟨p', q', rfl, h1, h2⟩ := h; exact ⟨_, [], by simp [Value.cells], ⟨p', q', rfl, h1, h2⟩, by simp [VRs]⟩
  | nilfn => obtain rfl := h; exact ⟨_, [], by simp [Value.cells], rfl, by simp [VRs]⟩
  | iface t a => obtain ⟨u, rfl, h1⟩ := h; exact ⟨_, [], by simp [Value.cells], ⟨u, rfl, h1⟩, by simp [VRs]⟩
  | nilif => obtain rfl := h; exact ⟨_, [], by simp [Value.cells], rfl, by simp [VRs]⟩
  | map r => obtain ⟨rfl, rfl⟩ := h; exact ⟨_, [], by simp [Value.cells], ⟨rfl, rfl⟩, by simp [VRs]⟩
theorem VR.leaf {ρ : Ren} {a : AV} {v : Value} (h : VR ρ a v) (hl : leaf a = true) : v.oneCell' = true := by
  cases a <;> simp [Den.leaf] at hl <;> first
    | (obtain rfl := h; rfl)
    | (obtain ⟨t, rfl, _⟩ := h; rfl)
    | (obtain ⟨t, u, rfl, _⟩ := h; rfl)
    | (obtain ⟨rfl, _⟩ := h; rfl)
theorem VRs.leafs {ρ : Ren} : ∀ {as : AVs} {l : List Value}, VRs ρ as l → leafs as = true → ∀ v ∈ l, v.oneCell' = true
  | .nil, _, h, _, v, hv => by simp [VRs] at h; subst h; simp at hv
  | .cons a as, _, h, hl, v, hv => by
    obtain ⟨u, us, rfl, h1, h2⟩ := h
    simp [Den.leafs] at hl
    rcases List.mem_cons.1 hv with rfl | hv
    · exact h1.leaf hl.1
    · exact VRs.leafs h2 hl.2 v hv

/-! constants -/
mutual
theorem ofV_sound (ρ : Ren) : ∀ (v : Value) {a : AV}, ofV v = some a → VR ρ a v
  | .bool b, a, h => by simp [ofV] at h; subst h; rfl
  | .int k n, a, h => by simp [ofV] at h; subst h; rfl
  | .string s, a, h => by simp [ofV] at h; subst h; exact ⟨s, rfl, rfl⟩
  | .pointer none, a, h => by simp [ofV] at h; subst h; exact ⟨none, rfl, rfl⟩
  | .pointer (some x), a, h => by simp [ofV] at h
  | .slice none n m, a, h => by
    simp only [ofV] at h
    cases hn : n.beq 0 <;> rw [hn] at h <;> simp at h
    cases hm : m.beq 0 <;> rw [hm] at h <;> simp at h
    have := Nat.eq_of_beq_eq_true hn
    have := Nat.eq_of_beq_eq_true hm
    subst_vars
    exact ⟨none, 0, rfl, rfl, rfl⟩
  | .slice (some x) n m, a, h => by simp [ofV] at h
  | .nilFunc, a, h => by simp [ofV] at h; subst h; rfl
  | .nilIface, a, h => by simp [ofV] at h; subst h; rfl
  | .map none, a, h => by simp [ofV] at h; subst h; exact ⟨rfl, rfl⟩
  | .map (some r), a, h => by simp [ofV] at h
  | .agg ⟨l⟩, a, h => by
    simp only [ofV, Option.bind_eq_some_iff] at h
    obtain ⟨cs, hc, e⟩ := h
    injection e with e
    subst e
    exact ⟨⟨l⟩, rfl, ofVs_sound ρ l hc⟩
  | .tuple ⟨l⟩, a, h => by
    simp only [ofV, Option.bind_eq_some_iff] at h
    obtain ⟨cs, hc, e⟩ := h
    injection e with e
    subst e
    exact ⟨⟨l⟩, rfl, ofVs_sound ρ l hc⟩
  | .iface t v, a, h => by
    simp only [ofV, Option.bind_eq_some_iff] at h
    obtain ⟨cs, hc, e⟩ := h
    injection e with e
    subst e
    exact ⟨v, rfl, ofV_sound ρ v hc⟩
  | .float _ _, a, h => by simp [ofV] at h
  | .complex _ _ _, a, h => by simp [ofV] at h
  | .chan _, a, h => by simp [ofV] at h
  | .func _ _ _, a, h => by simp [ofV] at h
theorem ofVs_sound (ρ : Ren) : ∀ (l : List Value) {as : AVs}, ofVs l = some as → VRs ρ as l
  | [], as, h => by simp [ofVs] at h; subst h; simp [VRs]
  | v :: l, as, h => by
    simp only [ofVs, Option.bind_eq_some_iff] at h
    obtain ⟨a, ha, as', has, e⟩ := h
    injection e with e
    subst e
    exact ⟨v, l, rfl, ofV_sound ρ v ha, ofVs_sound ρ l has⟩
end
end Den
