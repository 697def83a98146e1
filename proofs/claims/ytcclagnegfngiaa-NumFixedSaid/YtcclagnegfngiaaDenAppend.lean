/- DEN, 8: append. -/
import Derived.Test.YtcclagnegfngiaaDenSlices
set_option autoImplicit false
set_option linter.unusedSimpArgs false
set_option linter.unusedVariables false
namespace Den
open Go Go.RowKit

section
variable {P : Program} {E : Env} {B : Nat} {w0 : World} {ρ : Ren} {H : Heap} {w : World}

theorem strCells_sound : ∀ (l : List UInt8), VRs ρ (strCells (l.map UInt8.toNat)) (l.map fun b => Value.int .u8 (b.toNat : Int))
  | [] => by simp [strCells, VRs]
  | b :: l => ⟨_, _, rfl, rfl, strCells_sound l⟩
def OAR (ρ : Ren) (a : Option AAddr) (ca : Option Addr) : Prop := match a with | none => ca = none | some a => ∃ x, ca = some x ∧ AR ρ a x
theorem firstOf_sound (hG : Good B w0 ρ H w) {size n : Nat} {a : Option AAddr} {cs : AVs} (h : firstOf H size n a = some cs) {ca : Option Addr} (ha : OAR ρ a ca) (m c : Nat) :
    ∃ l : List Value, (Builtin.firstCells size n (.slice ca m c)).run P w = .ok l.toArray w ∧ VRs ρ cs l ∧ l.length = n * size := by
  cases a with
  | none =>
    obtain rfl : ca = none := ha
    obtain ⟨h0, h⟩ := guardO_some h
    have h0 := beq_eq h0
    subst h0
    injection h with h
    subst h
    exact ⟨[], rfl, by simp [VRs], by simp⟩
  | some a =>
    obtain ⟨x, rfl, hA⟩ := ha
    obtain ⟨b, v, o⟩ := a
    obtain ⟨l, h1, h2, h3⟩ := hG.loadCells (P := P) h hA
    exact ⟨l, h1, h2, h3⟩
theorem firstCells_sound (hG : Good B w0 ρ H w) {size n : Nat} {x : AV} {cs : AVs} (h : firstCells H size n x = some cs) {cx : Value} (hx : VR ρ x cx) :
    ∃ l : List Value, (Builtin.firstCells size n cx).run P w = .ok l.toArray w ∧ VRs ρ cs l := by
  cases x with
  | slice a m cap =>
    obtain ⟨ca, c, rfl, hS⟩ := hx
    obtain ⟨l, h1, h2, _⟩ := firstOf_sound (P := P) hG h (SlR.addr (s := (a, m, cap)) (c := c) hS) m c
    exact ⟨l, h1, h2⟩
  | str s =>
    obtain ⟨t, rfl, rfl⟩ := hx
    injection h with h
    subst h
    refine ⟨(t.data.toList.take n).map fun b => Value.int .u8 (b.toNat : Int), ?_, ?_⟩
    · have e : ((t.extract 0 n).data.map fun b => Value.int .u8 (b.toNat : Int)) = ((t.data.toList.take n).map fun b => Value.int .u8 (b.toNat : Int)).toArray := by
        apply Array.ext'
        rw [Array.toList_map, ByteArray.data_extract]
        simp [Array.toList_extract, List.extract_eq_take_drop]
      simp only [Builtin.firstCells]
      rw [e]
      rfl
    · rw [take_map]
      exact strCells_sound _
  | _ => cases h
theorem lenOf_sound {x : AV} {n : Nat} (h : lenOf x = some n) {cx : Value} (hx : VR ρ x cx) (w : World) : (Builtin.lenOf cx).run P w = .ok n w := by
  cases x with
  | slice a m cap => injection h with h; subst h; obtain ⟨ca, c, rfl, hS⟩ := hx; rfl
  | str s =>
    injection h with h
    subst h
    obtain ⟨t, rfl, rfl⟩ := hx
    have e : (t.data.toList.map UInt8.toNat).length = t.size := by rw [List.length_map, Array.length_toList]; rfl
    rw [e]
    rfl
  | _ => cases h

theorem elem_sound (hE : EnvOk P E) {e : TypeId} {p : Nat × Nat} (h : E.elem e = some p) :
    ∃ i z, P.info? e = some i ∧ i.zero = some z ∧ i.size = p.1 ∧ i.bytes = p.2 ∧ z.cells.size = p.1 ∧ 1 ≤ p.1 ∧ 1 ≤ p.2 := by
  replace h := bind_some h; obtain ⟨i, hi, h⟩ := h
  replace h := bind_some h; obtain ⟨z, hz, h⟩ := h
  replace h := guardO_some h; obtain ⟨h1, h⟩ := h
  replace h := guardO_some h; obtain ⟨h2, h⟩ := h
  replace h := guardO_some h; obtain ⟨h3, h⟩ := h
  injection h with h
  subst h
  obtain ⟨z', hz1, hz2⟩ := bind_some hz
  have := (ofV_sound (ρ := fun _ => none) _ hz2).cells.length
  refine ⟨i, z', hE.info e i hi, hz1, rfl, rfl, ?_, ble_le h2, ble_le h3⟩
  have h1' := beq_eq h1
  simp at this
  omega

/-- what the machine's append comes to, the new cells known -/
structure App (P : Program) (w : World) (s : Sem Value) (e : TypeId) (size bytes : Nat) (z : Value) (ca : Option Addr) (len c n : Nat) (appended : Sem (Array Value)) : Prop where
  fit : len + n ≤ c → ∀ new, appended.run P w = .ok new w → s.run P w = (match ca with | some a => (storeCells (a.add (len * size)) new.toList).run P w | none => .ok () w).andThen fun _ w' => .ok (.slice ca (len + n) c) w'
  grow : ¬ len + n ≤ c → (len + n) * bytes ≤ 140737488355328 → ∀ old new, (Builtin.firstCells size len (.slice ca len c)).run P w.drew = .ok old w.drew → appended.run P w.drew = .ok new w.drew →
    ∃ nc, len + n ≤ nc ∧ s.run P w = .ok (.slice (some ⟨w.heap.size, 0, none⟩) (len + n) nc) (w.drew.alloc (.cells (old ++ new ++ Builtin.zeroCells z.cells (nc - (len + n))) e))

theorem app_str {t t2 e : TypeId} {d2 : TypeDesc} {i : TypeInfo} {z : Value} (ht : P.underlying t = some (.slice e)) (ht2 : P.underlying t2 = some d2) (hd2 : appKind d2 = some false) (hi : P.info? e = some i) (hz : i.zero = some z) (hb : 1 ≤ i.bytes)
    {argTypes : Array TypeId} (h0 : argTypes[0]? = some t) (h1 : argTypes[1]? = some t2) {args : Array Value} {ca : Option Addr} {len c n : Nat} {x : Value} (g0 : args[0]? = some (.slice ca len c)) (g1 : args[1]? = some x)
    (ty : TypeId) (w : World) (hl : (Builtin.lenOf x).run P w = .ok n w) : App P w (Builtin.append_ argTypes ty args) e i.size i.bytes z ca len c n (Builtin.firstCells i.size n x) := by
  have hd2' : d2 = .string ∨ ∃ e2, d2 = .slice e2 := by cases d2 <;> simp [appKind] at hd2 <;> simp
  constructor
  · intro hfit new hnew
    rcases hd2' with rfl | ⟨e2, rfl⟩ <;> cases ca <;> simp [Builtin.append_, h0, h1, g0, g1, run_underlying ht, run_underlying ht2, Go.sizeOf, info_run hi, hl, hfit, hnew]
  · intro hgr hby old new hold hnew
    have hlt : c < len + n := by omega
    have h48 := growslice_fits hlt hby
    have h48' : ¬ (281474976710656 < Builtin.nextslicecap (len + n) c * i.bytes) := by omega
    have hb0 : ¬ (i.bytes = 0) := by omega
    refine ⟨grownCap w (len + n) c e, grownCap_ge w (len + n) c e, ?_⟩
    rcases hd2' with rfl | ⟨e2, rfl⟩ <;>
    simp [Builtin.append_, h0, h1, g0, g1, run_underlying ht, run_underlying ht2, Go.sizeOf, info_run hi, hl, hgr, hb0, h48', zeroValue, hz, Question.forced, newRow, grownCap, hold, hnew]


theorem app_int {t t2 e : TypeId} {k2 : IntKind} {i : TypeInfo} {z : Value} (ht : P.underlying t = some (.slice e)) (ht2 : P.underlying t2 = some (.int k2)) (hi : P.info? e = some i) (hz : i.zero = some z) (hb : 1 ≤ i.bytes)
    {argTypes : Array TypeId} (h0 : argTypes[0]? = some t) (h1 : argTypes[1]? = some t2) {args : Array Value} {ca : Option Addr} {len c n : Nat} {k : IntKind} (g0 : args[0]? = some (.slice ca len c)) (g1 : args[1]? = some (.int k (n : Int)))
    (hn : n * i.bytes ≤ 140737488355328) (ty : TypeId) (w : World) : App P w (Builtin.append_ argTypes ty args) e i.size i.bytes z ca len c n (if n * i.size = 0 then pure #[] else pure (Builtin.zeroCells z.cells n)) := by
  have hn1 : n ≤ 140737488355328 := Nat.le_trans (Nat.le_mul_of_pos_right _ hb) hn
  have hw : IntKind.i64.wrap (n : Int) = n := wrap_small .i64 n (by simp only [topF]; omega)
  have hw2 : ¬ (281474976710656 < (n : Int) * (i.bytes : Int)) := by
    have h2 : (n : Int) * (i.bytes : Int) = ((n * i.bytes : Nat) : Int) := (Int.natCast_mul n i.bytes).symm
    rw [h2]
    omega
  have hlt0 : ¬ ((n : Int) < 0) := by omega
  constructor
  · intro hfit new hnew
    by_cases hz0 : n * i.size = 0
    · rw [if_pos hz0] at hnew
      injection hnew with hnew _
      subst hnew
      cases ca <;> simp [Builtin.append_, h0, h1, g0, g1, run_underlying ht, run_underlying ht2, Go.sizeOf, info_run hi, asInt, asIntOf, hw, hw2, hlt0, hfit, hz0]
    · rw [if_neg hz0] at hnew
      injection hnew with hnew _
      subst hnew
      cases ca <;> simp [Builtin.append_, h0, h1, g0, g1, run_underlying ht, run_underlying ht2, Go.sizeOf, info_run hi, asInt, asIntOf, hw, hw2, hlt0, hfit, hz0, zeroValue, hz]
  · intro hgr hby old new hold hnew
    have hlt : c < len + n := by omega
    have h48 := growslice_fits hlt hby
    have h48' : ¬ (281474976710656 < Builtin.nextslicecap (len + n) c * i.bytes) := by omega
    have hb0 : ¬ (i.bytes = 0) := by omega
    have h63 : ¬ (9223372036854775807 < (len : Int) + (n : Int)) := by
      have : len + n ≤ 140737488355328 := Nat.le_trans (Nat.le_mul_of_pos_right _ hb) hby
      omega
    refine ⟨grownCap w (len + n) c e, grownCap_ge w (len + n) c e, ?_⟩
    by_cases hz0 : n * i.size = 0
    · rw [if_pos hz0] at hnew
      injection hnew with hnew _
      subst hnew
      simp [Builtin.append_, h0, h1, g0, g1, run_underlying ht, run_underlying ht2, Go.sizeOf, info_run hi, asInt, asIntOf, hw, hw2, hlt0, hgr, hb0, h48', h63, zeroValue, hz, Question.forced, newRow, grownCap, hold, hz0]
    · rw [if_neg hz0] at hnew
      injection hnew with hnew _
      subst hnew
      simp [Builtin.append_, h0, h1, g0, g1, run_underlying ht, run_underlying ht2, Go.sizeOf, info_run hi, asInt, asIntOf, hw, hw2, hlt0, hgr, hb0, h48', h63, zeroValue, hz, Question.forced, newRow, grownCap, hold, hz0]
theorem zeroCells_list (z : Array Value) : ∀ n, (Builtin.zeroCells z n).toList = (List.replicate n z.toList).flatten
  | 0 => by simp [Builtin.zeroCells]
  | n + 1 => by
    rw [List.replicate_succ, List.flatten_cons, ← zeroCells_list z n]
    apply List.ext_getElem?
    intro i
    simp only [Builtin.zeroCells, Array.toList_map, Array.toList_range, List.getElem?_map, List.getElem?_append, Array.length_toList]
    by_cases hi : i < z.size
    · rw [if_pos hi]
      have h1 : i < (n + 1) * z.size := by rw [Nat.add_mul]; omega
      simp [List.getElem?_range h1, Nat.mod_eq_of_lt hi, hi]
    · rw [if_neg hi]
      by_cases h2 : i < (n + 1) * z.size
      · have h3 : i - z.size < n * z.size := by rw [Nat.add_mul] at h2; omega
        have h4 : (i - z.size) % z.size = i % z.size := by
          rw [← Nat.add_mod_right (i - z.size) z.size, Nat.sub_add_cancel (by omega)]
        simp [List.getElem?_range h2, List.getElem?_range h3, h4]
      · have h3 : ¬ i - z.size < n * z.size := by rw [Nat.add_mul] at h2; omega
        rw [List.getElem?_eq_none (by simp; omega), List.getElem?_eq_none (by simp; omega)]
theorem zeroCells_size (z : Array Value) (n : Nat) : (Builtin.zeroCells z n).size = n * z.size := by simp [Builtin.zeroCells]

/-- a row that Go lays anew behind an append whose capacity is not known: the row's place turns, its version rises -/
theorem Good.turn (h : Good B w0 ρ H w) {b : Nat} {r : Row} (hr : H.row b = some r) {c : Copy} (hc : ρ b = some c) (c' : Copy) (hver : c'.ver = c.ver + 1) {w1 : World} (hb : Below B w0 w1) (hsz : w.heap.size ≤ w1.heap.size)
    (hcb : (c'.cb = c.cb ∨ (w.heap.size ≤ c'.cb ∧ c'.cb < w1.heap.size))) (hk : ∀ k, k < w.heap.size → k ≠ c.cb → w1.heap[k]? = w.heap[k]?)
    {cells : Tr AV} {hw : Nat} {arr : Array Value} {e : TypeId} {lo hi : Nat} (hg : w1.heap[c'.cb]? = some (.cells arr e (lo, hi))) (hs : arr.size = c'.rs) (hf : lo = hi ∨ c'.rs ≤ lo) (hh : hw ≤ c'.sh + c'.rs)
    (hx : ∀ o av, cells.get o = some av → c'.sh ≤ o → o < hw ∧ ∃ cv, arr[o - c'.sh]? = some cv ∧ VR ρ av cv) :
    Ren.le ρ (ρ.put b c') ∧ Good B w0 (ρ.put b c') (H.putRow b ⟨cells, hw, c'.ver⟩) w1 := by
  have hle : Ren.le ρ (ρ.put b c') := Ren.put_le fun c0 h0 => by rw [hc] at h0; injection h0 with h0; subst h0; omega
  have hbnd := h.bnd b c hc
  have hne : ∀ b' c2, b' ≠ b → ρ b' = some c2 → c2.cb ≠ c'.cb := fun b' c2 hbb h2 he => by
    have h3 := h.bnd b' c2 h2
    rcases hcb with h4 | h4
    · exact hbb (h.inj _ _ _ _ h2 hc (he.trans h4))
    · omega
  refine ⟨hle, hb, by have := h.size; omega, ?_, ?_, ?_⟩
  · intro b1 b2 c1 c2 h1 h2 he
    by_cases e1 : b1 = b <;> by_cases e2 : b2 = b
    · rw [e1, e2]
    · simp [Ren.put, e1] at h1
      simp [Ren.put, e2] at h2
      subst h1
      exact absurd he.symm (hne b2 c2 e2 h2)
    · simp [Ren.put, e1] at h1
      simp [Ren.put, e2] at h2
      subst h2
      exact absurd he (hne b1 c1 e1 h1)
    · simp [Ren.put, e1] at h1
      simp [Ren.put, e2] at h2
      exact h.inj _ _ _ _ h1 h2 he
  · intro b1 c1 h1
    rw [Heap.next_put]
    by_cases e1 : b1 = b
    · simp [Ren.put, e1] at h1
      subst h1 e1
      have := h.size
      rcases hcb with h4 | h4 <;> omega
    · simp [Ren.put, e1] at h1
      have := h.bnd b1 c1 h1
      omega
  · intro b1 r1 h1
    rw [Heap.row_put] at h1
    by_cases e1 : b1 = b
    · rw [if_pos e1] at h1
      injection h1 with h1
      subst h1 e1
      refine ⟨c', arr, e, lo, hi, by simp [Ren.put], rfl, hg, hs, hf, hh, fun o av ho hso => ?_⟩
      obtain ⟨q1, cv, q2, q3⟩ := hx o av ho hso
      exact ⟨q1, cv, q2, q3.mono hle⟩
    · rw [if_neg e1] at h1
      obtain ⟨c2, arr2, e2, lo2, hi2, k1, k2, k4, k5, k6, k7, k8⟩ := h.rows b1 r1 h1
      have h3 := h.bnd b1 c2 k1
      refine ⟨c2, arr2, e2, lo2, hi2, by simp [Ren.put, e1, k1], k2, ?_, k5, k6, k7, fun o av ho hso => ?_⟩
      · rw [hk _ h3.2.1 (fun q => e1 (h.inj _ _ _ _ k1 hc q))]; exact k4
      · obtain ⟨q1, cv, q2, q3⟩ := k8 o av ho hso
        exact ⟨q1, cv, q2, q3.mono hle⟩
end
end Den
