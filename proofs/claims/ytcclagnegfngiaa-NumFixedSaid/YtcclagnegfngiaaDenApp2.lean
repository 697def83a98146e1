/- DEN, 9: append, its last part; copy, len, cap, min, max. -/
import Derived.Test.YtcclagnegfngiaaDenAppend
set_option autoImplicit false
set_option linter.unusedSimpArgs false
set_option linter.unusedVariables false
namespace Den
open Go Go.RowKit

section
variable {P : Program} {E : Env} {B : Nat} {w0 : World} {ρ : Ren} {H : Heap} {w : World}

theorem Below.same {B : Nat} {w0 w w1 : World} (h : Below B w0 w) (hu : ∀ k, k < B → w1.heap[k]? = w.heap[k]?) (ho : w1.os = w.os) (ht : w1.tape = w.tape) (hp : w1.output = w.output) (hs : w.heap.size ≤ w1.heap.size) : Below B w0 w1 :=
  h.trans ⟨ho, ht, hp, hs, hu⟩

/-- append to a slice of a known capacity -/
theorem appendK_sound (hG : Good B w0 ρ H w) {e : TypeId} {size bytes : Nat} {z : Value} (hzs : z.cells.size = size) (h1 : 1 ≤ size) {base : Option AAddr} {ca : Option Addr} (hA : OAR ρ base ca) {len c n : Nat} {new : AVs}
    (hnew : new.len = n * size) (hby : (len + n) * bytes ≤ 140737488355328) {appended : Sem (Array Value)} (happ : ∀ w', Good B w0 ρ H w' → ∃ l : List Value, appended.run P w' = .ok l.toArray w' ∧ VRs ρ new l)
    {s : Sem Value} (hApp : App P w s e size bytes z ca len c n appended) {p : AV × Heap} (h : appendK H size base len c n new = some p) : DoesV P B w0 ρ s w p := by
  simp only [appendK] at h
  cases hb : Nat.ble (Nat.add len n) c
  · rw [hb, cond_false] at h
    replace h := bind_some h; obtain ⟨old, ho, h⟩ := h
    have hgr : ¬ len + n ≤ c := fun hle => by
      have : Nat.ble (len + n) c = true := Nat.ble_eq_true_of_le hle
      rw [show Nat.add len n = len + n from rfl] at hb
      rw [this] at hb
      cases hb
    have hGd := hG.drew
    obtain ⟨lo, g1, g2, hold⟩ := firstOf_sound (P := P) hGd ho hA len c
    obtain ⟨ln, g3, g4⟩ := happ _ hGd
    obtain ⟨nc, hnc, hrun⟩ := hApp.grow hgr hby _ _ g1 g3
    have hV := g2.app g4
    have hlen := hV.length
    rw [AVs.len_app] at hlen
    obtain ⟨ρ', k1, k2, k3⟩ := hGd.new hV e (lo.toArray ++ ln.toArray ++ Builtin.zeroCells z.cells (nc - (len + n))) 0 0 (.inl rfl) (by
      intro j u hj
      have hlt := (List.getElem?_eq_some_iff.1 hj).1
      have : (lo.toArray ++ ln.toArray)[j]? = some u := by simpa using hj
      rw [Array.getElem?_append_left (by simpa using hlt)]
      exact this)
    have e1 : newSl H (old.app new) (len + n) (.op size) = some (.slice (some ⟨H.next, 1, 0⟩) (len + n) (.op size), H.new (old.app new)) := by cases H; rfl
    have h' : newSl H (old.app new) (len + n) (.op size) = some p := h
    rw [e1] at h'
    injection h' with h'
    subst h'
    refine ⟨_, _, ρ', hrun, k1, k2, some ⟨w.heap.size, 0, none⟩, nc, rfl, _, rfl, ⟨_, k3, by simp, fun _ => by simp⟩, hnc, h1, fun cp hcp _ => ?_⟩
    rw [k3] at hcp
    injection hcp with hcp
    subst hcp
    simp only [Array.size_append, List.size_toArray, zeroCells_size, hzs, Nat.zero_add]
    have := g4.length
    rw [hold, this, hnew, ← Nat.add_mul, ← Nat.add_mul]
    congr 1
    omega
  · rw [hb, cond_true] at h
    have hfit : len + n ≤ c := ble_le hb
    obtain ⟨ln, g3, g4⟩ := happ _ hG
    have hrun := hApp.fit hfit _ g3
    cases base with
    | none =>
      obtain rfl : ca = none := hA
      injection h with h
      subst h
      refine DoesV.same hG (cv := .slice none (len + n) c) (by simpa using hrun) ⟨none, c, rfl, rfl, rfl⟩
    | some a =>
      obtain ⟨y, rfl, hA⟩ := hA
      replace h := bind_some h; obtain ⟨H', hst, h⟩ := h
      injection h with h
      subst h
      obtain ⟨w1, k1, k2⟩ := hG.stCells (P := P) hst (ca := y.add (len * size)) (plus_AR hA (len * size)) g4
      refine ⟨_, w1, ρ, by simp only [hrun]; rw [k1]; rfl, Ren.le_refl ρ, k2, some y, c, rfl, y, rfl, hA, rfl⟩

/-- append to a slice whose capacity is not known -/
theorem appendO_sound (hG : Good B w0 ρ H w) {e : TypeId} {size bytes : Nat} {z : Value} (hzs : z.cells.size = size) (h1 : 1 ≤ size) {zz : Nat} {a : AAddr} {y : Addr} (hA : AR ρ a y) {len c n : Nat} (hC : CR ρ a y (.op zz) len c) {new : AVs}
    (hnew : new.len = n * size) (hby : (len + n) * bytes ≤ 140737488355328) {appended : Sem (Array Value)} (happ : ∀ w', Good B w0 ρ H w' → ∃ l : List Value, appended.run P w' = .ok l.toArray w' ∧ VRs ρ new l)
    {s : Sem Value} (hApp : App P w s e size bytes z (some y) len c n appended) {p : AV × Heap} (h : appendO H size zz (some a) len n new = some p) : DoesV P B w0 ρ s w p := by
  obtain ⟨hzz, h⟩ := guardO_some h
  have hzz := beq_eq hzz
  subst hzz
  obtain ⟨hlc, hz0, hcap⟩ := hC
  simp only at h
  cases hn : Nat.beq n 0
  case true =>
    rw [hn, cond_true] at h
    injection h with h
    subst h
    have hn0 := beq_eq hn
    subst hn0
    have hnil : new = .nil := by cases new with | nil => rfl | cons _ _ => simp [AVs.len] at hnew
    subst hnil
    obtain ⟨ln, g3, g4⟩ := happ _ hG
    simp [VRs] at g4
    subst g4
    have hrun := hApp.fit (by omega) _ g3
    refine DoesV.same hG (cv := .slice (some y) (len + 0) c) (by rw [hrun]; rfl) ⟨_, c, rfl, y, rfl, hA, hlc, hz0, hcap⟩
  case false =>
    rw [hn, cond_false] at h
    replace h := bind_some h; obtain ⟨r, hr, h⟩ := h
    obtain ⟨b, v, o⟩ := a
    obtain ⟨cells, hw, ver⟩ := r
    simp only [growRow] at h
    replace h := guardO_some h; obtain ⟨hver, h⟩ := h
    replace h := guardO_some h; obtain ⟨hlf, h⟩ := h
    have hver := beq_eq hver
    subst hver
    obtain ⟨cp, arr, e0, lo, hi, q1, q2, q3, q4, q5, q6, q7⟩ := hG.rows b _ hr
    simp only at q1 q2 q6 q7
    obtain ⟨cp', hcp', hv1, hA2⟩ := hA
    simp only at hcp' hv1 hA2
    rw [q1] at hcp'
    injection hcp' with hcp'
    subst hcp'
    obtain ⟨hso, hy⟩ := hA2 q2.symm
    have hcap' := hcap cp q1 q2.symm
    subst hy
    simp only at hcap'
    have hmul : ∀ i j : Nat, Nat.mul i j = i * j := fun _ _ => rfl
    have hadd : ∀ i j : Nat, Nat.add i j = i + j := fun _ _ => rfl
    simp only [hmul, hadd] at h
    have hsplit : (len + n) * zz = len * zz + n * zz := Nat.add_mul _ _ _
    have hgood := hG.bnd b cp q1
    -- in place, as far as the machine's row goes
    have inplace : ∀ (w : World), Good B w0 ρ H w → w.heap[cp.cb]? = some (.cells arr e0 (lo, hi)) → len + n ≤ c → ∀ ln : List Value, VRs ρ new ln → ∃ w1 arr1, (storeCells ((⟨cp.cb, o - cp.sh, none⟩ : Addr).add (len * zz)) ln).run P w = .ok () w1 ∧ Upd w w1 cp.cb ∧
        w1.heap[cp.cb]? = some (.cells arr1 e0 (lo, hi)) ∧ arr1.size = arr.size ∧
        ∀ i av, (stN cells new (o + len * zz)).get i = some av → cp.sh ≤ i → (i < hw ∨ i < o + (len + n) * zz) ∧ ∃ cv, arr1[i - cp.sh]? = some cv ∧ VR ρ av cv := by
      intro w hG hheap hfit ln hln
      have hc2 : (len + n) * zz ≤ c * zz := Nat.mul_le_mul_right _ hfit
      have hlen := hln.length
      rw [add_at]
      obtain ⟨w1, arr1, hrun, hu, hg1, hs1, hx1⟩ := run_storeCells P cp.cb (o - cp.sh + len * zz) e0 lo hi ln 0 arr w hheap (by rw [q4]; exact q5) (by rw [q4, hlen, hnew]; omega) (hln.leafs hlf)
      refine ⟨w1, arr1, hrun, hu, hg1, hs1, fun i av hi hsi => ?_⟩
      rw [stN_get] at hi
      by_cases hin : o + len * zz ≤ i ∧ i < o + len * zz + new.len
      · rw [if_pos hin] at hi
        obtain ⟨u, hu1, hu2⟩ := hln.get hi
        refine ⟨.inr (by omega), u, ?_, hu2⟩
        rw [hx1, if_pos (by rw [hlen]; omega)]
        rw [show i - cp.sh - (o - cp.sh + len * zz + 0) = i - (o + len * zz) from by omega]
        exact hu1
      · rw [if_neg hin] at hi
        obtain ⟨k2, cv, k3, k4⟩ := q7 i av hi hsi
        refine ⟨.inl k2, cv, ?_, k4⟩
        rw [hx1, if_neg (by rw [hlen]; omega)]
        exact k3
    cases hle : Nat.ble (o + (len + n) * zz) hw
    case true =>
      rw [hle, cond_true] at h
      injection h with h
      subst h
      have hle := ble_le hle
      have hfit : len + n ≤ c := by
        have : (len + n) * zz ≤ c * zz := by omega
        exact Nat.le_of_mul_le_mul_right this hz0
      obtain ⟨ln, g3, g4⟩ := happ _ hG
      have hrun := hApp.fit hfit _ g3
      obtain ⟨w1, arr1, k1, k2, k3, k4, k5⟩ := inplace w hG q3 hfit ln g4
      have hG' := hG.write hr q1 k2 k3 (by rw [k4, q4]) q5 (stN cells new (o + len * zz)) (fun i av hi hsi => by
        obtain ⟨m1, m2⟩ := k5 i av hi hsi
        exact ⟨by simp only; omega, m2⟩)
      refine ⟨_, w1, ρ, by simp only [hrun]; rw [k1]; rfl, Ren.le_refl ρ, hG', _, c, rfl, _, rfl, ⟨cp, q1, hv1, fun _ => ⟨hso, rfl⟩⟩, hfit, hz0, fun cp2 hcp2 _ => ?_⟩
      simp only at hcp2
      rw [q1] at hcp2
      injection hcp2 with hcp2
      subst hcp2
      exact hcap'
    case false =>
      rw [hle, cond_false] at h
      replace h := guardO_some h; obtain ⟨hat, h⟩ := h
      have hat := ble_le hat
      injection h with h
      subst h
      have hlt : hw < o + (len + n) * zz := by
        rcases Nat.lt_or_ge hw (o + (len + n) * zz) with h0 | h0
        · exact h0
        · rw [Nat.ble_eq_true_of_le h0] at hle; cases hle
      by_cases hfit : len + n ≤ c
      · obtain ⟨ln, g3, g4⟩ := happ _ hG
        have hrun := hApp.fit hfit _ g3
        obtain ⟨w1, arr1, k1, k2, k3, k4, k5⟩ := inplace w hG q3 hfit ln g4
        have hc2 : (len + n) * zz ≤ c * zz := Nat.mul_le_mul_right _ hfit
        obtain ⟨t1, t2⟩ := hG.turn hr q1 ⟨cp.cb, cp.sh, cp.ver + 1, cp.rs⟩ rfl (w1 := w1) (Below.same hG.below (fun k hk => k2.block k (by omega)) k2.os k2.tape k2.output (by rw [k2.size]; exact Nat.le_refl _)) (by rw [k2.size]; exact Nat.le_refl _) (.inl rfl)
          (fun k _ hk => k2.block k hk) (cells := stN cells new (o + len * zz)) (hw := o + (len + n) * zz) k3 (by rw [k4, q4]) q5 (by simp only; omega) (fun i av hi hsi => by
            obtain ⟨m1, m2⟩ := k5 i av hi hsi
            exact ⟨by omega, m2⟩)
        rw [← q2]
        refine ⟨_, w1, _, by simp only [hrun]; rw [k1]; rfl, t1, t2, _, c, rfl, _, rfl, ⟨⟨cp.cb, cp.sh, cp.ver + 1, cp.rs⟩, by simp [Ren.put], Nat.le_refl _, fun _ => ⟨hso, rfl⟩⟩, hfit, hz0, fun cp2 hcp2 _ => ?_⟩
        simp [Ren.put] at hcp2
        subst hcp2
        exact hcap'
      · -- Go lays a new row
        have hGd := hG.drew
        obtain ⟨ln, g3, g4⟩ := happ _ hGd
        have hlen := g4.length
        -- the old cells
        have hcl : len * zz ≤ c * zz := Nat.mul_le_mul_right _ hlc
        have hold : ∀ j (u : Value), ((arr.toList.drop (o - cp.sh)).take (len * zz))[j]? = some u → w.cell? ((⟨cp.cb, o - cp.sh, none⟩ : Addr).add j) = some u := by
          intro j u hj
          rw [add_at, cell_at q3]
          rw [List.getElem?_take] at hj
          split at hj
          · rw [List.getElem?_drop] at hj; simpa using hj
          · cases hj
        have hlo : ((arr.toList.drop (o - cp.sh)).take (len * zz)).length = len * zz := by
          rw [List.length_take, List.length_drop, Array.length_toList, q4]
          omega
        have hfo : (Builtin.firstCells zz len (.slice (some ⟨cp.cb, o - cp.sh, none⟩) len c)).run P w.drew = .ok ((arr.toList.drop (o - cp.sh)).take (len * zz)).toArray w.drew :=
          run_firstCells_some (P := P) w.drew zz len _ len c _ hlo hold
        obtain ⟨nc, hnc, hrun⟩ := hApp.grow hfit hby _ _ hfo g3
        have hasz : (((arr.toList.drop (o - cp.sh)).take (len * zz)).toArray ++ ln.toArray ++ Builtin.zeroCells z.cells (nc - (len + n))).size = nc * zz := by
          simp only [Array.size_append, List.size_toArray, zeroCells_size, hzs]
          rw [hlo, hlen, hnew, ← Nat.add_mul, ← Nat.add_mul]
          congr 1
          omega
        have hnc2 : (len + n) * zz ≤ nc * zz := Nat.mul_le_mul_right _ hnc
        obtain ⟨t1, t2⟩ := hG.turn hr q1 ⟨w.heap.size, o, cp.ver + 1, nc * zz⟩ rfl (w1 := w.drew.alloc (.cells (((arr.toList.drop (o - cp.sh)).take (len * zz)).toArray ++ ln.toArray ++ Builtin.zeroCells z.cells (nc - (len + n))) e))
          (hGd.below.alloc hGd.size _) (by show _ ≤ (w.heap.push _).size; simp) (.inr ⟨Nat.le_refl _, by show _ < (w.heap.push _).size; simp⟩)
          (fun k hk _ => Below.heap_alloc w.drew _ _ hk) (cells := stN cells new (o + len * zz)) (hw := o + (len + n) * zz) (arr := ((arr.toList.drop (o - cp.sh)).take (len * zz)).toArray ++ ln.toArray ++ Builtin.zeroCells z.cells (nc - (len + n))) (e := e) (lo := 0) (hi := 0)
          (by show (w.heap.push _)[w.heap.size]? = _; simp) hasz (.inl rfl) (by simp only; omega) (fun i av hi hsi => by
            simp only at hsi ⊢
            rw [stN_get] at hi
            by_cases hin : o + len * zz ≤ i ∧ i < o + len * zz + new.len
            · rw [if_pos hin] at hi
              obtain ⟨u, hu1, hu2⟩ := g4.get hi
              refine ⟨by omega, u, ?_, hu2⟩
              rw [Array.getElem?_append_left (by simp only [Array.size_append, List.size_toArray, hlo, hlen]; omega), Array.getElem?_append_right (by simp only [List.size_toArray, hlo]; omega)]
              simp only [List.size_toArray, hlo]
              rw [show i - o - len * zz = i - (o + len * zz) from by omega]
              simpa using hu1
            · rw [if_neg hin] at hi
              obtain ⟨m1, cv, m2, m3⟩ := q7 i av hi (by omega)
              refine ⟨by omega, cv, ?_, m3⟩
              have hi2 : i - o < len * zz := by omega
              rw [Array.getElem?_append_left (by simp only [Array.size_append, List.size_toArray, hlo, hlen]; omega), Array.getElem?_append_left (by simp only [List.size_toArray, hlo]; omega)]
              simp only [List.getElem?_toArray, List.getElem?_take, List.getElem?_drop, if_pos hi2]
              rw [show o - cp.sh + (i - o) = i - cp.sh from by omega]
              simpa using m2)
        rw [← q2]
        refine ⟨_, _, _, hrun, t1, t2, _, nc, rfl, _, rfl, ⟨⟨w.heap.size, o, cp.ver + 1, nc * zz⟩, by simp [Ren.put], Nat.le_refl _, fun _ => ⟨Nat.le_refl _, by simp⟩⟩, hnc, hz0, fun cp2 hcp2 _ => ?_⟩
        simp [Ren.put] at hcp2
        subst hcp2
        simp
end
end Den
