/- DEN, 11: conversions, building, calls; the operations all together. -/
import Derived.Test.YtcclagnegfngiaaDenBuilt
import Derived.Laws.IdiomStrings
import Derived.Laws.BytesString
import Derived.Laws.BytesArg
set_option autoImplicit false
set_option linter.unusedSimpArgs false
set_option linter.unusedVariables false
namespace Den
open Go Go.RowKit

section
variable {P : Program} {E : Env} {B : Nat} {w0 : World} {ρ : Ren} {H : Heap} {w : World} {A : Fr} {a : Act}

theorem cellsStr_sound : ∀ {as : AVs} {s : List Nat}, cellsStr as = some s → ∀ {l : List Value}, VRs ρ as l → l = (s.map fun n : Nat => Value.int .u8 (Int.ofNat n)) ∧ ∀ n ∈ s, n ≤ 255
  | .nil, s, h, l, hv => by simp [cellsStr] at h; simp [VRs] at hv; subst h hv; simp
  | .cons x as, s, h, l, hv => by
    replace h := bind_some h; obtain ⟨n, hn, h⟩ := h
    replace h := bind_some h; obtain ⟨s', hs, h⟩ := h
    injection h with h
    subst h
    obtain ⟨u, us, rfl, h1, h2⟩ := hv
    obtain ⟨h3, h4⟩ := cellsStr_sound hs h2
    cases x <;> simp only [cellNat] at hn <;> try cases hn
    case int k i =>
      obtain ⟨hk, hn⟩ := guardO_some hn
      replace hn := bind_some hn; obtain ⟨m, hm, hn⟩ := hn
      obtain ⟨hle, hn⟩ := guardO_some hn
      injection hn with hn
      subst hn
      have hk := kEq_eq hk
      subst hk
      cases i with
      | negSucc i => cases hm
      | ofNat i =>
        injection hm with hm
        subst hm
        obtain rfl := h1
        refine ⟨by rw [h3]; rfl, ?_⟩
        intro n hn
        rcases List.mem_cons.1 hn with rfl | hn
        · exact ble_le hle
        · exact h4 n hn
theorem ofNats_data (s : List Nat) (h : ∀ n ∈ s, n ≤ 255) : (strOfNums (s.map fun n : Nat => Int.ofNat n)).data.toList.map UInt8.toNat = s := by
  rw [strOfNums_data]
  simp only [List.map_map]
  conv => rhs; rw [← List.map_id s]
  apply List.map_congr_left
  intro n hn
  have := h n hn
  show (UInt8.ofNat n).toNat = n
  simp
  omega
theorem convSl_sound (hG : Good B w0 ρ H w) {e src dst : TypeId} (hs : P.underlying src = some (.slice e)) (hd : P.underlying dst = some .string) (he : P.underlying e = some (.int .u8)) {v : AV} {p : Nx × Heap} (h : convSl H v = some p) {cv : Value} (hv : VR ρ v cv) :
    DoesS P B w0 ρ H (do pure (.value (← convert src dst cv))) w p := by
  cases v with
  | slice ad n cap =>
    obtain ⟨ca, c, rfl, hS⟩ := hv
    cases ad with
    | none =>
      injection h with h
      subst h
      obtain ⟨rfl, _⟩ := hS
      refine sameV B w0 (av := .str []) (cv := .string ByteArray.empty) ?_ ⟨_, rfl, rfl⟩
      exact run_convert_bytes_nil w src e hs he n c dst hd
    | some ad =>
      obtain ⟨y, rfl, hA, _⟩ := hS
      replace h := bind_some h; obtain ⟨cs, hcs, h⟩ := h
      replace h := bind_some h; obtain ⟨st, hst, h⟩ := h
      injection h with h
      subst h
      obtain ⟨b, vv, o⟩ := ad
      obtain ⟨l, g1, g2, g3⟩ := hG.loadCells (P := P) hcs hA
      obtain ⟨g4, g5⟩ := cellsStr_sound hst g2
      refine sameV B w0 (av := .str st) (cv := .string (strOfNums (st.map fun n : Nat => Int.ofNat n))) ?_ ⟨_, rfl, ofNats_data st g5⟩
      have hl : (loadCells y n).run P w = .ok ((st.map fun n : Nat => Int.ofNat n).map (Value.int .u8)).toArray w := by
        rw [g1, g4, List.map_map]; rfl
      rw [run_convert_bytes_string w src dst e _ n c hs he hd, run_bytesToString w _ n c _ hl, foldl_push_bytes]
      simp [strOfNums, ByteArray.empty, ByteArray.emptyWithCapacity]
      rfl
  | _ => cases h
theorem newSl_open (hG : Good B w0 ρ H w) {cs : AVs} {l : List Value} (hv : VRs ρ cs l) (e : TypeId) (arr : Array Value) (lo hi : Nat) (hf : lo = hi ∨ arr.size ≤ lo) (harr : ∀ (j : Nat) (u : Value), l[j]? = some u → arr[j]? = some u)
    {len : Nat} {cap : Cap} {c : Nat} (hc : match cap with | .kn k => c = k | .op z => len ≤ c ∧ 0 < z ∧ c * z = arr.size) {p : AV × Heap} (h : newSl H cs len cap = some p) :
    ∃ ρ', Ren.le ρ ρ' ∧ Good B w0 ρ' p.2 (w.alloc (.cells arr e (lo, hi))) ∧ VR ρ' p.1 (.slice (some ⟨w.heap.size, 0, none⟩) len c) := by
  obtain ⟨ρ', h1, h2, h3⟩ := hG.new hv e arr lo hi hf harr
  have e1 : newSl H cs len cap = some (.slice (some ⟨H.next, 1, 0⟩) len cap, H.new cs) := by cases H; rfl
  rw [e1] at h
  injection h with h
  subst h
  refine ⟨ρ', h1, h2, _, c, rfl, _, rfl, ⟨_, h3, by simp, fun _ => by simp⟩, ?_⟩
  cases cap with
  | kn k => exact hc
  | op z =>
    refine ⟨hc.1, hc.2.1, fun cp hcp _ => ?_⟩
    simp only at hcp
    rw [h3] at hcp
    injection hcp with hcp
    subst hcp
    simpa using hc.2.2
theorem isU8_sound {d : TypeDesc} (h : isU8 d = true) : d = .int .u8 := by
  cases d <;> simp only [isU8] at h <;> try cases h
  case int k => have := kEq_eq h; subst this; rfl
theorem isSliceU8_sound (hE : EnvOk P E) {d : TypeDesc} (h : isSliceU8 E d = true) : ∃ e, d = .slice e ∧ P.underlying e = some (.int .u8) := by
  cases d <;> simp only [isSliceU8] at h <;> try cases h
  case slice e =>
    cases hd : E.und e with
    | none => rw [hd] at h; cases h
    | some d =>
      rw [hd] at h
      have := isU8_sound h
      subst this
      exact ⟨e, rfl, und_sound hE hd⟩
theorem convert_early (hE : EnvOk P E) (hG : Good B w0 ρ H w) (hF : ∀ t, VR ρ (slot A t) (a.eval (.tmp t))) {src dst : TypeId} {x : Operand} {p : Nx × Heap} (h : xConvert E A H src dst x = some p) (hns : ∀ e, E.und dst ≠ some (.slice e)) :
    DoesS P B w0 ρ H (do pure (.value (← convert src dst (a.eval x)))) w p := by
  replace h := bind_some h; obtain ⟨s, hs, h⟩ := h
  replace h := bind_some h; obtain ⟨d, hd, h⟩ := h
  replace h := bind_some h; obtain ⟨v, hv, h⟩ := h
  have hs' := und_sound hE hs
  have hd' := und_sound hE hd
  have hvx := ev1_sound hF hv
  cases d with
  | int k =>
    cases v with
    | int k' n =>
      obtain hvx : a.eval x = .int k' n := hvx
      refine does_val B w0 h fun av hav => ?_
      rw [mkInt_eq, wrapF_eq] at hav
      injection hav with hav
      subst hav
      exact ⟨.int k (k.wrap n), by simp [convert, run_underlying hs', run_underlying hd', hvx, Conv.intToInt], rfl⟩
    | _ => cases h
  | string =>
    cases hsd : isStrD s
    · rw [hsd] at h
      simp only [cond_false] at h
      replace h := guardO_some h; obtain ⟨hu, h⟩ := h
      obtain ⟨e, rfl, he⟩ := isSliceU8_sound hE hu
      exact convSl_sound hG hs' hd' he h hvx
    · rw [hsd] at h
      simp only [cond_true] at h
      have hst : s = .string := by cases s <;> simp [isStrD] at hsd; rfl
      subst hst
      replace h := bind_some h; obtain ⟨st, hst, h⟩ := h
      injection h with h
      subst h
      obtain ⟨t, ht, hts⟩ := asStr_sound hst hvx
      refine sameV B w0 (av := .str st) (cv := .string t) ?_ ⟨t, rfl, hts⟩
      simp [convert, run_underlying hs', run_underlying hd', ht]
  | slice e => exact absurd hd (hns e)
  | _ => cases h
theorem convert_sound (hE : EnvOk P E) (hG : Good B w0 ρ H w) (hF : ∀ t, VR ρ (slot A t) (a.eval (.tmp t))) {src dst : TypeId} {x : Operand} {p : Nx × Heap} (h : xConvert E A H src dst x = some p) :
    Does P B w0 ρ (do pure (.value (← convert src dst (a.eval x)))) w p := by
  have h0 := h
  replace h := bind_some h; obtain ⟨s, hs, h⟩ := h
  replace h := bind_some h; obtain ⟨d, hd, h⟩ := h
  replace h := bind_some h; obtain ⟨v, hv, h⟩ := h
  have hs' := und_sound hE hs
  have hd' := und_sound hE hd
  have hvx := ev1_sound hF hv
  by_cases hns : ∀ e, E.und dst ≠ some (.slice e)
  · exact (convert_early hE hG hF h0 hns).weak hG
  cases d with
  | slice e =>
    replace h := guardO_some h; obtain ⟨hu0, h⟩ := h
    replace h := guardO_some h; obtain ⟨hu, h⟩ := h
    replace h := bind_some h; obtain ⟨st, hst, h⟩ := h
    have hss : s = .string := by cases s <;> simp [isStrD] at hu0; rfl
    subst hss
    obtain ⟨e', he', he⟩ := isSliceU8_sound hE hu
    injection he' with he'
    subst he'
    obtain ⟨t, ht, rfl⟩ := asStr_sound hst hvx
    refine does_valH h fun q hq => ?_
    have hlen : (t.data.toList.map UInt8.toNat).length = t.size := by rw [List.length_map, Array.length_toList]; rfl
    have hge := grownCap_ge w t.size 0 e
    obtain ⟨ρ', k1, k2, k3⟩ := newSl_open hG.drew (strCells_sound t.data.toList) e (bytesRow t (grownCap w t.size 0 e)) (bytesRow t (grownCap w t.size 0 e)).size ((bytesRow t (grownCap w t.size 0 e)).size + 1) (.inr (Nat.le_refl _)) (by
      intro j u hj
      have hlt := (List.getElem?_eq_some_iff.1 hj).1
      have hlt' : j < (t.data.map (fun b => Value.int .u8 b.toNat)).size := by simpa using hlt
      unfold bytesRow
      rw [Array.getElem?_append_left hlt', ← Array.getElem?_toList, Array.toList_map]
      exact hj) (c := grownCap w t.size 0 e) (by
        refine ⟨by rw [hlen]; exact hge, by omega, ?_⟩
        have : t.data.size = t.size := rfl
        simp [bytesRow, this]
        omega) hq
    refine ⟨_, _, ρ', ?_, k1, k2, k3⟩
    rw [ht, run_bytes_of_string w src dst e t hs' hd' he, hlen]
    rfl
  | _ => exact absurd (fun e he => by rw [hd] at he; cases he) hns
end
end Den
