/- DEN, 10: the builtins. -/
import Derived.Test.YtcclagnegfngiaaDenApp2
set_option autoImplicit false
set_option linter.unusedSimpArgs false
set_option linter.unusedVariables false
namespace Den
open Go Go.RowKit

section
variable {P : Program} {E : Env} {B : Nat} {w0 : World} {ρ : Ren} {H : Heap} {w : World}

theorem slR_addr {s : Sl} {ca : Option Addr} {c : Nat} (h : SlR ρ s ca c) : OAR ρ s.1 ca := by
  obtain ⟨s1, s2, s3⟩ := s
  cases s1 with
  | none => exact h.1
  | some a => obtain ⟨x, h1, h2, _⟩ := h; exact ⟨x, h1, h2⟩
theorem appendA_sound (hG : Good B w0 ρ H w) {e : TypeId} {size bytes : Nat} {z : Value} (hzs : z.cells.size = size) (h1 : 1 ≤ size) (hb1 : 1 ≤ bytes) {s : Sl} {ca : Option Addr} {c : Nat} (hS : SlR ρ s ca c) {n : Nat} {new : AVs}
    {appended : Sem (Array Value)} (happ : ∀ w', Good B w0 ρ H w' → ∃ l : List Value, appended.run P w' = .ok l.toArray w' ∧ VRs ρ new l)
    {sem : Sem Value} (hApp : (s.2.1 + 1 + n) * bytes ≤ 140737488355328 → App P w sem e size bytes z ca s.2.1 c n appended) {p : AV × Heap} (h : appendA H size bytes s n new = some p) : DoesV P B w0 ρ sem w p := by
  obtain ⟨hroom, h⟩ := guardO_some h
  replace h := guardO_some h; obtain ⟨hnew, h⟩ := h
  have hroom := ble_le hroom
  have hnew := beq_eq hnew
  have hroom' : (s.2.1 + 1 + n) * bytes ≤ 140737488355328 := hroom
  have hby : (s.2.1 + n) * bytes ≤ 140737488355328 := Nat.le_trans (Nat.mul_le_mul_right _ (by omega)) hroom'
  have hApp := hApp hroom'
  obtain ⟨base, len, cap⟩ := s
  cases cap with
  | kn k =>
    have hk : c = k := by
      cases base with
      | none => have := hS.2; simp at this; exact this.symm
      | some a => obtain ⟨y, _, _, hC⟩ := hS; exact hC
    subst hk
    exact appendK_sound hG hzs h1 (slR_addr hS) hnew hby happ hApp h
  | op zz =>
    cases base with
    | none => have := hS.2; simp at this
    | some a =>
      obtain ⟨y, rfl, hA, hC⟩ := hS
      exact appendO_sound hG hzs h1 hA hC hnew hby happ hApp h

theorem get0 {l : Array Value} {u : Value} {r : List Value} (h : l.toList = u :: r) : l[0]? = some u := by
  rw [← Array.getElem?_toList, h]; rfl
theorem get1 {l : Array Value} {u v : Value} {r : List Value} (h : l.toList = u :: v :: r) : l[1]? = some v := by
  rw [← Array.getElem?_toList, h]; rfl
theorem tget0 {l : Array TypeId} {u : TypeId} {r : List TypeId} (h : l.toList = u :: r) : l[0]? = some u := by
  rw [← Array.getElem?_toList, h]; rfl
theorem tget1 {l : Array TypeId} {u v : TypeId} {r : List TypeId} (h : l.toList = u :: v :: r) : l[1]? = some v := by
  rw [← Array.getElem?_toList, h]; rfl
theorem sliceElem_sound (hE : EnvOk P E) {t e : TypeId} (h : sliceElem E t = some e) : P.underlying t = some (.slice e) := by
  obtain ⟨d, hd, h⟩ := bind_some h
  cases d <;> simp at h
  subst h
  exact und_sound hE hd

theorem aAppend_sound (hE : EnvOk P E) (hG : Good B w0 ρ H w) {argTypes : Array TypeId} {args : AVs} {p : AV × Heap} (h : aAppend E H argTypes.toList args = some p) {cargs : Array Value} (hv : VRs ρ args cargs.toList) (ty : TypeId) :
    DoesV P B w0 ρ (Builtin.append_ argTypes ty cargs) w p := by
  cases hts : argTypes.toList with
  | nil => rw [hts] at h; cases h
  | cons t ts' =>
  cases ts' with
  | nil => rw [hts] at h; cases h
  | cons t2 ts =>
  rw [hts] at h
  have ht0 := tget0 hts
  have ht1 := tget1 hts
  cases args with
  | nil => cases h
  | cons sv rest =>
  cases rest with
  | nil => cases h
  | cons x rest2 =>
  cases rest2 with
  | cons _ _ => cases h
  | nil =>
  obtain ⟨cs, rest', hl1, hvs, hrest⟩ := hv
  obtain ⟨cx, rest'', rfl, hvx, hnil⟩ := hrest
  simp [VRs] at hnil
  subst hnil
  have hg0 := get0 hl1
  have hg1 := get1 hl1
  simp only [aAppend] at h
  replace h := bind_some h; obtain ⟨s, hs, h⟩ := h
  replace h := bind_some h; obtain ⟨e, he, h⟩ := h
  replace h := bind_some h; obtain ⟨q, hq, h⟩ := h
  replace h := bind_some h; obtain ⟨d, hd, h⟩ := h
  replace h := bind_some h; obtain ⟨g, hgk, h⟩ := h
  have ht := sliceElem_sound hE he
  have ht2 := und_sound hE hd
  obtain ⟨i, z, hi, hz, hsz, hby, hzc, hs1, hb1⟩ := elem_sound hE hq
  obtain ⟨ca, c, rfl, hS⟩ := asSlice_sound hs hvs
  rw [← hsz] at hzc hs1
  rw [← hby] at hb1
  cases g with
  | false =>
    rw [cond_false] at h
    replace h := bind_some h; obtain ⟨n, hn, h⟩ := h
    replace h := bind_some h; obtain ⟨new, hnew, h⟩ := h
    rw [← hsz, ← hby] at h
    rw [← hsz] at hnew
    exact appendA_sound hG hzc hs1 hb1 hS (fun w' hG' => firstCells_sound (P := P) hG' hnew hvx) (fun _ => app_str ht ht2 hgk hi hz hb1 ht0 ht1 hg0 hg1 ty w (lenOf_sound hn hvx w)) h
  | true =>
    rw [cond_true] at h
    have hd2 : ∃ k2, d = .int k2 := by cases d <;> simp [appKind] at hgk; exact ⟨_, rfl⟩
    obtain ⟨k2, rfl⟩ := hd2
    replace h := bind_some h; obtain ⟨n, hn, h⟩ := h
    replace h := bind_some h; obtain ⟨za, hza, h⟩ := h
    rw [← hsz, ← hby] at h
    obtain ⟨k, rfl⟩ := asNat_sound hn hvx
    have hzz : VR ρ za z := by
      obtain ⟨cz, h1, h2⟩ := zero_sound hE hza ρ w
      simp [zeroValue, info_run hi, hz] at h1
      subst h1
      exact h2
    refine appendA_sound hG hzc hs1 hb1 hS (appended := if n * i.size = 0 then pure #[] else pure (Builtin.zeroCells z.cells n)) (fun w' hG' => ?_) (fun hroom => app_int ht ht2 hi hz hb1 ht0 ht1 hg0 hg1 (Nat.le_trans (Nat.mul_le_mul_right _ (by omega)) hroom) ty w) h
    have hrep := hzz.cells.rep n
    by_cases h0 : n * i.size = 0
    · have hn0 : n = 0 := by
        rcases Nat.mul_eq_zero.1 h0 with h1 | h1
        · exact h1
        · omega
      subst hn0
      exact ⟨[], by simp, by simpa using hrep⟩
    · refine ⟨(Builtin.zeroCells z.cells n).toList, by rw [if_neg h0]; rfl, ?_⟩
      rw [zeroCells_list]
      exact hrep

theorem copyTo_sound (hG : Good B w0 ρ H w) {a : Option AAddr} {ca : Option Addr} (hA : OAR ρ a ca) {n : Nat} {cs : AVs} {l : List Value} (hv : VRs ρ cs l) {p : AV × Heap} (h : copyTo H a n cs = some p) :
    DoesV P B w0 ρ (match ca with | some a => (do storeCells a l; pure (goInt n)) | none => pure (goInt n)) w p := by
  cases a with
  | none =>
    obtain rfl : ca = none := hA
    injection h with h
    subst h
    exact DoesV.same hG (cv := goInt n) (by simp) rfl
  | some a =>
    obtain ⟨y, rfl, hA⟩ := hA
    replace h := bind_some h; obtain ⟨H', hst, h⟩ := h
    injection h with h
    subst h
    obtain ⟨b, v, o⟩ := a
    obtain ⟨w1, k1, k2⟩ := hG.stCells (P := P) hst hA hv
    exact ⟨goInt n, w1, ρ, by simp [k1], Ren.le_refl ρ, k2, rfl⟩
theorem aCopy_sound (hE : EnvOk P E) (hG : Good B w0 ρ H w) {argTypes : Array TypeId} {args : AVs} {p : AV × Heap} (h : aCopy E H argTypes.toList args = some p) {cargs : Array Value} (hv : VRs ρ args cargs.toList) (ty : TypeId) :
    DoesV P B w0 ρ (Builtin.copy_ argTypes ty cargs) w p := by
  cases hts : argTypes.toList with
  | nil => rw [hts] at h; cases h
  | cons t ts' =>
  rw [hts] at h
  have ht0 := tget0 hts
  cases args with
  | nil => cases h
  | cons sv rest =>
  cases rest with
  | nil => cases h
  | cons x rest2 =>
  cases rest2 with
  | cons _ _ => cases h
  | nil =>
  obtain ⟨cs, rest', hl1, hvs, hrest⟩ := hv
  obtain ⟨cx, rest'', rfl, hvx, hnil⟩ := hrest
  simp [VRs] at hnil
  subst hnil
  have hg0 := get0 hl1
  have hg1 := get1 hl1
  simp only [aCopy] at h
  replace h := bind_some h; obtain ⟨s, hs, h⟩ := h
  replace h := bind_some h; obtain ⟨e, he, h⟩ := h
  replace h := bind_some h; obtain ⟨size, hsz, h⟩ := h
  replace h := bind_some h; obtain ⟨m, hm, h⟩ := h
  have ht := sliceElem_sound hE he
  obtain ⟨ca, c, rfl, hS⟩ := asSlice_sound hs hvs
  obtain ⟨base, len, cap⟩ := s
  simp only [copyN] at h
  replace h := bind_some h; obtain ⟨cells, hcs, h⟩ := h
  obtain ⟨l, g1, g2⟩ := firstCells_sound (P := P) hG hcs hvx
  have hA := slR_addr hS
  have hmin : Nat.min m len = min m len := rfl
  rw [hmin] at h g1
  obtain ⟨cv, w', ρ', k1, k2⟩ := copyTo_sound (P := P) hG hA g2 h
  refine ⟨cv, w', ρ', ?_, k2⟩
  rw [← k1]
  cases ca <;> simp [Builtin.copy_, ht0, hg0, hg1, run_underlying ht, size_sound hE hsz, lenOf_sound hm hvx w, hmin, g1]

theorem aLen_sound (hE : EnvOk P E) {argTypes : Array TypeId} {args : AVs} {r : AV} (h : aLen E argTypes.toList args = some r) {cargs : Array Value} (hv : VRs ρ args cargs.toList) (ty : TypeId) (w : World) :
    ∃ cv, (Builtin.len_ argTypes ty cargs).run P w = .ok cv w ∧ VR ρ r cv := by
  cases hts : argTypes.toList with
  | nil => rw [hts] at h; cases h
  | cons t ts' =>
  rw [hts] at h
  have ht0 := tget0 hts
  cases args with
  | nil => cases h
  | cons x rest =>
  cases rest with
  | cons _ _ => cases h
  | nil =>
  obtain ⟨cx, rest', hl1, hvx, hnil⟩ := hv
  simp [VRs] at hnil
  subst hnil
  have hg0 := get0 hl1
  simp only [aLen] at h
  replace h := bind_some h; obtain ⟨d, hd, h⟩ := h
  replace h := bind_some h; obtain ⟨n, hn, h⟩ := h
  rw [mkNat_eq] at h
  injection h with h
  subst h
  have ht := und_sound hE hd
  cases d with
  | string =>
    obtain ⟨s, hs, hn⟩ := bind_some hn
    injection hn with hn
    obtain ⟨tt, rfl, rfl⟩ := asStr_sound hs hvx
    have e : n = tt.size := by rw [← hn, List.length_map, Array.length_toList]; rfl
    subst e
    exact ⟨goInt tt.size, by simp [Builtin.len_, ht0, hg0, run_underlying ht], rfl⟩
  | slice e =>
    obtain ⟨s, hs, hn⟩ := bind_some hn
    injection hn with hn
    obtain ⟨ca, c, rfl, hS⟩ := asSlice_sound hs hvx
    subst hn
    exact ⟨goInt s.2.1, by simp [Builtin.len_, ht0, hg0, run_underlying ht], rfl⟩
  | array m e =>
    injection hn with hn
    subst hn
    exact ⟨goInt m, by simp [Builtin.len_, ht0, hg0, run_underlying ht], rfl⟩
  | _ => cases hn
theorem aCap_sound (hE : EnvOk P E) {argTypes : Array TypeId} {args : AVs} {r : AV} (h : aCap E argTypes.toList args = some r) {cargs : Array Value} (hv : VRs ρ args cargs.toList) (ty : TypeId) (w : World) :
    ∃ cv, (Builtin.cap_ argTypes ty cargs).run P w = .ok cv w ∧ VR ρ r cv := by
  cases hts : argTypes.toList with
  | nil => rw [hts] at h; cases h
  | cons t ts' =>
  rw [hts] at h
  have ht0 := tget0 hts
  cases args with
  | nil => cases h
  | cons x rest =>
  cases rest with
  | cons _ _ => cases h
  | nil =>
  obtain ⟨cx, rest', hl1, hvx, hnil⟩ := hv
  simp [VRs] at hnil
  subst hnil
  have hg0 := get0 hl1
  simp only [aCap] at h
  replace h := bind_some h; obtain ⟨e, he, h⟩ := h
  replace h := bind_some h; obtain ⟨s, hs, h⟩ := h
  have ht := sliceElem_sound hE he
  obtain ⟨ca, c, rfl, hS⟩ := asSlice_sound hs hvx
  obtain ⟨base, len, cap⟩ := s
  cases cap with
  | op z => cases h
  | kn k =>
    have hk : c = k := by
      cases base with
      | none => have := hS.2; simp at this; exact this.symm
      | some a => obtain ⟨y, _, _, hC⟩ := hS; exact hC
    subst hk
    simp only [mkNat_eq] at h
    injection h with h
    subst h
    exact ⟨goInt c, by simp [Builtin.cap_, ht0, hg0, run_underlying ht], rfl⟩
theorem mm1_sound {mx : Bool} {x y r : AV} (h : mm1 mx x y = some r) {u v : Value} (hx : VR ρ x u) (hy : VR ρ y v) (w : World) :
    ∃ cv, (cond mx (Builtin.max2 u v) (Builtin.min2 u v)).run P w = .ok cv w ∧ VR ρ r cv := by
  cases x <;> simp only [mm1] at h <;> try cases h
  case int k a =>
    obtain rfl := hx
    cases y <;> simp only [mm2] at h <;> try cases h
    case int k' b =>
      obtain rfl := hy
      rw [mkInt_eq] at h
      injection h with h
      subst h
      cases mx
      · simp only [cond_false, ltF_eq]
        refine ⟨_, rfl, ?_⟩
        by_cases hlt : b < a
        · simp [hlt, VR]
        · simp [hlt, VR]
      · simp only [cond_true, ltF_eq]
        refine ⟨_, rfl, ?_⟩
        by_cases hlt : a < b
        · simp [hlt, VR]
        · simp [hlt, VR]
theorem minmax_sound (mx : Bool) : ∀ (as : AVs) {x r : AV}, minmax mx x as = some r → ∀ {u : Value} {l : List Value}, VR ρ x u → VRs ρ as l → ∀ w, ∃ cv, (l.foldlM (fun a b => cond mx (Builtin.max2 a b) (Builtin.min2 a b)) u : Sem Value).run P w = .ok cv w ∧ VR ρ r cv
  | .nil, x, r, h, u, l, hu, hl, w => by
    simp [minmax] at h
    simp [VRs] at hl
    subst h hl
    exact ⟨u, rfl, hu⟩
  | .cons y as, x, r, h, u, l, hu, hl, w => by
    replace h := bind_some h; obtain ⟨v, hv, h⟩ := h
    obtain ⟨cy, l', rfl, hy, hl'⟩ := hl
    obtain ⟨cv, h1, h2⟩ := mm1_sound (P := P) hv hu hy w
    obtain ⟨cv2, h3, h4⟩ := minmax_sound mx as h h2 hl' w
    exact ⟨cv2, by simp only [List.foldlM_cons, Sem.run_bind, h1, Result.andThen_ok]; exact h3, h4⟩
theorem aMM_sound {mx : Bool} {args : AVs} {r : AV} (h : aMM mx args = some r) {cargs : Array Value} (hv : VRs ρ args cargs.toList) (ts : Array TypeId) (ty : TypeId) (w : World) :
    ∃ cv, (cond mx (Builtin.max_ ts ty cargs) (Builtin.min_ ts ty cargs)).run P w = .ok cv w ∧ VR ρ r cv := by
  cases args with
  | nil => cases h
  | cons a as =>
    obtain ⟨u, l, hl, hu, hls⟩ := hv
    obtain ⟨cv, h1, h2⟩ := minmax_sound (P := P) mx as h hu hls w
    refine ⟨cv, ?_, h2⟩
    cases mx
    · simpa [Builtin.min_, hl] using h1
    · simpa [Builtin.max_, hl] using h1
theorem builtinA_sound (hE : EnvOk P E) (hG : Good B w0 ρ H w) {b : Builtin} {argTypes : Array TypeId} {args : AVs} {p : Nx × Heap} (h : builtinA E H b argTypes.toList args = some p) {cargs : Array Value} (hv : VRs ρ args cargs.toList) (ty : TypeId) (consts : Array Bool) :
    Does P B w0 ρ (builtin b argTypes ty consts cargs) w p := by
  cases b <;> simp only [builtinA] at h <;> try cases h
  case append => exact does_valH h fun q hq => aAppend_sound hE hG hq hv ty
  case copy => exact does_valH h fun q hq => aCopy_sound hE hG hq hv ty
  case len => exact (does_val B w0 h fun av hav => aLen_sound hE hav hv ty w).weak hG
  case cap => exact (does_val B w0 h fun av hav => aCap_sound hE hav hv ty w).weak hG
  case min => exact (does_val B w0 h fun av hav => by simpa using aMM_sound (P := P) hav hv argTypes ty w).weak hG
  case max => exact (does_val B w0 h fun av hav => by simpa using aMM_sound (P := P) hav hv argTypes ty w).weak hG
theorem builtin_early (hE : EnvOk P E) {b : Builtin} (hb : earlyB b = true) {argTypes : Array TypeId} {args : AVs} {p : Nx × Heap} (h : builtinA E H b argTypes.toList args = some p) {cargs : Array Value} (hv : VRs ρ args cargs.toList) (ty : TypeId) (consts : Array Bool) :
    DoesS P B w0 ρ H (builtin b argTypes ty consts cargs) w p := by
  cases b <;> simp only [earlyB] at hb <;> (try cases hb) <;> simp only [builtinA] at h
  case len => exact does_val B w0 h fun av hav => aLen_sound hE hav hv ty w
  case cap => exact does_val B w0 h fun av hav => aCap_sound hE hav hv ty w
  case min => exact does_val B w0 h fun av hav => by simpa using aMM_sound (P := P) hav hv argTypes ty w
  case max => exact does_val B w0 h fun av hav => by simpa using aMM_sound (P := P) hav hv argTypes ty w
end
end Den
