/- DEN, 7: cutting slices. -/
import Derived.Test.YtcclagnegfngiaaDenExec
set_option autoImplicit false
set_option linter.unusedSimpArgs false
set_option linter.unusedVariables false
namespace Den
open Go Go.RowKit

section
variable {P : Program} {E : Env} {B : Nat} {w0 : World} {ρ : Ren} {H : Heap} {w : World}

def OptR (ρ : Ren) : Option AV → Option Value → Prop
  | none, o => o = none
  | some v, o => ∃ u, o = some u ∧ VR ρ v u
theorem optR_of {A : Fr} {a : Act} (hF : ∀ t, VR ρ (slot A t) (a.eval (.tmp t))) {x : Option Operand} {v : Option AV} (h : optA A x = some v) : OptR ρ v (x.map a.eval) := by
  have := optA_sound hF h
  cases v <;> exact this
theorem sliceBound_ok {v : AV} {n i : Nat} (h : bound v n = some i) {u : Value} (hv : VR ρ v u) (y : Nat) (hy : n ≤ y) (code : BoundsCode) (w : World) : (Instr.sliceBound u y code).run P w = .ok i w := by
  obtain ⟨h1, k, rfl⟩ := bound_sound h hv
  have h3 : (i : Int) ≤ (y : Int) := by omega
  simp [Instr.sliceBound, asIntOf, h3]
theorem sliceBounds_ok {isS : Bool} {n c K hh ll : Nat} {hi lo : Option AV} {chi clo : Option Value} (h1 : boundOr hi K n = some hh) (hK : K ≤ c) (h2 : boundOr lo hh 0 = some ll) (hhi : OptR ρ hi chi) (hlo : OptR ρ lo clo) (w : World) :
    (Instr.sliceBounds isS n c clo chi none).run P w = .ok (ll, hh, c) w ∧ ll ≤ hh ∧ (hh ≤ K ∨ hh = n) := by
  have e1 : ∀ code, (match chi with | some v => Instr.sliceBound v c code | none => pure n : Sem Nat).run P w = .ok hh w := by
    intro code
    cases hi with
    | none => simp [boundOr] at h1; subst h1; obtain rfl := hhi; rfl
    | some v => obtain ⟨u, rfl, hu⟩ := hhi; exact sliceBound_ok h1 hu c hK code w
  have e2 : ∀ code, (match clo with | some v => Instr.sliceBound v hh code | none => pure 0 : Sem Nat).run P w = .ok ll w := by
    intro code
    cases lo with
    | none => simp [boundOr] at h2; subst h2; obtain rfl := hlo; rfl
    | some v => obtain ⟨u, rfl, hu⟩ := hlo; exact sliceBound_ok h2 hu hh (Nat.le_refl _) code w
  refine ⟨?_, ?_, ?_⟩
  · have e1' := e1 (if isS then .sliceAcap else .sliceAlen)
    have e2' := e2 .sliceB
    cases chi <;> cases clo <;> simp at e1' e2' <;> simp [Instr.sliceBounds, e1', e2']
  · cases lo with
    | none => simp [boundOr] at h2; omega
    | some v => obtain ⟨u, _, hu⟩ := hlo; exact (bound_sound h2 hu).1
  · cases hi with
    | none => simp [boundOr] at h1; exact .inr h1.symm
    | some v => obtain ⟨u, _, hu⟩ := hhi; exact .inl (bound_sound h1 hu).1
theorem sliceBounds3_ok {n c K m hh ll : Nat} {mx hi : AV} {lo : Option AV} {cmx chi : Value} {clo : Option Value} (h0 : bound mx K = some m) (hK : K ≤ c) (h1 : bound hi m = some hh) (h2 : boundOr lo hh 0 = some ll)
    (hmx : VR ρ mx cmx) (hhi : VR ρ hi chi) (hlo : OptR ρ lo clo) (w : World) : (Instr.sliceBounds true n c clo (some chi) (some cmx)).run P w = .ok (ll, hh, m) w ∧ ll ≤ hh ∧ hh ≤ m ∧ m ≤ K := by
  have e0 := fun code => sliceBound_ok (P := P) h0 hmx c hK code w
  have e1 := fun code => sliceBound_ok (P := P) h1 hhi m (Nat.le_refl _) code w
  have e2 : ∀ code, (match clo with | some v => Instr.sliceBound v hh code | none => pure 0 : Sem Nat).run P w = .ok ll w := by
    intro code
    cases lo with
    | none => simp [boundOr] at h2; subst h2; obtain rfl := hlo; rfl
    | some v => obtain ⟨u, rfl, hu⟩ := hlo; exact sliceBound_ok h2 hu hh (Nat.le_refl _) code w
  refine ⟨?_, ?_, (bound_sound h1 hhi).1, (bound_sound h0 hmx).1⟩
  · have e2' := e2 .slice3C
    cases clo <;> simp at e2' <;> simp [Instr.sliceBounds, e0, e1, e2']
  · cases lo with
    | none => simp [boundOr] at h2; omega
    | some v => obtain ⟨u, _, hu⟩ := hlo; exact (bound_sound h2 hu).1

theorem movedK_sound {a : Option AAddr} {ca : Option Addr} (ha : match a with | none => ca = none | some a => ∃ x, ca = some x ∧ AR ρ a x) (m l k : Nat) (hl : l ≤ m) :
    match movedK a (m - l) k with | none => (if m = l then ca else ca.map (·.add k)) = none | some b => ∃ x, (if m = l then ca else ca.map (·.add k)) = some x ∧ AR ρ b x := by
  cases a with
  | none => simp only at ha; subst ha; simp [movedK]
  | some a =>
    obtain ⟨x, rfl, hA⟩ := ha
    simp only [movedK]
    by_cases e : m = l
    · rw [beq_yes (show m - l = 0 by omega)]
      simp only [cond_true, if_pos e]
      exact ⟨x, rfl, hA⟩
    · rw [beq_no (show m - l ≠ 0 by omega)]
      simp only [cond_false, if_neg e]
      exact ⟨_, rfl, plus_AR hA k⟩
theorem SlR.addr {s : Sl} {ca : Option Addr} {c : Nat} (h : SlR ρ s ca c) : match s.1 with | none => ca = none | some a => ∃ x, ca = some x ∧ AR ρ a x := by
  obtain ⟨s1, s2, s3⟩ := s
  cases s1 with
  | none => exact h.1
  | some a => obtain ⟨x, h1, h2, _⟩ := h; exact ⟨x, h1, h2⟩
theorem known_VR {b : Option AAddr} {cb : Option Addr} (h : match b with | none => cb = none | some a => ∃ x, cb = some x ∧ AR ρ a x) (n c : Nat) : VR ρ (.slice b n (.kn c)) (.slice cb n c) := by
  refine ⟨cb, c, rfl, ?_⟩
  cases b with
  | none => exact ⟨h, rfl⟩
  | some a => obtain ⟨x, h1, h2⟩ := h; exact ⟨x, h1, h2, rfl⟩
theorem dead_AR (hG : Good B w0 ρ H w) {a : AAddr} {x : Addr} (h : AR ρ a x) (y : Addr) : AR ρ (dead a) y := by
  obtain ⟨c, hc, _, _⟩ := h
  have := (hG.bnd _ _ hc).2.2.2
  obtain ⟨b, v, o⟩ := a
  exact ⟨c, hc, Nat.zero_le _, fun e => by simp [dead] at e; omega⟩

theorem sliceSl_sound (hE : EnvOk P E) (hG : Good B w0 ρ H w) {t e : TypeId} (ht : P.underlying t = some (.slice e)) {x r : AV} {lo hi mx : Option AV} (h : sliceSl E e x lo hi mx = some r)
    {cx : Value} {clo chi cmx : Option Value} (hx : VR ρ x cx) (hlo : OptR ρ lo clo) (hhi : OptR ρ hi chi) (hmx : OptR ρ mx cmx) :
    ∃ cv, (Instr.slice t cx clo chi cmx).run P w = .ok cv w ∧ VR ρ r cv := by
  replace h := bind_some h; obtain ⟨s, hs, h⟩ := h
  replace h := bind_some h; obtain ⟨sz, hz, h⟩ := h
  obtain ⟨ca, c, rfl, hS⟩ := asSlice_sound hs hx
  clear hs hx
  obtain ⟨a, len, cap⟩ := s
  have hAd := hS.addr
  simp only at h hAd ⊢
  cases mx with
  | none =>
    obtain rfl := hmx
    cases cap with
    | kn k =>
      have hk : c = k := by
        cases a with
        | none => have := hS.2; simp at this; exact this.symm
        | some a => obtain ⟨y, _, _, hC⟩ := hS; exact hC
      subst hk
      simp only [slice2] at h
      replace h := bind_some h; obtain ⟨hh, h1, h⟩ := h
      replace h := bind_some h; obtain ⟨ll, h2, h⟩ := h
      replace h := guardO_some h; obtain ⟨hlc, h⟩ := h
      injection h with h
      subst h
      obtain ⟨g1, g2, g3⟩ := sliceBounds_ok (P := P) (isS := true) h1 (Nat.le_refl _) h2 hhi hlo w
      have hm := movedK_sound hAd c ll (ll * sz) (ble_le hlc)
      refine ⟨_, ?_, known_VR hm (hh - ll) (c - ll)⟩
      simp [Instr.slice, run_underlying ht, g1, size_sound hE hz]
    | op z =>
      simp only [slice2] at h
      replace h := guardO_some h; obtain ⟨hzz, h⟩ := h
      have hzz := beq_eq hzz
      subst hzz
      replace h := bind_some h; obtain ⟨hh, h1, h⟩ := h
      replace h := bind_some h; obtain ⟨ll, h2, h⟩ := h
      injection h with h
      subst h
      cases a with
      | none => have := hS.2; simp at this
      | some a =>
      obtain ⟨y, rfl, hA, hC1, hC2, hC3⟩ := hS
      simp only at hC1 hC3
      obtain ⟨g1, g2, g3⟩ := sliceBounds_ok (P := P) (isS := true) (c := c) h1 hC1 h2 hhi hlo w
      have hhl : hh ≤ len := by omega
      have hrun : (Instr.slice t (.slice (some y) len c) clo chi none).run P w = .ok (.slice (if c = ll then some y else some (y.add (ll * z))) (hh - ll) (c - ll)) w := by
        simp [Instr.slice, run_underlying ht, g1, size_sound hE hz]
      refine ⟨_, hrun, ?_⟩
      cases ll with
      | zero =>
        have e : (if c = 0 then some y else some (y.add (0 * z))) = some y := by split <;> simp [Addr.add]
        rw [e]
        refine ⟨_, _, rfl, _, rfl, hA, ?_, hC2, fun cp hcp hv => ?_⟩
        · simp only [Nat.sub_zero]; show hh ≤ c; omega
        · exact hC3 cp hcp hv
      | succ l =>
        by_cases hl : l + 1 = len
        · have e : movedO (some a) len (l + 1) z = some (dead a) := by
            have hb : Nat.beq (Nat.succ l) len = true := beq_yes hl
            simp only [movedO]
            rw [hb]
            rfl
          rw [e]
          have hd := fun q => dead_AR hG hA q
          have hle : hh - (l + 1) ≤ c - (l + 1) := by omega
          split
          · refine ⟨_, _, rfl, _, rfl, hd _, hle, hC2, fun cp hcp hv => ?_⟩
            have := (hG.bnd _ _ hcp).2.2.2
            simp [dead] at hv
            omega
          · refine ⟨_, _, rfl, _, rfl, hd _, hle, hC2, fun cp hcp hv => ?_⟩
            have := (hG.bnd _ _ hcp).2.2.2
            simp [dead] at hv
            omega
        · have e : movedO (some a) len (l + 1) z = some (a.plus ((l + 1) * z)) := by
            have hb : Nat.beq (Nat.succ l) len = false := beq_no hl
            simp only [movedO]
            rw [hb]
            rfl
          rw [e, if_neg (by omega)]
          have hle : hh - (l + 1) ≤ c - (l + 1) := by omega
          refine ⟨_, _, rfl, _, rfl, plus_AR hA _, hle, hC2, fun cp hcp hv => ?_⟩
          have h3 := hC3 cp hcp hv
          have hoff : (y.add ((l + 1) * z)).off = y.off + (l + 1) * z := by
            unfold Addr.add
            split
            · next h0 => rw [h0]; rfl
            · rfl
          rw [hoff, Nat.add_assoc, ← Nat.add_mul, show l + 1 + (c - (l + 1)) = c from by omega]
          exact h3
  | some m =>
    obtain ⟨um, rfl, hum⟩ := hmx
    simp only [slice3] at h
    replace h := bind_some h; obtain ⟨mm, h0, h⟩ := h
    replace h := bind_some h; obtain ⟨hv, hhv, h⟩ := h
    replace h := bind_some h; obtain ⟨hh, h1, h⟩ := h
    replace h := bind_some h; obtain ⟨ll, h2, h⟩ := h
    injection h with h
    subst h
    subst hhv
    obtain ⟨uh, rfl, huh⟩ := hhi
    have hK : capOr cap len ≤ c := by
      cases cap with
      | kn k =>
        have hk : c = k := by
          cases a with
          | none => have := hS.2; simp at this; exact this.symm
          | some a => obtain ⟨y, _, _, hC⟩ := hS; exact hC
        subst hk
        exact Nat.le_refl _
      | op z =>
        cases a with
        | none => have := hS.2; simp at this
        | some a => obtain ⟨y, _, _, hC1, _⟩ := hS; exact hC1
    obtain ⟨g1, g2, g3, g4⟩ := sliceBounds3_ok (P := P) (n := len) (c := c) h0 hK h1 h2 hum huh hlo w
    have hm := movedK_sound hAd mm ll (ll * sz) (by omega)
    refine ⟨_, ?_, known_VR hm (hh - ll) (mm - ll)⟩
    simp [Instr.slice, run_underlying ht, g1, size_sound hE hz]
theorem take_map (f : UInt8 → Nat) (l : List UInt8) (n : Nat) : (l.map f).take n = (l.take n).map f := by simp
theorem sliceA_sound (hE : EnvOk P E) (hG : Good B w0 ρ H w) {t : TypeId} {x r : AV} {lo hi mx : Option AV} (h : sliceA E t x lo hi mx = some r)
    {cx : Value} {clo chi cmx : Option Value} (hx : VR ρ x cx) (hlo : OptR ρ lo clo) (hhi : OptR ρ hi chi) (hmx : OptR ρ mx cmx) :
    ∃ cv, (Instr.sliceAt t cx clo chi cmx).run P w = .ok cv w ∧ VR ρ r cv := by
  replace h := bind_some h; obtain ⟨d, hd, h⟩ := h
  have ht := und_sound hE hd
  cases d <;> try cases h
  case string =>
    replace h := bind_some h; obtain ⟨s, hs, h⟩ := h
    obtain ⟨tt, rfl, rfl⟩ := asStr_sound hs hx
    cases mx with
    | some m => simp [sliceStr] at h
    | none =>
      obtain rfl := hmx
      simp only [sliceStr] at h
      replace h := bind_some h; obtain ⟨hh, h1, h⟩ := h
      replace h := bind_some h; obtain ⟨ll, h2, h⟩ := h
      injection h with h
      subst h
      have hn : (tt.data.toList.map UInt8.toNat).length = tt.size := by rw [List.length_map, Array.length_toList]; rfl
      rw [hn] at h1
      obtain ⟨g1, g2, g3⟩ := sliceBounds_ok (P := P) (isS := false) h1 (Nat.le_refl _) h2 hhi hlo w
      refine ⟨.string (tt.extract ll hh), by simp [Instr.sliceAt, Instr.slice, run_underlying ht, g1], _, rfl, ?_⟩
      have e : (tt.extract ll hh).data.toList = (tt.data.toList.drop ll).take (hh - ll) := by
        rw [ByteArray.data_extract]
        simp [Array.toList_extract, List.extract_eq_take_drop]
      rw [e]
      simp [List.map_drop, List.map_take]
  case slice e =>
    obtain ⟨cv, h1, h2⟩ := sliceSl_sound hE hG ht h hx hlo hhi hmx
    exact ⟨cv, by simp [Instr.sliceAt, run_underlying ht, h1], h2⟩
  case array n e =>
    replace h := bind_some h; obtain ⟨ad, ha, h⟩ := h
    replace h := bind_some h; obtain ⟨sz, hz, h⟩ := h
    obtain ⟨y, rfl, hA⟩ := asPtr_sound ha hx
    cases mx with
    | some m => simp [sliceArr] at h
    | none =>
      obtain rfl := hmx
      simp only [sliceArr] at h
      replace h := bind_some h; obtain ⟨hh, h1, h⟩ := h
      replace h := bind_some h; obtain ⟨ll, h2, h⟩ := h
      injection h with h
      subst h
      obtain ⟨g1, g2, g3⟩ := sliceBounds_ok (P := P) (isS := false) h1 (Nat.le_refl _) h2 hhi hlo w
      have hm := movedK_sound (ρ := ρ) (a := some ad) (ca := some y) ⟨y, rfl, hA⟩ n ll (ll * sz) (by omega)
      refine ⟨_, ?_, known_VR hm (hh - ll) (n - ll)⟩
      simp [Instr.sliceAt, run_underlying ht, Instr.sureAddr, g1, size_sound hE hz]
      split <;> rfl
end
end Den
