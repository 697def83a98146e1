/- DEN, 6: the operations, one by one (without slices and building). -/
import Derived.Test.YtcclagnegfngiaaDenOps
set_option autoImplicit false
set_option linter.unusedSimpArgs false
set_option linter.unusedVariables false
namespace Den
open Go Go.RowKit

section
variable {P : Program} {E : Env} {B : Nat} {w0 : World} {ρ : Ren} {H : Heap} {w : World}

def Does (P : Program) (B : Nat) (w0 : World) (ρ : Ren) (s : Sem Next) (w : World) (p : Nx × Heap) : Prop :=
  ∃ nx w' ρ', s.run P w = .ok nx w' ∧ Ren.le ρ ρ' ∧ Good B w0 ρ' p.2 w' ∧ NxR ρ' p.1 nx
def DoesV (P : Program) (B : Nat) (w0 : World) (ρ : Ren) (s : Sem Value) (w : World) (p : AV × Heap) : Prop :=
  ∃ cv w' ρ', s.run P w = .ok cv w' ∧ Ren.le ρ ρ' ∧ Good B w0 ρ' p.2 w' ∧ VR ρ' p.1 cv

theorem DoesV.same (hG : Good B w0 ρ H w) {s : Sem Value} {av : AV} {cv : Value} (h : s.run P w = .ok cv w) (hv : VR ρ av cv) : DoesV P B w0 ρ s w (av, H) :=
  ⟨cv, w, ρ, h, Ren.le_refl ρ, hG, hv⟩
theorem DoesV.does {s : Sem Value} {p : AV × Heap} (h : DoesV P B w0 ρ s w p) : Does P B w0 ρ (do pure (.value (← s))) w (.val p.1, p.2) := by
  obtain ⟨cv, w', ρ', h1, h2, h3, h4⟩ := h
  exact ⟨.value cv, w', ρ', by simp [h1], h2, h3, cv, rfl, h4⟩
/-- the same, the world and the heap being what they were -/
def DoesS (P : Program) (B : Nat) (w0 : World) (ρ : Ren) (H : Heap) (s : Sem Next) (w : World) (p : Nx × Heap) : Prop :=
  ∃ v cv, p = (.val v, H) ∧ s.run P w = .ok (.value cv) w ∧ VR ρ v cv
theorem DoesS.weak (hG : Good B w0 ρ H w) {s : Sem Next} {p : Nx × Heap} (h : DoesS P B w0 ρ H s w p) : Does P B w0 ρ s w p := by
  obtain ⟨v, cv, rfl, h1, h2⟩ := h
  exact ⟨_, w, ρ, h1, Ren.le_refl ρ, hG, cv, rfl, h2⟩
theorem sameV (B : Nat) (w0 : World) {s : Sem Value} {av : AV} {cv : Value} (h : s.run P w = .ok cv w) (hv : VR ρ av cv) : DoesS P B w0 ρ H (do pure (.value (← s))) w (.val av, H) :=
  ⟨av, cv, rfl, by simp [h], hv⟩
theorem does_val (B : Nat) (w0 : World) {s : Sem Value} {o : Option AV} {p : Nx × Heap} (hp : val o H = some p) (h : ∀ av, o = some av → ∃ cv, s.run P w = .ok cv w ∧ VR ρ av cv) :
    DoesS P B w0 ρ H (do pure (.value (← s))) w p := by
  obtain ⟨av, ho, hp⟩ := bind_some hp
  injection hp with hp
  subst hp
  obtain ⟨cv, h1, h2⟩ := h av ho
  exact sameV B w0 h1 h2
theorem does_valH {s : Sem Value} {o : VH} {p : Nx × Heap} (hp : valH o = some p) (h : ∀ q, o = some q → DoesV P B w0 ρ s w q) :
    Does P B w0 ρ (do pure (.value (← s))) w p := by
  obtain ⟨q, ho, hp⟩ := bind_some hp
  obtain ⟨av, H'⟩ := q
  injection hp with hp
  subst hp
  exact (h _ ho).does

/-! binary operations -/
theorem strLt_sound : ∀ (x y : List UInt8), strLt (x.map UInt8.toNat) (y.map UInt8.toNat) = Op.bytesLess x y
  | x, [] => by cases x <;> rfl
  | [], y :: ys => rfl
  | a :: x, b :: y => by
    have ih := strLt_sound x y
    simp only [List.map_cons, strLt, Op.bytesLess, ih]
    have h1 : Nat.ble a.toNat.succ b.toNat = decide (a < b) := by rw [ble_iff]; congr 1
    have h2 : Nat.beq a.toNat b.toNat = (a == b) := by
      rw [beq_iff]
      by_cases h : a = b
      · subst h; simp
      · have : a.toNat ≠ b.toNat := fun e => h (UInt8.toNat_inj.1 e)
        rw [decide_eq_false this]; simpa using h
    rw [h1, h2]
theorem strEq_sound : ∀ (x y : List UInt8), strEq (x.map UInt8.toNat) (y.map UInt8.toNat) = (x == y)
  | [], [] => rfl
  | [], y :: ys => rfl
  | x :: xs, [] => rfl
  | a :: x, b :: y => by
    have ih := strEq_sound x y
    simp only [List.map_cons, strEq, ih]
    have h2 : Nat.beq a.toNat b.toNat = (a == b) := by
      rw [beq_iff]
      by_cases h : a = b
      · subst h; simp
      · have : a.toNat ≠ b.toNat := fun e => h (UInt8.toNat_inj.1 e)
        rw [decide_eq_false this]; simpa using h
    rw [h2]
    rfl
theorem strOp_sound {op : BinOp} {x y : ByteArray} {r : AV} (h : strOp op (x.data.toList.map UInt8.toNat) (y.data.toList.map UInt8.toNat) = some r) (w : World) :
    ∃ cv, (Op.stringOp op x y).run P w = .ok cv w ∧ VR ρ r cv := by
  have hx := ByteArray.toList_eq x
  have hy := ByteArray.toList_eq y
  cases op <;> simp only [strOp, strLt_sound, strEq_sound, Option.some.injEq] at h <;> try cases h
  case add =>
    replace h := guardO_some h; obtain ⟨hb, h⟩ := h
    injection h with h
    subst h
    have hb := ble_le hb
    have hs : ¬ ((x.size + y.size : Nat) : Int) > IntKind.i64.max := by
      have h1 : x.size = x.data.toList.length := (Array.length_toList (xs := x.data)).symm
      have h2 : y.size = y.data.toList.length := (Array.length_toList (xs := y.data)).symm
      have hb' : x.data.toList.length + y.data.toList.length ≤ 9223372036854775807 := by simpa using hb
      have h3 : IntKind.i64.max = 9223372036854775807 := by decide
      omega
    refine ⟨.string (x ++ y), by simp only [Op.stringOp, if_neg hs]; rfl, x ++ y, rfl, ?_⟩
    have e : (x ++ y).data.toList = x.data.toList ++ y.data.toList := by simp
    rw [e, List.map_append]
  all_goals
    refine ⟨_, by simp only [Op.stringOp, hx, hy]; rfl, rfl⟩

theorem guard_int (op : BinOp) (t : TypeId) (xo yo : Operand) (k k' : IntKind) (a b : Int) (w : World) : (eqGuard op t xo yo (.int k a) (.int k' b)).run P w = .ok () w := by
  unfold eqGuard
  split <;> rfl
theorem guard_str (op : BinOp) (t : TypeId) (xo yo : Operand) (a b : ByteArray) (w : World) : (eqGuard op t xo yo (.string a) (.string b)).run P w = .ok () w := by
  unfold eqGuard
  split <;> rfl
theorem binOpA_sound {op : BinOp} {t : TypeId} {xo yo : Operand} {x y r : AV} {u v : Value} (h : binOpA op x y = some r) (hx : VR ρ x u) (hy : VR ρ y v) (w : World) :
    ∃ cv, (do eqGuard op t xo yo u v; binOp op t u v : Sem Value).run P w = .ok cv w ∧ VR ρ r cv := by
  cases x with
  | int k a =>
    obtain rfl := hx
    cases y with
    | int k' b =>
      obtain rfl := hy
      simp only [Sem.run_bind, guard_int, Result.andThen_ok]
      simp only [binOpA, binInt] at h
      cases hs : isShift op
      · rw [hs, cond_false] at h
        replace h := guardO_some h; obtain ⟨hk, h⟩ := h
        have hkk := kEq_eq hk
        subst hkk
        exact intOp_sound hs h t w
      · rw [hs] at h
        exact shOp_sound h t w
    | _ => simp [binOpA, binInt] at h
  | str a =>
    obtain ⟨s1, rfl, rfl⟩ := hx
    cases y with
    | str b =>
      obtain ⟨s2, rfl, rfl⟩ := hy
      simp only [Sem.run_bind, guard_str, Result.andThen_ok]
      simp only [binOpA, binStr] at h
      obtain ⟨cv, h1, h2⟩ := strOp_sound (P := P) (ρ := ρ) h w
      refine ⟨cv, ?_, h2⟩
      cases op <;> first | exact h1 | (simp [strOp] at h)
    | _ => simp [binOpA, binStr] at h
  | _ => simp [binOpA] at h
theorem unOpA_sound {op : UnOp} {x r : AV} {u : Value} (h : unOpA op x = some r) (hx : VR ρ x u) (w : World) : ∃ cv, (Op.unary op u).run P w = .ok cv w ∧ VR ρ r cv := by
  cases x with
  | int k n =>
    obtain rfl := hx
    cases op with
    | neg =>
      simp only [unOpA, mkInt_eq, wrapF_eq, Option.some.injEq] at h
      subst h
      refine ⟨.int k (k.wrap (0 - n)), rfl, ?_⟩
      rw [onNat_eq (fun a b ha hb => by rw [subNF_eq, ← ha, ← hb])]
      rfl
    | xor =>
      simp only [unOpA, mkInt_eq, Option.some.injEq] at h
      subst h
      refine ⟨_, rfl, ?_⟩
      rw [notF_eq]
      rfl
    | _ => simp [unOpA] at h
  | bool b =>
    obtain rfl := hx
    cases op with
    | not =>
      simp only [unOpA, Option.some.injEq] at h
      subst h
      exact ⟨_, rfl, rfl⟩
    | _ => simp [unOpA] at h
  | _ => simp [unOpA] at h

/-! the operations -/
variable {A : Fr} {a : Act}
theorem nilCheck_sound (hG : Good B w0 ρ H w) {v r : AV} (h : nilChecked v = some r) {u : Value} (hv : VR ρ v u) : 
    ∃ cv, (match u with
    | .pointer none | .nilIface | .nilFunc => runtimePanic .nilDeref
    | .func (.method name) first captured =>
      match (first[0]? : Option Value) with
      | some .nilIface => runtimePanic .nilDeref
      | some (.iface t w) => do
        if (← nilAhead ((← program).types.size + Made.depth) t w name) != some false then
          unsupported (.noEntry "op/nilCheck.the method's receiver behind this interface value is a nil pointer, or cannot be seen to be none, and the arguments act or may panic (ledger 612)")
        pure (.value (.func (.method name) first captured))
      | _ => pure (.value (.func (.method name) first captured))
    | x => pure (.value x) : Sem Next).run P w = .ok (.value cv) w ∧ VR ρ r cv := by
  cases v <;> simp only [nilChecked] at h <;> try cases h
  case ptr p =>
    replace h := bind_some h; obtain ⟨x, rfl, h⟩ := h
    injection h with h
    subst h
    obtain ⟨ca, rfl, y, rfl, hA⟩ := hv
    exact ⟨.pointer (some y), rfl, some y, rfl, y, rfl, hA⟩
  case fn f p q =>
    obtain ⟨p', q', rfl, h1, h2⟩ := hv
    exact ⟨_, rfl, p', q', rfl, h1, h2⟩
theorem part_sound (hE : EnvOk P E) {t : TypeId} {cs : AVs} {o : Nat} {r : AV} (h : Den.part E t cs o = some r) {l : Array Value} (hv : VRs ρ cs l.toList) (w : World) :
    ∃ cv, (Go.part t l o).run P w = .ok cv w ∧ VR ρ r cv := by
  replace h := bind_some h; obtain ⟨g, hg, h⟩ := h
  cases g with
  | true =>
    replace h := bind_some h; obtain ⟨n, hn, h⟩ := h
    injection h with h
    subst h
    refine ⟨.agg (l.extract o (o + n)), by simp [Go.part, agg_sound hE hg, size_sound hE hn], _, rfl, ?_⟩
    have := (hv.drop o).take n
    have e : (l.extract o (o + n)).toList = (l.toList.drop o).take n := by
      simp [Array.toList_extract, List.extract_eq_take_drop]
    rw [e]
    exact this
  | false =>
    obtain ⟨v, h1, h2⟩ := hv.get h
    have h1' : l[o]? = some v := by simpa using h1
    exact ⟨v, by simp [Go.part, agg_sound hE hg, h1'], h2⟩
theorem fieldAt_some {fs : Array Field} {i : Nat} {f : Field} (h : fieldAt fs i = some f) : fs[i]? = some f := by
  simpa [fieldAt] using h
theorem fieldAddr_sound (hE : EnvOk P E) (hG : Good B w0 ρ H w) (hF : ∀ t, VR ρ (slot A t) (a.eval (.tmp t))) {t : TypeId} {x : Operand} {f : Nat} {p : Nx × Heap} (h : xFieldAddr E A H t x f = some p) :
    DoesS P B w0 ρ H (do pure (.value (← Instr.fieldAt t (a.eval x) f))) w p := by
  replace h := bind_some h; obtain ⟨d, hd, h⟩ := h
  replace h := bind_some h; obtain ⟨v, hv, h⟩ := h
  replace h := bind_some h; obtain ⟨ad, ha, h⟩ := h
  obtain ⟨ca, hca, hA⟩ := asPtr_sound ha (ev1_sound hF hv)
  cases d <;> try cases h
  case struct fs =>
    replace h := bind_some h; obtain ⟨fl, hf, h⟩ := h
    replace h := bind_some h; obtain ⟨sz, hs, h⟩ := h
    replace h := guardO_some h; obtain ⟨hz, h⟩ := h
    injection h with h
    subst h
    have hz' : sz ≠ 0 := fun e => by rw [e] at hz; cases hz
    refine sameV B w0 (av := .ptr (some (ad.plus fl.offset))) (cv := .pointer (some (ca.add fl.offset))) ?_ ⟨_, rfl, _, rfl, plus_AR hA _⟩
    simp [Instr.fieldAt, run_underlying (und_sound hE hd), fieldAt_some hf, hca, Instr.sureAddr, fieldPlace, size_sound hE hs, hz']
theorem field_sound (hE : EnvOk P E) (hG : Good B w0 ρ H w) (hF : ∀ t, VR ρ (slot A t) (a.eval (.tmp t))) {t : TypeId} {x : Operand} {f : Nat} {p : Nx × Heap} (h : xField E A H t x f = some p) :
    DoesS P B w0 ρ H (do pure (.value (← Instr.field t (a.eval x) f))) w p := by
  replace h := bind_some h; obtain ⟨d, hd, h⟩ := h
  replace h := bind_some h; obtain ⟨v, hv, h⟩ := h
  replace h := bind_some h; obtain ⟨cs, hc, h⟩ := h
  obtain ⟨l, hl, hV⟩ := asAgg_sound hc (ev1_sound hF hv)
  cases d <;> try cases h
  case struct fs =>
    replace h := bind_some h; obtain ⟨fl, hf, h⟩ := h
    refine does_val B w0 h fun av hav => ?_
    obtain ⟨cv, h1, h2⟩ := part_sound hE hav hV w
    exact ⟨cv, by simp [Instr.field, run_underlying (und_sound hE hd), fieldAt_some hf, hl, Go.asAgg, h1], h2⟩
theorem indexAddr_sound (hE : EnvOk P E) (hG : Good B w0 ρ H w) (hF : ∀ t, VR ρ (slot A t) (a.eval (.tmp t))) {t : TypeId} {x i : Operand} {p : Nx × Heap} (h : xIndexAddr E A H t x i = some p) :
    DoesS P B w0 ρ H (do pure (.value (← Instr.indexAt t (a.eval x) (a.eval i)))) w p := by
  replace h := bind_some h; obtain ⟨d, hd, h⟩ := h
  replace h := bind_some h; obtain ⟨v, hv, h⟩ := h
  replace h := bind_some h; obtain ⟨iv, hi, h⟩ := h
  have hvx := ev1_sound hF hv
  have hvi := ev1_sound hF hi
  cases d <;> try cases h
  case array n e =>
    replace h := bind_some h; obtain ⟨ad, ha, h⟩ := h
    replace h := bind_some h; obtain ⟨j, hj, h⟩ := h
    replace h := bind_some h; obtain ⟨sz, hs, h⟩ := h
    injection h with h
    subst h
    obtain ⟨ca, hca, hA⟩ := asPtr_sound ha hvx
    obtain ⟨hlt, k, hk⟩ := idx_sound hj hvi
    refine sameV B w0 (av := .ptr (some (ad.plus (j * sz)))) (cv := .pointer (some (ca.add (j * sz)))) ?_ ⟨_, rfl, _, rfl, plus_AR hA _⟩
    have h0 : (0 : Int) ≤ j := Int.natCast_nonneg j
    have h1 : (j : Int) < n := by exact_mod_cast hlt
    simp [Instr.indexAt, asIntOf, run_underlying (und_sound hE hd), hca, hk, Instr.sureAddr, h0, h1, hlt, size_sound hE hs]
  case slice e =>
    replace h := bind_some h; obtain ⟨s, hs1, h⟩ := h
    replace h := bind_some h; obtain ⟨ad, ha, h⟩ := h
    replace h := bind_some h; obtain ⟨j, hj, h⟩ := h
    replace h := bind_some h; obtain ⟨sz, hs, h⟩ := h
    injection h with h
    subst h
    obtain ⟨ca, c, hca, hS⟩ := asSlice_sound hs1 hvx
    obtain ⟨s1, s2, s3⟩ := s
    simp only at ha hj hca
    subst ha
    obtain ⟨y, rfl, hA, hC⟩ := hS
    obtain ⟨hlt, k, hk⟩ := idx_sound hj hvi
    refine sameV B w0 (av := .ptr (some (ad.plus (j * sz)))) (cv := .pointer (some (y.add (j * sz)))) ?_ ⟨_, rfl, _, rfl, plus_AR hA _⟩
    simp [Instr.indexAt, asIntOf, run_underlying (und_sound hE hd), hca, hk, hlt, size_sound hE hs]
theorem index_sound (hE : EnvOk P E) (hG : Good B w0 ρ H w) (hF : ∀ t, VR ρ (slot A t) (a.eval (.tmp t))) {t : TypeId} {x i : Operand} {p : Nx × Heap} (h : xIndex E A H t x i = some p) :
    DoesS P B w0 ρ H (do pure (.value (← Instr.index t (a.eval x) (a.eval i)))) w p := by
  replace h := bind_some h; obtain ⟨d, hd, h⟩ := h
  replace h := bind_some h; obtain ⟨v, hv, h⟩ := h
  replace h := bind_some h; obtain ⟨iv, hi, h⟩ := h
  have hvx := ev1_sound hF hv
  have hvi := ev1_sound hF hi
  cases d <;> try cases h
  case array n e =>
    replace h := bind_some h; obtain ⟨cs, ha, h⟩ := h
    replace h := bind_some h; obtain ⟨j, hj, h⟩ := h
    replace h := bind_some h; obtain ⟨sz, hs, h⟩ := h
    obtain ⟨l, hl, hV⟩ := asAgg_sound ha hvx
    obtain ⟨hlt, k, hk⟩ := idx_sound hj hvi
    refine does_val B w0 h fun av hav => ?_
    obtain ⟨cv, h1, h2⟩ := part_sound hE hav hV w
    have h1' : (Go.part e l (j * sz)).run P w = .ok cv w := h1
    exact ⟨cv, by simp [Instr.index, asIntOf, run_underlying (und_sound hE hd), hl, hk, hlt, size_sound hE hs, h1'], h2⟩
  case string =>
    replace h := bind_some h; obtain ⟨s, ha, h⟩ := h
    replace h := bind_some h; obtain ⟨j, hj, h⟩ := h
    obtain ⟨tt, ht, hs⟩ := asStr_sound ha hvx
    obtain ⟨k, hk⟩ := asNat_sound hj hvi
    refine does_val B w0 h fun av hav => ?_
    obtain ⟨b, hb, hav⟩ := bind_some hav
    rw [mkNat_eq] at hav
    injection hav with hav
    subst hav hs
    simp only [List.getElem?_map, Option.map_eq_some_iff] at hb
    obtain ⟨u, hu, rfl⟩ := hb
    have hg : tt[j]? = some u := by
      obtain ⟨hlt, hge⟩ := List.getElem?_eq_some_iff.1 hu
      have hlt' : j < tt.size := by rw [Array.length_toList] at hlt; exact hlt
      rw [getElem?_pos tt j hlt']
      exact congrArg some hge
    exact ⟨.int .u8 u.toNat, by simp [Instr.index, asIntOf, run_underlying (und_sound hE hd), ht, hk, hg], rfl⟩
theorem newPtr_sound (hG : Good B w0 ρ H w) {cs : AVs} {p : Nx × Heap} (h : newPtr H cs = some p) {l : Array Value} (hv : VRs ρ cs l.toList) (t : TypeId) :
    ∃ w' ρ', (newRow t l).run P w = .ok ⟨w.heap.size, 0, none⟩ w' ∧ Ren.le ρ ρ' ∧ Good B w0 ρ' p.2 w' ∧ NxR ρ' p.1 (.value (.pointer (some ⟨w.heap.size, 0, none⟩))) := by
  obtain ⟨ρ', h1, h2, h3⟩ := hG.new hv t l 0 0 (.inl rfl) (by intro j u hj; simpa using hj)
  have e : newPtr H cs = some (.val (.ptr (some ⟨H.next, 1, 0⟩)), H.new cs) := by cases H; rfl
  rw [e] at h
  injection h with h
  subst h
  exact ⟨_, ρ', rfl, h1, h2, _, rfl, _, rfl, _, rfl, _, h3, by simp, fun _ => by simp⟩
end
end Den
