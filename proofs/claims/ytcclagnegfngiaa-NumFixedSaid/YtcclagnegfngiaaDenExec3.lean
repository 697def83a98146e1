/- DEN, 12: building, calls; the operations all together. -/
import Derived.Test.YtcclagnegfngiaaDenExec2
import Derived.Laws.Rows
set_option autoImplicit false
set_option linter.unusedSimpArgs false
set_option linter.unusedVariables false
namespace Den
open Go Go.RowKit

section
variable {P : Program} {E : Env} {B : Nat} {w0 : World} {ρ : Ren} {H : Heap} {w : World} {A : Fr} {a : Act}

inductive PR (ρ : Ren) : List (Nat × AV) → List (Nat × Value) → Prop
  | nil : PR ρ [] []
  | cons {i : Nat} {x : AV} {y : Value} {l : List (Nat × AV)} {m : List (Nat × Value)} : VR ρ x y → PR ρ l m → PR ρ ((i, x) :: l) ((i, y) :: m)
theorem evParts_sound (hF : ∀ t, VR ρ (slot A t) (a.eval (.tmp t))) : ∀ {l : List (Nat × Operand)} {r : List (Nat × AV)}, evParts A l = some r →
    PR ρ r (l.map fun (i, x) => (i, a.eval x))
  | [], r, h => by simp [evParts] at h; subst h; exact .nil
  | (i, x) :: l, r, h => by
    simp only [evParts] at h
    replace h := bind_some h; obtain ⟨v, hv, h⟩ := h
    replace h := bind_some h; obtain ⟨vs, hvs, h⟩ := h
    injection h with h
    subst h
    exact .cons (ev1_sound hF hv) (evParts_sound hF hvs)
theorem sets_fold : ∀ (vs : AVs) (l : List Value), VRs ρ vs l → ∀ (k off : Nat) (cs : AVs) (cells : Array Value), VRs ρ cs cells.toList →
    VRs ρ (cs.sets (off + k) vs) ((l.zipIdx k).foldl (fun (cs : Array Value) (p : Value × Nat) => cs.setIfInBounds (off + p.2) p.1) cells).toList
  | .nil, l, h, k, off, cs, cells, hc => by simp [VRs] at h; subst h; simpa [AVs.sets] using hc
  | .cons x vs, l, h, k, off, cs, cells, hc => by
    obtain ⟨u, us, rfl, h1, h2⟩ := h
    simp only [AVs.sets, List.zipIdx_cons, List.foldl_cons]
    exact sets_fold vs us h2 (k + 1) off _ _ (by simpa using hc.set (off + k) h1)
theorem fold_arr (v : Array Value) (off : Nat) (cells : Array Value) :
    v.zipIdx.foldl (fun cs (x : Value × Nat) => match x with | (c, j) => cs.setIfInBounds (off + j) c) cells = (v.toList.zipIdx 0).foldl (fun (cs : Array Value) (p : Value × Nat) => cs.setIfInBounds (off + p.2) p.1) cells := by
  rw [← Array.foldl_toList]
  simp [Array.toList_zipIdx]
theorem fillA_sound {place : Nat → Option (Nat × Nat)} {cplace : Nat → Option (Nat × Nat)} (hp : ∀ i q, place i = some q → cplace i = some q) :
    ∀ {ps : List (Nat × AV)} {cps : List (Nat × Value)}, PR ρ ps cps →
    ∀ {cs r : AVs}, fillA place cs ps = some r → ∀ {cells : Array Value}, VRs ρ cs cells.toList → ∃ res, Instr.fill cplace cells cps = some res ∧ VRs ρ r res.toList := by
  intro ps cps hf
  induction hf with
  | nil => intro cs r h cells hc; simp [fillA] at h; subst h; exact ⟨cells, rfl, hc⟩
  | @cons i v cv ps cps hv _ ih =>
    intro cs r h cells hc
    simp only [fillA] at h
    replace h := bind_some h; obtain ⟨q, hq, h⟩ := h
    replace h := bind_some h; obtain ⟨cs2, hcs2, h⟩ := h
    obtain ⟨o, size⟩ := q
    simp only [fillOne] at hcs2
    obtain ⟨hsz, hcs2⟩ := guardO_some hcs2
    replace hcs2 := guardO_some hcs2; obtain ⟨hbd, hcs2⟩ := hcs2
    injection hcs2 with hcs2
    subst hcs2
    have hsz := beq_eq hsz
    have hbd := ble_le hbd
    have hbd' : o + v.cells.len ≤ cs.len := hbd
    have hl1 := hv.cells.length
    have hl2 := hc.length
    have hl1' : cv.cells.size = v.cells.len := by simpa using hl1
    have hl2' : cells.size = cs.len := by simpa using hl2
    have hset := sets_fold v.cells cv.cells.toList hv.cells 0 o cs cells hc
    obtain ⟨res, h1, h2⟩ := ih h (cells := (cv.cells.toList.zipIdx 0).foldl (fun (cs : Array Value) (p : Value × Nat) => cs.setIfInBounds (o + p.2) p.1) cells) (by simpa using hset)
    refine ⟨res, ?_, h2⟩
    rw [← h1, ← fold_arr]
    simp only [Instr.fill, hp _ _ hq]
    rw [if_neg (by simp; omega)]
theorem asAgg_zero {z : AV} {cs : AVs} (h : asAgg z = some cs) {cz : Value} (hz : VR ρ z cz) : VRs ρ cs cz.cells.toList := by
  obtain ⟨l, rfl, hl⟩ := asAgg_sound h hz
  exact hl
theorem places_run (hE : EnvOk P E) (w : World) : ∀ (fs : List Field) {l : List (Nat × Nat)}, placesA E fs = some l → (fs.mapM fun f => (do pure (f.offset, ← Go.sizeOf f.type) : Sem (Nat × Nat))).run P w = .ok l w
  | [], l, h => by simp [placesA] at h; subst h; rfl
  | f :: fs, l, h => by
    simp only [placesA] at h
    replace h := bind_some h; obtain ⟨s, hs, h⟩ := h
    replace h := bind_some h; obtain ⟨l', hl, h⟩ := h
    injection h with h
    subst h
    have ih := places_run hE w fs hl
    simp only [List.mapM_cons, Sem.run_bind, size_sound hE hs, Result.andThen_ok, Sem.run_pure, ih]
theorem build_sound (hE : EnvOk P E) (hG : Good B w0 ρ H w) (hF : ∀ t, VR ρ (slot A t) (a.eval (.tmp t))) {t : TypeId} {ps : Array (Nat × Operand)} {p : Nx × Heap} (h : xBuild E A H t ps = some p) :
    DoesS P B w0 ρ H (do pure (.value (← Instr.build t (ps.map fun (i, x) => (i, a.eval x))))) w p := by
  replace h := bind_some h; obtain ⟨d, hd, h⟩ := h
  replace h := bind_some h; obtain ⟨l, hl, h⟩ := h
  replace h := bind_some h; obtain ⟨z, hz, h⟩ := h
  replace h := bind_some h; obtain ⟨zc, hzc, h⟩ := h
  have ht := und_sound hE hd
  have hpr := evParts_sound hF hl
  obtain ⟨cz, g1, g2⟩ := zero_sound hE hz ρ w
  have g3 := asAgg_zero hzc g2
  have hlist : (ps.map fun (i, x) => (i, a.eval x)).toList = ps.toList.map fun (i, x) => (i, a.eval x) := Array.toList_map
  cases d with
  | struct fs =>
    replace h := bind_some h; obtain ⟨pl, hpl, h⟩ := h
    replace h := bind_some h; obtain ⟨cs, hcs, h⟩ := h
    injection h with h
    subst h
    obtain ⟨res, k1, k2⟩ := fillA_sound (cplace := fun i => pl.toArray[i]?) (fun i q hq => by simpa [placeStr] using hq) hpr hcs g3
    refine sameV B w0 (av := .agg cs) (cv := .agg res) ?_ ⟨res, rfl, k2⟩
    have hpr2 := places_run hE w fs.toList hpl
    have hm : (fs.mapM fun f => (do pure (f.offset, ← Go.sizeOf f.type) : Sem (Nat × Nat))).run P w = .ok pl.toArray w := by
      rw [Array.mapM_eq_mapM_toList, Sem.run_map, hpr2]
      rfl
    simp only [Instr.build, Sem.run_bind, g1, Result.andThen_ok, run_underlying ht, hm]
    rw [hlist, k1]
    rfl
  | array n e =>
    replace h := bind_some h; obtain ⟨sz, hsz, h⟩ := h
    replace h := bind_some h; obtain ⟨cs, hcs, h⟩ := h
    injection h with h
    subst h
    obtain ⟨res, k1, k2⟩ := fillA_sound (cplace := fun i => some (i * sz, sz)) (fun i q hq => hq) hpr hcs g3
    refine sameV B w0 (av := .agg cs) (cv := .agg res) ?_ ⟨res, rfl, k2⟩
    simp only [Instr.build, Sem.run_bind, g1, Result.andThen_ok, run_underlying ht, size_sound hE hsz]
    rw [hlist, k1]
    rfl
  | _ => cases h
theorem range_zero (z : Array Value) (n : Nat) : ((Array.range (n * z.size)).map (fun i => z[i % z.size]!)) = Builtin.zeroCells z n := rfl
theorem buildSlice_sound (hE : EnvOk P E) (hG : Good B w0 ρ H w) (hF : ∀ t, VR ρ (slot A t) (a.eval (.tmp t))) {t : TypeId} {n : Nat} {ps : Array (Nat × Operand)} {p : Nx × Heap} (h : xBuildSlice E A H t n ps = some p) :
    Does P B w0 ρ (do pure (.value (← Instr.buildSlice t n (ps.map fun (i, x) => (i, a.eval x))))) w p := by
  replace h := bind_some h; obtain ⟨e, he, h⟩ := h
  replace h := bind_some h; obtain ⟨l, hl, h⟩ := h
  replace h := bind_some h; obtain ⟨sz, hsz, h⟩ := h
  replace h := bind_some h; obtain ⟨z, hz, h⟩ := h
  replace h := guardO_some h; obtain ⟨hzl, h⟩ := h
  replace h := guardO_some h; obtain ⟨hmax, h⟩ := h
  replace h := bind_some h; obtain ⟨cs, hcs, h⟩ := h
  have ht := sliceElem_sound hE he
  have hpr := evParts_sound hF hl
  obtain ⟨cz, g1, g2⟩ := zero_sound hE hz ρ w
  have hzl := beq_eq hzl
  have hcl := g2.cells.length
  have hcz : cz.cells.size = sz := by simp at hcl; omega
  have hmax' : n * sz ≤ 16777216 := ble_le hmax
  have hrep := g2.cells.rep n
  have hlist : (ps.map fun (i, x) => (i, a.eval x)).toList = ps.toList.map fun (i, x) => (i, a.eval x) := Array.toList_map
  obtain ⟨res, k1, k2⟩ := fillA_sound (cplace := fun i => some (i * sz, sz)) (fun i q hq => hq) hpr hcs (cells := Builtin.zeroCells cz.cells n) (by rw [zeroCells_list]; exact hrep)
  refine does_valH h fun q hq => ?_
  obtain ⟨ρ', m1, m2, m3⟩ := newSl_open hG k2 e res 0 0 (.inl rfl) (fun j u hj => by simpa using hj) (c := n) rfl hq
  refine ⟨_, _, ρ', ?_, m1, m2, m3⟩
  by_cases h0 : n * sz = 0
  · have e1 : Builtin.zeroCells cz.cells n = (Array.range (n * sz)).map (fun i => (#[] : Array Value)[i % (#[] : Array Value).size]!) := by
      rw [h0]; simp [Builtin.zeroCells, hcz, h0]
    rw [e1] at k1
    simp [Instr.buildSlice, run_underlying ht, size_sound hE hsz, show ¬ (16777216 < n * sz) by omega, h0, hlist]
    rw [h0] at k1
    simp at k1
    rw [k1]
    rfl
  · have e1 : Builtin.zeroCells cz.cells n = (Array.range (n * sz)).map (fun i => cz.cells[i % cz.cells.size]!) := by rw [← hcz]; rfl
    rw [e1] at k1
    simp [Instr.buildSlice, run_underlying ht, size_sound hE hsz, show ¬ (16777216 < n * sz) by omega, h0, g1, hlist]
    rw [k1]
    rfl
theorem makeSlice_sound (hE : EnvOk P E) (hG : Good B w0 ρ H w) (hF : ∀ t, VR ρ (slot A t) (a.eval (.tmp t))) {t : TypeId} {l c : Operand} {p : Nx × Heap} (h : xMakeSlice E A H t l c = some p) :
    Does P B w0 ρ (do pure (.value (← Instr.makeSlice t (a.eval l) (a.eval c)))) w p := by
  replace h := bind_some h; obtain ⟨e, he, h⟩ := h
  replace h := bind_some h; obtain ⟨lv, hlv, h⟩ := h
  replace h := bind_some h; obtain ⟨cv, hcv, h⟩ := h
  replace h := bind_some h; obtain ⟨ln, hln, h⟩ := h
  replace h := bind_some h; obtain ⟨cn, hcn, h⟩ := h
  replace h := bind_some h; obtain ⟨by_, hby, h⟩ := h
  replace h := bind_some h; obtain ⟨sz, hsz, h⟩ := h
  replace h := bind_some h; obtain ⟨z, hz, h⟩ := h
  replace h := guardO_some h; obtain ⟨hzl, h⟩ := h
  replace h := guardO_some h; obtain ⟨hlc, h⟩ := h
  replace h := guardO_some h; obtain ⟨hroom, h⟩ := h
  replace h := guardO_some h; obtain ⟨hc63, h⟩ := h
  have ht := sliceElem_sound hE he
  obtain ⟨k1, hk1⟩ := asNat_sound hln (ev1_sound hF hlv)
  obtain ⟨k2, hk2⟩ := asNat_sound hcn (ev1_sound hF hcv)
  obtain ⟨i, hi, hib⟩ := bytes_sound hE hby
  obtain ⟨cz, g1, g2⟩ := zero_sound hE hz ρ w
  have hzl := beq_eq hzl
  have hcl := g2.cells.length
  have hcz : cz.cells.size = sz := by simp at hcl; omega
  have hlc := ble_le hlc
  have hc63 := ble_le hc63
  have hroom' : cn * by_ ≤ 140737488355328 := ble_le hroom
  have hw1 : IntKind.i64.wrap (ln : Int) = ln := wrap_small .i64 ln (by simp only [topF]; omega)
  have hw2 : IntKind.i64.wrap (cn : Int) = cn := wrap_small .i64 cn (by simp only [topF]; omega)
  have hrep := g2.cells.rep cn
  refine does_valH h fun q hq => ?_
  obtain ⟨ρ', m1, m2, m3⟩ := newSl_open hG hrep e (Builtin.zeroCells cz.cells cn) 0 0 (.inl rfl) (fun j u hj => by rw [← zeroCells_list, Array.getElem?_toList] at hj; exact hj) (c := cn) rfl hq
  refine ⟨_, _, ρ', ?_, m1, m2, m3⟩
  have hbig : ¬ (281474976710656 < (by_ : Int) * (cn : Int)) := by
    have h2 : (by_ : Int) * (cn : Int) = ((cn * by_ : Nat) : Int) := by rw [Nat.mul_comm]; exact (Int.natCast_mul by_ cn).symm
    rw [h2]
    omega
  have hneg : ¬ ((cn : Int) < 0) := by omega
  have hneg2 : ¬ ((ln : Int) < 0) := by omega
  have hle : ¬ ((cn : Int) < (ln : Int)) := by omega
  by_cases h0 : cn * sz = 0
  · have e1 : Builtin.zeroCells cz.cells cn = #[] := by simp [Builtin.zeroCells, hcz, h0]
    rw [e1]
    simp [Instr.makeSlice, run_underlying ht, hk1, hk2, asInt, asIntOf, info_run hi, hib, hw1, hw2, hbig, hneg, hneg2, hle, size_sound hE hsz, h0, newRow]
    have e2 : Array.map (fun _ : Nat => (default : Value)) (Array.range 0) = #[] := by apply Array.ext'; rw [Array.toList_map, Array.toList_range]; rfl
    rw [e2]
  · have e1 : Builtin.zeroCells cz.cells cn = (Array.range (cn * sz)).map (fun i => cz.cells[i % cz.cells.size]!) := by rw [← hcz]; rfl
    rw [e1]
    simp [Instr.makeSlice, run_underlying ht, hk1, hk2, asInt, asIntOf, info_run hi, hib, hw1, hw2, hbig, hneg, hneg2, hle, size_sound hE hsz, h0, g1, newRow]

theorem newVar_sound (hG : Good B w0 ρ H w) {cs : AVs} {p : Nx × Heap} (h : newPtr H cs = some p) {v : Value} (hv : VRs ρ cs v.cells.toList) (t : TypeId) :
    Does P B w0 ρ (do pure (.value (.pointer (some (← newVar t v))))) w p := by
  obtain ⟨w', ρ', h1, h2, h3, h4⟩ := newPtr_sound (P := P) hG h hv t
  exact ⟨_, w', ρ', by simp [newVar, h1], h2, h3, h4⟩
theorem makeFunc_sound (hG : Good B w0 ρ H w) (hF : ∀ t, VR ρ (slot A t) (a.eval (.tmp t))) {fn : Fn} {first captured : Array Operand} {p : Nx × Heap} (h : xMakeFunc A H fn first captured = some p) :
    DoesS P B w0 ρ H (do pure (.value (← Instr.makeFunc fn (first.map a.eval) (captured.map a.eval)))) w p := by
  cases fn with
  | func f =>
    simp only [xMakeFunc] at h
    replace h := bind_some h; obtain ⟨x, hx, h⟩ := h
    replace h := bind_some h; obtain ⟨y, hy, h⟩ := h
    injection h with h
    subst h
    refine sameV B w0 (av := .fn f x y) (cv := .func (.func f) (first.map a.eval) (captured.map a.eval)) rfl ⟨_, _, rfl, ?_, ?_⟩
    · rw [Array.toList_map]; exact evL_sound hF hx
    · rw [Array.toList_map]; exact evL_sound hF hy
  | _ => cases h
theorem arrPtr_sound (hE : EnvOk P E) (hG : Good B w0 ρ H w) (hF : ∀ t, VR ρ (slot A t) (a.eval (.tmp t))) {t : TypeId} {x : Operand} {p : Nx × Heap} (h : xArrPtr E A H t x = some p) :
    DoesS P B w0 ρ H (do pure (.value (← Instr.arrayAt t (a.eval x)))) w p := by
  replace h := bind_some h; obtain ⟨d, hd, h⟩ := h
  replace h := bind_some h; obtain ⟨v, hv, h⟩ := h
  replace h := bind_some h; obtain ⟨s, hs, h⟩ := h
  replace h := bind_some h; obtain ⟨ad, ha, h⟩ := h
  obtain ⟨ca, c, hca, hS⟩ := asSlice_sound hs (ev1_sound hF hv)
  cases d with
  | array n e =>
    replace h := guardO_some h; obtain ⟨hle, h⟩ := h
    injection h with h
    subst h
    have hle := ble_le hle
    obtain ⟨s1, s2, s3⟩ := s
    simp only at ha hle hca
    subst ha
    obtain ⟨y, rfl, hA, _⟩ := hS
    refine sameV B w0 (av := .ptr (some ad)) (cv := .pointer (some y)) ?_ ⟨_, rfl, y, rfl, hA⟩
    simp [Instr.arrayAt, run_underlying (und_sound hE hd), hca, show ¬ s2 < n by omega]
  | _ => cases h
theorem store_sound (hE : EnvOk P E) (hG : Good B w0 ρ H w) (hF : ∀ t, VR ρ (slot A t) (a.eval (.tmp t))) {t : TypeId} {x y : Operand} {p : Nx × Heap} (h : xStore E A H t x y = some p) :
    Does P B w0 ρ (do Instr.storeAt t (a.eval x) (a.eval y); pure .skip) w p := by
  replace h := bind_some h; obtain ⟨u, hu, h⟩ := h
  replace h := bind_some h; obtain ⟨v, hv, h⟩ := h
  replace h := bind_some h; obtain ⟨ad, ha, h⟩ := h
  replace h := bind_some h; obtain ⟨H', hst, h⟩ := h
  injection h with h
  subst h
  obtain ⟨ca, hca, hA⟩ := asPtr_sound ha (ev1_sound hF hu)
  obtain ⟨w1, k1, k2⟩ := stVar_sound hE hG hst hA (ev1_sound hF hv)
  exact ⟨.skip, w1, ρ, by simp [Instr.storeAt, hca, Instr.sureAddr, k1], Ren.le_refl ρ, k2, rfl⟩
theorem callFunc_run {f : FuncId} {fu : Func} (hf : P.funcs[f]? = some fu) (hn : (fu.name == "runtime.NumGoroutine") = false) (hb : fu.body.isSome = true) (args : Array Value) (w : World) : (callFunc f args).run P w = .ok (.enter f args) w := by
  have hb' : fu.body.isNone = false := by cases h : fu.body <;> simp_all
  unfold callFunc
  simp only [Sem.run_bind, run_program, Result.andThen_ok, hf, hn, hb', Bool.false_eq_true, if_false]
  rfl
theorem call_sound (hE : EnvOk P E) (hG : Good B w0 ρ H w) (hF : ∀ t, VR ρ (slot A t) (a.eval (.tmp t))) {c : Call} {p : Nx × Heap} (h : xCall E A H c = some p) (hsome : ∀ f args, p.1 = .enter f args → ∃ fu, E.fns.get f = some fu ∧ fu.body.isSome = true) (ty : TypeId) :
    Does P B w0 ρ (do let d ← resolve a.eval c ty; invoke d.target d.args) w p := by
  replace h := bind_some h; obtain ⟨args, hargs, h⟩ := h
  have hv : VRs ρ args (c.args.map a.eval).toList := by rw [Array.toList_map]; exact evL_sound hF hargs
  obtain ⟨callee, cargs, argTypes⟩ := c
  cases callee with
  | invoke r m => cases h
  | builtin b =>
    have key := fun consts => builtinA_sound (P := P) hE hG h hv ty consts
    unfold Does at key ⊢
    simp only [resolve, Sem.run_bind, Sem.run_pure, Result.andThen_ok, invoke]
    exact key _
  | value f =>
    replace h := bind_some h; obtain ⟨fv, hfv, h⟩ := h
    have hvf := ev1_sound hF hfv
    cases fv with
    | fn g first captured =>
      injection h with h
      subst h
      obtain ⟨p', q', hf, h1, h2⟩ := hvf
      obtain ⟨fu, hfu, hbody⟩ := hsome _ _ rfl
      refine ⟨.enter g (p' ++ cargs.map a.eval ++ q'), w, ρ, ?_, Ren.le_refl ρ, hG, _, rfl, ?_⟩
      · simp only [resolve, hf, Deferred.ofValue, Sem.run_bind, Sem.run_pure, Result.andThen_ok, invoke]
        exact callFunc_run (hE.fns _ _ hfu) (hE.fname _ _ hfu hbody) hbody _ w
      · simpa using (h1.app hv).app h2
    | _ => cases h

/-- operations that leave the heap alone -/
theorem exec_early (hE : EnvOk P E) (hG : Good B w0 ρ H w) (hF : ∀ t, VR ρ (slot A t) (a.eval (.tmp t))) {o : Oper} {p : Nx × Heap} (h : execA E A H o.op = some p) (he : early E o.op = true) :
    DoesS P B w0 ρ H (execOp a.eval o) w p := by
  obtain ⟨dst, op, ty, pos, aft, g⟩ := o
  cases op <;> simp only [early] at he <;> (try (cases he; done)) <;> simp only [execA] at h <;> simp only [execOp]
  case move x =>
    obtain ⟨v, hv, h⟩ := bind_some h
    injection h with h
    subst h
    exact ⟨v, _, rfl, rfl, ev1_sound hF hv⟩
  case assign x =>
    obtain ⟨v, hv, h⟩ := bind_some h
    injection h with h
    subst h
    exact ⟨v, _, rfl, rfl, ev1_sound hF hv⟩
  case pick c x y =>
    replace h := bind_some h; obtain ⟨v, hv, h⟩ := h
    replace h := bind_some h; obtain ⟨t, ht, h⟩ := h
    have hc := asBoolA_sound ht (ev1_sound hF hv)
    replace h := bind_some h; obtain ⟨r, hr, h⟩ := h
    injection h with h
    subst h
    refine ⟨r, if t then a.eval x else a.eval y, rfl, by simp [hc, Go.asBool], ?_⟩
    cases t
    · exact ev1_sound hF hr
    · exact ev1_sound hF hr
  case build t ps => exact build_sound hE hG hF h
  case load t x =>
    refine does_val B w0 h fun av hav => ?_
    replace hav := bind_some hav; obtain ⟨v, hv, hav⟩ := hav
    replace hav := bind_some hav; obtain ⟨ad, ha, hav⟩ := hav
    obtain ⟨ca, hca, hA⟩ := asPtr_sound ha (ev1_sound hF hv)
    obtain ⟨cv, k1, k2⟩ := ldVar_sound hE hG hav hA
    exact ⟨cv, by simp [Instr.loadAt, hca, Instr.sureAddr, k1], k2⟩
  case nilCheck x =>
    obtain ⟨r, hr, h⟩ := bind_some h
    injection h with h
    subst h
    obtain ⟨v, hv, hr⟩ := bind_some hr
    obtain ⟨cv, k1, k2⟩ := nilCheck_sound (P := P) hG hr (ev1_sound hF hv)
    exact ⟨r, cv, rfl, k1, k2⟩
  case binOp op t x y u =>
    replace h := bind_some h; obtain ⟨v, hv, h⟩ := h
    replace h := bind_some h; obtain ⟨v2, hv2, h⟩ := h
    exact does_val B w0 h fun av hav => binOpA_sound hav (ev1_sound hF hv) (ev1_sound hF hv2) w
  case unOp op t x =>
    refine does_val B w0 h fun av hav => ?_
    replace hav := bind_some hav; obtain ⟨v, hv, hav⟩ := hav
    exact unOpA_sound hav (ev1_sound hF hv) w
  case convert src dst x =>
    refine convert_early hE hG hF h fun e hd => ?_
    rw [hd] at he
    cases he
  case sliceToArrayPointer t x => exact arrPtr_sound hE hG hF h
  case makeFunc fn x y => exact makeFunc_sound hG hF h
  case slice t x lo hi mx =>
    replace h := bind_some h; obtain ⟨v, hv, h⟩ := h
    replace h := bind_some h; obtain ⟨l', hl, h⟩ := h
    replace h := bind_some h; obtain ⟨h', hh, h⟩ := h
    replace h := bind_some h; obtain ⟨m', hm, h⟩ := h
    exact does_val B w0 h fun av hav => sliceA_sound hE hG hav (ev1_sound hF hv) (optR_of hF hl) (optR_of hF hh) (optR_of hF hm)
  case fieldAddr t x f => exact fieldAddr_sound hE hG hF h
  case field t x f => exact field_sound hE hG hF h
  case indexAddr t x i => exact indexAddr_sound hE hG hF h
  case index t x i => exact index_sound hE hG hF h
  case extract x i =>
    refine does_val B w0 h fun av hav => ?_
    replace hav := bind_some hav; obtain ⟨v, hv, hav⟩ := hav
    replace hav := bind_some hav; obtain ⟨vs, hvs, hav⟩ := hav
    obtain ⟨l, hl, hV⟩ := asTup_sound hvs (ev1_sound hF hv)
    obtain ⟨u, hu, hr⟩ := hV.get hav
    have hu' : l[i]? = some u := by simpa using hu
    exact ⟨u, by simp [Instr.extract, hl, hu'], hr⟩
  case call c =>
    replace h := bind_some h; obtain ⟨args, hargs, h⟩ := h
    have hv : VRs ρ args (c.args.map a.eval).toList := by rw [Array.toList_map]; exact evL_sound hF hargs
    obtain ⟨callee, cargs, argTypes⟩ := c
    cases callee with
    | builtin b =>
      have key := fun consts => builtin_early (P := P) (B := B) (w0 := w0) (w := w) hE he h hv ty consts
      unfold DoesS at key ⊢
      simp only [resolve, Sem.run_bind, Sem.run_pure, Result.andThen_ok, invoke]
      exact key _
    | invoke r m => cases he
    | value f => cases he

/-- ALL OPERATIONS -/
theorem exec_sound (hE : EnvOk P E) (hG : Good B w0 ρ H w) (hF : ∀ t, VR ρ (slot A t) (a.eval (.tmp t))) {o : Oper} {p : Nx × Heap} (h : execA E A H o.op = some p)
    (hsome : ∀ f args, p.1 = .enter f args → ∃ fu, E.fns.get f = some fu ∧ fu.body.isSome = true) : Does P B w0 ρ (execOp a.eval o) w p := by
  rcases (by cases early E o.op <;> simp : early E o.op = true ∨ early E o.op = false) with he | he
  · exact (exec_early hE hG hF h he).weak hG
  obtain ⟨dst, op, ty, pos, aft, g⟩ := o
  cases op <;> simp only [early] at he <;> (try (cases he; done)) <;> simp only [execA] at h <;> (try (cases h; done)) <;> simp only [execOp]
  case alloc t =>
    replace h := bind_some h; obtain ⟨z, hz, h⟩ := h
    obtain ⟨cz, g1, g2⟩ := zero_sound hE hz ρ w
    obtain ⟨nx, w', ρ', k1, k2⟩ := newVar_sound (P := P) hG h g2.cells t
    refine ⟨nx, w', ρ', ?_, k2⟩
    rw [← k1]
    simp [Instr.alloc, g1]
  case box t x =>
    replace h := bind_some h; obtain ⟨v, hv, h⟩ := h
    obtain ⟨nx, w', ρ', k1, k2⟩ := newVar_sound (P := P) hG h (ev1_sound hF hv).cells t
    refine ⟨nx, w', ρ', ?_, k2⟩
    rw [← k1]
    simp [Instr.box]
  case buildSlice t n ps => exact buildSlice_sound hE hG hF h
  case store t x y => exact store_sound hE hG hF h
  case convert src dst x => exact convert_sound hE hG hF h
  case makeSlice t x y => exact makeSlice_sound hE hG hF h
  case call c => exact call_sound hE hG hF h hsome ty
end
end Den
