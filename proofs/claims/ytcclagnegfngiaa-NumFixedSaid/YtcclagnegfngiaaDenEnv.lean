/- DEN: the tables of this seat's program as trees, written by a program of this session (inst.py), and that they are the program's. -/
import Derived.Test.YtcclagnegfngiaaChecked
import Derived.Test.YtcclagnegfngiaaDenRun
import Derived.KernelRfl
set_option autoImplicit false
namespace Den
open Go Go.Proofs

noncomputable def env : Env where
  info := (.node (.node (.node (.node (.node (.node (.node .nil (some Try.t63) .nil) (some Try.t31) .nil) (some Try.t15) (.node .nil (some Try.t47) .nil)) (some Try.t7) (.node (.node .nil (some Try.t39) .nil) (some Try.t23) (.node .nil (some Try.t55) .nil))) (some Try.t3) (.node (.node (.node .nil (some Try.t35) .nil) (some Try.t19) (.node .nil (some Try.t51) .nil)) (some Try.t11) (.node (.node .nil (some Try.t43) .nil) (some Try.t27) (.node .nil (some Try.t59) .nil)))) (some Try.t1) (.node (.node (.node (.node .nil (some Try.t33) .nil) (some Try.t17) (.node .nil (some Try.t49) .nil)) (some Try.t9) (.node (.node .nil (some Try.t41) .nil) (some Try.t25) (.node .nil (some Try.t57) .nil))) (some Try.t5) (.node (.node (.node .nil (some Try.t37) .nil) (some Try.t21) (.node .nil (some Try.t53) .nil)) (some Try.t13) (.node (.node .nil (some Try.t45) .nil) (some Try.t29) (.node .nil (some Try.t61) .nil))))) (some Try.t0) (.node (.node (.node (.node (.node .nil (some Try.t32) .nil) (some Try.t16) (.node .nil (some Try.t48) .nil)) (some Try.t8) (.node (.node .nil (some Try.t40) .nil) (some Try.t24) (.node .nil (some Try.t56) .nil))) (some Try.t4) (.node (.node (.node .nil (some Try.t36) .nil) (some Try.t20) (.node .nil (some Try.t52) .nil)) (some Try.t12) (.node (.node .nil (some Try.t44) .nil) (some Try.t28) (.node .nil (some Try.t60) .nil)))) (some Try.t2) (.node (.node (.node (.node .nil (some Try.t34) .nil) (some Try.t18) (.node .nil (some Try.t50) .nil)) (some Try.t10) (.node (.node .nil (some Try.t42) .nil) (some Try.t26) (.node .nil (some Try.t58) .nil))) (some Try.t6) (.node (.node (.node .nil (some Try.t38) .nil) (some Try.t22) (.node .nil (some Try.t54) .nil)) (some Try.t14) (.node (.node .nil (some Try.t46) .nil) (some Try.t30) (.node .nil (some Try.t62) .nil))))))
  fns := (.node (.node (.node (.node (.node (.node .nil (some Try.f31) .nil) (some Try.f15) .nil) (some Try.f7) (.node .nil (some Try.f23) .nil)) (some Try.f3) (.node (.node (.node .nil (some Try.f35) .nil) (some Try.f19) .nil) (some Try.f11) (.node .nil (some Try.f27) .nil))) (some Try.f1) (.node (.node (.node (.node .nil (some Try.f33) .nil) (some Try.f17) .nil) (some Try.f9) (.node .nil (some Try.f25) .nil)) (some Try.f5) (.node (.node (.node .nil (some Try.f37) .nil) (some Try.f21) .nil) (some Try.f13) (.node .nil (some Try.f29) .nil)))) (some Try.f0) (.node (.node (.node (.node (.node .nil (some Try.f32) .nil) (some Try.f16) .nil) (some Try.f8) (.node .nil (some Try.f24) .nil)) (some Try.f4) (.node (.node (.node .nil (some Try.f36) .nil) (some Try.f20) .nil) (some Try.f12) (.node .nil (some Try.f28) .nil))) (some Try.f2) (.node (.node (.node (.node .nil (some Try.f34) .nil) (some Try.f18) .nil) (some Try.f10) (.node .nil (some Try.f26) .nil)) (some Try.f6) (.node (.node (.node .nil (some Try.f38) .nil) (some Try.f22) .nil) (some Try.f14) (.node .nil (some Try.f30) .nil)))))

def Tr.toL {α : Type} : Tr α → List (Nat × α)
  | .nil => []
  | .node l v r => (match v with | some x => [(0, x)] | none => []) ++ (l.toL.map fun p => (2 * p.1 + 1, p.2)) ++ (r.toL.map fun p => (2 * p.1 + 2, p.2))
theorem Tr.get_mem {α : Type} : ∀ (t : Tr α) (n : Nat) (x : α), t.get n = some x → (n, x) ∈ t.toL
  | .nil, n, x, h => by rw [Tr.get_nil] at h; cases h
  | .node l v r, n, x, h => by
    rw [Tr.get_node] at h
    simp only [Tr.toL, List.mem_append, List.mem_map]
    by_cases h0 : n = 0
    · rw [if_pos h0] at h
      subst h0 h
      exact .inl (.inl (by simp))
    · rw [if_neg h0] at h
      by_cases h1 : n % 2 = 1
      · rw [if_pos h1] at h
        exact .inl (.inr ⟨_, Tr.get_mem l _ x h, by simp only [Prod.mk.injEq, and_true]; omega⟩)
      · rw [if_neg h1] at h
        exact .inr ⟨_, Tr.get_mem r _ x h, by simp only [Prod.mk.injEq, and_true]; omega⟩
theorem of_maps {α β : Type} {f g : α → β} {l : List α} (h : l.map f = l.map g) {a : α} (ha : a ∈ l) : f a = g a := List.map_eq_map_iff.1 h a ha

theorem env_info : (env.info.toL.map fun p => Try.prog.info? p.1) = env.info.toL.map fun p => some p.2 := by kernel_rfl
theorem env_fns : (env.fns.toL.map fun p => Try.prog.funcs[p.1]?) = env.fns.toL.map fun p => some p.2 := by kernel_rfl
theorem env_names : (env.fns.toL.all fun p => !(p.2.name == "runtime.NumGoroutine")) = true := by kernel_rfl
theorem env_ok : EnvOk Try.prog env where
  info t i h := of_maps env_info (Tr.get_mem _ t i h)
  fns f fu h := of_maps env_fns (Tr.get_mem _ f fu h)
  fname f fu h _ := by
    have := List.all_eq_true.1 env_names _ (Tr.get_mem _ f fu h)
    simpa using this
  mixed := Try.checked.mixed
end Den
