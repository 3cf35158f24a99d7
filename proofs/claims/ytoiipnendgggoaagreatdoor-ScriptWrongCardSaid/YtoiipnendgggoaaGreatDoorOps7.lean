/- A part of the proof of the claim of this folder (Ops7). -/
import Derived.Test.YtoiipnendgggoaaGreatDoorOps6
set_option autoImplicit true
set_option relaxedAutoImplicit true
set_option linter.all false
set_option linter.deprecated false
set_option linter.unnecessarySimpa false
set_option linter.unusedSectionVars false
set_option linter.unusedSimpArgs false
set_option linter.unusedVariables false
/-! Every operation but a call of a function. -/
namespace Go.AM
variable [G : Ground]
variable {P : Program} {μ : Mu} {H H' : AHeap} {w : World} {T : Tmps} {a : Act} {v : AVal} {o : Oper}

/-- What an operation comes to, by its kind. -/
inductive Out (P : Program) (μ : Mu) (w : World) (r : Result Next) (v : AVal) (H H' : AHeap) (aop : AOp) : Prop where
  | quiet (h1 : effA aop = false) (h2 : isAlloc aop = false) (h : Quiet P μ w r v H H')
  | alloc (h1 : effA aop = false) (h2 : isAlloc aop = true) (h : Alloc P μ w r v H H')
  | loud (h1 : effA aop = true) (h2 : isAlloc aop = false) (h : Done P μ w r v H')

theorem Out.done {r : Result Next} {aop : AOp} (h : Out P μ w r v H H' aop) (hH : HR P μ H w) : Done P μ w r v H' := by
  cases h with
  | quiet _ _ h => exact h.done hH
  | alloc _ _ h => exact h.done hH
  | loud _ _ h => exact h

theorem sim_lenConst (hH : HR P μ H w) {args : Array Operand} {ts : Array TypeId} {x : AOpd} {n : Nat}
    (ho : o.op = .call { callee := .builtin .len, args := args, argTypes := ts }) (ha : opdsA args.toList = some [x])
    (h0 : (∃ e, (ts[0]?).bind P.underlying = some (.array n e)) ∨ ∃ arr e, (ts[0]?).bind P.underlying = some (.pointer arr) ∧ P.underlying arr = some (.array n e))
    (he : evalOp T H (.mov (.const (.int .i64 n))) = some (v, H')) : Quiet P μ w ((execOp a.eval o).run P w) v H H' := by
  obtain ⟨p, rfl, hp⟩ := args1 ha
  simp [evalOp, Tmps.eval] at he
  obtain ⟨rfl, rfl⟩ := he
  refine Quiet.of_run (x := Builtin.len_ ts o.type #[a.eval p]) (by rw [exec_builtin ho]; simp [builtin]) ⟨rfl, .int .i64 n, ?_, .int _ _⟩
  have e0 : (#[a.eval p] : Array Value)[0]? = some (a.eval p) := rfl
  rcases h0 with ⟨e, h0⟩ | ⟨arr, e, h0, h1⟩
  · obtain ⟨t0, ht0, hd0⟩ := Option.bind_eq_some_iff.1 h0
    simp only [Builtin.len_, ht0, e0, Sem.run_bind, run_underlying hd0, Result.andThen_ok]
    rfl
  · obtain ⟨t0, ht0, hd0⟩ := Option.bind_eq_some_iff.1 h0
    simp only [Builtin.len_, ht0, e0, Sem.run_bind, run_underlying hd0, Result.andThen_ok]
    simp [run_underlying h1, goInt]

theorem sim_call (hT : TR μ T a.tmps) {c : Call} {aop : AOp} (hH : isAlloc aop = false → HR P μ H w) (ho : o.op = .call c) (hc : compileCall P c = some aop) (he : evalOp T H aop = some (v, H')) :
    Out P μ w ((execOp a.eval o).run P w) v H H' aop := by
  obtain ⟨callee, args, ts⟩ := c
  unfold compileCall at hc
  split at hc
  · simp at hc
  · rename_i xs hxs
    simp only at hc hxs
    split at hc
    · simp at hc; subst hc; simp [evalOp] at he
    · simp only [Option.map_eq_some_iff] at hc
      obtain ⟨y, _, rfl⟩ := hc
      simp [evalOp] at he
    · simp at hc
    · rename_i b
      split at hc
      · rename_i x n e heq
        simp at hc; subst hc
        exact .quiet rfl rfl (sim_lenConst (hH rfl) ho hxs (.inl ⟨e, heq⟩) he)
      · rename_i x arr heq
        split at hc
        · rename_i n e heq2
          simp at hc; subst hc
          exact .quiet rfl rfl (sim_lenConst (hH rfl) ho hxs (.inr ⟨arr, e, heq, heq2⟩) he)
        · simp at hc
      · rename_i x heq
        simp at hc; subst hc
        exact .quiet rfl rfl (sim_len hT (hH rfl) ho hxs heq (.inl ⟨rfl, rfl⟩) he)
      · rename_i x e heq
        simp at hc; subst hc
        exact .quiet rfl rfl (sim_len hT (hH rfl) ho hxs heq (.inr (.inl ⟨rfl, e, rfl⟩)) he)
      · rename_i x k e heq
        simp at hc; subst hc
        exact .quiet rfl rfl (sim_len hT (hH rfl) ho hxs heq (.inr (.inr ⟨rfl, k, e, rfl⟩)) he)
      · rename_i x e heq
        simp at hc; subst hc
        exact .quiet rfl rfl (sim_cap hT (hH rfl) ho hxs heq he)
      · rename_i x y e heq
        split at hc
        · rename_i z b' k hz hb h1
          split at hc <;> simp at hc
          rename_i hb0
          subst hc
          exact .loud rfl rfl (sim_appendZeros hT (hH rfl) ho hxs heq h1 hz hb hb0 he)
        · rename_i z b' e' hz hb h1
          split at hc <;> simp at hc
          rename_i hb0
          subst hc
          exact .loud rfl rfl (sim_append hT (hH rfl) ho hxs heq h1 (.inl ⟨e', rfl⟩) hz hb hb0 he)
        · rename_i z b' hz hb h1
          split at hc <;> simp at hc
          rename_i hb0
          subst hc
          exact .loud rfl rfl (sim_append hT (hH rfl) ho hxs heq h1 (.inr rfl) hz hb hb0 he)
        · simp at hc
      · rename_i x y e heq
        simp only [Option.map_eq_some_iff] at hc
        obtain ⟨s, hs, rfl⟩ := hc
        exact .loud rfl rfl (sim_copy hT (hH rfl) ho hxs heq hs he)
      · rename_i x e heq
        simp only [Option.map_eq_some_iff] at hc
        obtain ⟨z, hz, rfl⟩ := hc
        exact .loud rfl rfl (sim_clear hT (hH rfl) ho hxs heq hz he)
      · simp at hc; subst hc
        exact .quiet rfl rfl (sim_max hT (hH rfl) ho hxs he)
      · simp at hc; subst hc
        exact .quiet rfl rfl (sim_min hT (hH rfl) ho hxs he)
      · simp at hc

theorem sim_binOp (hT : TR μ T a.tmps) {op : BinOp} {t t' : TypeId} {x y : Operand} {x' y' : AOpd} {aop : AOp} (hH : isAlloc aop = false → HR P μ H w) (ho : o.op = .binOp op t x y t') (hx : opdA x = some x') (hy : opdA y = some y')
    (hc : compileBin P op t x' y' = some aop) (he : evalOp T H aop = some (v, H')) : Out P μ w ((execOp a.eval o).run P w) v H H' aop := by
  unfold compileBin at hc
  split at hc
  · simp at hc
  · split at hc
    · simp at hc; subst hc
      exact .quiet rfl rfl (sim_bin hT (hH rfl) ho hx hy he)
    · split at hc
      · rename_i neg hneg
        simp only [Option.map_eq_some_iff] at hc
        obtain ⟨k, hk, rfl⟩ := hc
        exact .quiet rfl rfl (sim_eq hT (hH rfl) hneg ho hx hy hk he)
      · simp at hc

theorem isU8 {e : TypeId} (h : (match P.underlying e with | some (.int .u8) => true | _ => false) = true) : P.underlying e = some (.int .u8) := by
  split at h
  · assumption
  · simp at h

theorem sim_conv (hT : TR μ T a.tmps) {s d : TypeId} {x : Operand} {x' : AOpd} {aop : AOp} (hH : isAlloc aop = false → HR P μ H w) (ho : o.op = .convert s d x) (hx : opdA x = some x')
    (hc : compileConv P s d x' = some aop) (he : evalOp T H aop = some (v, H')) : Out P μ w ((execOp a.eval o).run P w) v H H' aop := by
  unfold compileConv at hc
  split at hc
  · rename_i j k hs hd
    simp at hc; subst hc
    exact .quiet rfl rfl (sim_convInt hT (hH rfl) ho hx hs hd he)
  · rename_i hs hd
    simp at hc; subst hc
    exact .quiet rfl rfl (sim_same hT (hH rfl) ho hx hs hd he)
  · rename_i e hs hd
    split at hc <;> simp at hc
    rename_i hu
    subst hc
    exact .alloc rfl rfl (sim_strToBytes hT ho hx hs hd hu he)
  · rename_i e hs hd
    split at hc <;> simp at hc
    rename_i hu
    subst hc
    exact .quiet rfl rfl (sim_bytesToStr hT (hH rfl) ho hx hs hd hu he)
  · simp at hc

theorem optNone {x : Option Operand} (h : optA x = some none) : x = none := by
  cases x with
  | none => rfl
  | some y => simp [optA] at h

theorem optSome {x : Option Operand} {y : Option AOpd} (h : optA x = some y) : x.isSome = y.isSome := by
  cases x with
  | none => simp [optA] at h; subst h; rfl
  | some z =>
    simp only [optA, Option.map_eq_some_iff] at h
    obtain ⟨q, _, rfl⟩ := h
    rfl

/-- EVERY OPERATION BUT A CALL, BY ITS KIND. -/
theorem sim_out (hT : TR μ T a.tmps) {aop : AOp} (hH : isAlloc aop = false → HR P μ H w) (hc : compileOp P o.op = some aop) (he : evalOp T H aop = some (v, H')) :
    Out P μ w ((execOp a.eval o).run P w) v H H' aop := by
  generalize hop : o.op = op at hc
  unfold compileOp at hc
  split at hc
  · simp only [Option.map_eq_some_iff] at hc
    obtain ⟨y, hy, rfl⟩ := hc
    exact .quiet rfl rfl (sim_mov hT (hH rfl) (.inl hop) hy he)
  · simp only [Option.map_eq_some_iff] at hc
    obtain ⟨y, hy, rfl⟩ := hc
    exact .quiet rfl rfl (sim_mov hT (hH rfl) (.inr hop) hy he)
  · split at hc
    · rename_i h1 h2 h3
      simp at hc; subst hc
      exact .quiet rfl rfl (sim_pick hT (hH rfl) hop h1 h2 h3 he)
    · simp at hc
  · simp only [Option.map_eq_some_iff] at hc
    obtain ⟨z, hz, rfl⟩ := hc
    exact .alloc rfl rfl (sim_new hop hz he)
  · split at hc
    · rename_i h1 h2
      simp at hc; subst hc
      exact .alloc rfl rfl (sim_box hT hop h2 he)
    · simp at hc
  · split at hc
    · rename_i z fields hz hd
      split at hc
      · rename_i places hpl
        simp only [Option.map_eq_some_iff] at hc
        obtain ⟨ap, hap, rfl⟩ := hc
        exact .quiet rfl rfl (sim_build_struct hT (hH rfl) hop hz hd hpl hap he)
      · simp at hc
    · rename_i z n e hz hd
      split at hc
      · rename_i s hs
        simp only [Option.map_eq_some_iff] at hc
        obtain ⟨ap, hap, rfl⟩ := hc
        exact .quiet rfl rfl (sim_build_array hT (hH rfl) hop hz hd hs hap he)
      · simp at hc
    · simp at hc
  · split at hc
    · rename_i e hd
      split at hc
      · rename_i s z hs hz
        split at hc
        · rename_i hle
          simp only [Option.map_eq_some_iff] at hc
          obtain ⟨ap, hap, rfl⟩ := hc
          exact .alloc rfl rfl (sim_buildSlice hT hop hz hd hs hle hap he)
        · simp at hc
      · simp at hc
    · simp at hc
  · split at hc
    · rename_i kt et hd
      split at hc
      · rename_i h1 h2 h3 h4
        simp at hc; subst hc
        exact .loud rfl rfl (sim_mapSet hT (hH rfl) hop h2 h3 h4 hd h1 he)
      · simp at hc
    · simp at hc
  · split at hc
    · rename_i h1 h2 h3
      simp at hc; subst hc
      exact .quiet rfl rfl (sim_loadN hT (hH rfl) hop h3 h1 h2 he)
    · rename_i h1 h3
      simp at hc; subst hc
      exact .quiet rfl rfl (sim_load1 hT (hH rfl) hop h3 h1 he)
    · simp at hc
  · split at hc
    · rename_i h1 h2 h3
      simp at hc; subst hc
      exact .loud rfl rfl (sim_store hT (hH rfl) hop h2 h3 h1 he)
    · simp at hc
  · simp only [Option.map_eq_some_iff] at hc
    obtain ⟨y, hy, rfl⟩ := hc
    exact .quiet rfl rfl (sim_nilCheck hT (hH rfl) hop hy he)
  · split at hc
    · rename_i h1 h2
      exact sim_binOp hT hH hop h1 h2 hc he
    · simp at hc
  · simp only [Option.map_eq_some_iff] at hc
    obtain ⟨y, hy, rfl⟩ := hc
    exact .quiet rfl rfl (sim_un hT (hH rfl) hop hy he)
  · split at hc
    · rename_i h1
      exact sim_conv hT hH hop h1 hc he
    · simp at hc
  · split at hc
    · simp at hc
    · rename_i d x' hne hd hx
      simp at hc; subst hc
      exact .quiet rfl rfl (sim_iface hT (hH rfl) hop hx hd (fun ms e => hne ms (by rw [e])) he)
    · simp at hc
  · split at hc
    · rename_i h1 h2
      simp at hc; subst hc
      exact .quiet rfl rfl (sim_makeFunc hT (hH rfl) hop h1 h2 he)
    · simp at hc
  · simp at hc; subst hc
    exact .alloc rfl rfl (sim_makeMap hop he)
  · split at hc
    · rename_i e hd
      split at hc
      · rename_i z b l c hz hb hl hcp
        split at hc <;> simp at hc
        rename_i hb0
        subst hc
        exact .alloc rfl rfl (sim_makeSlice hT hop hl hcp hd hz hb hb0 he)
      · simp at hc
    · simp at hc
  · split at hc
    · rename_i x' lo' hi' mx' hx hlo hhi hmx
      split at hc
      · rename_i n e hd
        split at hc
        · rename_i s hs
          simp at hc; subst hc
          have := optNone hmx
          subst this
          exact .quiet rfl rfl (sim_sliceArr hT (hH rfl) hop hx hlo hhi hd hs he)
        · simp at hc
      · rename_i hd
        split at hc
        · simp at hc; subst hc
          have := optNone hmx
          subst this
          exact .quiet rfl rfl (sim_sliceStr hT (hH rfl) hop hx hlo hhi hd he)
        · simp at hc
      · rename_i e hd
        split at hc
        · simp at hc
        · rename_i hmh
          simp only [Option.map_eq_some_iff] at hc
          obtain ⟨s, hs, rfl⟩ := hc
          refine .quiet rfl rfl (sim_sliceSl hT (hH rfl) hop hx hlo hhi hmx ?_ hd hs he)
          rw [optSome hmx, optSome hhi]
          exact Bool.eq_false_iff.mpr hmh
      · simp at hc
    · simp at hc
  · split at hc
    · rename_i fields hd
      split at hc
      · rename_i f x' hf hx
        split at hc
        · rename_i s hs
          split at hc <;> simp at hc
          rename_i hs0
          subst hc
          exact .quiet rfl rfl (sim_addOff hT (hH rfl) hop hx hd hf hs hs0 he)
        · simp at hc
      · simp at hc
    · simp at hc
  · split at hc
    · rename_i fields hd
      split at hc
      · rename_i f x' hf hx
        split at hc
        · rename_i g s hg hs
          simp at hc; subst hc
          exact .quiet rfl rfl (sim_part hT (hH rfl) hop hx hd hf hg hs he)
        · simp at hc
      · simp at hc
    · simp at hc
  · split at hc
    · rename_i x' i' hx hi
      split at hc
      · rename_i n e hd
        simp only [Option.map_eq_some_iff] at hc
        obtain ⟨s, hs, rfl⟩ := hc
        exact .quiet rfl rfl (sim_idxAddrArr hT (hH rfl) hop hx hi hd hs he)
      · rename_i e hd
        simp only [Option.map_eq_some_iff] at hc
        obtain ⟨s, hs, rfl⟩ := hc
        exact .quiet rfl rfl (sim_idxAddrSl hT (hH rfl) hop hx hi hd hs he)
      · simp at hc
    · simp at hc
  · split at hc
    · rename_i x' i' hx hi
      split at hc
      · rename_i n e hd
        split at hc
        · rename_i g s hg hs
          simp at hc; subst hc
          exact .quiet rfl rfl (sim_idxArr hT (hH rfl) hop hx hi hd hs hg he)
        · simp at hc
      · rename_i hd
        simp at hc; subst hc
        exact .quiet rfl rfl (sim_idxStr hT (hH rfl) hop hx hi hd he)
      · simp at hc
    · simp at hc
  · split at hc
    · rename_i kt e m' k' hd hm hk
      split at hc
      · rename_i z hkt hz
        simp at hc; subst hc
        exact .quiet rfl rfl (sim_mapGet hT (hH rfl) hop hm hk hd hkt hz he)
      · simp at hc
    · simp at hc
  · simp only [Option.map_eq_some_iff] at hc
    obtain ⟨y, hy, rfl⟩ := hc
    exact .quiet rfl rfl (sim_extract hT (hH rfl) hop hy he)
  · exact sim_call hT hH hop hc he
  · simp at hc

/-- EVERY OPERATION BUT A CALL. -/
theorem sim_op (hT : TR μ T a.tmps) (hH : HR P μ H w) {aop : AOp} (hc : compileOp P o.op = some aop) (he : evalOp T H aop = some (v, H')) :
    Done P μ w ((execOp a.eval o).run P w) v H' := (sim_out hT (fun _ => hH) hc he).done hH
end Go.AM
