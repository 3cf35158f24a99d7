/- A part of the proof of the claim of this folder (Draw6). -/
import Derived.Test.YtoiipnendgggoaaGreatDoorDraw5
set_option autoImplicit true
set_option relaxedAutoImplicit true
set_option linter.all false
set_option linter.deprecated false
set_option linter.unnecessarySimpa false
set_option linter.unusedSectionVars false
set_option linter.unusedSimpArgs false
set_option linter.unusedVariables false
/-! Whatever order is drawn: the region. -/
namespace Go.AM
variable [G : Ground]
variable {P : Program}

theorem semAt_plain {r : Option Nat} {ρ : Operand → Value} {o : Oper} {aop : AOp} (h : compileOp P o.op = some aop) : o.semAt r ρ = execOp ρ o := Oper.semAt_eq _ _ _ (compileOp_noDefer h)

section
variable {call : Caller} {r : Option Nat} {N B : Nat} {ops : Array Oper} {preds : List (List Nat)} {ds : List DOper} {T : Nat → Tmps} {H : Nat → AHeap} {hi : Nat → List AHeap} {μ0 : Mu} {a0 : Act} {w0 : World}
  {p : Nat} {μ μp : Mu} {pl : Nat → Place} {ls : Array Bool} {a : Act} {w : World}

theorem Inv.freshId (cx : Cx P call r N B ops preds ds T H hi μ0 a0 w0) (h : Inv P N ops preds ds T H μ0 a0 w0 p μ μp pl ls a w) {j : Nat} {d : DOper} (hd : ds[j]? = some d) (hj : p ≤ j)
    (hun : ls.getD d.at_ false = false) (hal : Al H j) : μp (H j).next = none := by
  cases hm : μp (H j).next with
  | none => rfl
  | some q =>
    exfalso
    have hjn : j ≤ ds.length := Nat.le_of_lt (lt_of_get hd)
    rcases h.ext _ q hm with h1 | ⟨k, e, hk, hle, hl, hak, hid, -⟩
    · rw [(h.hr.top _ (cx.run.next hj hjn)).2] at h1; cases h1
    · have hkj : k ≠ j := by
        intro e'; subst e'; rw [hd] at hk; cases hk; rw [hun] at hl; cases hl
      have a1 := cx.run.next1 hk
      have a2 := cx.run.next1 hd
      have a3 : (H (k + 1)).next ≠ (H k).next := hak
      have a4 : (H (j + 1)).next ≠ (H j).next := hal
      rcases Nat.lt_or_ge k j with hlt | hge
      · have := cx.run.next (j := k + 1) (k := j) hlt hjn; omega
      · have := cx.run.next (j := j + 1) (k := k) (by omega) (Nat.le_of_lt (lt_of_get hk)); omega

/-- An operation that is no write. -/
theorem Inv.quietStep (cx : Cx P call r N B ops preds ds T H hi μ0 a0 w0) (h : Inv P N ops preds ds T H μ0 a0 w0 p μ μp pl ls a w) {j : Nat} {d : DOper} (hd : ds[j]? = some d) (hj : p ≤ j)
    (hun : ls.getD d.at_ false = false) (hr : ∀ x ∈ preds.getD d.at_ [], ls.getD x false = true) (he : d.eff = false) {K : Act → World → Prop} {Q : Exit → Act → World → Prop}
    (hK : ∀ μp' pl' a' w', Inv P N ops preds ds T H μ0 a0 w0 p μ μp' pl' (ls.setIfInBounds d.at_ true) a' w' → K a' w') : wpOpIn (FF r) 0 P ops Q d.at_ K a w := by
  obtain ⟨o, ho, hdo⟩ := cx.op j d hd
  obtain ⟨hE, hS⟩ := cx.run j d hd
  have hjn : j < ds.length := lt_of_get hd
  have hget : ops.getD d.at_ default = o := by rw [Array.getD_eq_getD_getElem?, ho]; rfl
  rcases compileOper_cases (P := P) N ops o with ⟨aop, g, hop, hg, hdst, hshape⟩ | hfail
  case inr =>
    rw [hdo, hfail] at hE
    simp [failOp, effA] at hE
    rw [hE] at he; cases he
  rw [← hdo] at hshape
  have hd1 : d.o.dst = o.dst := by rw [hshape]
  have hd2 : d.o.op = aop := by rw [hshape]
  have hd3 : d.o.guard = g := by rw [hshape]
  have hea : effA aop = false := by rw [← hd2, ← hE]; exact he
  -- the slots at which it looks, alone
  obtain ⟨T', hT'⟩ := tabulate (lookAll ops d) (fun i => (T j).at i)
  let b : Act := { tmps := (Array.range N).map (fun s => if s ∈ lookAll ops d then a.tmps.getD s undef else undef), defers := a.defers }
  have hbsz : b.tmps.size = a.tmps.size := by rw [h.size]; simp [b]
  have hbget : ∀ s, b.tmps.getD s undef = if s ∈ lookAll ops d then a.tmps.getD s undef else undef := by
    intro s
    by_cases hs : s < N
    · simp [b, hs]
    · have : a.tmps.getD s undef = undef := by
        rw [Array.getD_eq_getD_getElem?, Array.getElem?_eq_none (by rw [h.size]; omega)]; rfl
      rw [this]
      simp [b, hs]
  have hlook : ∀ s ∈ o.looksAt ops, s ∈ lookAll ops d := fun s hs => List.mem_append_right _ (by rw [hget]; exact hs)
  have hagree : ∀ s ∈ o.looksAt ops, a.tmps.getD s undef = b.tmps.getD s undef := fun s hs => by rw [hbget, if_pos (hlook s hs)]
  have hTR : TR μp T' b.tmps := by
    intro i
    rw [hT', hbget]
    by_cases hi' : i ∈ lookAll ops d
    · rw [if_pos hi', if_pos hi']; exact h.lookVR cx hd hj hun hr hi'
    · rw [if_neg hi', if_neg hi']; exact .undef
  have hreads : ∀ x ∈ aop.reads, (T j).eval x = T'.eval x := by
    intro x hx
    cases x with
    | const c => rfl
    | tmp t =>
      have : t ∈ lookAll ops d := by
        unfold lookAll AOper.slots
        exact List.mem_append_left _ (List.mem_append_right _ (List.mem_filterMap.2 ⟨.tmp t, by rw [hd2]; exact hx, rfl⟩))
      show (T j).at t = T'.at t
      rw [hT', if_pos this]
  have hw1 : Region.wanted o (yielded ops a.tmps) = Region.wanted o (yielded ops b.tmps) := wanted_congr hbsz.symm hagree
  have hw2 : Region.wanted o (yielded ops b.tmps) = wantedA T' g := wanted_eq hTR hg
  have hw3 : wantedA T' g = wantedA (T j) g := by
    cases g with
    | none => rfl
    | some tw =>
      obtain ⟨t, want⟩ := tw
      have : t ∈ lookAll ops d := by
        unfold lookAll AOper.slots
        exact List.mem_append_left _ (List.mem_append_left _ (by rw [hd3]; simp))
      simp only [wantedA]
      rw [hT', if_pos this]
  have hw : Region.wanted o (yielded ops a.tmps) = wantedA (T j) g := hw1.trans (hw2.trans hw3)
  have hex : execOp a.eval o = execOp b.eval o := exec_congr hop hagree
  have hdN : ∀ s, d.o.dst = some s → s < N := fun s hs => by
    rw [hd1] at hs
    rw [hs] at hdst
    simpa [dstOk] using hdst
  unfold wpOpIn
  simp only [ho]
  rw [hw]
  generalize hH1 : H (j + 1) = H1, hT1 : T (j + 1) = T1, hh1 : hi (j + 1) = h1 at hS
  cases hS with
  | eff T' H' he' => rw [he] at he'; cases he'
  | on v H' he' hwt hv hok hel hf =>
    rw [hd3] at hwt
    rw [hwt, if_pos rfl]
    rw [hd2] at hv
    have hslot : ∀ s, d.o.dst = some s → (T (j + 1)).at s = v := by
      intro s hs
      rw [hT1, hs]; exact Tmps.at_set_same _ _ _
    refine ⟨about_triv _ _ _, ?_⟩
    rw [semAt_plain hop, hex]
    cases hal : isAlloc aop with
    | true =>
      have hv' : evalOp T' (H j) aop = some (v, H1) := by rw [← evalOp_congr hreads]; exact hv
      have hout := sim_out (o := o) (a := b) (w := w) hTR (fun hc => by rw [hal] at hc; cases hc) hop hv'
      cases hout with
      | quiet _ hc _ => rw [hal] at hc; cases hc
      | loud hc _ _ => rw [hea] at hc; cases hc
      | alloc _ _ hA =>
        obtain ⟨cv, w', ob, n, x, hx, hrun, hm, hrel⟩ := hA
        have hAl : Al H j := by unfold Al; rw [hH1, hx]; simp
        have hnone := h.freshId cx hd hj hun hAl
        have hle := Mu.le_put μp ⟨w.heap.size, 0, n⟩ hnone
        obtain ⟨r1, r2⟩ := hrel _ hle (Mu.put_same _ _ _)
        rw [hrun]
        show K (a.put o.dst cv) w'
        rw [← hd1]
        exact hK _ _ _ _ (h.add cx hd hj hun hr he hle (.inr ⟨hAl, ob, n, x, hm, rfl, rfl, by rw [hH1, hx, AHeap.get_new_same], r1⟩) fun s hs => ⟨by rw [hslot s hs]; exact r2, hdN s hs⟩)
    | false =>
      have hq := evalOp_quiet hea hal hv
      subst hq
      obtain ⟨X, hX, hblk⟩ := h.reader cx hd hj hun hr (by rw [hd2]; exact hea) (by rw [hd2]; exact hal) (by rw [hd2]; exact hv) hok
      rw [hd2] at hX hblk
      have hX' : evalOp T' X aop = some (v, X) := by rw [← evalOp_congr hreads]; exact hX
      -- a heap of that one block
      obtain ⟨Y, hY, hYe⟩ : ∃ Y, HR P μp Y w ∧ evalOp T' Y aop = some (v, Y) := by
        by_cases hrd : ∃ x id, readsHeap aop = some x ∧ (T'.eval x).block? = some id
        · obtain ⟨x, id, h1, h2⟩ := hrd
          have hx : x ∈ aop.reads := by
            revert h1
            cases aop <;> simp [readsHeap, AOp.reads] <;> (try (intro e; simp [e]))
          refine ⟨lone1 ((H ds.length).next + id + 1) id (X.get id), h.lone cx id (X.get id) (hblk x id h1 (by rw [hreads x hx]; exact h2)), evalOp_read hea hal (fun x' id' h1' h2' => ?_) hX'⟩
          rw [h1] at h1'; cases h1'; rw [h2] at h2'; cases h2'
          rw [lone1_get, if_pos rfl]
        · refine ⟨lone1 ((H ds.length).next + 0 + 1) 0 none, h.lone cx 0 none (fun x hx => by cases hx), evalOp_read hea hal (fun x' id' h1' h2' => absurd ⟨x', id', h1', h2'⟩ hrd) hX'⟩
      have hout := sim_out (o := o) (a := b) (w := w) hTR (fun _ => hY) hop hYe
      cases hout with
      | alloc _ hc _ => rw [hal] at hc; cases hc
      | loud hc _ _ => rw [hea] at hc; cases hc
      | quiet _ _ hQ =>
        obtain ⟨-, cv, hrun, hcv⟩ := hQ
        rw [hrun]
        show K (a.put o.dst cv) w
        rw [← hd1]
        exact hK _ _ _ _ (h.add cx hd hj hun hr he (Mu.le_refl _) (.inl ⟨by unfold Al; rw [hH1]; simp, rfl, rfl, rfl⟩) fun s hs => ⟨by rw [hslot s hs]; exact hcv, hdN s hs⟩)
  | off he' hwt =>
    rw [hd3] at hwt
    rw [hwt, if_neg (by simp)]
    refine ⟨about_triv _ _ _, ?_⟩
    rw [← hd1]
    refine hK _ _ _ _ (h.add cx hd hj hun hr he (Mu.le_refl _) (.inl ⟨by unfold Al; rw [hH1]; simp, rfl, rfl, rfl⟩) fun s hs => ⟨?_, hdN s hs⟩)
    rw [hT1, hs]
    show VR μp (Tmps.at (PT.set (T j) s undefA) s) undef
    rw [Tmps.at_set_same]
    exact .undef
end
end Go.AM
