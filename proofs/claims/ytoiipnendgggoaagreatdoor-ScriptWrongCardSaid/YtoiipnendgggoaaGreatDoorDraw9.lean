/- A part of the proof of the claim of this folder (Draw9). -/
import Derived.Test.YtoiipnendgggoaaGreatDoorDraw8
set_option autoImplicit true
set_option relaxedAutoImplicit true
set_option linter.all false
set_option linter.deprecated false
set_option linter.unnecessarySimpa false
set_option linter.unusedSectionVars false
set_option linter.unusedSimpArgs false
set_option linter.unusedVariables false
/-! Every order; the machine is right. -/
namespace Go.AM
variable [G : Ground]
variable {P : Program}

/-- EVERY ORDER. -/
theorem sim_draw {call : Caller} (hm : P.follows .mixedOrders = true) (hcall : SimCall P call) : SimDraw P call := by
  intro N id ops l hcomp T0 H0 T1 H1 hdo r B μ a w st
  unfold compileDraw at hcomp
  simp only at hcomp
  split at hcomp
  case isFalse => cases hcomp
  rename_i hcond
  obtain ⟨⟨c1, c2⟩, ⟨c3, c4⟩, c5⟩ := hcond
  simp only [ACode.draw.injEq] at hcomp
  obtain ⟨T, H, hi, e1, e2, e3, e4, e5, e6⟩ := run_of l T0 H0 [H0] T1 H1 hdo
  rw [hcomp] at c1 c3 c4 c5
  have hop : ∀ (k : Nat) d, l[k]? = some d → (∃ o, ops[d.at_]? = some o ∧ d.o = compileOper P N ops o) ∧ d.eff = effA d.o.op := by
    intro k d hk
    have hlt := (facts c3 hk).lt
    rw [← hcomp] at hk
    unfold drawsOf at hk
    simp only [List.getElem?_map, Option.map_eq_some_iff] at hk
    obtain ⟨i, -, rfl⟩ := hk
    refine ⟨⟨ops[i], by simp, ?_⟩, rfl⟩
    have hlt' : i < ops.size := hlt
    simp [List.getD_eq_getElem?_getD, hlt']
  have hst : St P r N B μ T0 H0 a { w with drawn := w.drawn + 1 } := ⟨st.tr, st.size, st.hr.heapEq rfl, st.marks.turn (Turn.heapEq rfl), st.round⟩
  have cx : Cx P call r N B ops (predsFrom [] ops.toList) l T H hi μ a { w with drawn := w.drawn + 1 } :=
    ⟨c1, c2, c3, fun i hi' => by
      have := List.all_eq_true.1 c4 i (List.mem_range.2 hi')
      obtain ⟨d, hd, he⟩ := List.any_eq_true.1 this
      obtain ⟨k, hk⟩ := List.mem_iff_getElem?.1 hd
      exact ⟨k, d, hk, by simpa using he⟩, fun k d hk => (hop k d hk).1, fun k d hk => ⟨(hop k d hk).2, e6 k d hk⟩, by rw [e3, e2], by rw [e1, e2]; exact hst⟩
  have hlink : ∀ (k : Nat) d i o1, l[k]? = some d → d.swap = some (i, o1) → ∀ (j : Nat) p, l[j]? = some p → p.at_ = i → o1 = p.o := by
    intro k d i o1 hk hs j p hj hp
    rw [← hcomp] at hk hj
    unfold drawsOf at hk hj
    simp only [List.getElem?_map, Option.map_eq_some_iff] at hk hj
    obtain ⟨x, -, rfl⟩ := hk
    obtain ⟨y, -, rfl⟩ := hj
    simp only at hs hp ⊢
    subst hp
    split at hs
    · split at hs
      · simp only [Option.some.injEq, Prod.mk.injEq] at hs
        obtain ⟨rfl, rfl⟩ := hs
        rfl
      · simp at hs
    · simp at hs
  have hEff : ∀ (k : Nat) d, l[k]? = some d → d.eff = true → ∀ (j : Nat) p, l[j]? = some p → j < k → p.at_ ∈ (predsFrom [] ops.toList).getD d.at_ [] ∨ SwapAt l j p k d := by
    intro k d hk hde j p hj hjk
    have h1 := drawChecks_spec l [] c5 k d hk
    simp only [List.nil_append, effCheck, hde, Bool.not_true, Bool.false_or] at h1
    have h2 := List.all_eq_true.1 h1 p (mem_take_of hj hjk)
    simp only [Bool.or_eq_true, List.contains_iff_mem] at h2
    rcases h2 with h2 | h2
    · exact .inl h2
    · refine .inr ?_
      simp only [swapCheck, Bool.and_eq_true, decide_eq_true_eq, Option.isNone_iff_eq_none] at h2
      obtain ⟨g1, g2, g3, g4, g5, g6, g7, g8⟩ := h2
      have hkl : k < l.length := lt_of_get hk
      refine ⟨by rw [List.length_take, Nat.min_eq_left (Nat.le_of_lt hkl)] at g2; omega, ?_, g3, g4, g5, g6, g7, fun i x hx hji hik => ?_⟩
      · split at g1
        · rename_i i o1 hs
          have : i = p.at_ := by simpa using g1
          exact ⟨o1, by rw [hs, this]⟩
        · simp at g1
      · -- what stands behind p
        have hmem : x ∈ ((l.take k).dropWhile fun x => x.at_ != p.at_).drop 1 := by
          have key : ∀ (m : List DOper) (j i : Nat), m[j]? = some p → m[i]? = some x → j < i → (∀ (i' : Nat) y, m[i']? = some y → i' < j → y.at_ ≠ p.at_) → x ∈ (m.dropWhile fun x => x.at_ != p.at_).drop 1 := by
            intro m
            induction m with
            | nil => intro j i h; simp at h
            | cons y m ih =>
              intro j i hj hi' hji hne
              cases j with
              | zero =>
                simp at hj; subst hj
                rw [List.dropWhile_cons_of_neg (by simp)]
                obtain ⟨i0, rfl⟩ : ∃ i0, i = i0 + 1 := ⟨i - 1, by omega⟩
                simp at hi' ⊢
                exact List.mem_iff_getElem?.2 ⟨i0, hi'⟩
              | succ j =>
                have hy := hne 0 y (by simp) (by omega)
                rw [List.dropWhile_cons_of_pos (by simpa using hy)]
                obtain ⟨i0, rfl⟩ : ∃ i0, i = i0 + 1 := ⟨i - 1, by omega⟩
                exact ih j i0 (by simpa using hj) (by simpa using hi') (by omega) fun i' z hz hlt => hne (i' + 1) z (by simpa using hz) (by omega)
          refine key (l.take k) j i (by rw [List.getElem?_take, if_pos hjk]; exact hj) (by rw [List.getElem?_take, if_pos hik]; exact hx) hji fun i' y hy hlt => ?_
          rw [List.getElem?_take] at hy
          split at hy
          · exact (facts c3 hj).ne i' y hy hlt
          · simp at hy
        exact List.all_eq_true.1 g8 x hmem
  have unl : ∀ i, (Array.replicate ops.size false).getD i false = false := by
    intro i
    by_cases hi' : i < ops.size
    · simp [hi']
    · simp [hi']
  have fin : ∀ μ' a' w', St P r N B μ' (T l.length) (H l.length) a' w' → Turn μ μ' { w with drawn := w.drawn + 1 } w' → Post P r N B μ w .normal T1 H1 .normal a' w' := by
    intro μ' a' w' hs ht
    rw [e4, e5] at hs
    exact ⟨rfl, μ', hs, (Turn.heapEq (w := w) (w' := { w with drawn := w.drawn + 1 }) rfl).trans ht⟩
  refine wpIn_region_any hm (Inv.any cx hcall (fun μ' μp pl ls a' w' h => ?_) hEff (Inv.swap cx hcall hlink fin) ops.size 0 μ μ (fun _ => ⟨0, 0, 0⟩) _ a _ ?_ ?_)
  · have hturn : Turn μ μ' w w' := (Turn.heapEq (w := w) (w' := { w with drawn := w.drawn + 1 }) rfl).trans h.turn
    refine ⟨rfl, μ', ⟨fun s => ?_, h.size, by rw [← e5]; exact h.hr, ?_, fun l' hl' => ?_⟩, hturn⟩
    · have := h.rest s fun k d hk hle _ _ => absurd (lt_of_get hk) (by omega)
      rw [e4] at this
      exact this
    · rw [h.defs]; exact st.marks.turn hturn
    · obtain ⟨q, hq⟩ := st.round l' hl'
      exact hturn.kind l' q hq
  · refine ⟨Nat.zero_le _, by simp, fun i hi' => absurd hi' (by rw [unl]; simp), fun k d _ hlt => absurd hlt (by omega), fun k d _ _ hl => absurd hl (by rw [unl]; simp), .refl _ _, (by rw [e2]; exact hst.hr), Mu.le_refl _, fun id q hq => .inl hq,
      fun k d _ _ hl => absurd hl (by rw [unl]; simp), fun k d s _ _ hl => absurd hl (by rw [unl]; simp), fun s _ => (by rw [e1]; exact st.tr s), st.size, rfl⟩
  · exact Nat.le_trans List.countP_le_length (by simp)

/-- THE MACHINE IS RIGHT, drawn regions and all. -/
theorem sim_whole {E : Env} (hE : EnvOk P E) (hP : PrimsOk P E) {n f : Nat} {args : List AVal} {H : AHeap} {v : AVal} {H' : AHeap} (hp : E.prim f = none)
    (h : runF E n f args H = some (v, H')) {μ : Mu} {w : World} {cargs : List Value} (hH : HR P μ H w) (ha : VRs μ args cargs) :
    (callFunc f ⟨cargs⟩).run P w = .ok (.enter f ⟨cargs⟩) w ∧ CallsIn Fence.wide 0 P f ⟨cargs⟩ w (CallPost P μ w v H') :=
  sim_run hE hP (fun _ hex => sim_draw hE.mixed (sim_callA hE hP hex)) hp h hH ha
end Go.AM
