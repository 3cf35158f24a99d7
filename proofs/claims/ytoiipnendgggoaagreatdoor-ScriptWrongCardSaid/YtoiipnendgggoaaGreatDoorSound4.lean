/- A part of the proof of the claim of this folder (Sound4). -/
import Derived.Test.YtoiipnendgggoaaGreatDoorSound3
import Derived.TacticsIn
import Derived.LoopNIn
set_option autoImplicit true
set_option relaxedAutoImplicit true
set_option linter.all false
set_option linter.deprecated false
set_option linter.unnecessarySimpa false
set_option linter.unusedSectionVars false
set_option linter.unusedSimpArgs false
set_option linter.unusedVariables false
/-! The code. -/
namespace Go.AM
variable [G : Ground]
variable {P : Program}

theorem sim_opsList {call : Caller} (hcall : SimCall P call) {r : Option Nat} {N B : Nat} {ops : Array Oper} {Q : Exit → Act → World → Prop} {T1 : Tmps} {H1 : AHeap} :
    ∀ (l : List Oper) {μ : Mu} {T : Tmps} {H : AHeap} {a : Act} {w : World}, doOps call T H (l.map (compileOper P N ops)) = some (T1, H1) → St P r N B μ T H a w →
      (∀ a1 w1 μ1, St P r N B μ1 T1 H1 a1 w1 → Turn μ μ1 w w1 → Q .normal a1 w1) → wpListIn (FF r) 0 P ops Q l a w
  | [], μ, T, H, a, w, h, st, hQ => by
    simp [doOps] at h
    obtain ⟨rfl, rfl⟩ := h
    exact hQ a w μ st (.refl _ _)
  | o :: l, μ, T, H, a, w, h, st, hQ => by
    simp only [List.map_cons, doOps] at h
    split at h
    · rename_i T2 H2 h2
      refine wpListIn_step fun K hK => sim_oper hcall h2 st fun a2 w2 μ2 st2 ht2 => hK a2 w2 ?_
      exact sim_opsList hcall l h st2 fun a3 w3 μ3 st3 ht3 => hQ a3 w3 μ3 st3 (ht2.trans ht3)
    · simp at h

/-- Regions whose order is drawn. -/
def SimDraw (P : Program) (call : Caller) : Prop :=
  ∀ (N id : Nat) (ops : Array Oper) (l : List DOper), compileDraw P N ops = .draw l → ∀ (T : Tmps) (H : AHeap) (T1 : Tmps) (H1 : AHeap), doDraw call T H [H] l = some (T1, H1) →
    ∀ (r : Option Nat) (B : Nat) (μ : Mu) (a : Act) (w : World), St P r N B μ T H a w → (Code.region id ops true).wpIn (FF r) 0 P (Post P r N B μ w .normal T1 H1) a w

/-- Loops, round by round. -/
def SimLoop (P : Program) (m : Nat) (ex : Exec) : Prop :=
  ∀ (N : Nat) (b : Code) (T : Tmps) (H : AHeap) (e : AExit) (T' : Tmps) (H' : AHeap), ex (.loop (compile P N b)) T H = some (e, T', H') →
    ∀ (r : Option Nat) (B : Nat) (μ : Mu) (a : Act) (w : World), St P r N B μ T H a w → ∀ Q : Exit → Act → World → Prop, (∀ x a' w', Post P r N B μ w e T' H' x a' w' → Q x a' w') →
      Code.roundsIn (FF r) 0 P b Q m a w

theorem sim_loop {E : Env} {ih : Exec} {m : Nat} (hih : SimExec P ih) (hl : SimLoop P m ih) : SimLoop P (m + 1) (stepA E ih) := by
  intro N b T H e T' H' h r B μ a w st Q hQ
  simp only [stepA] at h
  split at h
  · rename_i e1 T1 H1 h1
    have hb := hih N b T H e1 T1 H1 h1 r B μ a w st
    rw [roundsIn_succ]
    refine wpIn_mono hb ?_
    rintro x a' w' ⟨rfl, μ1, st1, ht1⟩
    cases e1 with
    | normal =>
      rw [if_pos rfl] at h
      exact hl N b T1 H1 e T' H' h r B μ1 a' w' st1 Q fun x a2 w2 hp => hQ x a2 w2 (hp.base ht1)
    | ret =>
      rw [if_neg (by simp)] at h
      simp at h
      obtain ⟨rfl, rfl, rfl⟩ := h
      exact hQ _ _ _ ⟨rfl, μ1, st1, ht1⟩
    | exit id =>
      rw [if_neg (by simp)] at h
      simp at h
      obtain ⟨rfl, rfl, rfl⟩ := h
      exact hQ _ _ _ ⟨rfl, μ1, st1, ht1⟩
  · simp at h

theorem compileDraw_cases (N : Nat) (ops : Array Oper) : compileDraw P N ops = .fail ∨ ∃ l, compileDraw P N ops = .draw l := by
  unfold compileDraw
  simp only
  split
  · exact .inr ⟨_, rfl⟩
  · exact .inl rfl

theorem sim_step {E : Env} (hE : EnvOk P E) {ih : Exec} (hc : SimCall P (callA E ih)) (hd : SimDraw P (callA E ih)) (hih : SimExec P ih) {m : Nat} (hl : SimLoop P m ih) : SimExec P (stepA E ih) := by
  intro N c T H e T' H' h r B μ a w st
  have hfail : ∀ {α : Prop}, stepA E ih .fail T H = some (e, T', H') → α := by intro α h; simp [stepA] at h
  cases c with
  | skip =>
    simp [compile, stepA] at h
    obtain ⟨rfl, rfl, rfl⟩ := h
    exact wpIn_skip ⟨rfl, μ, st, .refl _ _⟩
  | region id ops draw =>
    cases draw with
    | false =>
      simp only [compile, Bool.false_eq_true, if_false, stepA] at h
      split at h
      · rename_i T1 H1 h1
        simp at h
        obtain ⟨rfl, rfl, rfl⟩ := h
        exact wpIn_region_list (sim_opsList hc ops.toList h1 st fun a1 w1 μ1 st1 ht1 => ⟨rfl, μ1, st1, ht1⟩)
      · simp at h
    | true =>
      simp only [compile, if_true] at h
      rcases compileDraw_cases (P := P) N ops with h1 | ⟨l, h1⟩
      · rw [h1] at h; exact hfail h
      · rw [h1] at h
        simp only [stepA] at h
        split at h
        · rename_i T1 H1 h2
          simp at h
          obtain ⟨rfl, rfl, rfl⟩ := h
          exact hd N id ops l h1 T H T1 H1 h2 r B μ a w st
        · simp at h
  | seq x y =>
    simp only [compile, stepA] at h
    split at h
    · rename_i e1 T1 H1 h1
      refine wpIn_seq (wpIn_mono (hih N x T H e1 T1 H1 h1 r B μ a w st) ?_)
      rintro z a1 w1 ⟨rfl, μ1, st1, ht1⟩
      cases e1 with
      | normal =>
        rw [if_pos rfl] at h
        exact wpIn_mono (hih N y T1 H1 e T' H' h r B μ1 a1 w1 st1) fun z a2 w2 hp => hp.base ht1
      | ret =>
        rw [if_neg (by simp)] at h
        simp at h
        obtain ⟨rfl, rfl, rfl⟩ := h
        exact ⟨rfl, μ1, st1, ht1⟩
      | exit id =>
        rw [if_neg (by simp)] at h
        simp at h
        obtain ⟨rfl, rfl, rfl⟩ := h
        exact ⟨rfl, μ1, st1, ht1⟩
    · simp at h
  | cond c x y =>
    simp only [compile] at h
    split at h
    · rename_i c' hc'
      simp only [stepA] at h
      split at h
      · rename_i t ht
        have hv := st.tr.eval hc'
        rw [ht] at hv
        refine wpIn_cond hv.bool_inv ?_
        cases t with
        | true => exact hih N x T H e T' H' (by simpa using h) r B μ a w st
        | false => exact hih N y T H e T' H' (by simpa using h) r B μ a w st
      · simp at h
    · exact hfail h
  | block id b =>
    simp only [compile, stepA] at h
    split at h
    · rename_i e1 T1 H1 h1
      simp at h
      obtain ⟨he, rfl, rfl⟩ := h
      refine wpIn_block (wpIn_mono (hih N b T H e1 T1 H1 h1 r B μ a w st) ?_)
      rintro z a1 w1 ⟨rfl, μ1, st1, ht1⟩
      cases e1 with
      | normal => simp at he; subst he; exact ⟨rfl, μ1, st1, ht1⟩
      | ret => simp at he; subst he; exact ⟨rfl, μ1, st1, ht1⟩
      | exit id' =>
        show if id' = id then _ else _
        split
        · rename_i hi
          subst hi
          simp at he; subst he
          exact ⟨rfl, μ1, st1, ht1⟩
        · rename_i hi
          rw [if_neg (by simpa using hi)] at he
          subst he
          exact ⟨rfl, μ1, st1, ht1⟩
    · simp at h
  | loop b =>
    simp only [compile] at h
    exact wpIn_loop_rounds (m + 1) (sim_loop hih hl N b T H e T' H' h r B μ a w st _ fun _ _ _ hp => hp)
  | rangeFunc g ps x y =>
    simp only [compile] at h
    split at h
    · rename_i f hf
      split at h
      · rename_i hps
        simp only [stepA] at h
        exact sim_range hE hih st (fun q hq => by simpa using List.all_eq_true.1 hps q hq) (st.tr.eval hf) h
      · exact hfail h
    · exact hfail h
  | exit id =>
    simp [compile, stepA] at h
    obtain ⟨rfl, rfl, rfl⟩ := h
    exact wpIn_exit ⟨rfl, μ, st, .refl _ _⟩
  | ret =>
    simp [compile, stepA] at h
    obtain ⟨rfl, rfl, rfl⟩ := h
    exact wpIn_ret ⟨rfl, μ, st, .refl _ _⟩
  | _ => exact hfail (by simpa [compile] using h)

/-- THE MACHINE IS RIGHT. -/
theorem sim_exec {E : Env} (hE : EnvOk P E) (hP : PrimsOk P E) (hd : ∀ ex, SimExec P ex → SimDraw P (callA E ex)) : ∀ n, SimExec P (exec E n) ∧ SimLoop P n (exec E n)
  | 0 => ⟨by intro N c T H e T' H' h; simp [exec] at h, by intro N c T H e T' H' h; simp [exec] at h⟩
  | n + 1 => by
    obtain ⟨h1, h2⟩ := sim_exec hE hP hd n
    exact ⟨sim_step hE (sim_callA hE hP h1) (hd _ h1) h1 h2, sim_loop h1 h2⟩

theorem sim_run {E : Env} (hE : EnvOk P E) (hP : PrimsOk P E) (hd : ∀ ex, SimExec P ex → SimDraw P (callA E ex)) {n f : Nat} {args : List AVal} {H : AHeap} {v : AVal} {H' : AHeap} (hp : E.prim f = none)
    (h : runF E n f args H = some (v, H')) {μ : Mu} {w : World} {cargs : List Value} (hH : HR P μ H w) (ha : VRs μ args cargs) :
    (callFunc f ⟨cargs⟩).run P w = .ok (.enter f ⟨cargs⟩) w ∧ CallsIn Fence.wide 0 P f ⟨cargs⟩ w (CallPost P μ w v H') := by
  unfold runF enterA at h
  rw [hp] at h
  exact sim_enterFn hE (sim_exec hE hP hd n).1 h hH ha
end Go.AM
