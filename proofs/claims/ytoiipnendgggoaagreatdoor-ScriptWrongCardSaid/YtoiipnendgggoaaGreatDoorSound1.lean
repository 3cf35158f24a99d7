/- A part of the proof of the claim of this folder (Sound1). -/
import Derived.Test.YtoiipnendgggoaaGreatDoorOps7
set_option autoImplicit true
set_option relaxedAutoImplicit true
set_option linter.all false
set_option linter.deprecated false
set_option linter.unnecessarySimpa false
set_option linter.unusedSectionVars false
set_option linter.unusedSimpArgs false
set_option linter.unusedVariables false
/-! Regions in the order of the text; calls. -/
namespace Go.AM
variable [G : Ground]
variable {P : Program}

def FF (r : Option Nat) : Fence := { Fence.wide with round := r }

/-- The marks of loops over functions among the deferred calls. -/
def Marks (B : Nat) (μ : Mu) (w : World) (ds : List Deferred) : Prop :=
  B ≤ w.heap.size ∧ ∃ rs : List Nat, ds = rs.map (fun r => ({ target := .collected r, args := #[] } : Deferred)) ∧ rs.Nodup ∧
    ∀ r ∈ rs, w.heap[r]? = some (.deferred (some [])) ∧ (∀ id p, μ id = some p → p.blk ≠ r) ∧ B ≤ r

theorem Turn.notOwn {μ μ' : Mu} {w w' : World} (ht : Turn μ μ' w w') {r : Nat} (hr : r < w.heap.size) (hn : ∀ id p, μ id = some p → p.blk ≠ r) : ∀ id p, μ' id = some p → p.blk ≠ r := by
  intro id p hp
  rcases ht.fresh id p hp with h | h | ⟨id0, p0, h, he⟩
  · exact hn id p h
  · omega
  · rw [← he]; exact hn id0 p0 h

theorem Marks.turn {B : Nat} {μ μ' : Mu} {w w' : World} {ds : List Deferred} (h : Marks B μ w ds) (ht : Turn μ μ' w w') : Marks B μ' w' ds := by
  obtain ⟨h0, rs, h1, h2, h3⟩ := h
  refine ⟨Nat.le_trans h0 ht.grow, rs, h1, h2, fun r hr => ?_⟩
  obtain ⟨g1, g2, g3⟩ := h3 r hr
  have hlt : r < w.heap.size := (Array.getElem?_eq_some_iff.1 g1).1
  exact ⟨by rw [ht.keep r hlt g2]; exact g1, ht.notOwn hlt g2, g3⟩

structure St (P : Program) (r : Option Nat) (N B : Nat) (μ : Mu) (T : Tmps) (H : AHeap) (a : Act) (w : World) : Prop where
  tr : TR μ T a.tmps
  size : a.tmps.size = N
  hr : HR P μ H w
  marks : Marks B μ w a.defers
  round : ∀ l, r = some l → ∃ q, w.heap[l]? = some (.loop q)

def exOf : AExit → Exit
  | .normal => .normal
  | .ret => .ret
  | .exit id => .exit id

def Post (P : Program) (r : Option Nat) (N B : Nat) (μ : Mu) (w : World) (e : AExit) (T' : Tmps) (H' : AHeap) : Exit → Act → World → Prop :=
  fun ex a' w' => ex = exOf e ∧ ∃ μ', St P r N B μ' T' H' a' w' ∧ Turn μ μ' w w'

def CallPost (P : Program) (μ : Mu) (w : World) (v : AVal) (H' : AHeap) : Ending → World → Prop :=
  fun e w' => ∃ cv μ', e = Ending.returned cv ∧ VR μ' v cv ∧ HR P μ' H' w' ∧ Turn μ μ' w w'

def SimExec (P : Program) (ex : Exec) : Prop :=
  ∀ (N : Nat) (c : Code) (T : Tmps) (H : AHeap) (e : AExit) (T' : Tmps) (H' : AHeap), ex (compile P N c) T H = some (e, T', H') →
    ∀ (r : Option Nat) (B : Nat) (μ : Mu) (a : Act) (w : World), St P r N B μ T H a w → c.wpIn (FF r) 0 P (Post P r N B μ w e T' H') a w

/-- What a call comes to. -/
def Leads (P : Program) (μ : Mu) (w w1 : World) (v : AVal) (H' : AHeap) (nx : Next) : Prop :=
  (∃ f as, nx = .enter f as ∧ CallsIn Fence.wide 0 P f as w1 (CallPost P μ w v H')) ∨
  (∃ l f tm as bd, nx = .round l f tm as bd ∧ RoundIn Fence.wide 0 P l f tm as bd w1 (CallPost P μ w v H')) ∨
  (∃ cv, nx = .value cv ∧ CallPost P μ w v H' (.returned cv) w1)

def SimCall (P : Program) (call : Caller) : Prop :=
  ∀ (fv : AVal) (args : List AVal) (H : AHeap) (v : AVal) (H' : AHeap), call fv args H = some (v, H') →
    ∀ (μ : Mu) (w : World) (cf : Value) (cargs : List Value), HR P μ H w → VR μ fv cf → VRs μ args cargs →
      ∃ d nx w1, (Deferred.ofValue cf ⟨cargs⟩).run P w = .ok d w ∧ (invoke d.target d.args).run P w = .ok nx w1 ∧ Leads P μ w w1 v H' nx

/-- The guard asks the same. -/
theorem wanted_eq {μ : Mu} {T : Tmps} {tmps : Array Value} (hT : TR μ T tmps) {ops : Array Oper} {o : Oper} {g : Option (Nat × Bool)} (hg : compileGuard ops o.guard = some g) :
    Region.wanted o (yielded ops tmps) = wantedA T g := by
  unfold compileGuard at hg
  unfold Region.wanted
  split at hg
  · rename_i heq
    simp at hg; subst hg
    rw [heq]; rfl
  · rename_i j want heq
    split at hg
    · rename_i t ht
      simp at hg; subst hg
      rw [heq]
      simp only [wantedA, yielded, ht, Option.bind_some]
      have h := hT t
      cases hx : tmps[t]? with
      | none =>
        have : tmps.getD t undef = undef := by simp [Array.getD_eq_getD_getElem?, hx]
        rw [this] at h
        have : ∀ b, T.at t ≠ .bool b := by
          intro b hb
          rw [hb] at h
          have := h.bool_inv
          simp [undef] at this
        cases hb : T.at t <;> simp_all
      | some u =>
        have : tmps.getD t undef = u := by simp [Array.getD_eq_getD_getElem?, hx]
        rw [this] at h
        generalize T.at t = x at h
        cases h <;> simp
    · simp at hg

theorem putDst_rel {r : Option Nat} {N B : Nat} {μ μ' : Mu} {T : Tmps} {H H' : AHeap} {a : Act} {w w' : World} (st : St P r N B μ T H a w) (ht : Turn μ μ' w w') (hH : HR P μ' H' w')
    {d : Option Nat} (hd : dstOk N d = true) {x : AVal} {v : Value} (hx : VR μ' x v) : St P r N B μ' (putDst T d x) H' (a.put d v) w' := by
  have hround : ∀ l, r = some l → ∃ q, w'.heap[l]? = some (.loop q) := fun l hl => let ⟨q, hq⟩ := st.round l hl; ht.kind l q hq
  cases d with
  | none => exact ⟨st.tr.mono ht.le, st.size, hH, st.marks.turn ht, hround⟩
  | some d =>
    have hd' : d < a.tmps.size := by rw [st.size]; simpa [dstOk] using hd
    exact ⟨(st.tr.mono ht.le).set hd' hx, by simp [Act.put, st.size], hH, st.marks.turn ht, hround⟩

theorem compileOp_noDefer {o : Oper} {aop : AOp} (h : compileOp P o.op = some aop) : ∀ c, o.op ≠ .defer c := by
  intro c hc
  rw [hc] at h
  simp [compileOp] at h

theorem compileCall_call {c : Call} {f : Nat} {xs : List AOpd} (h : compileCall P c = some (.call f xs)) : c.callee = .value (.func f) ∧ opdsA c.args.toList = some xs := by
  unfold compileCall at h
  split at h
  · simp at h
  · rename_i ys hys
    split at h
    · rename_i f' hc
      simp at h
      obtain ⟨rfl, rfl⟩ := h
      exact ⟨hc, hys⟩
    · simp at h
    · simp at h
    · repeat' split at h
      all_goals simp at h

theorem compileCall_callv {c : Call} {x : AOpd} {xs : List AOpd} (h : compileCall P c = some (.callv x xs)) : ∃ g, c.callee = .value g ∧ opdA g = some x ∧ opdsA c.args.toList = some xs := by
  unfold compileCall at h
  split at h
  · simp at h
  · rename_i ys hys
    split at h
    · simp at h
    · rename_i g hne hc
      simp at h
      obtain ⟨y, hy, rfl, rfl⟩ := h
      exact ⟨g, hc, hy, hys⟩
    · simp at h
    · repeat' split at h
      all_goals simp at h

theorem compileOp_call {op : Op} {f : Nat} {xs : List AOpd} (h : compileOp P op = some (.call f xs)) : ∃ c, op = .call c ∧ compileCall P c = some (.call f xs) := by
  unfold compileOp at h
  split at h
  all_goals first
    | exact ⟨_, rfl, h⟩
    | (simp at h; done)
    | (exfalso; (try simp only [compileBin, compileConv] at h); (repeat' split at h) <;> simp at h)

theorem compileOp_callv {op : Op} {x : AOpd} {xs : List AOpd} (h : compileOp P op = some (.callv x xs)) : ∃ c, op = .call c ∧ compileCall P c = some (.callv x xs) := by
  unfold compileOp at h
  split at h
  all_goals first
    | exact ⟨_, rfl, h⟩
    | (simp at h; done)
    | (exfalso; (try simp only [compileBin, compileConv] at h); (repeat' split at h) <;> simp at h)

theorem about_triv {r : Option Nat} (o : Oper) (w : World) (ρ : Operand → Value) : ∀ f, o.about P w ρ = some f → (FF r).fn f := fun _ _ => trivial

theorem sim_oper_at {call : Caller} (hcall : SimCall P call) {r : Option Nat} {N B : Nat} {ops : Array Oper} {o : Oper} {μ : Mu} {T T1 : Tmps} {H H1 : AHeap} {a : Act} {w : World}
    (h : doOper call T H (compileOper P N ops o) = some (T1, H1)) (st : St P r N B μ T H a w) {K : Act → World → Prop} {Q : Exit → Act → World → Prop}
    {b : Act} (hb1 : execOp b.eval o = execOp a.eval o) (hb2 : Region.wanted o (yielded ops b.tmps) = Region.wanted o (yielded ops a.tmps))
    (hK : ∀ cv w1 μ1, St P r N B μ1 T1 H1 (a.put o.dst cv) w1 → Turn μ μ1 w w1 → K (b.put o.dst cv) w1) :
    if Region.wanted o (yielded ops b.tmps) then o.wpIn (FF r) 0 P b w K Q else (∀ f, o.about P w b.eval = some f → (FF r).fn f) ∧ K (b.put o.dst undef) w := by
  rw [hb2]
  unfold compileOper at h
  split at h
  · rename_i aop g hop hg
    split at h
    · rename_i hd
      rw [wanted_eq st.tr hg]
      unfold doOper at h
      simp only at h
      split at h
      · rename_i hw
        rw [if_pos hw]
        split at h
        · rename_i v H2 hdo
          simp at h
          obtain ⟨rfl, rfl⟩ := h
          refine ⟨about_triv _ _ _, ?_⟩
          rw [Oper.semAt_eq _ _ _ (compileOp_noDefer hop), hb1]
          have nocall : evalOp T H aop = some (v, H2) → o.uponIn (FF r) 0 P b K Q ((execOp a.eval o).run P w) := by
            intro he
            obtain ⟨cv, w', μ', hr, hv, hh, ht⟩ := sim_op st.tr st.hr hop he
            rcases hr with hr | ⟨hr, rfl⟩
            · rw [hr]
              exact hK _ _ μ' (putDst_rel st ht hh hd hv) ht
            · rw [hr]
              exact hK _ _ μ' (putDst_rel st ht hh hd hv) ht
          have docall : ∀ (c : Call) (f : Operand) (fa : AVal) (xs : List AOpd), o.op = .call c → c.callee = .value f → VR μ fa (a.eval f) → opdsA c.args.toList = some xs →
              call fa (xs.map T.eval) H = some (v, H2) → o.uponIn (FF r) 0 P b K Q ((execOp a.eval o).run P w) := by
            intro c f fa xs ho hcal hf hxs hc
            have hargs := st.tr.evals hxs
            obtain ⟨d, nx, w1, h1, h2, h3⟩ := hcall fa _ H v H2 hc μ w (a.eval f) _ st.hr hf hargs
            have e : (c.args.map a.eval) = ⟨c.args.toList.map a.eval⟩ := by apply Array.ext'; simp
            have hrun : (execOp a.eval o).run P w = .ok nx w1 := by
              simp only [execOp, ho, resolve, hcal, e, Sem.run_bind, h1, Result.andThen_ok, h2]
            rw [hrun]
            rcases h3 with ⟨f', as, rfl, hcl⟩ | ⟨l, f', tm, as, bd, rfl, hcl⟩ | ⟨cv, rfl, hcl⟩
            · refine ⟨fun h => by simp [FF, Fence.wide] at h, CallsIn.mono hcl ?_⟩
              rintro e' w' ⟨cv, μ', rfl, hv, hh, ht⟩
              exact hK _ _ μ' (putDst_rel st ht hh hd hv) ht
            · refine ⟨fun h => by simp [FF, Fence.wide] at h, RoundIn.mono hcl ?_⟩
              rintro e' w' ⟨cv, μ', rfl, hv, hh, ht⟩
              exact hK _ _ μ' (putDst_rel st ht hh hd hv) ht
            · obtain ⟨cv', μ', he, hv, hh, ht⟩ := hcl
              cases he
              exact hK _ _ μ' (putDst_rel st ht hh hd hv) ht
          cases aop with
          | call f xs =>
            obtain ⟨c, ho, hc⟩ := compileOp_call hop
            obtain ⟨hcal, hxs⟩ := compileCall_call hc
            exact docall c (.func f) (.fn f [] []) xs ho hcal (.fn f [] [] [] [] .nil .nil) hxs hdo
          | callv x xs =>
            obtain ⟨c, ho, hc⟩ := compileOp_callv hop
            obtain ⟨g', hcal, hx, hxs⟩ := compileCall_callv hc
            exact docall c g' (T.eval x) xs ho hcal (st.tr.eval hx) hxs hdo
          | _ => exact nocall hdo
        · simp at h
      · rename_i hw
        rw [if_neg hw]
        simp at h
        obtain ⟨rfl, rfl⟩ := h
        exact ⟨about_triv _ _ _, hK _ _ μ (putDst_rel st (.refl _ _) st.hr hd .undef) (.refl _ _)⟩
    · simp [failOp, doOper, wantedA, doOp, evalOp] at h
  · simp [failOp, doOper, wantedA, doOp, evalOp] at h

theorem sim_oper {call : Caller} (hcall : SimCall P call) {r : Option Nat} {N B : Nat} {ops : Array Oper} {o : Oper} {μ : Mu} {T T1 : Tmps} {H H1 : AHeap} {a : Act} {w : World}
    (h : doOper call T H (compileOper P N ops o) = some (T1, H1)) (st : St P r N B μ T H a w) {K : Act → World → Prop} {Q : Exit → Act → World → Prop}
    (hK : ∀ a1 w1 μ1, St P r N B μ1 T1 H1 a1 w1 → Turn μ μ1 w w1 → K a1 w1) :
    if Region.wanted o (yielded ops a.tmps) then o.wpIn (FF r) 0 P a w K Q else (∀ f, o.about P w a.eval = some f → (FF r).fn f) ∧ K (a.put o.dst undef) w :=
  sim_oper_at hcall h st rfl rfl fun _ w1 μ1 h1 h2 => hK _ w1 μ1 h1 h2
end Go.AM
