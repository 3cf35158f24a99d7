/- A part of the proof of the claim of this folder (Sound3). -/
import Derived.Test.YtoiipnendgggoaaGreatDoorSound2
set_option autoImplicit true
set_option relaxedAutoImplicit true
set_option linter.all false
set_option linter.deprecated false
set_option linter.unnecessarySimpa false
set_option linter.unusedSectionVars false
set_option linter.unusedSimpArgs false
set_option linter.unusedVariables false
/-! Rounds, loops over functions, the code. -/
namespace Go.AM
variable [G : Ground]
variable {P : Program}

theorem TR.setAll {μ : Mu} : ∀ (ps : List Nat) (as : List AVal) (cs : List Value) (T : Tmps) (tmps : Array Value), TR μ T tmps → (∀ q ∈ ps, q < tmps.size) → VRs μ as cs →
    TR μ (setAll T ps as) ((ps.zip cs).foldl (fun t x => t.setIfInBounds x.1 x.2) tmps) ∧ ((ps.zip cs).foldl (fun t x => t.setIfInBounds x.1 x.2) tmps).size = tmps.size
  | [], as, cs, T, tmps, hT, _, h => by cases h <;> exact ⟨hT, rfl⟩
  | q :: ps, _, _, T, tmps, hT, hq, .nil => ⟨hT, rfl⟩
  | q :: ps, _, _, T, tmps, hT, hq, .cons x l x' l' h hl => by
    have := TR.setAll ps l l' (PT.set T q x) (tmps.setIfInBounds q x') (hT.set (hq q (by simp)) h) (fun z hz => by simpa using hq z (by simp [hz])) hl
    exact ⟨this.1, by simpa using this.2⟩

theorem HR.loop {μ : Mu} {H : AHeap} {w : World} (hH : HR P μ H w) {l : Nat} {st : LState} {pend : Pend} {T : Tmps} {ps : List Nat} {as bd : ACode} (hg : H.get l = some (.loop st pend T ps as bd)) {p : Place} (hp : μ l = some p) :
    ∃ r : Loop, w.heap[p.blk]? = some (.loop r) ∧ r.state = stOf st ∧ r.pending = pendOf pend ∧ TR μ T r.tmps ∧ r.params.toList = ps ∧
      as = compile P r.tmps.size r.assign ∧ bd = compile P r.tmps.size r.body ∧ (∀ q ∈ ps, q < r.tmps.size) := by
  obtain ⟨q, hq, h⟩ := hH.obj l _ hg
  rw [hp] at hq; cases hq
  exact h

theorem Upd.putObj {w : World} {b : Nat} {o o' : Obj} (h : w.heap[b]? = some o') : Upd w (w.putObj b o) b o :=
  ⟨World.putObj_size, World.putObj_heap_same (Array.getElem?_eq_some_iff.1 h).1, fun _ hj => World.putObj_heap_other hj, rfl, rfl⟩

theorem sim_beginRound {μ : Mu} {H : AHeap} {w : World} (hH : HR P μ H w) {l : Nat} {pend : Pend} {T : Tmps} {ps : List Nat} {as bd : ACode} (hg : H.get l = some (.loop .ready pend T ps as bd)) {p : Place} (hp : μ l = some p) :
    ∃ w', (Instr.beginRound p.blk).run P w = .ok () w' ∧ HR P μ (H.put l (.loop .busy pend T ps as bd)) w' ∧ Turn μ μ w w' := by
  obtain ⟨r, hr, h1, h2, h3, h4, h5, h6, h7⟩ := hH.loop hg hp
  have hU := Upd.putObj (o := .loop { r with state := .busy }) hr
  exact ⟨_, run_beginRound hr h1, hH.put hp ⟨_, hg, rfl⟩ hU (fun _ _ => ⟨_, rfl⟩) ⟨_, hU.new, rfl, h2, h3, h4, h5, h6, h7⟩⟩

theorem sim_endRound {μ : Mu} {H : AHeap} {w : World} (hH : HR P μ H w) {l : Nat} {st : LState} {pend : Pend} {T : Tmps} {ps : List Nat} {as bd : ACode} (hg : H.get l = some (.loop st pend T ps as bd)) {p : Place} (hp : μ l = some p) (e : AExit) :
    ∃ w', (Instr.endRound p.blk (pendOf e.pend)).run P w = .ok (.bool (decide (e = .normal))) w' ∧ HR P μ (H.put l (.loop (if e = .normal then .ready else .done) e.pend T ps as bd)) w' ∧ Turn μ μ w w' := by
  obtain ⟨r, hr, h1, h2, h3, h4, h5, h6, h7⟩ := hH.loop hg hp
  have hU := Upd.putObj (o := .loop { r with state := if (pendOf e.pend).isNone then .ready else .done, pending := pendOf e.pend }) hr
  refine ⟨_, ?_, hH.put hp ⟨_, hg, rfl⟩ hU (fun _ _ => ⟨_, rfl⟩) ⟨_, hU.new, ?_, rfl, h3, h4, h5, h6, h7⟩⟩
  · rw [run_endRound _ hr]
    cases e <;> rfl
  · cases e <;> rfl

theorem sim_round {ex : Exec} (hex : SimExec P ex) {l : Nat} {args : List AVal} {H : AHeap} {v : AVal} {H' : AHeap} (h : roundA ex l args H = some (v, H')) {μ : Mu} {w : World} {cargs : List Value}
    (hH : HR P μ H w) {p : Place} (hp : μ l = some p) (ha : VRs μ args cargs) :
    ∃ f tm as bd, (Instr.yield p.blk ⟨cargs⟩).run P w = .ok (.round p.blk f tm as bd) w ∧ RoundIn Fence.wide 0 P p.blk f tm as bd w (CallPost P μ w v H') := by
  unfold roundA at h
  split at h
  · rename_i st pend T ps as bd hg
    split at h
    · rename_i hlen
      obtain ⟨r, hr, h1, h2, h3, h4, h5, h6, h7⟩ := hH.loop hg hp
      split at h
      · rename_i e T1 H1 hrun
        split at h
        · rename_i he
          subst he
          split at h
          · rename_i st1 pend1 T1' ps1 as1 bd1 hg1
            split at h
            · rename_i hst1
              subst hst1
              split at h
              · rename_i e2 T2 H2 hrun2
                split at h
                · rename_i st2 pend2 T2' ps2 as2 bd2 hg2
                  simp at h
                  obtain ⟨rfl, rfl⟩ := h
                  have hz := TR.setAll ps args cargs T r.tmps h3 h7 ha
                  have hfold : (r.params.zip ⟨cargs⟩).foldl (fun tmps x => tmps.setIfInBounds x.1 x.2) r.tmps = (ps.zip cargs).foldl (fun t x => t.setIfInBounds x.1 x.2) r.tmps := by
                    rw [← Array.foldl_toList]; simp [h4]
                  have hsz : (⟨cargs⟩ : Array Value).size = r.params.size := by
                    have e1 := ha.length
                    have e2 : r.params.size = ps.length := by rw [← h4]; simp
                    simp; omega
                  refine ⟨_, _, _, _, run_yield hr hsz, roundIn_of_wpIn trivial (wpIn_mono (hex r.tmps.size r.assign _ H .normal T1 H1 (h5 ▸ hrun) (some p.blk) w.heap.size μ _ w ?_) ?_)⟩
                  · refine ⟨?_, ?_, hH, ⟨Nat.le_refl _, [], rfl, List.nodup_nil, by simp⟩, fun l' hl' => ?_⟩
                    · show TR μ _ ((r.params.zip ⟨cargs⟩).foldl (fun tmps x => tmps.setIfInBounds x.1 x.2) r.tmps)
                      rw [hfold]; exact hz.1
                    · show ((r.params.zip ⟨cargs⟩).foldl (fun tmps x => tmps.setIfInBounds x.1 x.2) r.tmps).size = _
                      rw [hfold]; exact hz.2
                    · cases hl'; exact ⟨r, hr⟩
                  · rintro x a1 w1 ⟨rfl, μ1, st1', ht1⟩
                    have hp1 := ht1.le l p hp
                    obtain ⟨w2, hb, hh2, ht2⟩ := sim_beginRound st1'.hr hg1 hp1
                    refine ⟨w2, hb, wpIn_mono (hex r.tmps.size r.body T1 _ e2 T2 H2 (h6 ▸ hrun2) (some p.blk) w.heap.size μ1 a1 w2 ⟨st1'.tr, st1'.size, hh2, st1'.marks.turn ht2, fun l' hl' => ?_⟩) ?_⟩
                    · obtain ⟨q, hq⟩ := st1'.round l' hl'
                      exact ht2.kind l' q hq
                    · rintro x a2 w3 ⟨rfl, μ2, st2', ht3⟩
                      have hp2 := ht3.le l p hp1
                      obtain ⟨w4, he4, hh4, ht4⟩ := sim_endRound st2'.hr hg2 hp2 e2
                      have hT := ((ht1.trans ht2).trans ht3).trans ht4
                      cases e2 with
                      | normal => exact ⟨_, w4, he4, _, μ2, rfl, .bool _, hh4, hT⟩
                      | ret => exact ⟨_, w4, he4, _, μ2, rfl, .bool _, hh4, hT⟩
                      | exit id => exact ⟨_, w4, he4, _, μ2, rfl, .bool _, hh4, hT⟩
                · simp at h
              · simp at h
            · simp at h
          · simp at h
        · simp at h
      · simp at h
    · simp at h
  · simp at h

/-- What the machine takes for granted of functions. -/
def PrimsOk (P : Program) (E : Env) : Prop :=
  ∀ f p, E.prim f = some p → ∀ args H v H', p args H = some (v, H') → ∀ (μ : Mu) (w : World) (cargs : List Value), HR P μ H w → VRs μ args cargs →
    ∃ nx w1, (callFunc f ⟨cargs⟩).run P w = .ok nx w1 ∧ Leads P μ w w1 v H' nx

theorem sim_callA {E : Env} (hE : EnvOk P E) (hP : PrimsOk P E) {ex : Exec} (hex : SimExec P ex) : SimCall P (callA E ex) := by
  intro fv args H v H' h μ w cf cargs hH hf ha
  unfold callA at h
  split at h
  · rename_i f first captured
    obtain ⟨x', y', rfl, hx, hy⟩ := hf.fn_inv
    have hargs := (hx.append ha).append hy
    have e : ((⟨x'⟩ : Array Value) ++ ⟨cargs⟩ ++ ⟨y'⟩) = ⟨x' ++ cargs ++ y'⟩ := by apply Array.ext'; simp
    have hcall : ∃ nx w1, (callFunc f ⟨x' ++ cargs ++ y'⟩).run P w = .ok nx w1 ∧ Leads P μ w w1 v H' nx := by
      unfold enterA at h
      split at h
      · rename_i p hp
        exact hP f p hp _ H v H' h μ w _ hH hargs
      · obtain ⟨h1, h2⟩ := sim_enterFn hE hex h hH hargs
        exact ⟨_, w, h1, .inl ⟨_, _, rfl, h2⟩⟩
    obtain ⟨nx, w1, h1, h2⟩ := hcall
    exact ⟨_, nx, w1, rfl, by show (callFunc f (⟨x'⟩ ++ ⟨cargs⟩ ++ ⟨y'⟩)).run P w = _; rw [e]; exact h1, h2⟩
  · rename_i l
    obtain ⟨p, hp, rfl⟩ := hf.yield_inv
    obtain ⟨f, tm, as, bd, h1, h2⟩ := sim_round hex h hH hp ha
    exact ⟨_, _, w, rfl, by show (Instr.yield p.blk (#[] ++ ⟨cargs⟩)).run P w = _; rw [Array.empty_append]; exact h1, .inr (.inl ⟨_, _, _, _, _, rfl, h2⟩)⟩
  · simp at h

theorem More.alloc (w : World) (o : Obj) : More w (w.alloc o) o := .push _ _ _ rfl ⟨rfl, rfl⟩

theorem sim_range {E : Env} (hE : EnvOk P E) {ex : Exec} (hex : SimExec P ex) {r : Option Nat} {N B : Nat} {μ : Mu} {T : Tmps} {H : AHeap} {a : Act} {w : World} (st : St P r N B μ T H a w)
    {g : Operand} {ps : Array Tmp} {assign body : Code} (hps : ∀ q ∈ ps.toList, q < N) {fv : AVal} (hf : VR μ fv (a.eval g)) {e : AExit} {T' : Tmps} {H' : AHeap}
    (h : rangeA E ex fv ps.toList (compile P N assign) (compile P N body) T H = some (e, T', H')) :
    (Code.rangeFunc g ps assign body).wpIn (FF r) 0 P (Post P r N B μ w e T' H') a w := by
  unfold rangeA at h
  split at h
  case h_2 => simp at h
  rename_i f first captured
  split at h
  case h_2 => simp at h
  rename_i v0 h' hcall
  split at h
  case h_2 => simp at h
  rename_i st' pend T'' ps' as' bd' hg
  split at h
  · simp at h
  rename_i hbusy
  simp at h
  obtain ⟨rfl, rfl, rfl⟩ := h
  obtain ⟨x', y', hev, hx, hy⟩ := hf.fn_inv
  refine wpIn_rangeFunc fun fn _ => ?_
  have core : ∀ (l : Nat) (mark : List Deferred) (w1 : World), (Instr.enterLoop fn a.tmps ps assign body (FF r).round).run P w = .ok (l, mark) w1 →
      HR P (μ.put H.next ⟨l, 0, 0⟩) (H.new (.loop .ready .none T ps.toList (compile P N assign) (compile P N body))) w1 → Turn μ (μ.put H.next ⟨l, 0, 0⟩) w w1 →
      (∀ μ' w', Turn (μ.put H.next ⟨l, 0, 0⟩) μ' w1 w' → Marks B μ' w' (mark ++ a.defers)) →
      ∃ (l : Nat) (mark : List Deferred) (w₁ : World) (d : Deferred) (w₁' : World) (f : FuncId) (args : Array Value) (w₂ : World),
      (Instr.enterLoop fn a.tmps ps assign body (FF r).round).run P w = .ok (l, mark) w₁ ∧
      (resolve a.eval (rangeCall g l) 0).run P w₁ = .ok d w₁' ∧
      (∀ f', Target.leads P w₁' d.target d.args = some f' → (FF r).fn f') ∧
      (invoke d.target d.args).run P w₁' = .ok (.enter f args) w₂ ∧
      ((FF r).depth.isSome = true → 1 ≤ 0) ∧
      CallsIn (FF r) (0 - 1) P f args w₂ (rangePost (FF r) 0 P l (Post P r N B μ w pend.out T (h'.put H.next .dead)) { a with defers := mark ++ a.defers }) := by
    intro l mark w1 hrun hH1 ht1 hmarks
    have hargs : VRs (μ.put H.next ⟨l, 0, 0⟩) (first ++ [.yield H.next] ++ captured) (x' ++ [.func (.yield l) #[] #[]] ++ y') :=
      ((hx.mono ht1.le).append (.cons _ _ _ _ (.yield _ ⟨l, 0, 0⟩ (Mu.put_same _ _ _)) .nil)).append (hy.mono ht1.le)
    obtain ⟨hc1, hc2⟩ := sim_enterFn hE hex hcall hH1 hargs
    have earr : ((⟨x'⟩ : Array Value) ++ #[.func (.yield l) #[] #[]] ++ ⟨y'⟩) = ⟨x' ++ [.func (.yield l) #[] #[]] ++ y'⟩ := by apply Array.ext'; simp
    refine ⟨l, mark, w1, { target := .fn (.func f) ⟨y'⟩, args := ⟨x'⟩ ++ #[.func (.yield l) #[] #[]] }, w1, f, _, w1, hrun, ?_, fun _ _ => trivial, ?_, by simp [FF, Fence.wide], CallsIn.mono hc2 ?_⟩
    · simp [resolve, hev, Deferred.ofValue]; rfl
    · show (callFunc f (⟨x'⟩ ++ #[.func (.yield l) #[] #[]] ++ ⟨y'⟩)).run P w1 = _
      rw [earr]; exact hc1
    · rintro x w3 ⟨cv, μ3, rfl, -, hH3, ht3⟩
      have hp3 := ht3.le _ _ (Mu.put_same μ H.next ⟨l, 0, 0⟩)
      obtain ⟨r3, hr3, k1, k2, k3, k4, k5, k6, k7⟩ := hH3.loop hg hp3
      have hU := Upd.putObj (o := .loop { r3 with state := .exhausted }) hr3
      obtain ⟨hH4, ht4⟩ := hH3.put (x := .dead) hp3 ⟨_, hg, rfl⟩ hU (fun _ _ => ⟨_, rfl⟩) trivial
      have hT := (ht1.trans ht3).trans ht4
      have hst : St P r N B μ3 T (h'.put H.next .dead) { a with defers := mark ++ a.defers } (w3.putObj l (.loop { r3 with state := .exhausted })) :=
        ⟨st.tr.mono hT.le, st.size, hH4, hmarks μ3 _ (ht3.trans ht4), fun l' hl' => let ⟨q, hq⟩ := st.round l' hl'; hT.kind l' q hq⟩
      refine ⟨r3.pending, _, run_endLoop hr3 (by rw [k1]; cases st' <;> simp_all [stOf]), ?_⟩
      generalize (w3.putObj l (.loop { r3 with state := .exhausted })) = w4 at hst hT
      rw [k2]
      cases pend with
      | none => exact ⟨rfl, μ3, hst, hT⟩
      | ret => exact wpIn_ret ⟨rfl, μ3, hst, hT⟩
      | exit id => exact wpIn_exit ⟨rfl, μ3, hst, hT⟩
  cases r with
  | none =>
    obtain ⟨hA, htA⟩ := st.hr.extra (More.alloc w (.deferred (some [])))
    have hsz : (w.alloc (.deferred (some []))).heap.size = w.heap.size + 1 := by simp
    obtain ⟨hB, htB⟩ := hA.new (More.alloc (w.alloc (.deferred (some []))) (.loop { state := .ready, pending := none, fn, tmps := a.tmps, params := ps, assign, body, defers := w.heap.size })) 0
      (x := .loop .ready .none T ps.toList (compile P N assign) (compile P N body))
      ⟨_, (More.alloc _ _).new, rfl, rfl, st.tr.mono ((Mu.le_put μ _ (st.hr.top _ (Nat.le_refl _)).2)), rfl, by rw [st.size], by rw [st.size], by rw [st.size]; exact hps⟩
    rw [hsz] at hB htB
    refine core (w.heap.size + 1) _ _ (run_enterLoop_outer fn a.tmps ps assign body) hB (htA.trans htB) fun μ' w' ht' => ?_
    have htl := (htA.trans htB).trans ht'
    obtain ⟨hB0, rs, e1, e2, e3⟩ := st.marks
    have hn0 : ∀ id p, (μ.put H.next ⟨w.heap.size + 1, 0, 0⟩) id = some p → p.blk ≠ w.heap.size := by
      intro id p hp
      by_cases hi : id = H.next
      · subst hi; rw [Mu.put_same] at hp; cases hp; simp
      · rw [Mu.put_ne _ _ hi] at hp
        have := st.hr.bnd id p hp
        omega
    have hblk : ((w.alloc (.deferred (some []))).alloc (.loop { state := .ready, pending := none, fn, tmps := a.tmps, params := ps, assign, body, defers := w.heap.size })).heap[w.heap.size]? = some (.deferred (some [])) := by
      rw [(More.alloc (w.alloc (.deferred (some []))) _).old _ (by omega)]
      exact (More.alloc w _).new
    refine ⟨Nat.le_trans hB0 htl.grow, w.heap.size :: rs, by simp [e1], ?_, fun q hq => ?_⟩
    · refine List.nodup_cons.2 ⟨fun hm => ?_, e2⟩
      have := (Array.getElem?_eq_some_iff.1 (e3 _ hm).1).1
      omega
    · rcases List.mem_cons.1 hq with rfl | hq
      · exact ⟨by rw [ht'.keep _ (Array.getElem?_eq_some_iff.1 hblk).1 hn0]; exact hblk, ht'.notOwn (Array.getElem?_eq_some_iff.1 hblk).1 hn0, hB0⟩
      · obtain ⟨g1, g2, g3⟩ := e3 q hq
        have hlt := (Array.getElem?_eq_some_iff.1 g1).1
        exact ⟨by rw [htl.keep q hlt g2]; exact g1, htl.notOwn hlt g2, g3⟩
  | some l0 =>
    obtain ⟨q0, hq0⟩ := st.round l0 rfl
    obtain ⟨hB, htB⟩ := st.hr.new (More.alloc w (.loop { state := .ready, pending := none, fn, tmps := a.tmps, params := ps, assign, body, defers := q0.defers })) 0
      (x := .loop .ready .none T ps.toList (compile P N assign) (compile P N body))
      ⟨_, (More.alloc _ _).new, rfl, rfl, st.tr.mono ((Mu.le_put μ _ (st.hr.top _ (Nat.le_refl _)).2)), rfl, by rw [st.size], by rw [st.size], by rw [st.size]; exact hps⟩
    refine core w.heap.size [] _ (run_enterLoop_inner hq0 fn a.tmps ps assign body) hB htB fun μ' w' ht' => ?_
    simpa using st.marks.turn (htB.trans ht')
end Go.AM
