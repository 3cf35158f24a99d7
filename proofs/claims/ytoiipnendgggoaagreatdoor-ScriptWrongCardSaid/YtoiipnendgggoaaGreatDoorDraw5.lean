/- A part of the proof of the claim of this folder (Draw5). -/
import Derived.Test.YtoiipnendgggoaaGreatDoorDraw4
set_option autoImplicit true
set_option relaxedAutoImplicit true
set_option linter.all false
set_option linter.deprecated false
set_option linter.unnecessarySimpa false
set_option linter.unusedSectionVars false
set_option linter.unusedSimpArgs false
set_option linter.unusedVariables false
/-! Whatever order is drawn: readers, makers of blocks, writers; the region. -/
namespace Go.AM
variable [G : Ground]
variable {P : Program}

theorem VR.block {μ : Mu} {v : AVal} {cv : Value} (h : VR μ v cv) {id : Nat} (hb : v.block? = some id) : ∃ q, μ id = some q := by
  cases h <;> simp [AVal.block?] at hb <;> subst hb <;> exact ⟨_, by assumption⟩

theorem sameAt_spec {T : Tmps} {op : AOp} {v : AVal} {id : Nat} : ∀ {l : List AHeap}, sameAt T op v id l = true → ∀ X ∈ l, id < X.next ∧ ∃ X1, evalOp T X op = some (v, X1)
  | [], _, X, hX => by simp at hX
  | Y :: l, h, X, hX => by
    simp only [sameAt, Bool.and_eq_true, decide_eq_true_eq] at h
    obtain ⟨h1, h2, h3⟩ := h
    rcases List.mem_cons.1 hX with rfl | hX
    · refine ⟨h1, ?_⟩
      split at h2
      · rename_i v' X1 hv
        exact ⟨X1, by rw [AVal.beq_eq h2]; exact hv⟩
      · simp at h2
    · exact sameAt_spec h3 X hX

section
variable {call : Caller} {r : Option Nat} {N B : Nat} {ops : Array Oper} {preds : List (List Nat)} {ds : List DOper} {T : Nat → Tmps} {H : Nat → AHeap} {hi : Nat → List AHeap} {μ0 : Mu} {a0 : Act} {w0 : World}
  {p : Nat} {μ μp : Mu} {pl : Nat → Place} {ls : Array Bool} {a : Act} {w : World}

/-- One block alone. -/
def lone1 (n id : Nat) (o : Option AObj) : AHeap := { next := n, tbl := match o with | some x => PT.set .leaf id x | none => .leaf }

theorem lone1_get (n id : Nat) (o : Option AObj) (i : Nat) : (lone1 n id o).get i = if i = id then o else none := by
  cases o with
  | none => simp [lone1, AHeap.get, PT.get_leaf]
  | some x =>
    by_cases h : i = id
    · subst h; simp [lone1, AHeap.get, PT.get_set_same]
    · simp [lone1, AHeap.get, PT.get_set_ne _ _ (Ne.symm h), PT.get_leaf, h]

theorem Inv.bound (cx : Cx P call r N B ops preds ds T H hi μ0 a0 w0) (h : Inv P N ops preds ds T H μ0 a0 w0 p μ μp pl ls a w) {id : Nat} {q : Place} (hq : μp id = some q) :
    id < (H ds.length).next ∧ q.blk < w.heap.size := by
  rcases h.ext id q hq with hm | ⟨k, e, hk, hle, hl, hal, hid, rfl⟩
  · refine ⟨?_, h.hr.bnd id q hm⟩
    have h1 := cx.run.next h.psz (Nat.le_refl _)
    rcases Nat.lt_or_ge id (H p).next with hlt | hge
    · omega
    · rw [(h.hr.top id hge).2] at hm; cases hm
  · obtain ⟨-, -, -, g4, -⟩ := h.new k e hk hle hl hal
    refine ⟨?_, g4⟩
    have h1 := cx.run.next1 hk
    have h2 := cx.run.next (j := k + 1) (lt_of_get hk) (Nat.le_refl _)
    have h3 : (H (k + 1)).next ≠ (H k).next := hal
    omega

theorem Inv.apart (cx : Cx P call r N B ops preds ds T H hi μ0 a0 w0) (h : Inv P N ops preds ds T H μ0 a0 w0 p μ μp pl ls a w) {id : Nat} {q : Place} (hm : μp id = some q) : G.laid q.blk = none := by
  rcases h.ext id q hm with hm | ⟨k, e, hk, hle, hl, hal, rfl, rfl⟩
  · exact h.hr.apart id q hm
  · exact Ground.above (Nat.le_trans cx.st0.hr.lim (h.new k e hk hle hl hal).2.2.1)

theorem Inv.lone (cx : Cx P call r N B ops preds ds T H hi μ0 a0 w0) (h : Inv P N ops preds ds T H μ0 a0 w0 p μ μp pl ls a w) (id : Nat) (o : Option AObj)
    (ho : ∀ x, o = some x → ∃ q, μp id = some q ∧ OR P μp w q x) : HR P μp (lone1 ((H ds.length).next + id + 1) id o) w := by
  refine ⟨fun i hi' => ?_, fun i x hx => ?_, fun i i' q q' hl hl' _ _ _ => ?_, fun i q hq => (h.bound cx hq).2, h.hr.lim, h.hr.ground, fun i q hq => h.apart cx hq⟩
  · have hi2 : (H ds.length).next + id + 1 ≤ i := hi'
    refine ⟨by rw [lone1_get, if_neg (by omega)], ?_⟩
    cases hm : μp i with
    | none => rfl
    | some q => have := (h.bound cx hm).1; omega
  · rw [lone1_get] at hx
    split at hx
    · rename_i e
      subst e
      exact ho x hx
    · simp at hx
  · obtain ⟨x, hx, -⟩ := hl
    obtain ⟨x', hx', -⟩ := hl'
    rw [lone1_get] at hx hx'
    split at hx <;> split at hx' <;> simp_all

theorem Inv.lo (cx : Cx P call r N B ops preds ds T H hi μ0 a0 w0) (h : Inv P N ops preds ds T H μ0 a0 w0 p μ μp pl ls a w) {j : Nat} {d : DOper} (hd : ds[j]? = some d) (hj : p ≤ j)
    (hr : ∀ x ∈ preds.getD d.at_ [], ls.getD x false = true) : d.lo ≤ cnt ds p := by
  refine Nat.le_trans (cx.f hd).lo ?_
  have e : ds.take j = ds.take p ++ (ds.take j).drop p := by
    have := (List.take_append_drop p (ds.take j)).symm
    rwa [List.take_take, Nat.min_eq_left hj] at this
  rw [e, List.filter_append, List.length_append]
  have e2 : ((ds.take j).drop p).filter (fun x => x.eff && (preds.getD d.at_ []).contains x.at_) = [] := by
    rw [List.filter_eq_nil_iff]
    intro x hx hc
    simp only [Bool.and_eq_true, List.contains_iff_mem] at hc
    obtain ⟨m, hm⟩ := List.mem_iff_getElem?.1 hx
    rw [List.getElem?_drop, List.getElem?_take] at hm
    split at hm
    · have := h.noEff (p + m) x hm (by omega) (hr _ hc.2)
      rw [hc.1] at this; cases this
    · simp at hm
  rw [e2]
  simp only [List.length_nil, Nat.add_zero]
  unfold cnt
  rw [← List.countP_eq_length_filter, ← List.countP_eq_length_filter]
  exact List.countP_mono_left fun x _ hx => by simp only [Bool.and_eq_true] at hx; exact hx.1

/-- A reader finds, at some heap of the run, what lies in the world. -/
theorem Inv.reader (cx : Cx P call r N B ops preds ds T H hi μ0 a0 w0) (h : Inv P N ops preds ds T H μ0 a0 w0 p μ μp pl ls a w) {j : Nat} {d : DOper} (hd : ds[j]? = some d) (hj : p ≤ j)
    (hun : ls.getD d.at_ false = false) (hr : ∀ x ∈ preds.getD d.at_ [], ls.getD x false = true) {v : AVal} (hq : effA d.o.op = false) (hq2 : isAlloc d.o.op = false)
    (he : evalOp (T j) (H j) d.o.op = some (v, H j)) (hok : drawOk (T j) d.o.op v (H j) (hi j) d.lo = true) :
    ∃ X, evalOp (T j) X d.o.op = some (v, X) ∧ ∀ x id, readsHeap d.o.op = some x → ((T j).eval x).block? = some id → ∀ o, X.get id = some o → ∃ q, μp id = some q ∧ OR P μp w q o := by
  unfold drawOk at hok
  split at hok
  · rename_i hn
    exact ⟨H j, he, fun x id hx => by rw [hn] at hx; cases hx⟩
  · rename_i x hx
    split at hok
    · rename_i hb
      exact ⟨H j, he, fun x' id hx' hb' => by rw [hx] at hx'; cases hx'; rw [hb] at hb'; cases hb'⟩
    · rename_i id hb
      simp only [Bool.and_eq_true, decide_eq_true_eq, Bool.or_eq_true, Bool.not_eq_true'] at hok
      obtain ⟨⟨hidj, hct⟩, hor⟩ := hok
      have hjn : j ≤ ds.length := Nat.le_of_lt (lt_of_get hd)
      -- the block is known
      obtain ⟨q0, hq0⟩ : ∃ q, μp id = some q := by
        cases x with
        | const c => simp [AOpd.isConst] at hct
        | tmp t =>
          have hm : t ∈ lookAll ops d := by
            unfold lookAll AOper.slots
            refine List.mem_append_left _ (List.mem_append_right _ (List.mem_filterMap.2 ⟨.tmp t, ?_, rfl⟩))
            revert hx
            cases d.o.op <;> simp [readsHeap, AOp.reads] <;> (try (intro e; simp [e]))
          exact (h.lookVR cx hd hj hun hr hm).block hb
      have goalOf : (∀ o, (H j).get id = some o → ∃ q, μp id = some q ∧ OR P μp w q o) →
          ∃ X, evalOp (T j) X d.o.op = some (v, X) ∧ ∀ x id, readsHeap d.o.op = some x → ((T j).eval x).block? = some id → ∀ o, X.get id = some o → ∃ q, μp id = some q ∧ OR P μp w q o := by
        intro hh
        refine ⟨H j, he, fun x' id' hx' hb' => ?_⟩
        rw [hx] at hx'; cases hx'; rw [hb] at hb'; cases hb'
        exact hh
      -- a block that is known and was made by k, with no write behind it
      have finL : ∀ (k : Nat) (e : DOper), ds[k]? = some e → p ≤ k → ls.getD e.at_ false = true → Al H k → id = (H k).next → (∀ (i : Nat) f, ds[i]? = some f → k + 1 ≤ i → i < j → f.eff = false) → k < j →
          ∀ o, (H j).get id = some o → ∃ q, μp id = some q ∧ OR P μp w q o := by
        intro k e hk hle hl hal hid hne hkj o ho
        obtain ⟨g1, ⟨o', g2, g3⟩, -⟩ := h.new k e hk hle hl hal
        have h1 := cx.run.next1 hk
        have h3 : (H (k + 1)).next ≠ (H k).next := hal
        rw [cx.run.keep (j := k + 1) hkj hjn hne (by omega)] at ho
        rw [hid] at ho
        rw [g2] at ho
        cases ho
        exact ⟨pl k, by rw [hid]; exact g1, g3⟩
      have base : μ id = some q0 → id < (H p).next := by
        intro hm
        rcases Nat.lt_or_ge id (H p).next with h1 | h1
        · exact h1
        · rw [(h.hr.top id h1).2] at hm; cases hm
      have before : ∀ (k : Nat) (e : DOper), ds[k]? = some e → id = (H k).next → k < j := by
        intro k e hk hid
        rcases Nat.lt_or_ge k j with h1 | h1
        · exact h1
        · have := cx.run.next h1 (Nat.le_of_lt (lt_of_get hk)); omega
      -- is there a write between?
      rcases Nat.lt_or_ge (cnt ds p) (cnt ds j) with hlt | hge
      · rcases hor with hhead | hsame
        · -- made behind the last write
          obtain ⟨q2, hq2j, hq2e, hq2h⟩ := hist_at (p := j) cx.run cx.h0 j (Nat.le_refl _) hjn
          simp only [Nat.sub_self] at hq2h
          split at hhead
          · simp at hhead
          · rename_i Y l hY
            rw [hY] at hq2h
            simp at hq2h
            subst hq2h
            have hhead : (H q2).next ≤ id := by simpa using hhead
            have hpq : p < q2 := by
              rcases Nat.lt_or_ge p q2 with h1 | h1
              · exact h1
              · exfalso
                have : cnt ds p = cnt ds j := by
                  have aux : ∀ k, p ≤ k → k ≤ j → cnt ds k = cnt ds p := by
                    intro k
                    induction k with
                    | zero => intro h1 _; rw [Nat.le_zero.1 h1]
                    | succ k ih =>
                      intro h1 h2
                      rcases Nat.lt_or_ge p (k + 1) with h3 | h3
                      · have hd' : ds[k]? = some ds[k] := by simp
                        rw [cnt_succ hd', ih (by omega) (by omega), hq2e k _ hd' (by omega) (by omega)]; simp
                      · rw [show p = k + 1 by omega]
                  exact (aux j hj (Nat.le_refl _)).symm
                omega
            rcases h.ext id q0 hq0 with hm | ⟨k, e, hk, hle, hl, hal, hid, hpl⟩
            · have h1 := cx.run.next (Nat.le_of_lt hpq) (by omega)
              have := base hm
              omega
            · have hkq : q2 ≤ k := by
                rcases Nat.lt_or_ge k q2 with h1 | h1
                · have h2 := cx.run.next (j := k + 1) (k := q2) h1 (by omega)
                  have h3 := cx.run.next1 hk
                  have h4 : (H (k + 1)).next ≠ (H k).next := hal
                  omega
                · exact h1
              exact goalOf (finL k e hk hle hl hal hid (fun i f hi' a1 a2 => hq2e i f hi' (by omega) a2) (before k e hk hid))
        · -- the same at the heap behind the writes done so far
          obtain ⟨q, hqp, hqe, hqh⟩ := hist_at (p := p) cx.run cx.h0 j hj hjn
          have hlen := hist_len cx.run cx.h0 j hjn
          have hlo := h.lo cx hd hj hr
          have hmem : H q ∈ ((hi j).drop 1).take ((hi j).length - 1 - d.lo) := by
            refine List.mem_iff_getElem?.2 ⟨cnt ds j - cnt ds p - 1, ?_⟩
            rw [List.getElem?_take, if_pos (by omega), List.getElem?_drop, show 1 + (cnt ds j - cnt ds p - 1) = cnt ds j - cnt ds p by omega]
            exact hqh
          obtain ⟨hidq, X1, hX⟩ := sameAt_spec hsame _ hmem
          have hX1 := evalOp_quiet hq hq2 hX
          subst hX1
          refine ⟨H q, hX, fun x' id' hx' hb' o ho => ?_⟩
          rw [hx] at hx'; cases hx'; rw [hb] at hb'; cases hb'
          rcases h.ext id q0 hq0 with hm | ⟨k, e, hk, hle, hl, hal, hid, hpl⟩
          · rw [← cx.run.keep hqp h.psz hqe hidq] at ho
            obtain ⟨q', g1, g2⟩ := h.hr.obj id o ho
            exact ⟨q', h.le id q' g1, g2.mono h.le rfl⟩
          · have h1 := cx.run.next (Nat.le_trans hqp hle) (Nat.le_of_lt (lt_of_get hk))
            omega
      · have hc := cnt_mono (ds := ds) hj hjn
        have hne := cnt_eq (ds := ds) hj hjn (by omega)
        refine goalOf fun o ho => ?_
        rcases h.ext id q0 hq0 with hm | ⟨k, e, hk, hle, hl, hal, hid, hpl⟩
        · rw [cx.run.keep hj hjn hne (base hm)] at ho
          obtain ⟨q, g1, g2⟩ := h.hr.obj id o ho
          exact ⟨q, h.le id q g1, g2.mono h.le rfl⟩
        · exact finL k e hk hle hl hal hid (fun i f hi' a1 a2 => hne i f hi' (by omega) a2) (before k e hk hid) o ho
end
end Go.AM
