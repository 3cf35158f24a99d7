/- A part of the proof of the claim of this folder (Draw2). -/
import Derived.Test.YtoiipnendgggoaaGreatDoorDraw1
set_option autoImplicit true
set_option relaxedAutoImplicit true
set_option linter.all false
set_option linter.deprecated false
set_option linter.unnecessarySimpa false
set_option linter.unusedSectionVars false
set_option linter.unusedSimpArgs false
set_option linter.unusedVariables false
/-! A drawn region's run in our own order; what it tells of other orders. -/
namespace Go.AM
variable [G : Ground]
variable {P : Program}

theorem drawChecks_spec {f : List DOper → DOper → Bool} : ∀ (l acc : List DOper), drawChecks f acc l = true → ∀ (k : Nat) d, l[k]? = some d → f (acc ++ l.take k) d = true
  | [], acc, _, k, d, h => by simp at h
  | x :: l, acc, hc, 0, d, h => by
    simp [drawChecks] at hc; simp at h; subst h; simpa using hc.1
  | x :: l, acc, hc, k + 1, d, h => by
    simp [drawChecks] at hc
    have := drawChecks_spec l (acc ++ [x]) hc.2 k d (by simpa using h)
    simpa using this

/-- One operation of the run. -/
inductive StepC (call : Caller) (d : DOper) (T : Tmps) (H : AHeap) (hi : List AHeap) : Tmps → AHeap → List AHeap → Prop where
  | eff (T' : Tmps) (H' : AHeap) (he : d.eff = true) (h : doOper call T H d.o = some (T', H')) (hn : H.next ≤ H'.next) (hsw : swapOk T d = true) : StepC call d T H hi T' H' (H' :: hi)
  | on (v : AVal) (H' : AHeap) (he : d.eff = false) (hw : wantedA T d.o.guard = true) (h : evalOp T H d.o.op = some (v, H')) (hok : drawOk T d.o.op v H hi d.lo = true)
      (hel : AVal.elder H'.next v = true) (hf : freshOk H H' = true) : StepC call d T H hi (putDst T d.o.dst v) H' hi
  | off (he : d.eff = false) (hw : wantedA T d.o.guard = false) : StepC call d T H hi (putDst T d.o.dst undefA) H hi

theorem run_of {call : Caller} : ∀ (l : List DOper) (T0 : Tmps) (H0 : AHeap) (hi0 : List AHeap) (T' : Tmps) (H' : AHeap), doDraw call T0 H0 hi0 l = some (T', H') →
    ∃ (T : Nat → Tmps) (H : Nat → AHeap) (hi : Nat → List AHeap), T 0 = T0 ∧ H 0 = H0 ∧ hi 0 = hi0 ∧ T l.length = T' ∧ H l.length = H' ∧
      ∀ (k : Nat) d, l[k]? = some d → StepC call d (T k) (H k) (hi k) (T (k + 1)) (H (k + 1)) (hi (k + 1))
  | [], T0, H0, hi0, T', H', h => by
    simp [doDraw] at h
    obtain ⟨rfl, rfl⟩ := h
    exact ⟨fun _ => T0, fun _ => H0, fun _ => hi0, rfl, rfl, rfl, rfl, rfl, fun k d hd => by simp at hd⟩
  | x :: l, T0, H0, hi0, T', H', h => by
    have key : ∀ T1 H1 hi1, StepC call x T0 H0 hi0 T1 H1 hi1 → doDraw call T1 H1 hi1 l = some (T', H') →
        ∃ (T : Nat → Tmps) (H : Nat → AHeap) (hi : Nat → List AHeap), T 0 = T0 ∧ H 0 = H0 ∧ hi 0 = hi0 ∧ T (x :: l).length = T' ∧ H (x :: l).length = H' ∧
          ∀ (k : Nat) d, (x :: l)[k]? = some d → StepC call d (T k) (H k) (hi k) (T (k + 1)) (H (k + 1)) (hi (k + 1)) := by
      intro T1 H1 hi1 hs h1
      obtain ⟨T, H, hi, e1, e2, e3, e4, e5, e6⟩ := run_of l T1 H1 hi1 T' H' h1
      refine ⟨fun | 0 => T0 | k + 1 => T k, fun | 0 => H0 | k + 1 => H k, fun | 0 => hi0 | k + 1 => hi k, rfl, rfl, rfl, e4, e5, fun k d hd => ?_⟩
      cases k with
      | zero =>
        simp at hd; subst hd
        show StepC call x T0 H0 hi0 (T 0) (H 0) (hi 0)
        rw [e1, e2, e3]; exact hs
      | succ k => exact e6 k d (by simpa using hd)
    simp only [doDraw] at h
    split at h
    · rename_i he
      split at h
      · rename_i T1 H1 h1
        split at h
        · rename_i hn
          exact key _ _ _ (.eff _ _ he h1 hn.1 hn.2) h
        · simp at h
      · simp at h
    · rename_i he
      split at h
      · rename_i hw
        split at h
        · rename_i v H1 h1
          split at h
          · rename_i hc
            simp only [Bool.and_eq_true] at hc
            exact key _ _ _ (.on v H1 (by simpa using he) hw h1 hc.1 hc.2.1 hc.2.2) h
          · simp at h
        · simp at h
      · rename_i hw
        exact key _ _ _ (.off (by simpa using he) (by simpa using hw)) h

theorem doOper_at {call : Caller} {T : Tmps} {H : AHeap} {o : AOper} {T' : Tmps} {H' : AHeap} (h : doOper call T H o = some (T', H')) {s : Nat} (hs : o.dst ≠ some s) : T'.at s = T.at s := by
  have hp : ∀ v, (putDst T o.dst v).at s = T.at s := by
    intro v
    cases hd : o.dst with
    | none => rfl
    | some d => exact Tmps.at_set_ne _ _ (by intro e; subst e; exact hs hd)
  unfold doOper at h
  split at h
  · split at h
    · simp at h; rw [← h.1]; exact hp _
    · simp at h
  · simp at h; rw [← h.1]; exact hp _

theorem putDst_at {T : Tmps} {dst : Option Nat} {v : AVal} {s : Nat} (hs : dst ≠ some s) : (putDst T dst v).at s = T.at s := by
  cases hd : dst with
  | none => rfl
  | some d => exact Tmps.at_set_ne _ _ (by intro e; subst e; exact hs hd)

section
variable {call : Caller} {ds : List DOper} {T : Nat → Tmps} {H : Nat → AHeap} {hi : Nat → List AHeap}

/-- The whole run. -/
def RunC (call : Caller) (ds : List DOper) (T : Nat → Tmps) (H : Nat → AHeap) (hi : Nat → List AHeap) : Prop :=
  ∀ (k : Nat) d, ds[k]? = some d → d.eff = effA d.o.op ∧ StepC call d (T k) (H k) (hi k) (T (k + 1)) (H (k + 1)) (hi (k + 1))

/-- What an operation that is no write does to the heap: nothing, or a block more. -/
theorem RunC.quiet (hR : RunC call ds T H hi) {k : Nat} {d : DOper} (hk : ds[k]? = some d) (he : d.eff = false) :
    hi (k + 1) = hi k ∧ (H (k + 1) = H k ∨ ((∃ x, H (k + 1) = (H k).new x) ∧ freshOk (H k) (H (k + 1)) = true)) := by
  obtain ⟨hE, h⟩ := hR k d hk
  generalize H (k + 1) = H1, T (k + 1) = T1, hi (k + 1) = h1 at h ⊢
  cases h with
  | eff T' H' he' h hn hsw => rw [he] at he'; cases he'
  | on v H' he hw h hok hel hf =>
    refine ⟨rfl, ?_⟩
    cases hop : isAlloc d.o.op with
    | true => exact .inr ⟨evalOp_alloc hop h, hf⟩
    | false => exact .inl (evalOp_quiet (by rw [← hE]; exact he) hop h)
  | off he hw => exact ⟨rfl, .inl rfl⟩

theorem RunC.next1 (hR : RunC call ds T H hi) {k : Nat} {d : DOper} (hk : ds[k]? = some d) : (H k).next ≤ (H (k + 1)).next := by
  cases he : d.eff with
  | false =>
    rcases (hR.quiet hk he).2 with h | ⟨⟨x, h⟩, -⟩ <;> rw [h] <;> simp
  | true =>
    obtain ⟨-, h⟩ := hR k d hk
    generalize H (k + 1) = H1, T (k + 1) = T1, hi (k + 1) = h1 at h ⊢
    cases h with
    | eff T' H' he' h hn hsw => exact hn
    | on v H' he' => rw [he] at he'; cases he'
    | off he' => rw [he] at he'; cases he'

theorem RunC.next (hR : RunC call ds T H hi) {j k : Nat} (hjk : j ≤ k) (hk : k ≤ ds.length) : (H j).next ≤ (H k).next := by
  induction k with
  | zero => rw [Nat.le_zero.1 hjk]; exact Nat.le_refl _
  | succ k ih =>
    rcases Nat.lt_or_ge j (k + 1) with h | h
    · exact Nat.le_trans (ih (by omega) (by omega)) (hR.next1 (d := ds[k]) (by simp))
    · rw [show j = k + 1 by omega]; exact Nat.le_refl _

theorem RunC.at1 (hR : RunC call ds T H hi) {k : Nat} {d : DOper} (hk : ds[k]? = some d) {s : Nat} (hs : d.o.dst ≠ some s) : (T (k + 1)).at s = (T k).at s := by
  obtain ⟨-, h⟩ := hR k d hk
  generalize H (k + 1) = H1, T (k + 1) = T1, hi (k + 1) = h1 at h ⊢
  cases h with
  | eff T' H' he' h hn hsw => exact doOper_at h hs
  | on v H' he' => exact putDst_at hs
  | off he' => exact putDst_at hs

theorem RunC.at (hR : RunC call ds T H hi) {j k : Nat} (hjk : j ≤ k) (hk : k ≤ ds.length) {s : Nat} (hs : ∀ i d, ds[i]? = some d → j ≤ i → i < k → d.o.dst ≠ some s) : (T k).at s = (T j).at s := by
  induction k with
  | zero => rw [Nat.le_zero.1 hjk]
  | succ k ih =>
    rcases Nat.lt_or_ge j (k + 1) with h | h
    · have hd : ds[k]? = some ds[k] := by simp
      rw [hR.at1 hd (hs k _ hd (by omega) (by omega))]
      exact ih (by omega) (by omega) fun i d hi h1 h2 => hs i d hi h1 (by omega)
    · rw [show j = k + 1 by omega]

/-- Blocks stay where nothing is written. -/
theorem RunC.keep (hR : RunC call ds T H hi) {j k : Nat} (hjk : j ≤ k) (hk : k ≤ ds.length) (he : ∀ i d, ds[i]? = some d → j ≤ i → i < k → d.eff = false) {id : Nat} (hid : id < (H j).next) :
    (H k).get id = (H j).get id := by
  induction k with
  | zero => rw [Nat.le_zero.1 hjk]
  | succ k ih =>
    rcases Nat.lt_or_ge j (k + 1) with h | h
    · have hd : ds[k]? = some ds[k] := by simp
      rw [← ih (by omega) (by omega) fun i d hi h1 h2 => he i d hi h1 (by omega)]
      rcases (hR.quiet hd (he k _ hd (by omega) (by omega))).2 with h1 | ⟨⟨x, h1⟩, -⟩
      · rw [h1]
      · rw [h1, AHeap.get_new_ne]
        have := hR.next (j := j) (k := k) (by omega) (by omega)
        omega
    · rw [show j = k + 1 by omega]

/-- So many writes stand ahead. -/
def cnt (ds : List DOper) (k : Nat) : Nat := ((ds.take k).filter (·.eff)).length

theorem cnt_succ {k : Nat} {d : DOper} (hk : ds[k]? = some d) : cnt ds (k + 1) = cnt ds k + (if d.eff then 1 else 0) := by
  have : ds.take (k + 1) = ds.take k ++ [d] := by
    rw [List.take_succ, hk]; rfl
  unfold cnt
  rw [this, List.filter_append]
  cases hd : d.eff <;> simp [hd]

theorem cnt_mono {j k : Nat} (hjk : j ≤ k) (hk : k ≤ ds.length) : cnt ds j ≤ cnt ds k := by
  induction k with
  | zero => rw [Nat.le_zero.1 hjk]; exact Nat.le_refl _
  | succ k ih =>
    rcases Nat.lt_or_ge j (k + 1) with h | h
    · have := cnt_succ (ds := ds) (k := k) (d := ds[k]) (by simp)
      have := ih (by omega) (by omega)
      omega
    · rw [show j = k + 1 by omega]; exact Nat.le_refl _

/-- No write between: as many. -/
theorem cnt_eq {j k : Nat} (hjk : j ≤ k) (hk : k ≤ ds.length) (hc : cnt ds j = cnt ds k) : ∀ i d, ds[i]? = some d → j ≤ i → i < k → d.eff = false := by
  intro i d hd h1 h2
  have a1 := cnt_mono (ds := ds) (j := j) (k := i) h1 (by omega)
  have a2 := cnt_mono (ds := ds) (j := i + 1) (k := k) (by omega) hk
  have a3 := cnt_succ hd
  cases he : d.eff with
  | false => rfl
  | true => rw [he, if_pos rfl] at a3; omega

theorem hist_len (hR : RunC call ds T H hi) (h0 : hi 0 = [H 0]) : ∀ k, k ≤ ds.length → (hi k).length = cnt ds k + 1
  | 0, _ => by rw [h0]; simp [cnt]
  | k + 1, hk => by
    have hd : ds[k]? = some ds[k] := by simp
    have ih := hist_len hR h0 k (by omega)
    rw [cnt_succ hd]
    cases he : ds[k].eff with
    | false => rw [(hR.quiet hd he).1, ih]; simp
    | true =>
      obtain ⟨-, h⟩ := hR k _ hd
      generalize H (k + 1) = H1, T (k + 1) = T1, hi (k + 1) = h1 at h ⊢
      cases h with
      | eff T' H' he' h hn hsw => simp [ih]
      | on v H' he' => rw [he] at he'; cases he'
      | off he' => rw [he] at he'; cases he'

/-- The heap behind the last write ahead of p, in k's history. -/
theorem hist_at (hR : RunC call ds T H hi) (h0 : hi 0 = [H 0]) {p : Nat} : ∀ k, p ≤ k → k ≤ ds.length →
    ∃ q, q ≤ p ∧ (∀ i d, ds[i]? = some d → q ≤ i → i < p → d.eff = false) ∧ (hi k)[cnt ds k - cnt ds p]? = some (H q)
  | 0, hp, _ => ⟨0, by omega, fun i d _ _ h => by omega, by rw [h0]; simp [cnt]⟩
  | k + 1, hp, hk => by
    have hd : ds[k]? = some ds[k] := by simp
    have hc := cnt_succ hd
    rcases Nat.lt_or_ge p (k + 1) with hlt | hge
    · obtain ⟨q, h1, h2, h3⟩ := hist_at (p := p) hR h0 k (by omega) (by omega)
      refine ⟨q, h1, h2, ?_⟩
      have hm := cnt_mono (ds := ds) (j := p) (k := k) (by omega) (by omega)
      rw [hc]
      cases he : ds[k].eff with
      | false => rw [(hR.quiet hd he).1]; simpa using h3
      | true =>
        obtain ⟨-, h⟩ := hR k _ hd
        generalize H (k + 1) = H1, T (k + 1) = T1, hi (k + 1) = hh at h ⊢
        cases h with
        | eff T' H' he' h hn hsw =>
          rw [if_pos rfl, show cnt ds k + 1 - cnt ds p = (cnt ds k - cnt ds p) + 1 by omega]
          simpa using h3
        | on v H' he' => rw [he] at he'; cases he'
        | off he' => rw [he] at he'; cases he'
    · have hpk : p = k + 1 := by omega
      subst hpk
      cases he : ds[k].eff with
      | false =>
        obtain ⟨q, h1, h2, h3⟩ := hist_at (p := k) hR h0 k (by omega) (by omega)
        refine ⟨q, by omega, fun i d hi' a1 a2 => ?_, ?_⟩
        · rcases Nat.lt_or_ge i k with h | h
          · exact h2 i d hi' a1 h
          · have : i = k := by omega
            subst this
            rw [hd] at hi'; cases hi'; exact he
        · rw [(hR.quiet hd he).1]
          simpa using h3
      | true =>
        refine ⟨k + 1, by omega, fun i d _ a1 a2 => by omega, ?_⟩
        obtain ⟨-, h⟩ := hR k _ hd
        generalize H (k + 1) = H1, T (k + 1) = T1, hi (k + 1) = hh at h ⊢
        cases h with
        | eff T' H' he' h hn hsw => simp
        | on v H' he' => rw [he] at he'; cases he'
        | off he' => rw [he] at he'; cases he'
end
end Go.AM
