/- A part of the proof of the claim of this folder (Sound2). -/
import Derived.Test.YtoiipnendgggoaaGreatDoorSound1
set_option autoImplicit true
set_option relaxedAutoImplicit true
set_option linter.all false
set_option linter.deprecated false
set_option linter.unnecessarySimpa false
set_option linter.unusedSectionVars false
set_option linter.unusedSimpArgs false
set_option linter.unusedVariables false
/-! Functions: their frames, their results. -/
namespace Go.AM
variable [G : Ground]
variable {P : Program}

theorem Post.base {r : Option Nat} {N B : Nat} {μ μ1 : Mu} {w w1 : World} (ht : Turn μ μ1 w w1) {e : AExit} {T' : Tmps} {H' : AHeap} {x : Exit} {a' : Act} {w' : World}
    (h : Post P r N B μ1 w1 e T' H' x a' w') : Post P r N B μ w e T' H' x a' w' := by
  obtain ⟨rfl, μ', st, t⟩ := h
  exact ⟨rfl, μ', st, ht.trans t⟩

/-- A call of a function with a body: it is entered. -/
theorem run_enter {f : FuncId} {fn : Func} {c : Code} (hf : P.funcs[f]? = some fn) (hname : fn.name ≠ "runtime.NumGoroutine") (hb : fn.body = some c) (args : Array Value) (w : World) :
    (callFunc f args).run P w = .ok (.enter f args) w := by
  simp [callFunc, hf, hname, hb]

/-! ### What a function hands back -/

theorem run_loadVar {μ : Mu} {H : AHeap} {w : World} (hH : HR P μ H w) {t : TypeId} {g : Bool} {n : Nat} (hg : aggA P t = some g) (hn : sizeA P t = some n) {x : AVal} {cv : Value} (hv : VR μ x cv) {y : AVal}
    (hl : (if g then fLoadN H n x else fLoad1 H x) = some y) : ∃ u, (do loadVar t (← asAddr cv) : Sem Value).run P w = .ok u w ∧ VR μ y u := by
  cases g with
  | true =>
    simp only [if_true] at hl
    unfold fLoadN at hl
    split at hl
    · obtain ⟨p, hp, rfl⟩ := hv.ptr_inv
      split at hl
      · rename_i l hrow
        obtain ⟨q, hq, hc⟩ := hH.row hrow
        rw [hp] at hq; cases hq
        simp only [Option.map_eq_some_iff] at hl
        obtain ⟨r, hr, rfl⟩ := hl
        obtain ⟨vs, h1, h2, h3⟩ := hc.load (P := P) hr
        refine ⟨.agg vs.toArray, ?_, .agg r vs h2 h3⟩
        simp [asAddr, loadVar, run_isAggA hg, run_sizeOfA hn, h1]
      · simp at hl
    · simp at hl
  | false =>
    simp only [Bool.false_eq_true, if_false] at hl
    unfold fLoad1 at hl
    split at hl
    · obtain ⟨p, hp, rfl⟩ := hv.ptr_inv
      split at hl
      · rename_i l hrow
        obtain ⟨q, hq, hc⟩ := hH.row hrow
        rw [hp] at hq; cases hq
        obtain ⟨cv, h1, h2, _⟩ := hc.cell hl
        refine ⟨cv, ?_, h2⟩
        simp [asAddr, loadVar, run_isAggA hg, h1]
      · simp at hl
    · simp at hl

theorem run_resultsL {μ : Mu} {H : AHeap} {w : World} {T : Tmps} {tmps : Array Value} (hT : TR μ T tmps) (hH : HR P μ H w) :
    ∀ (l : List ResultVar) {rs : List (Nat × Option (Bool × Nat))} {vs : List AVal}, compileResults P l = some rs → readResults T H rs = some vs →
      ∃ us, (l.mapM (fun | .tmp t => pure (tmps.getD t undef) | .cell a t => do loadVar t (← asAddr (tmps.getD a undef)) : ResultVar → Sem Value)).run P w = .ok us w ∧ VRs μ vs us := by
  intro l
  induction l with
  | nil =>
    intro rs vs h1 h2
    simp [compileResults] at h1; subst h1
    simp [readResults] at h2; subst h2
    exact ⟨[], by simp, .nil⟩
  | cons x l ih =>
    intro rs vs h1 h2
    unfold compileResults at h1
    split at h1
    · rename_i a as ha has
      simp at h1; subst h1
      unfold readResults at h2
      split at h2
      · rename_i v vs' hv hvs
        simp at h2; subst h2
        obtain ⟨us, hus, hrel⟩ := ih has hvs
        cases x with
        | tmp t =>
          simp [compileResult] at ha; subst ha
          simp [readResult] at hv; subst hv
          refine ⟨tmps.getD t undef :: us, ?_, .cons _ _ _ _ (hT t) hrel⟩
          simp only [List.mapM_cons, Sem.run_bind, Sem.run_pure, Result.andThen_ok, hus]
        | cell a' t =>
          unfold compileResult at ha
          simp only at ha
          split at ha
          · rename_i g n hg hn
            simp at ha; subst ha
            simp only [readResult] at hv
            obtain ⟨u, hu, hur⟩ := run_loadVar hH hg hn (hT a') hv
            refine ⟨u :: us, ?_, .cons _ _ _ _ hur hrel⟩
            simp only [List.mapM_cons, Sem.run_bind] at hu ⊢
            simp only [Sem.run_bind, Sem.run_pure, Result.andThen_ok, hus, hu]
          · simp at ha
      · simp at h2
    · simp at h1

theorem run_results {μ : Mu} {H : AHeap} {w : World} {T : Tmps} {tmps : Array Value} (hT : TR μ T tmps) (hH : HR P μ H w) {fn : Func} {rs : List (Nat × Option (Bool × Nat))} {vs : List AVal}
    (h1 : compileResults P fn.results.toList = some rs) (h2 : readResults T H rs = some vs) : ∃ u, (results fn tmps).run P w = .ok u w ∧ VR μ (tupled vs) u := by
  obtain ⟨us, hus, hrel⟩ := run_resultsL hT hH fn.results.toList h1 h2
  have hM : (fn.results.mapM (fun | .tmp t => pure (tmps.getD t undef) | .cell a t => do loadVar t (← asAddr (tmps.getD a undef)) : ResultVar → Sem Value)).run P w = .ok us.toArray w := by
    rw [← Array.toArray_toList (xs := fn.results), List.mapM_toArray]
    simp only [Sem.run_map, hus]
    rfl
  refine ⟨if h : us.toArray.size = 1 then us.toArray[0] else .tuple us.toArray, ?_, ?_⟩
  · unfold results
    simp only [Sem.run_bind]
    refine (congrArg (fun r => Result.andThen r _) hM).trans ?_
    simp only [Result.andThen_ok, Sem.run_pure]
  cases hrel with
  | nil => exact .tup [] [] .nil
  | cons a l a' l' h hl =>
    cases hl with
    | nil => simpa [tupled] using h
    | cons b m b' m' h' hl' =>
      simp only [tupled, List.size_toArray, List.length_cons]
      rw [dif_neg (by omega)]
      exact .tup _ _ (.cons _ _ _ _ h (.cons _ _ _ _ h' hl'))

/-! ### The way out -/

theorem leaves_marks {μ0 μ : Mu} {w0 : World} {B : Nat} (hB : B = w0.heap.size) {T : Tmps} {tmps : Array Value} (hT : TR μ T tmps) {fn : Func} {rs : List (Nat × Option (Bool × Nat))} {vs : List AVal}
    (h1 : compileResults P fn.results.toList = some rs) {H : AHeap} (h2 : readResults T H rs = some vs) :
    ∀ (l : List Nat) (w : World), HR P μ H w → Turn μ0 μ w0 w → l.Nodup → (∀ r ∈ l, w.heap[r]? = some (.deferred (some [])) ∧ (∀ id p, μ id = some p → p.blk ≠ r) ∧ B ≤ r) →
      LeavesInM Fence.wide 0 P fn tmps (CallPost P μ0 w0 (tupled vs) H) (l.map (fun r => ({ target := .collected r, args := #[] } : Deferred))) .returning w := by
  intro l
  induction l with
  | nil =>
    intro w hH ht _ _
    obtain ⟨u, hu, hr⟩ := run_results hT hH h1 h2
    exact ⟨u, hu, u, μ, rfl, hr, hH, ht⟩
  | cons r l ih =>
    intro w hH ht hnd hl
    obtain ⟨g1, g2, g3⟩ := hl r (by simp)
    have hlt : r < w.heap.size := (Array.getElem?_eq_some_iff.1 g1).1
    have hgr : G.laid r = none := by
      cases e : G.laid r with
      | none => rfl
      | some o =>
        obtain ⟨c, el, fz, rfl⟩ := G.cells r o e
        have := hH.ground r _ e
        rw [g1] at this; cases this
    have hU : Upd w (w.putObj r (.deferred none)) r (.deferred none) := ⟨World.putObj_size, World.putObj_heap_same hlt, fun j hj => World.putObj_heap_other hj, rfl, rfl⟩
    refine ⟨by simp, .inl ⟨r, _, rfl, run_takeDeferred g1, ih _ (hH.other hU g2 hgr) ?_ (List.nodup_cons.1 hnd).2 fun q hq => ?_⟩⟩
    · refine ⟨ht.le, ht.fresh, fun b hb hn => ?_, by rw [World.putObj_size]; exact ht.grow, fun b q hq => ?_, ht.out⟩
      · rw [World.putObj_heap_other (by omega)]; exact ht.keep b hb hn
      · obtain ⟨q', hq'⟩ := ht.kind b q hq
        refine ⟨q', ?_⟩
        rw [World.putObj_heap_other]
        · exact hq'
        · intro e; subst e; rw [g1] at hq'; cases hq'
    · obtain ⟨k1, k2, k3⟩ := hl q (by simp [hq])
      have hne : q ≠ r := by intro e; subst e; exact (List.nodup_cons.1 hnd).1 hq
      exact ⟨by rw [World.putObj_heap_other hne]; exact k1, k2, k3⟩

/-! ### The way in -/

theorem tmpsOf_at : ∀ (l : List AVal) (i : Nat) (T : Tmps) (j : Nat), Tmps.at (tmpsOf l i T) j = if i ≤ j ∧ j < i + l.length then l.getD (j - i) undefA else T.at j
  | [], i, T, j => by
    rw [if_neg (by simp)]; rfl
  | a :: l, i, T, j => by
    rw [tmpsOf, tmpsOf_at l (i + 1)]
    by_cases h : i + 1 ≤ j ∧ j < i + 1 + l.length
    · rw [if_pos h, if_pos (by simp; omega)]
      obtain ⟨k, rfl⟩ : ∃ k, j = i + 1 + k := ⟨j - (i + 1), by omega⟩
      have e1 : i + 1 + k - (i + 1) = k := by omega
      have e2 : i + 1 + k - i = k + 1 := by omega
      rw [e1, e2]; simp
    · rw [if_neg h]
      by_cases hj : j = i
      · subst hj
        rw [if_pos (by simp)]; simp [Tmps.at_set_same]
      · rw [if_neg (by simp; omega), Tmps.at_set_ne _ _ (Ne.symm hj)]

theorem TR.enter {μ : Mu} {args : List AVal} {cargs : List Value} (h : VRs μ args cargs) (k : Nat) : TR μ (tmpsOf args 0 .leaf) (cargs.toArray ++ Array.replicate k undef) := by
  intro i
  rw [tmpsOf_at]
  by_cases hi : 0 ≤ i ∧ i < 0 + args.length
  · rw [if_pos hi]
    have hi' : i < args.length := by omega
    have hl := h.length
    obtain ⟨y, hy, hr⟩ := h.get (i := i) (x := args[i]) (by simp [hi'])
    have : (cargs.toArray ++ Array.replicate k undef).getD i undef = y := by
      rw [Array.getD_eq_getD_getElem?, Array.getElem?_append_left (by simp; omega)]
      simp [hy]
    rw [this]
    simpa [hi'] using hr
  · rw [if_neg hi, Tmps.at_leaf]
    have hl := h.length
    have : (cargs.toArray ++ Array.replicate k undef).getD i undef = undef := by
      rw [Array.getD_eq_getD_getElem?, Array.getElem?_append_right (by simp; omega)]
      rw [Array.getElem?_replicate]
      split <;> rfl
    rw [this]
    exact .undef

/-- The functions of the machine are the program's. -/
structure EnvOk (P : Program) (E : Env) : Prop where
  fn : ∀ f af, E.fn f = some af → ∃ fn, P.funcs[f]? = some fn ∧ compileF P fn = some af
  mixed : P.follows .mixedOrders = true

theorem compileF_inv {fn : Func} {af : AFunc} (h : compileF P fn = some af) : ∃ b rs, fn.body = some b ∧ compileResults P fn.results.toList = some rs ∧ fn.name ≠ "runtime.NumGoroutine" ∧
    af = { ntmps := fn.ntmps, body := compile P fn.ntmps b, results := rs } := by
  unfold compileF at h
  split at h
  · rename_i b rs hb hrs
    split at h
    · simp at h
    · rename_i hn
      simp at h
      exact ⟨b, rs, hb, hrs, hn, h.symm⟩
  · simp at h

theorem sim_enterFn {E : Env} (hE : EnvOk P E) {ex : Exec} (hex : SimExec P ex) {f : Nat} {args : List AVal} {H : AHeap} {v : AVal} {H' : AHeap} (h : enterFn E ex f args H = some (v, H'))
    {μ : Mu} {w : World} {cargs : List Value} (hH : HR P μ H w) (ha : VRs μ args cargs) :
    (callFunc f ⟨cargs⟩).run P w = .ok (.enter f ⟨cargs⟩) w ∧ CallsIn Fence.wide 0 P f ⟨cargs⟩ w (CallPost P μ w v H') := by
  unfold enterFn at h
  split at h
  · simp at h
  rename_i af haf
  obtain ⟨fn, hfn, hcomp⟩ := hE.fn f af haf
  obtain ⟨b, rs, hb, hrs, hname, rfl⟩ := compileF_inv hcomp
  simp only at h
  split at h
  · rename_i hlen
    split at h
    · rename_i e T1 H1 hrun
      split at h
      · rename_i hstay
        split at h
        · rename_i vs hvs
          simp at h
          obtain ⟨rfl, rfl⟩ := h
          refine ⟨run_enter hfn hname hb _ w, callsIn_of_wp_marks hfn hb trivial (wpIn_mono (hex fn.ntmps b _ H e T1 H1 hrun none w.heap.size μ _ w ?_) ?_)⟩
          · refine ⟨TR.enter ha _, ?_, hH, ⟨Nat.le_refl _, [], rfl, List.nodup_nil, by simp⟩, by simp⟩
            have := ha.length
            simp; omega
          · rintro x a' w' ⟨rfl, μ', st, ht⟩
            obtain ⟨hB, l, hds, hnd, hl⟩ := st.marks
            have := leaves_marks (P := P) rfl st.tr hrs hvs l w' st.hr ht hnd hl
            rw [← hds] at this
            cases e with
            | normal => exact this
            | ret => exact this
            | exit id => simp [AExit.stays] at hstay
        · simp at h
      · simp at h
    · simp at h
  · simp at h
end Go.AM
