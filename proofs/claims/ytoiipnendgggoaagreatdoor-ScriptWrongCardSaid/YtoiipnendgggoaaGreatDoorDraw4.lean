/- A part of the proof of the claim of this folder (Draw4). -/
import Derived.Test.YtoiipnendgggoaaGreatDoorDraw3
set_option autoImplicit true
set_option relaxedAutoImplicit true
set_option linter.all false
set_option linter.deprecated false
set_option linter.unnecessarySimpa false
set_option linter.unusedSectionVars false
set_option linter.unusedSimpArgs false
set_option linter.unusedVariables false
/-! Whatever order is drawn: one operation more. -/
namespace Go.AM
variable [G : Ground]
variable {P : Program}

section
variable {call : Caller} {r : Option Nat} {N B : Nat} {ops : Array Oper} {preds : List (List Nat)} {ds : List DOper} {T : Nat → Tmps} {H : Nat → AHeap} {hi : Nat → List AHeap} {μ0 : Mu} {a0 : Act} {w0 : World}
  {p : Nat} {μ μp : Mu} {pl : Nat → Place} {ls : Array Bool} {a : Act} {w : World}

theorem getD_set {ls : Array Bool} {i : Nat} (hi : i < ls.size) (j : Nat) : (ls.setIfInBounds i true).getD j false = (if j = i then true else ls.getD j false) := by
  by_cases h : j = i
  · subst h; simp [hi]
  · rw [if_neg h]
    simp [Array.getD_eq_getD_getElem?, Array.getElem?_setIfInBounds, Ne.symm h]

theorem put_getD (a : Act) (dst : Option Tmp) (v : Value) (s : Nat) : (a.put dst v).tmps.getD s undef = if dst = some s ∧ s < a.tmps.size then v else a.tmps.getD s undef := by
  cases dst with
  | none => simp [Act.put]
  | some d =>
    by_cases h : d = s
    · subst h
      by_cases hs : d < a.tmps.size
      · simp [Act.put, hs]
      · simp [Act.put, hs]
    · simp [Act.put, Array.getD_eq_getD_getElem?, Array.getElem?_setIfInBounds, h]

theorem put_size (a : Act) (dst : Option Tmp) (v : Value) : (a.put dst v).tmps.size = a.tmps.size := by
  cases dst <;> simp [Act.put]

theorem put_defers (a : Act) (dst : Option Tmp) (v : Value) : (a.put dst v).defers = a.defers := by
  cases dst <;> simp [Act.put]

theorem Inv.add (cx : Cx P call r N B ops preds ds T H hi μ0 a0 w0) (h : Inv P N ops preds ds T H μ0 a0 w0 p μ μp pl ls a w) {j : Nat} {d : DOper} (hd : ds[j]? = some d) (hj : p ≤ j)
    (hun : ls.getD d.at_ false = false) (hr : ∀ x ∈ preds.getD d.at_ [], ls.getD x false = true) (he : d.eff = false) {μp' : Mu} {pl' : Nat → Place} {w' : World} {cv : Value} (h1 : Mu.le μp μp')
    (h2 : (¬ Al H j ∧ μp' = μp ∧ pl' = pl ∧ w' = w) ∨ (Al H j ∧ ∃ ob n o, More w w' ob ∧ pl' = (fun k => if k = j then ⟨w.heap.size, 0, n⟩ else pl k) ∧ μp' = μp.put (H j).next ⟨w.heap.size, 0, n⟩ ∧
      (H (j + 1)).get (H j).next = some o ∧ OR P μp' w' ⟨w.heap.size, 0, n⟩ o))
    (h3 : ∀ s, d.o.dst = some s → VR μp' ((T (j + 1)).at s) cv ∧ s < N) :
    Inv P N ops preds ds T H μ0 a0 w0 p μ μp' pl' (ls.setIfInBounds d.at_ true) (a.put d.o.dst cv) w' := by
  have hlt : d.at_ < ls.size := by rw [h.lsz]; exact (cx.f hd).lt
  have hls := getD_set hlt
  have up : ∀ i, ls.getD i false = true → (ls.setIfInBounds d.at_ true).getD i false = true := by
    intro i hi'
    rw [hls]; split
    · rfl
    · exact hi'
  have down : ∀ (k : Nat) e, ds[k]? = some e → (ls.setIfInBounds d.at_ true).getD e.at_ false = true → (k = j ∧ e = d) ∨ (k ≠ j ∧ ls.getD e.at_ false = true) := by
    intro k e hk hi'
    by_cases hkj : k = j
    · subst hkj; rw [hd] at hk; cases hk; exact .inl ⟨rfl, rfl⟩
    · rw [hls] at hi'
      split at hi'
      · rename_i heq
        exact absurd (cx.uniq hk hd heq) hkj
      · exact .inr ⟨hkj, hi'⟩
  have other : ∀ k e, ds[k]? = some e → ls.getD e.at_ false = true → k ≠ j := by
    intro k e hk hl' hkj
    subst hkj; rw [hd] at hk; cases hk; rw [hun] at hl'; cases hl'
  have hW : (w' = w) ∨ ∃ ob, More w w' ob := by
    rcases h2 with ⟨-, -, -, e⟩ | ⟨-, ob, n, o, hm, -⟩
    · exact .inl e
    · exact .inr ⟨ob, hm⟩
  have hHR : HR P μ (H p) w' ∧ Turn μ0 μ w0 w' := by
    rcases hW with rfl | ⟨ob, hm⟩
    · exact ⟨h.hr, h.turn⟩
    · exact ⟨(h.hr.extra hm).1, h.turn.trans (h.hr.extra hm).2⟩
  have hsize : w.heap.size ≤ w'.heap.size := by
    rcases hW with rfl | ⟨ob, hm⟩
    · exact Nat.le_refl _
    · have := hm.size; omega
  have hold : ∀ b, b < w.heap.size → w'.heap[b]? = w.heap[b]? := by
    intro b hb
    rcases hW with rfl | ⟨ob, hm⟩
    · rfl
    · exact hm.old b hb
  have hpl : ∀ k, k ≠ j → pl' k = pl k := by
    intro k hk
    rcases h2 with ⟨-, -, e, -⟩ | ⟨-, ob, n, o, -, e, -⟩
    · rw [e]
    · rw [e]; simp [hk]
  refine ⟨h.psz, by simp [h.lsz], fun i hi' x hx => ?_, fun k e hk hlt' => up _ (h.low k e hk hlt'), fun k e hk hle hl' => ?_, hHR.2, hHR.1, Mu.le_trans h.le h1, fun id q hq => ?_, fun k e hk hle hl' hal => ?_,
    fun k e s hk hle hl' hs => ?_, fun s hs => ?_, by rw [put_size]; exact h.size, by rw [put_defers]; exact h.defs⟩
  · rw [hls] at hi'
    split at hi'
    · rename_i heq
      subst heq
      exact up x (hr x hx)
    · exact up x (h.closed i hi' x hx)
  · rcases down k e hk hl' with ⟨rfl, rfl⟩ | ⟨hne, hl''⟩
    · exact he
    · exact h.noEff k e hk hle hl''
  · have old : μp id = some q → μ id = some q ∨ ∃ (k : Nat) (d_1 : DOper), ds[k]? = some d_1 ∧ p ≤ k ∧ (ls.setIfInBounds d.at_ true).getD d_1.at_ false = true ∧ Al H k ∧ id = (H k).next ∧ q = pl' k := by
      intro hq
      rcases h.ext id q hq with hm | ⟨k, e, hk, hle, hl', hal, hid, hq'⟩
      · exact .inl hm
      · exact .inr ⟨k, e, hk, hle, up _ hl', hal, hid, by rw [hpl k (other k e hk hl')]; exact hq'⟩
    rcases h2 with ⟨-, e1, -, -⟩ | ⟨hal, ob, n, o, -, e2, e1, -⟩
    · rw [e1] at hq; exact old hq
    · by_cases hid : id = (H j).next
      · rw [e1, hid, Mu.put_same] at hq
        cases hq
        exact .inr ⟨j, d, hd, hj, by rw [hls]; simp, hal, hid, by rw [e2]; simp⟩
      · rw [e1, Mu.put_ne _ _ hid] at hq; exact old hq
  · rcases down k e hk hl' with ⟨rfl, rfl⟩ | ⟨hne, hl''⟩
    · rcases h2 with ⟨hnal, -⟩ | ⟨-, ob, n, o, hm, e2, e1, ho, hor⟩
      · exact absurd hal hnal
      · have e3 : pl' k = ⟨w.heap.size, 0, n⟩ := by rw [e2]; simp
        rw [e3]
        refine ⟨by rw [e1, Mu.put_same], ⟨o, ho, hor⟩, h.turn.grow, by have := hm.size; show w.heap.size < _; omega, fun id q hq => ?_, fun k' d' hne hk' hle' hl'' hal' => ?_⟩
        · have := h.hr.bnd id q hq
          show q.blk ≠ w.heap.size
          omega
        · rcases down k' d' hk' hl'' with ⟨e, -⟩ | ⟨-, hl3⟩
          · exact absurd e hne
          · rw [hpl k' hne]
            obtain ⟨-, -, -, g4, -⟩ := h.new k' d' hk' hle' hl3 hal'
            show (pl k').blk ≠ w.heap.size
            omega
    · obtain ⟨g1, ⟨o, g2, g2'⟩, g3, g4, g5, g6⟩ := h.new k e hk hle hl'' hal
      rw [hpl k hne]
      refine ⟨h1 _ _ g1, ⟨o, g2, g2'.mono h1 (hold _ g4)⟩, g3, by omega, g5, fun k' d' hne' hk' hle' hl3 hal' => ?_⟩
      rcases down k' d' hk' hl3 with ⟨rfl, rfl⟩ | ⟨hne2, hl4⟩
      · rcases h2 with ⟨hnal, -⟩ | ⟨-, ob, n, o', hm, e2, e1, ho, hor⟩
        · exact absurd hal' hnal
        · rw [e2]; simp only [if_true]
          show w.heap.size ≠ _
          omega
      · rw [hpl k' hne2]; exact g6 k' d' hne' hk' hle' hl4 hal'
  · rcases down k e hk hl' with ⟨rfl, rfl⟩ | ⟨hne, hl''⟩
    · obtain ⟨g1, g2⟩ := h3 s hs
      rw [put_getD, if_pos ⟨hs, by rw [h.size]; exact g2⟩]
      exact g1
    · rw [put_getD, if_neg (fun hc => hne (cx.dst hk hd hs hc.1))]
      exact (h.slot k e s hk hle hl'' hs).mono h1
  · have hne : d.o.dst ≠ some s := hs j d hd hj (by rw [hls]; simp)
    rw [put_getD, if_neg (fun hc => hne hc.1)]
    exact h.rest s fun k e hk hle hl' => hs k e hk hle (up _ hl')

/-- What an operation looks at is there already. -/
theorem Inv.lookVR (cx : Cx P call r N B ops preds ds T H hi μ0 a0 w0) (h : Inv P N ops preds ds T H μ0 a0 w0 p μ μp pl ls a w) {j : Nat} {d : DOper} (hd : ds[j]? = some d) (hj : p ≤ j)
    (hun : ls.getD d.at_ false = false) (hr : ∀ x ∈ preds.getD d.at_ [], ls.getD x false = true) {s : Nat} (hs : s ∈ lookAll ops d) : VR μp ((T j).at s) (a.tmps.getD s undef) := by
  by_cases hx : ∃ (k : Nat) (e : DOper), ds[k]? = some e ∧ p ≤ k ∧ ls.getD e.at_ false = true ∧ e.o.dst = some s
  · obtain ⟨k, e, hk, hle, hl', hdst⟩ := hx
    have hv := h.slot k e s hk hle hl' hdst
    rcases Nat.lt_trichotomy k j with hlt | rfl | hlt
    · rw [cx.run.at (j := k + 1) (k := j) hlt (Nat.le_of_lt (lt_of_get hd)) (s := s) fun i f hi' h1 h2 hf => ?_]
      · exact hv
      · have := cx.dst hi' hk hf hdst; omega
    · rw [hd] at hk; cases hk; rw [hun] at hl'; cases hl'
    · have := h.closed _ hl' _ ((cx.f hk).look' j d s hd hlt hdst hs)
      rw [hun] at this; cases this
  · rw [cx.run.at (j := p) (k := j) hj (Nat.le_of_lt (lt_of_get hd)) (s := s) fun i f hi' h1 h2 hf => ?_]
    · exact (h.rest s fun k e hk hle hl' hdst => hx ⟨k, e, hk, hle, hl', hdst⟩).mono h.le
    · exact hx ⟨i, f, hi', h1, hr _ ((cx.f hd).look i f s hi' h2 hf hs), hf⟩

theorem tabulate (l : List Nat) (f : Nat → AVal) : ∃ T' : Tmps, ∀ i, T'.at i = if i ∈ l then f i else undefA := by
  induction l with
  | nil => exact ⟨.leaf, fun i => by simp [Tmps.at_leaf]⟩
  | cons x l ih =>
    obtain ⟨T', hT⟩ := ih
    refine ⟨PT.set T' x (f x), fun i => ?_⟩
    by_cases h : x = i
    · subst h; simp [Tmps.at_set_same]
    · rw [Tmps.at_set_ne _ _ h, hT]
      simp [Ne.symm h]

theorem compileOper_cases (N : Nat) (ops : Array Oper) (o : Oper) :
    (∃ aop g, compileOp P o.op = some aop ∧ compileGuard ops o.guard = some g ∧ dstOk N o.dst = true ∧ compileOper P N ops o = { dst := o.dst, guard := g, op := aop }) ∨ compileOper P N ops o = failOp := by
  unfold compileOper
  split
  · rename_i aop g h1 h2
    split
    · rename_i h3
      exact .inl ⟨aop, g, h1, h2, h3, rfl⟩
    · exact .inr rfl
  · exact .inr rfl

theorem wanted_congr {o : Oper} {t t' : Array Value} (hs : t.size = t'.size) (h : ∀ s ∈ o.looksAt ops, t.getD s undef = t'.getD s undef) :
    Region.wanted o (yielded ops t) = Region.wanted o (yielded ops t') := by
  unfold Region.wanted
  split
  · rfl
  · rename_i g want hg
    have : yielded ops t g = yielded ops t' g := by
      unfold yielded
      cases hb : (ops[g]?).bind (·.dst) with
      | none => rfl
      | some s =>
        have hm : s ∈ o.looksAt ops := by
          unfold Oper.looksAt
          rw [hg]
          simp only [hb]
          simp
        have := h s hm
        have e : t[s]? = t'[s]? := by
          by_cases hlt : s < t.size
          · have hlt' : s < t'.size := hs ▸ hlt
            simp [hlt, hlt'] at this ⊢
            exact this
          · have hlt' : ¬ s < t'.size := hs ▸ hlt
            simp [hlt, hlt']
        simp only [Option.bind_some, e]
    rw [this]

theorem exec_congr {o : Oper} {aop : AOp} (hc : compileOp P o.op = some aop) {a b : Act} (h : ∀ s ∈ o.looksAt ops, a.tmps.getD s undef = b.tmps.getD s undef) : execOp a.eval o = execOp b.eval o := by
  refine execOp_congr o (fun cs bl hsel => by rw [hsel] at hc; simp [compileOp] at hc) fun x hx => ?_
  cases x with
  | tmp t =>
    refine h t ?_
    unfold Oper.looksAt
    exact List.mem_append_left _ (List.mem_filterMap.2 ⟨.tmp t, by simpa using hx, rfl⟩)
  | _ => rfl
end
end Go.AM
