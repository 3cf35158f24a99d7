/- A part of the proof of the claim of this folder (Draw3). -/
import Derived.Test.YtoiipnendgggoaaGreatDoorDraw2
set_option autoImplicit true
set_option relaxedAutoImplicit true
set_option linter.all false
set_option linter.deprecated false
set_option linter.unnecessarySimpa false
set_option linter.unusedSectionVars false
set_option linter.unusedSimpArgs false
set_option linter.unusedVariables false
/-! Whatever order is drawn: what holds between. -/
namespace Go.AM
variable [G : Ground]
variable {P : Program}

theorem mem_take_of {ds : List DOper} {j k : Nat} {p : DOper} (hj : ds[j]? = some p) (h : j < k) : p ∈ ds.take k :=
  List.mem_iff_getElem?.2 ⟨j, by rw [List.getElem?_take, if_pos h]; exact hj⟩

/-- What the check says of one operation. -/
structure Facts (ops : Array Oper) (preds : List (List Nat)) (ds : List DOper) (k : Nat) (d : DOper) : Prop where
  lt : d.at_ < ops.size
  ne : ∀ (j : Nat) p, ds[j]? = some p → j < k → p.at_ ≠ d.at_
  edge : ∀ e ∈ (ops.getD d.at_ default).after, Region.binds .any e = true → ∃ (j : Nat) (p : DOper), ds[j]? = some p ∧ j < k ∧ p.at_ = e.on
  dst : ∀ (j : Nat) p s, ds[j]? = some p → j < k → p.o.dst = some s → d.o.dst ≠ some s
  look : ∀ (j : Nat) p s, ds[j]? = some p → j < k → p.o.dst = some s → s ∈ lookAll ops d → p.at_ ∈ preds.getD d.at_ []
  look' : ∀ (j : Nat) p s, ds[j]? = some p → j < k → d.o.dst = some s → s ∈ lookAll ops p → p.at_ ∈ preds.getD d.at_ []
  own : ∀ s, d.o.dst = some s → s ∉ lookAll ops d
  lo : d.lo ≤ ((ds.take k).filter fun p => p.eff && (preds.getD d.at_ []).contains p.at_).length

theorem facts {ops : Array Oper} {preds : List (List Nat)} {ds : List DOper} (h : drawChecks (drawCheck1 ops preds) [] ds = true) {k : Nat} {d : DOper} (hk : ds[k]? = some d) : Facts ops preds ds k d := by
  have h1 := drawChecks_spec ds [] h k d hk
  simp only [List.nil_append, drawCheck1, Bool.and_eq_true, decide_eq_true_eq] at h1
  obtain ⟨c1, c2, c3, c5, c6, c7, c8⟩ := h1
  refine ⟨c1, fun j p hj hjk => ?_, fun e he hb => ?_, fun j p s hj hjk hp hd => ?_, fun j p s hj hjk hp hs => ?_, fun j p s hj hjk hp hs => ?_, fun s hs hm => ?_, c8⟩
  · have := List.all_eq_true.1 c2 p (mem_take_of hj hjk)
    simpa using this
  · have := List.all_eq_true.1 c3 e (by simpa using he)
    rw [hb] at this
    simp only [Bool.not_true, Bool.false_or, List.any_eq_true] at this
    obtain ⟨p, hp, hpe⟩ := this
    obtain ⟨j, hj⟩ := List.mem_iff_getElem?.1 hp
    rw [List.getElem?_take] at hj
    split at hj
    · rename_i hlt
      exact ⟨j, p, hj, hlt, by simpa using hpe⟩
    · simp at hj
  · have := List.all_eq_true.1 c5 p (mem_take_of hj hjk)
    rw [hp, hd] at this
    simp [sameDst] at this
  · have := List.all_eq_true.1 c6 p (mem_take_of hj hjk)
    rw [hp] at this
    have hl : looks (lookAll ops d) (some s) = true := by simpa [looks] using hs
    rw [hl] at this
    simpa using this
  · have := List.all_eq_true.1 c6 p (mem_take_of hj hjk)
    rw [hp] at this
    have hl : looks (lookAll ops p) (some s) = true := by simpa [looks] using hs
    rw [hl] at this
    simpa using this
  · rw [hs] at c7
    have hl : looks (lookAll ops d) (some s) = true := by simpa [looks] using hm
    rw [hl] at c7
    simp at c7

/-- A region, its run in our order, where it began. -/
structure Cx (P : Program) (call : Caller) (r : Option Nat) (N B : Nat) (ops : Array Oper) (preds : List (List Nat)) (ds : List DOper) (T : Nat → Tmps) (H : Nat → AHeap) (hi : Nat → List AHeap) (μ0 : Mu) (a0 : Act) (w0 : World) : Prop where
  len : ds.length = ops.size
  pre : predsOk ops preds = true
  chk : drawChecks (drawCheck1 ops preds) [] ds = true
  sur : ∀ i, i < ops.size → ∃ (k : Nat) (d : DOper), ds[k]? = some d ∧ d.at_ = i
  op : ∀ (k : Nat) d, ds[k]? = some d → ∃ o, ops[d.at_]? = some o ∧ d.o = compileOper P N ops o
  run : RunC call ds T H hi
  h0 : hi 0 = [H 0]
  st0 : St P r N B μ0 (T 0) (H 0) a0 w0

section
variable {call : Caller} {r : Option Nat} {N B : Nat} {ops : Array Oper} {preds : List (List Nat)} {ds : List DOper} {T : Nat → Tmps} {H : Nat → AHeap} {hi : Nat → List AHeap} {μ0 : Mu} {a0 : Act} {w0 : World}

theorem Cx.f (cx : Cx P call r N B ops preds ds T H hi μ0 a0 w0) {k : Nat} {d : DOper} (hk : ds[k]? = some d) : Facts ops preds ds k d := facts cx.chk hk

theorem Cx.uniq (cx : Cx P call r N B ops preds ds T H hi μ0 a0 w0) {j k : Nat} {p d : DOper} (hj : ds[j]? = some p) (hk : ds[k]? = some d) (h : p.at_ = d.at_) : j = k := by
  rcases Nat.lt_trichotomy j k with hlt | rfl | hlt
  · exact absurd h ((cx.f hk).ne j p hj hlt)
  · rfl
  · exact absurd h.symm ((cx.f hj).ne k d hk hlt)

theorem Cx.dst (cx : Cx P call r N B ops preds ds T H hi μ0 a0 w0) {j k : Nat} {p d : DOper} (hj : ds[j]? = some p) (hk : ds[k]? = some d) {s : Nat} (h1 : p.o.dst = some s) (h2 : d.o.dst = some s) : j = k := by
  rcases Nat.lt_trichotomy j k with hlt | rfl | hlt
  · exact absurd h2 ((cx.f hk).dst j p s hj hlt h1)
  · rfl
  · exact absurd h1 ((cx.f hj).dst k d s hk hlt h2)

theorem lt_of_get {ds : List DOper} {k : Nat} {d : DOper} (h : ds[k]? = some d) : k < ds.length := (List.getElem?_eq_some_iff.1 h).1

/-- A block is made. -/
def Al (H : Nat → AHeap) (k : Nat) : Prop := (H (k + 1)).next ≠ (H k).next

structure Inv (P : Program) (N : Nat) (ops : Array Oper) (preds : List (List Nat)) (ds : List DOper) (T : Nat → Tmps) (H : Nat → AHeap) (μ0 : Mu) (a0 : Act) (w0 : World)
    (p : Nat) (μ μp : Mu) (pl : Nat → Place) (ls : Array Bool) (a : Act) (w : World) : Prop where
  psz : p ≤ ds.length
  lsz : ls.size = ops.size
  closed : ∀ i, ls.getD i false = true → ∀ x ∈ preds.getD i [], ls.getD x false = true
  low : ∀ (k : Nat) d, ds[k]? = some d → k < p → ls.getD d.at_ false = true
  noEff : ∀ (k : Nat) d, ds[k]? = some d → p ≤ k → ls.getD d.at_ false = true → d.eff = false
  turn : Turn μ0 μ w0 w
  hr : HR P μ (H p) w
  le : Mu.le μ μp
  ext : ∀ id q, μp id = some q → μ id = some q ∨ ∃ (k : Nat) (d : DOper), ds[k]? = some d ∧ p ≤ k ∧ ls.getD d.at_ false = true ∧ Al H k ∧ id = (H k).next ∧ q = pl k
  new : ∀ (k : Nat) d, ds[k]? = some d → p ≤ k → ls.getD d.at_ false = true → Al H k →
    μp (H k).next = some (pl k) ∧ (∃ o, (H (k + 1)).get (H k).next = some o ∧ OR P μp w (pl k) o) ∧ w0.heap.size ≤ (pl k).blk ∧ (pl k).blk < w.heap.size ∧
    (∀ id q, μ id = some q → q.blk ≠ (pl k).blk) ∧ (∀ (k' : Nat) d', k' ≠ k → ds[k']? = some d' → p ≤ k' → ls.getD d'.at_ false = true → Al H k' → (pl k').blk ≠ (pl k).blk)
  slot : ∀ (k : Nat) d s, ds[k]? = some d → p ≤ k → ls.getD d.at_ false = true → d.o.dst = some s → VR μp ((T (k + 1)).at s) (a.tmps.getD s undef)
  rest : ∀ s, (∀ (k : Nat) d, ds[k]? = some d → p ≤ k → ls.getD d.at_ false = true → d.o.dst ≠ some s) → VR μ ((T p).at s) (a.tmps.getD s undef)
  size : a.tmps.size = N
  defs : a.defers = a0.defers

/-- The block that a reader finds: no elder than so. -/
theorem RunC.elder (hR : RunC call ds T H hi) {k : Nat} {d : DOper} (hk : ds[k]? = some d) (he : d.eff = false) {s : Nat} (hs : d.o.dst = some s) : AVal.elder (H (k + 1)).next ((T (k + 1)).at s) = true := by
  obtain ⟨-, h⟩ := hR k d hk
  generalize H (k + 1) = H1, T (k + 1) = T1, hi (k + 1) = h1 at h ⊢
  cases h with
  | eff T' H' he' h hn hsw => rw [he] at he'; cases he'
  | on v H' he' hw h hok hel hf => rw [hs]; simpa [putDst, Tmps.at_set_same] using hel
  | off he' hw => rw [hs]; simp [putDst, Tmps.at_set_same, undefA, AVal.elder, AVal.elders]

theorem elders_get {n : Nat} : ∀ {l : List AVal}, AVal.elders n l = true → ∀ {i : Nat} {x : AVal}, l[i]? = some x → AVal.elder n x = true
  | [], _, i, x, h => by simp at h
  | a :: l, he, 0, x, h => by simp [AVal.elders] at he; simp at h; subst h; exact he.1
  | a :: l, he, i + 1, x, h => by simp [AVal.elders] at he; exact elders_get he.2 (by simpa using h)

theorem OR.restrict {μ μ' : Mu} {n : Nat} (hm : ∀ id p, id < n → μ id = some p → μ' id = some p) {w : World} {p : Place} {o : AObj} (h : OR P μ w p o)
    (hf : (match o with | .cells l => AVal.elders n l | .map l => l.isEmpty | _ => false) = true) : OR P μ' w p o := by
  cases o with
  | cells l =>
    obtain ⟨c, el, fz, h1, h2, h3, h4, h5⟩ := h
    refine ⟨c, el, fz, h1, h2, h3, fun i x hx => ?_, h5⟩
    obtain ⟨v, g1, g2, g3⟩ := h4 i x hx
    exact ⟨v, g1, g2.restrict hm (elders_get hf hx), g3⟩
  | map l =>
    simp at hf
    subst hf
    obtain ⟨es, clock, h1, h2⟩ := h
    refine ⟨es, clock, h1, ?_⟩
    generalize es.toList = m at h2
    cases h2
    exact .nil
  | dead => simp at hf
  | loop => simp at hf

theorem HR.absorb {μ : Mu} {H : AHeap} {w : World} (h : HR P μ H w) {q : Place} {x : AObj} (hx : OR P (μ.put H.next q) w q x) (hb : q.blk < w.heap.size) (hn : ∀ id p, μ id = some p → p.blk ≠ q.blk) (hg : G.laid q.blk = none) :
    HR P (μ.put H.next q) (H.new x) w := by
  have hnone := (h.top H.next (Nat.le_refl _)).2
  have hle := Mu.le_put μ q hnone
  have hput : ∀ id p, (μ.put H.next q) id = some p → (id = H.next ∧ p = q) ∨ (id ≠ H.next ∧ μ id = some p) := by
    intro id p hp
    by_cases e : id = H.next
    · subst e; rw [Mu.put_same] at hp; cases hp; exact .inl ⟨rfl, rfl⟩
    · rw [Mu.put_ne _ _ e] at hp; exact .inr ⟨e, hp⟩
  refine ⟨fun id hid => ?_, fun id o ho => ?_, fun id id' p p' hl hl' hp hp' he => ?_, fun id p hp => ?_, h.lim, h.ground, fun id p hp => by
    rcases hput id p hp with ⟨-, rfl⟩ | ⟨-, g1⟩
    · exact hg
    · exact h.apart _ _ g1⟩
  · have hid' : H.next + 1 ≤ id := hid
    have hne : id ≠ H.next := by omega
    obtain ⟨g1, g2⟩ := h.top id (by omega)
    exact ⟨by rw [AHeap.get_new_ne _ _ (Ne.symm hne)]; exact g1, by rw [Mu.put_ne _ _ hne]; exact g2⟩
  · by_cases e : id = H.next
    · subst e
      rw [AHeap.get_new_same] at ho
      cases ho
      exact ⟨q, Mu.put_same _ _ _, hx⟩
    · rw [AHeap.get_new_ne _ _ (Ne.symm e)] at ho
      obtain ⟨p, hp, ho'⟩ := h.obj id o ho
      exact ⟨p, hle id p hp, ho'.mono hle rfl⟩
  · rcases hput id p hp with ⟨rfl, rfl⟩ | ⟨n1, g1⟩ <;> rcases hput id' p' hp' with ⟨rfl, rfl⟩ | ⟨n2, g2⟩
    · rfl
    · exact absurd he.symm (hn _ _ g2)
    · exact absurd he (hn _ _ g1)
    · refine h.inj id id' p p' ?_ ?_ g1 g2 he
      · rcases AHeap.live_new hl with e | e
        · exact absurd e n1
        · exact e
      · rcases AHeap.live_new hl' with e | e
        · exact absurd e n2
        · exact e
  · rcases hput id p hp with ⟨rfl, rfl⟩ | ⟨n1, g1⟩
    · exact hb
    · exact h.bnd id p g1

/-- What lies ahead of the base becomes the base. -/
theorem Inv.absorb (cx : Cx P call r N B ops preds ds T H hi μ0 a0 w0) {p : Nat} {μ μp : Mu} {pl : Nat → Place} {ls : Array Bool} {a : Act} {w : World}
    (h : Inv P N ops preds ds T H μ0 a0 w0 p μ μp pl ls a w) {d : DOper} (hd : ds[p]? = some d) (hl : ls.getD d.at_ false = true) :
    ∃ μ', Inv P N ops preds ds T H μ0 a0 w0 (p + 1) μ' μp pl ls a w := by
  have he := h.noEff p d hd (Nat.le_refl _) hl
  have hp1 : p + 1 ≤ ds.length := lt_of_get hd
  have build : ∀ μ', Mu.le μ μ' → Mu.le μ' μp → (∀ id q, id < (H (p + 1)).next → μp id = some q → μ' id = some q) → HR P μ' (H (p + 1)) w → Turn μ0 μ' w0 w →
      (∀ id q, μ' id = some q → μ id = some q ∨ (Al H p ∧ q = pl p)) → (∀ id q, μp id = some q → Al H p → id = (H p).next → μ' id = some q) →
      Inv P N ops preds ds T H μ0 a0 w0 (p + 1) μ' μp pl ls a w := by
    intro μ' h1 h2 h3 h4 h5 h6 h7
    refine ⟨hp1, h.lsz, h.closed, fun k e hk hlt => ?_, fun k e hk hle hl' => h.noEff k e hk (by omega) hl', h5, h4, h2, fun id q hq => ?_, fun k e hk hle hl' hal => ?_, fun k e s hk hle hl' hs => h.slot k e s hk (by omega) hl' hs, fun s hs => ?_, h.size, h.defs⟩
    · rcases Nat.lt_or_ge k p with hlt' | hge
      · exact h.low k e hk hlt'
      · have : k = p := by omega
        subst this
        rw [hd] at hk; cases hk; exact hl
    · rcases h.ext id q hq with hm | ⟨k, e, hk, hle, hl', hal, hid, hpl⟩
      · exact .inl (h1 id q hm)
      · rcases Nat.lt_or_ge p k with hlt | hge
        · exact .inr ⟨k, e, hk, hlt, hl', hal, hid, hpl⟩
        · have : k = p := by omega
          subst this
          exact .inl (h7 id q hq hal hid)
    · obtain ⟨g1, g2, g3, g4, g5, g6⟩ := h.new k e hk (by omega) hl' hal
      refine ⟨g1, g2, g3, g4, fun id q hq => ?_, fun k' d' hne hk' hle' hl'' hal' => g6 k' d' hne hk' (by omega) hl'' hal'⟩
      rcases h6 id q hq with hm | ⟨halp, rfl⟩
      · exact g5 id q hm
      · exact g6 p d (by omega) hd (Nat.le_refl _) hl halp
    · by_cases hs' : d.o.dst = some s
      · exact (h.slot p d s hd (Nat.le_refl _) hl hs').restrict (fun id q hid hq => h3 id q hid hq) (cx.run.elder hd he hs')
      · rw [cx.run.at1 hd hs']
        refine (h.rest s fun k e hk hle hl' hse => ?_).mono h1
        rcases Nat.lt_or_ge p k with hlt | hge
        · exact hs k e hk hlt hl' hse
        · have : k = p := by omega
          subst this
          rw [hd] at hk; cases hk; exact hs' hse
  have later : ∀ (k : Nat) (e : DOper), ds[k]? = some e → p + 1 ≤ k → (H (p + 1)).next ≤ (H k).next := fun k e hk hle => cx.run.next hle (Nat.le_of_lt (lt_of_get hk))
  rcases (cx.run.quiet hd he).2 with hq | ⟨⟨x, hq⟩, hf⟩
  · have hnal : ¬ Al H p := by simp [Al, hq]
    refine ⟨μ, build μ (Mu.le_refl _) h.le (fun id q hid hm => ?_) (by rw [hq]; exact h.hr) h.turn (fun id q hm => .inl hm) (fun _ _ _ hal _ => absurd hal hnal)⟩
    rcases h.ext id q hm with h1 | ⟨k, e, hk, hle, hl', hal, hid', -⟩
    · exact h1
    · rcases Nat.lt_or_ge p k with hlt | hge
      · have := later k e hk hlt; omega
      · have : k = p := by omega
        subst this
        exact absurd hal hnal
  · have hal : Al H p := by simp [Al, hq]
    obtain ⟨g1, ⟨o, go, hor⟩, g3, g4, g5, g6⟩ := h.new p d hd (Nat.le_refl _) hl hal
    have hnone : μ (H p).next = none := (h.hr.top _ (Nat.le_refl _)).2
    have hle := Mu.le_put μ (pl p) hnone
    have hnext : (H (p + 1)).next = (H p).next + 1 := by rw [hq]; rfl
    have agree : ∀ id q, id < (H (p + 1)).next → μp id = some q → (μ.put (H p).next (pl p)) id = some q := by
      intro id q hid hm
      rcases h.ext id q hm with h1 | ⟨k, e, hk, hlek, hl', hal', hid', hpl⟩
      · exact hle id q h1
      · rcases Nat.lt_or_ge p k with hlt | hge
        · have := later k e hk hlt; omega
        · have : k = p := by omega
          subst this
          rw [hid', hpl, Mu.put_same]
    have ho : o = x := by rw [hq, AHeap.get_new_same] at go; exact (Option.some.inj go).symm
    subst ho
    refine ⟨μ.put (H p).next (pl p), build _ hle (fun id q hm => ?_) agree ?_ ?_ (fun id q hm => ?_) (fun id q hm _ hid => agree id q (by omega) hm)⟩
    · by_cases e : id = (H p).next
      · subst e; rw [Mu.put_same] at hm; rw [g1]; exact hm
      · rw [Mu.put_ne _ _ e] at hm; exact h.le id q hm
    · rw [hq]
      refine h.hr.absorb (OR.restrict agree hor ?_) g4 (fun id q hm => g5 id q hm) (Ground.above (Nat.le_trans cx.st0.hr.lim g3))
      unfold freshOk at hf
      rw [if_neg (by omega), go] at hf
      cases o <;> simpa using hf
    · refine ⟨Mu.le_trans h.turn.le hle, fun id q hm => ?_, h.turn.keep, h.turn.grow, h.turn.kind, h.turn.out⟩
      by_cases e : id = (H p).next
      · subst e; rw [Mu.put_same] at hm; cases hm; exact .inr (.inl g3)
      · rw [Mu.put_ne _ _ e] at hm; exact h.turn.fresh id q hm
    · by_cases e : id = (H p).next
      · subst e; rw [Mu.put_same] at hm; cases hm; exact .inr ⟨hal, rfl⟩
      · rw [Mu.put_ne _ _ e] at hm; exact .inl hm

theorem Inv.absorbTo (cx : Cx P call r N B ops preds ds T H hi μ0 a0 w0) {μp : Mu} {pl : Nat → Place} {ls : Array Bool} {a : Act} {w : World} {q : Nat} (hq : q ≤ ds.length)
    (hl : ∀ (k : Nat) d, ds[k]? = some d → k < q → ls.getD d.at_ false = true) : ∀ (m p : Nat) (μ : Mu), q = p + m → Inv P N ops preds ds T H μ0 a0 w0 p μ μp pl ls a w →
      ∃ μ', Inv P N ops preds ds T H μ0 a0 w0 q μ' μp pl ls a w
  | 0, p, μ, e, h => ⟨μ, by rw [e]; exact h⟩
  | m + 1, p, μ, e, h => by
    have hd : ds[p]? = some ds[p] := by simp
    obtain ⟨μ', h'⟩ := h.absorb cx hd (hl p _ hd (by omega))
    exact Inv.absorbTo cx hq hl m (p + 1) μ' (by omega) h'
end
end Go.AM
