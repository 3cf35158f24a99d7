/- A part of the proof of the claim of this folder (Draw8). -/
import Derived.Test.YtoiipnendgggoaaGreatDoorDraw7
set_option autoImplicit true
set_option relaxedAutoImplicit true
set_option linter.all false
set_option linter.deprecated false
set_option linter.unnecessarySimpa false
set_option linter.unusedSectionVars false
set_option linter.unusedSimpArgs false
set_option linter.unusedVariables false
/-! Two last writes in no order; every order. -/
namespace Go.AM
variable [G : Ground]
variable {P : Program}

theorem HR.congr {μ : Mu} {H H' : AHeap} {w : World} (h : HR P μ H w) (hn : H'.next = H.next) (hg : ∀ id, H'.get id = H.get id) : HR P μ H' w := by
  refine ⟨fun id hid => ?_, fun id o ho => h.obj id o (by rw [← hg]; exact ho), fun id id' p p' hl hl' => h.inj id id' p p' ?_ ?_, h.bnd, h.lim, h.ground, h.apart⟩
  · rw [hg]; exact h.top id (by omega)
  · obtain ⟨o, ho, ha⟩ := hl; exact ⟨o, by rw [← hg]; exact ho, ha⟩
  · obtain ⟨o, ho, ha⟩ := hl'; exact ⟨o, by rw [← hg]; exact ho, ha⟩

theorem fStore_spec {h h' : AHeap} {n id off : Nat} {v u : AVal} (hs : fStore h n (.ptr id off) v = some (u, h')) :
    ∃ l', h' = h.put id (.cells l') ∧ ∀ h2 : AHeap, h2.get id = h.get id → fStore h2 n (.ptr id off) v = some (u, h2.put id (.cells l')) := by
  unfold fStore at hs
  simp only at hs
  split at hs
  · rename_i l hl
    split at hs
    · rename_i hc
      split at hs
      · rename_i l' hl'
        simp at hs
        obtain ⟨rfl, rfl⟩ := hs
        refine ⟨l', rfl, fun h2 hg => ?_⟩
        unfold fStore
        simp only
        rw [row_congr hg, hl]
        simp only
        rw [if_pos hc, hl']
      · simp at hs
    · simp at hs
  · simp at hs

section
variable {call : Caller} {r : Option Nat} {N B : Nat} {ops : Array Oper} {preds : List (List Nat)} {ds : List DOper} {T : Nat → Tmps} {H : Nat → AHeap} {hi : Nat → List AHeap} {μ0 : Mu} {a0 : Act} {w0 : World}

theorem RunC.plain (hR : RunC call ds T H hi) {k : Nat} {d : DOper} (hk : ds[k]? = some d) (hp : plainOp d.o.op = true) : H (k + 1) = H k ∧ d.eff = false := by
  obtain ⟨hE, h⟩ := hR k d hk
  simp only [plainOp, Bool.and_eq_true, Bool.not_eq_true'] at hp
  have he : d.eff = false := by rw [hE]; exact hp.1
  refine ⟨?_, he⟩
  generalize H (k + 1) = H1, T (k + 1) = T1, hi (k + 1) = h1 at h ⊢
  cases h with
  | eff T' H' he' => rw [he] at he'; cases he'
  | on v H' he' hw h => exact evalOp_quiet hp.1 hp.2.1 h
  | off he' => rfl

theorem RunC.effRun (hR : RunC call ds T H hi) {k : Nat} {d : DOper} (hk : ds[k]? = some d) (he : d.eff = true) : doOper call (T k) (H k) d.o = some (T (k + 1), H (k + 1)) ∧ swapOk (T k) d = true := by
  obtain ⟨-, h⟩ := hR k d hk
  generalize H (k + 1) = H1, T (k + 1) = T1, hi (k + 1) = h1 at h ⊢
  cases h with
  | eff T' H' he' hh hn hsw => exact ⟨hh, hsw⟩
  | on v H' he' => rw [he] at he'; cases he'
  | off he' => rw [he] at he'; cases he'

theorem doStore {call : Caller} {T : Tmps} {H : AHeap} {o : AOper} {n : Nat} {x v : AOpd} (ho : o.op = .store n x v) (hg : o.guard = none) (hd : o.dst = none) :
    doOper call T H o = (fStore H n (T.eval x) (T.eval v)).map fun q => (T, q.2) := by
  unfold doOper
  rw [hg, hd, ho]
  simp only [wantedA, if_true, doOp, evalOp]
  cases fStore H n (T.eval x) (T.eval v) <;> rfl

theorem Inv.swap (cx : Cx P call r N B ops preds ds T H hi μ0 a0 w0) (hcall : SimCall P call) {Q : Exit → Act → World → Prop}
    (hlink : ∀ (k : Nat) d i o1, ds[k]? = some d → d.swap = some (i, o1) → ∀ (j : Nat) p, ds[j]? = some p → p.at_ = i → o1 = p.o)
    (hQ : ∀ μ' a' w', St P r N B μ' (T ds.length) (H ds.length) a' w' → Turn μ0 μ' w0 w' → Q .normal a' w')
    (fuel : Nat) (q : Nat) (μ μp : Mu) (pl : Nat → Place) (ls : Array Bool) (a : Act) (w : World) (j k : Nat) (p d : DOper) (h : Inv P N ops preds ds T H μ0 a0 w0 q μ μp pl ls a w)
    (hp : ds[j]? = some p) (hd : ds[k]? = some d) (hjk : j < k) (hunp : ls.getD p.at_ false = false) (hund : ls.getD d.at_ false = false) (he : d.eff = true) (hS : SwapAt ds j p k d)
    (hall : ∀ (i : Nat) x, ds[i]? = some x → i < k → i ≠ j → ls.getD x.at_ false = true) (hc : (List.range ops.size).countP (fun i => !ls.getD i false) ≤ fuel + 1) :
    wpOpIn (FF r) 0 P ops Q d.at_ (wpAnyIn (FF r) 0 P .any ops Q fuel (ls.setIfInBounds d.at_ true)) a w := by
  obtain ⟨hk1, ⟨o1, hsw⟩, hpe, hpd, hdd, hpg, hdg, hplain⟩ := hS
  have hkn : k < ds.length := lt_of_get hd
  have hqj : q ≤ j := by
    rcases Nat.lt_or_ge j q with h1 | h1
    · rw [h.low j p hp h1] at hunp; cases hunp
    · exact h1
  obtain ⟨μ', h'⟩ := Inv.absorbTo cx (Nat.le_of_lt (lt_of_get hp)) (fun i x hx hij => hall i x hx (by omega) (by omega)) (j - q) q μ (by omega) h
  have hpl := fun i x (hx : ds[i]? = some x) (h1 : j < i) (h2 : i < k) => cx.run.plain hx (hplain i x hx h1 h2)
  -- the heap stands still between
  have hH : ∀ i, j + 1 ≤ i → i ≤ k → H i = H (j + 1) := by
    intro i
    induction i with
    | zero => intro h1 _; omega
    | succ i ih =>
      intro h1 h2
      rcases Nat.lt_or_ge j i with h3 | h3
      · have hx : ds[i]? = some ds[i] := by simp
        rw [(hpl i _ hx h3 (by omega)).1]
        exact ih h3 (by omega)
      · rw [show i = j by omega]
  -- the two writes
  obtain ⟨hrp, -⟩ := cx.run.effRun hp hpe
  obtain ⟨hrd, hok⟩ := cx.run.effRun hd he
  have ho1 := hlink k d _ _ hd hsw j p hp rfl
  subst ho1
  unfold swapOk at hok
  rw [hsw] at hok
  simp only at hok
  split at hok
  case h_2 => simp at hok
  rename_i n1 x v1 n2 y v2 hop1 hop2
  split at hok
  case h_2 => simp at hok
  rename_i ia oa ib ob hxa hyb
  have hab : ia ≠ ib := by simpa using hok
  rw [doStore hop1 hpg hpd] at hrp
  rw [doStore hop2 hdg hdd] at hrd
  simp only [Option.map_eq_some_iff, Prod.mk.injEq] at hrp hrd
  obtain ⟨⟨u1, H1⟩, hs1, hT1, hH1⟩ := hrp
  obtain ⟨⟨u2, H2⟩, hs2, hT2, hH2⟩ := hrd
  simp only at hH1 hH2
  subst hH1 hH2
  -- what p looks at stays
  have hTk : ∀ s, (∀ (i : Nat) x, ds[i]? = some x → j < i → i < k → x.o.dst ≠ some s) → (T k).at s = (T j).at s := by
    intro s hs
    refine cx.run.at (Nat.le_of_lt hjk) (Nat.le_of_lt hkn) fun i x hx h1 h2 hdst => ?_
    rcases Nat.lt_or_ge j i with h3 | h3
    · exact hs i x hx h3 h2 hdst
    · have : i = j := by omega
      subst this
      rw [hp] at hx; cases hx; rw [hpd] at hdst; cases hdst
  have hlookp : ∀ s ∈ p.o.slots, (T k).at s = (T j).at s := by
    intro s hs
    refine hTk s fun i x hx h1 h2 hdst => ?_
    have := h.closed _ (hall i x hx h2 (by omega)) _ ((cx.f hx).look' j p s hp h1 hdst (List.mem_append_left _ hs))
    rw [hunp] at this; cases this
  have hev : ∀ z ∈ p.o.op.reads, (T k).eval z = (T j).eval z := by
    intro z hz
    cases z with
    | const c => rfl
    | tmp t => exact hlookp t (List.mem_append_right _ (List.mem_filterMap.2 ⟨.tmp t, hz, rfl⟩))
  have e1 := hev x (by rw [hop1]; simp [AOp.reads])
  have e2 := hev v1 (by rw [hop1]; simp [AOp.reads])
  rw [← e1, ← e2, hxa] at hs1
  rw [hyb] at hs2
  obtain ⟨l1, hp1, hq1⟩ := fStore_spec hs1
  obtain ⟨l2, hp2, hq2⟩ := fStore_spec hs2
  have hkH : H k = (H j).put ia (.cells l1) := by rw [hH k hjk (Nat.le_refl _), hp1]
  have hsd := hq2 (H j) (by rw [hkH, AHeap.get_put_ne _ _ hab])
  have hsp := hq1 ((H j).put ib (.cells l2)) (AHeap.get_put_ne _ _ (Ne.symm hab))
  -- the state ahead of both
  have hmu : Mu.le μp μ' := by
    intro id z hz
    rcases h'.ext id z hz with hm | ⟨i, e, hie, hle, hl, hal, -⟩
    · exact hm
    · exfalso
      have hij : i ≠ j := by intro e'; subst e'; rw [hp] at hie; cases hie; rw [hunp] at hl; cases hl
      have hik : i ≠ k := by intro e'; subst e'; rw [hd] at hie; cases hie; rw [hund] at hl; cases hl
      have := lt_of_get hie
      exact hal (by rw [(hpl i e hie (by omega) (by omega)).1])
  have hst : St P r N B μ' (T k) (H j) a w := by
    refine ⟨fun s => ?_, h'.size, h'.hr, ?_, fun l hl => ?_⟩
    · by_cases hx : ∃ (i : Nat) (e : DOper), ds[i]? = some e ∧ j < i ∧ i < k ∧ e.o.dst = some s
      · obtain ⟨i, e, hie, h1, h2, hdst⟩ := hx
        have := (h'.slot i e s hie (by omega) (hall i e hie h2 (by omega)) hdst).mono hmu
        rw [cx.run.at (j := i + 1) (k := k) h2 (Nat.le_of_lt hkn) (s := s) fun m f hm g1 g2 hf => by have := cx.dst hm hie hf hdst; omega]
        exact this
      · rw [hTk s fun i e hie h1 h2 hdst => hx ⟨i, e, hie, h1, h2, hdst⟩]
        refine h'.rest s fun i e hie hle hl hdst => ?_
        have hij : i ≠ j := by intro e'; subst e'; rw [hp] at hie; cases hie; rw [hunp] at hl; cases hl
        have hik : i ≠ k := by intro e'; subst e'; rw [hd] at hie; cases hie; rw [hund] at hl; cases hl
        have := lt_of_get hie
        exact hx ⟨i, e, hie, by omega, by omega, hdst⟩
    · rw [h'.defs]; exact cx.st0.marks.turn h'.turn
    · obtain ⟨z, hz⟩ := cx.st0.round l hl
      exact h'.turn.kind l z hz
  have hltp : p.at_ < ls.size := by rw [h.lsz]; exact (cx.f hp).lt
  have hltd : d.at_ < ls.size := by rw [h.lsz]; exact (cx.f hd).lt
  have hpd' : p.at_ ≠ d.at_ := (cx.f hd).ne j p hp hjk
  have hls' := getD_set hltd
  obtain ⟨od, hod, hdo⟩ := cx.op k d hd
  obtain ⟨op', hop', hpo⟩ := cx.op j p hp
  unfold wpOpIn
  simp only [hod]
  refine sim_oper (T1 := T k) (H1 := (H j).put ib (.cells l2)) hcall (by rw [← hdo, doStore hop2 hdg hdd, hyb, hsd]; rfl) hst fun a1 w1 μ1 st1 ht1 => ?_
  -- p alone is left
  have hunp' : (ls.setIfInBounds d.at_ true).getD p.at_ false = false := by rw [hls', if_neg hpd']; exact hunp
  have left : ∀ (i : Nat) x, ds[i]? = some x → i ≠ j → (ls.setIfInBounds d.at_ true).getD x.at_ false = true := by
    intro i x hx hij
    rw [hls']
    split
    · rfl
    · rename_i hne
      have := lt_of_get hx
      refine hall i x hx ?_ hij
      rcases Nat.lt_or_ge i k with h1 | h1
      · exact h1
      · have : i = k := by omega
        subst this
        rw [hd] at hx; cases hx; exact absurd rfl hne
  cases fuel with
  | zero =>
    exfalso
    have h1 := (countP_lt (f := fun i => !ls.getD i false) (g := fun i => !(ls.setIfInBounds d.at_ true).getD i false) (x := d.at_)
      (fun i hi' => by show (!_) = (!_); rw [hls', if_neg hi']) (by simp [hund]) (by show (!_) = false; rw [hls']; simp) (List.range ops.size)).2 (List.mem_range.2 (cx.f hd).lt)
    have h2 : (List.range ops.size).countP (fun i => !(ls.setIfInBounds d.at_ true).getD i false) = 0 := by omega
    have h3 := List.countP_eq_zero.1 h2 p.at_ (List.mem_range.2 (cx.f hp).lt)
    rw [hunp'] at h3; simp at h3
  | succ f =>
    have hready : p.at_ ∈ Region.ready .any ops (ls.setIfInBounds d.at_ true) := by
      have hget : ops.getD p.at_ default = op' := by rw [Array.getD_eq_getD_getElem?, hop']; rfl
      refine mem_ready.2 ⟨?_, op', hop', fun e he' hb => ?_⟩
      · have hlt' : p.at_ < (ls.setIfInBounds d.at_ true).size := by simpa using hltp
        rw [Array.getD_eq_getD_getElem?, Array.getElem?_eq_getElem hlt'] at hunp' ⊢
        exact hunp'
      · obtain ⟨i, x, hx, hij, hxe⟩ := (cx.f hp).edge e (by rw [hget]; exact he') hb
        rw [← hxe]; exact left i x hx (by omega)
    refine ⟨fun hnil => absurd hready (by rw [hnil]; simp), fun i hi' => ?_⟩
    have hip : i = p.at_ := by
      obtain ⟨h1, o, ho, -⟩ := mem_ready.1 hi'
      have hlt : i < ops.size := (Array.getElem?_eq_some_iff.1 ho).1
      obtain ⟨m, x, hx, rfl⟩ := cx.sur i hlt
      by_cases hmj : m = j
      · subst hmj; rw [hp] at hx; cases hx; rfl
      · exfalso
        have h2 := left m x hx hmj
        have hlt' : x.at_ < (ls.setIfInBounds d.at_ true).size := by rw [Array.size_setIfInBounds, h.lsz]; exact hlt
        rw [Array.getD_eq_getD_getElem?, Array.getElem?_eq_getElem hlt'] at h1 h2
        have h1' : (ls.setIfInBounds d.at_ true)[x.at_] = false := h1
        have h2' : (ls.setIfInBounds d.at_ true)[x.at_] = true := h2
        rw [h1'] at h2'; cases h2'
    subst hip
    unfold wpOpIn
    simp only [hop']
    refine sim_oper (T1 := T k) (H1 := ((H j).put ib (.cells l2)).put ia (.cells l1)) hcall (by rw [← hpo, doStore hop1 hpg hpd, hxa, hsp]; rfl) st1 fun a2 w2 μ2 st2 ht2 => ?_
    refine wpAnyIn_done (List.eq_nil_iff_forall_not_mem.2 fun i hi2 => ?_) (hQ μ2 a2 w2 ?_ ((h'.turn.trans ht1).trans ht2)) f
    · obtain ⟨h1, o, ho, -⟩ := mem_ready.1 hi2
      have hlt : i < ops.size := (Array.getElem?_eq_some_iff.1 ho).1
      obtain ⟨m, x, hx, rfl⟩ := cx.sur i hlt
      have hltp2 : p.at_ < (ls.setIfInBounds d.at_ true).size := by rw [Array.size_setIfInBounds]; exact hltp
      have h2 : ((ls.setIfInBounds d.at_ true).setIfInBounds p.at_ true).getD x.at_ false = true := by
        rw [getD_set hltp2]
        split
        · rfl
        · rename_i hne
          exact left m x hx (by intro e'; subst e'; rw [hp] at hx; cases hx; exact hne rfl)
      have hlt' : x.at_ < ((ls.setIfInBounds d.at_ true).setIfInBounds p.at_ true).size := by rw [Array.size_setIfInBounds, Array.size_setIfInBounds, h.lsz]; exact hlt
      rw [Array.getD_eq_getD_getElem?, Array.getElem?_eq_getElem hlt'] at h1 h2
      have h1' : ((ls.setIfInBounds d.at_ true).setIfInBounds p.at_ true)[x.at_] = false := h1
      have h2' : ((ls.setIfInBounds d.at_ true).setIfInBounds p.at_ true)[x.at_] = true := h2
      rw [h1'] at h2'; cases h2'
    · have hend : T ds.length = T k := by rw [← hk1, hT2]
      have hendH : H ds.length = (H k).put ib (.cells l2) := by rw [← hk1]; exact hp2
      rw [hend]
      refine ⟨st2.tr, st2.size, st2.hr.congr ?_ fun id => ?_, st2.marks, st2.round⟩
      · rw [hendH, hkH]; rfl
      · rw [hendH, hkH]
        by_cases h1 : id = ia
        · subst h1
          rw [AHeap.get_put_ne _ _ (Ne.symm hab), AHeap.get_put_same, AHeap.get_put_same]
        · by_cases h2 : id = ib
          · subst h2
            rw [AHeap.get_put_same, AHeap.get_put_ne _ _ hab, AHeap.get_put_same]
          · rw [AHeap.get_put_ne _ _ (Ne.symm h2), AHeap.get_put_ne _ _ (Ne.symm h1), AHeap.get_put_ne _ _ (Ne.symm h1), AHeap.get_put_ne _ _ (Ne.symm h2)]
end
end Go.AM
