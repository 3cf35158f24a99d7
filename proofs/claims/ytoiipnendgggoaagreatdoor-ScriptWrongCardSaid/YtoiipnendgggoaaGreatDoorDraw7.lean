/- A part of the proof of the claim of this folder (Draw7). -/
import Derived.Test.YtoiipnendgggoaaGreatDoorDraw6
set_option autoImplicit true
set_option relaxedAutoImplicit true
set_option linter.all false
set_option linter.deprecated false
set_option linter.unnecessarySimpa false
set_option linter.unusedSectionVars false
set_option linter.unusedSimpArgs false
set_option linter.unusedVariables false
/-! Whatever order is drawn: writes; the region. -/
namespace Go.AM
variable [G : Ground]
variable {P : Program}

section
variable {call : Caller} {r : Option Nat} {N B : Nat} {ops : Array Oper} {preds : List (List Nat)} {ds : List DOper} {T : Nat → Tmps} {H : Nat → AHeap} {hi : Nat → List AHeap} {μ0 : Mu} {a0 : Act} {w0 : World}
  {p : Nat} {μ μp : Mu} {pl : Nat → Place} {ls : Array Bool} {a : Act} {w : World}

open Classical in
/-- A write (or a call): all that stands ahead of it in our order is done. -/
theorem Inv.effStep (cx : Cx P call r N B ops preds ds T H hi μ0 a0 w0) (hcall : SimCall P call) {j : Nat} (h : Inv P N ops preds ds T H μ0 a0 w0 j μ μp pl ls a w) {d : DOper} (hd : ds[j]? = some d)
    (hun : ls.getD d.at_ false = false) (hr : ∀ x ∈ preds.getD d.at_ [], ls.getD x false = true) (he : d.eff = true) {K : Act → World → Prop} {Q : Exit → Act → World → Prop}
    (hK : ∀ μ' μp' a' w', Inv P N ops preds ds T H μ0 a0 w0 (j + 1) μ' μp' pl (ls.setIfInBounds d.at_ true) a' w' → K a' w') : wpOpIn (FF r) 0 P ops Q d.at_ K a w := by
  obtain ⟨o, ho, hdo⟩ := cx.op j d hd
  obtain ⟨hE, hS⟩ := cx.run j d hd
  have hjn : j < ds.length := lt_of_get hd
  have hget : ops.getD d.at_ default = o := by rw [Array.getD_eq_getD_getElem?, ho]; rfl
  have hstep : doOper call (T j) (H j) (compileOper P N ops o) = some (T (j + 1), H (j + 1)) ∧ (H j).next ≤ (H (j + 1)).next := by
    rw [← hdo]
    generalize H (j + 1) = H1, T (j + 1) = T1, hi (j + 1) = h1 at hS ⊢
    cases hS with
    | eff T' H' he' hh hn hsw => exact ⟨hh, hn⟩
    | on v H' he' => rw [he] at he'; cases he'
    | off he' => rw [he] at he'; cases he'
  obtain ⟨hstep, hnext⟩ := hstep
  rcases compileOper_cases (P := P) N ops o with ⟨aop, g, hop, hg, hdst, hshape⟩ | hfail
  case inr =>
    rw [hfail] at hstep
    simp [failOp, doOper, wantedA, doOp, evalOp] at hstep
  have hd1 : d.o.dst = o.dst := by rw [hdo, hshape]
  have hlt : d.at_ < ls.size := by rw [h.lsz]; exact (cx.f hd).lt
  have hls := getD_set hlt
  let Loose : Nat → Prop := fun s => ∃ (k : Nat) (e : DOper), ds[k]? = some e ∧ j ≤ k ∧ ls.getD e.at_ false = true ∧ e.o.dst = some s
  have behind : ∀ (k : Nat) (e : DOper), ds[k]? = some e → j ≤ k → ls.getD e.at_ false = true → j + 1 ≤ k := by
    intro k e hk hle hl
    rcases Nat.lt_or_ge j k with h1 | h1
    · exact h1
    · have : k = j := by omega
      subst this
      rw [hd] at hk; cases hk; rw [hun] at hl; cases hl
  have down : ∀ (k : Nat) e, ds[k]? = some e → j + 1 ≤ k → (ls.setIfInBounds d.at_ true).getD e.at_ false = true → ls.getD e.at_ false = true := by
    intro k e hk hle hl
    rw [hls] at hl
    split at hl
    · rename_i heq
      have := cx.uniq hk hd heq
      omega
    · exact hl
  have up : ∀ i, ls.getD i false = true → (ls.setIfInBounds d.at_ true).getD i false = true := by
    intro i hi'
    rw [hls]; split
    · rfl
    · exact hi'
  let b : Act := { tmps := (Array.range N).map (fun s => if Loose s then a0.tmps.getD s undef else a.tmps.getD s undef), defers := a.defers }
  have hbsz : b.tmps.size = a.tmps.size := by rw [h.size]; simp [b]
  have hlN : ∀ s, Loose s → s < N := by
    rintro s ⟨k, e, hk, -, -, hs⟩
    obtain ⟨o', ho', hdo'⟩ := cx.op k e hk
    rcases compileOper_cases (P := P) N ops o' with ⟨aop', g', -, -, hdst', hshape'⟩ | hfail'
    · rw [hdo', hshape'] at hs
      have hs' : o'.dst = some s := hs
      rw [hs'] at hdst'
      simpa [dstOk] using hdst'
    · rw [hdo', hfail'] at hs
      simp [failOp] at hs
  have hbget : ∀ s, b.tmps.getD s undef = if Loose s then a0.tmps.getD s undef else a.tmps.getD s undef := by
    intro s
    by_cases hs : s < N
    · simp [b, hs]
    · have h1 : a.tmps.getD s undef = undef := by
        rw [Array.getD_eq_getD_getElem?, Array.getElem?_eq_none (by rw [h.size]; omega)]; rfl
      rw [if_neg (fun hl => hs (hlN s hl)), h1]
      simp [b, hs]
  have hnl : ∀ s ∈ o.looksAt ops, ¬ Loose s := by
    rintro s hs ⟨k, e, hk, hle, hl, hdst'⟩
    have h1 := behind k e hk hle hl
    have := h.closed _ hl _ ((cx.f hk).look' j d s hd h1 hdst' (List.mem_append_right _ (by rw [hget]; exact hs)))
    rw [hun] at this; cases this
  have hagree : ∀ s ∈ o.looksAt ops, a.tmps.getD s undef = b.tmps.getD s undef := fun s hs => by rw [hbget, if_neg (hnl s hs)]
  have hst : St P r N B μ (T j) (H j) b w := by
    refine ⟨fun i => ?_, by rw [hbsz]; exact h.size, h.hr, ?_, fun l hl => ?_⟩
    · rw [hbget]
      by_cases hl : Loose i
      · rw [if_pos hl]
        obtain ⟨k, e, hk, hle, hl', hdst'⟩ := hl
        rw [cx.run.at (j := 0) (k := j) (Nat.zero_le _) (Nat.le_of_lt hjn) (s := i) fun m f hm _ h2 hf => by have := cx.dst hm hk hf hdst'; omega]
        exact (cx.st0.tr i).mono h.turn.le
      · rw [if_neg hl]
        exact h.rest i fun k e hk hle hl' hdst' => hl ⟨k, e, hk, hle, hl', hdst'⟩
    · have := cx.st0.marks.turn h.turn
      show Marks B μ w a.defers
      rw [h.defs]; exact this
    · obtain ⟨q, hq⟩ := cx.st0.round l hl
      exact h.turn.kind l q hq
  unfold wpOpIn
  simp only [ho]
  refine sim_oper_at hcall hstep hst (exec_congr hop hagree) (wanted_congr hbsz.symm hagree) fun cv w1 μ1 st1 ht => ?_
  rw [← hd1]
  rw [← hd1] at st1
  have hlater : ∀ (k : Nat) (e : DOper), ds[k]? = some e → j + 1 ≤ k → (H (j + 1)).next ≤ (H k).next := fun k e hk hle => cx.run.next hle (Nat.le_of_lt (lt_of_get hk))
  have hmu : ∀ id q, μ id = some q → id < (H j).next := by
    intro id q hq
    rcases Nat.lt_or_ge id (H j).next with h1 | h1
    · exact h1
    · rw [(h.hr.top id h1).2] at hq; cases hq
  have hmu1 : ∀ id q, μ1 id = some q → id < (H (j + 1)).next := by
    intro id q hq
    rcases Nat.lt_or_ge id (H (j + 1)).next with h1 | h1
    · exact h1
    · rw [(st1.hr.top id h1).2] at hq; cases hq
  let μq : Mu := fun id => if id < (H (j + 1)).next then μ1 id else μp id
  have hle1 : Mu.le μ1 μq := fun id q hq => by show (if id < (H (j + 1)).next then μ1 id else μp id) = some q; rw [if_pos (hmu1 id q hq)]; exact hq
  have hleq : Mu.le μp μq := by
    intro id q hq
    show (if id < (H (j + 1)).next then μ1 id else μp id) = some q
    split
    · rename_i hid
      rcases h.ext id q hq with hm | ⟨k, e, hk, hle, hl, hal, hid', -⟩
      · exact ht.le id q hm
      · have := hlater k e hk (behind k e hk hle hl); omega
    · exact hq
  refine hK μ1 μq _ w1 ⟨hjn, by simp [h.lsz], fun i hi' x hx => ?_, fun k e hk hlt' => ?_, fun k e hk hle hl => h.noEff k e hk (by omega) (down k e hk hle hl), h.turn.trans ht, st1.hr, hle1, fun id q hq => ?_, fun k e hk hle hl hal => ?_,
    fun k e s hk hle hl hs => ?_, fun s hs => ?_, by rw [put_size]; exact h.size, by rw [put_defers]; exact h.defs⟩
  · rw [hls] at hi'
    split at hi'
    · rename_i heq
      subst heq
      exact up x (hr x hx)
    · exact up x (h.closed i hi' x hx)
  · rcases Nat.lt_or_ge k j with h1 | h1
    · exact up _ (h.low k e hk h1)
    · have : k = j := by omega
      subst this
      rw [hd] at hk; cases hk
      rw [hls]; simp
  · have hq' : (if id < (H (j + 1)).next then μ1 id else μp id) = some q := hq
    split at hq'
    · exact .inl hq'
    · rename_i hid
      rcases h.ext id q hq' with hm | ⟨k, e, hk, hle, hl, hal, hid', hpl⟩
      · have := hmu id q hm; omega
      · exact .inr ⟨k, e, hk, behind k e hk hle hl, up _ hl, hal, hid', hpl⟩
  · have hl' := down k e hk hle hl
    obtain ⟨g1, ⟨x, g2, g2'⟩, g3, g4, g5, g6⟩ := h.new k e hk (by omega) hl' hal
    refine ⟨hleq _ _ g1, ⟨x, g2, g2'.mono hleq (ht.keep _ g4 g5)⟩, g3, Nat.lt_of_lt_of_le g4 ht.grow, ht.notOwn g4 g5, fun k' d' hne hk' hle' hl2 hal' => g6 k' d' hne hk' (by omega) (down k' d' hk' hle' hl2) hal'⟩
  · have hl' := down k e hk hle hl
    rw [put_getD, if_neg (fun hc => by have := cx.dst hk hd hs hc.1; omega)]
    exact (h.slot k e s hk (by omega) hl' hs).mono hleq
  · have h1 := st1.tr s
    rw [put_getD, hbsz] at h1
    rw [put_getD]
    have hb : b.tmps.getD s undef = a.tmps.getD s undef := by
      rw [hbget, if_neg]
      rintro ⟨k, e, hk, hle, hl, hdst'⟩
      exact hs k e hk (behind k e hk hle hl) (up _ hl) hdst'
    rw [hb] at h1
    exact h1

theorem countP_lt {f g : Nat → Bool} {x : Nat} (h : ∀ i, i ≠ x → g i = f i) (hx : f x = true) (hx' : g x = false) : ∀ l : List Nat, l.countP g ≤ l.countP f ∧ (x ∈ l → l.countP g < l.countP f)
  | [] => ⟨Nat.le_refl _, fun h => by simp at h⟩
  | y :: l => by
    obtain ⟨h1, h2⟩ := countP_lt h hx hx' l
    rw [List.countP_cons, List.countP_cons]
    by_cases hy : y = x
    · subst hy
      rw [hx, hx']
      simp only [if_true, Bool.false_eq_true, if_false]
      exact ⟨by omega, fun _ => by omega⟩
    · rw [h y hy]
      refine ⟨by omega, fun hm => ?_⟩
      rcases List.mem_cons.1 hm with e | hm
      · exact absurd e.symm hy
      · have := h2 hm; omega

theorem Cx.closedPreds (cx : Cx P call r N B ops preds ds T H hi μ0 a0 w0) {j x : Nat} (hj : j < ops.size) (hx : x ∈ preds.getD j []) :
    ∃ e ∈ (ops.getD j default).after, Region.binds .any e = true ∧ (e.on = x ∨ x ∈ preds.getD e.on []) := by
  have h1 := cx.pre
  unfold predsOk at h1
  have h2 := List.all_eq_true.1 h1 j (List.mem_range.2 hj)
  have h3 := List.all_eq_true.1 h2 x hx
  obtain ⟨e, he, h4⟩ := List.any_eq_true.1 h3
  simp only [Bool.and_eq_true, Bool.or_eq_true, beq_iff_eq, List.contains_iff_mem] at h4
  exact ⟨e, by simpa using he, h4.1, h4.2⟩

/-- d, the last one, may change places with p. -/
def SwapAt (ds : List DOper) (j : Nat) (p : DOper) (k : Nat) (d : DOper) : Prop :=
  k + 1 = ds.length ∧ (∃ o1, d.swap = some (p.at_, o1)) ∧ p.eff = true ∧ p.o.dst = none ∧ d.o.dst = none ∧ p.o.guard = none ∧ d.o.guard = none ∧
    ∀ (i : Nat) x, ds[i]? = some x → j < i → i < k → plainOp x.o.op = true

theorem Inv.any (cx : Cx P call r N B ops preds ds T H hi μ0 a0 w0) (hcall : SimCall P call) {Q : Exit → Act → World → Prop}
    (hQ : ∀ μ μp pl ls a w, Inv P N ops preds ds T H μ0 a0 w0 ds.length μ μp pl ls a w → Q .normal a w)
    (hEff : ∀ (k : Nat) d, ds[k]? = some d → d.eff = true → ∀ (j : Nat) p, ds[j]? = some p → j < k → p.at_ ∈ preds.getD d.at_ [] ∨ SwapAt ds j p k d)
    (hsw : ∀ (fuel : Nat) (q : Nat) (μ μp : Mu) (pl : Nat → Place) (ls : Array Bool) (a : Act) (w : World) (j k : Nat) (p d : DOper), Inv P N ops preds ds T H μ0 a0 w0 q μ μp pl ls a w → ds[j]? = some p → ds[k]? = some d → j < k →
      ls.getD p.at_ false = false → ls.getD d.at_ false = false → d.eff = true → SwapAt ds j p k d → (∀ (i : Nat) x, ds[i]? = some x → i < k → i ≠ j → ls.getD x.at_ false = true) →
      (List.range ops.size).countP (fun i => !ls.getD i false) ≤ fuel + 1 → wpOpIn (FF r) 0 P ops Q d.at_ (wpAnyIn (FF r) 0 P .any ops Q fuel (ls.setIfInBounds d.at_ true)) a w) :
    ∀ (fuel : Nat) (p : Nat) (μ μp : Mu) (pl : Nat → Place) (ls : Array Bool) (a : Act) (w : World), Inv P N ops preds ds T H μ0 a0 w0 p μ μp pl ls a w →
      (List.range ops.size).countP (fun i => !ls.getD i false) ≤ fuel → wpAnyIn (FF r) 0 P .any ops Q fuel ls a w := by
  have done : ∀ (p : Nat) (μ μp : Mu) (pl : Nat → Place) (ls : Array Bool) (a : Act) (w : World), Inv P N ops preds ds T H μ0 a0 w0 p μ μp pl ls a w →
      (∀ (k : Nat) d, ds[k]? = some d → ls.getD d.at_ false = true) → Q .normal a w := by
    intro p μ μp pl ls a w h hall
    obtain ⟨μ', h'⟩ := Inv.absorbTo cx (Nat.le_refl _) (fun k d hk _ => hall k d hk) (ds.length - p) p μ (by have := h.psz; omega) h
    exact hQ _ _ _ _ _ _ h'
  intro fuel
  induction fuel with
  | zero =>
    intro p μ μp pl ls a w h hc
    have hall : ∀ i, i < ops.size → ls.getD i false = true := by
      intro i hi'
      have := List.countP_eq_zero.1 (Nat.le_zero.1 hc) i (List.mem_range.2 hi')
      simpa using this
    refine ⟨?_, done p μ μp pl ls a w h fun k d hk => hall _ (cx.f hk).lt⟩
    refine List.eq_nil_iff_forall_not_mem.2 fun i hi' => ?_
    obtain ⟨h1, o, ho, -⟩ := mem_ready.1 hi'
    have hlt : i < ops.size := (Array.getElem?_eq_some_iff.1 ho).1
    have h2 := hall i hlt
    have hlt' : i < ls.size := by rw [h.lsz]; exact hlt
    simp [hlt'] at h1 h2
    rw [h1] at h2; cases h2
  | succ fuel ih =>
    intro p μ μp pl ls a w h hc
    refine ⟨fun hnil => done p μ μp pl ls a w h fun k => ?_, fun i hi' => ?_⟩
    · induction k using Nat.strongRecOn with
      | ind k ihk =>
        intro d hk
        cases hl : ls.getD d.at_ false with
        | true => rfl
        | false =>
          exfalso
          have hf := cx.f hk
          obtain ⟨o, ho, -⟩ := cx.op k d hk
          have hget : ops.getD d.at_ default = o := by rw [Array.getD_eq_getD_getElem?, ho]; rfl
          have hm : d.at_ ∈ Region.ready .any ops ls := by
            refine mem_ready.2 ⟨?_, o, ho, fun e he hb => ?_⟩
            · have hlt' : d.at_ < ls.size := by rw [h.lsz]; exact hf.lt
              simp [hlt'] at hl ⊢
              exact hl
            · obtain ⟨j, q, hj, hjk, hq⟩ := hf.edge e (by rw [hget]; exact he) hb
              rw [← hq]; exact ihk j hjk q hj
          rw [hnil] at hm
          simp at hm
    · obtain ⟨hun0, o, ho, hedge⟩ := mem_ready.1 hi'
      have hlt : i < ops.size := (Array.getElem?_eq_some_iff.1 ho).1
      have hlt' : i < ls.size := by rw [h.lsz]; exact hlt
      have hun : ls.getD i false = false := by simp [hlt'] at hun0 ⊢; exact hun0
      obtain ⟨k, d, hk, rfl⟩ := cx.sur i hlt
      have hget : ops.getD d.at_ default = o := by rw [Array.getD_eq_getD_getElem?, ho]; rfl
      have hr : ∀ x ∈ preds.getD d.at_ [], ls.getD x false = true := by
        intro x hx
        obtain ⟨e, he, hb, hor⟩ := cx.closedPreds hlt hx
        rw [hget] at he
        have h1 := hedge e he hb
        rcases hor with rfl | hx'
        · exact h1
        · exact h.closed _ h1 x hx'
      have hpk : p ≤ k := by
        rcases Nat.lt_or_ge k p with h1 | h1
        · rw [h.low k d hk h1] at hun; cases hun
        · exact h1
      have hc' : (List.range ops.size).countP (fun i => !(ls.setIfInBounds d.at_ true).getD i false) ≤ fuel := by
        have := (countP_lt (f := fun i => !ls.getD i false) (g := fun i => !(ls.setIfInBounds d.at_ true).getD i false) (x := d.at_)
          (fun i hi' => by show (!_) = (!_); rw [getD_set hlt', if_neg hi']) (by simp [hun]) (by show (!_) = false; rw [getD_set hlt']; simp) (List.range ops.size)).2 (List.mem_range.2 hlt)
        omega
      cases he : d.eff with
      | false => exact h.quietStep cx hk hpk hun hr he fun μp' pl' a' w' h' => ih p μ μp' pl' _ a' w' h' hc'
      | true =>
        by_cases hall : ∀ (k' : Nat) d', ds[k']? = some d' → k' < k → ls.getD d'.at_ false = true
        case neg =>
          obtain ⟨j, hj⟩ := Classical.not_forall.1 hall
          obtain ⟨e, hj⟩ := Classical.not_forall.1 hj
          simp only [Classical.not_imp] at hj
          obtain ⟨hje, hjk, hunj⟩ := hj
          have hunj : ls.getD e.at_ false = false := by simpa using hunj
          rcases hEff k d hk he j e hje hjk with hin | hS
          · rw [hr _ hin] at hunj; cases hunj
          · refine hsw fuel p μ μp pl ls a w j k e d h hje hk hjk hunj hun he hS (fun i x hx hik hij => ?_) hc
            rcases hEff k d hk he i x hx hik with hin | ⟨-, ⟨o1, h1⟩, -⟩
            · exact hr _ hin
            · obtain ⟨-, ⟨o2, h2⟩, -⟩ := hS
              rw [h2] at h1
              simp only [Option.some.injEq, Prod.mk.injEq] at h1
              exact absurd (cx.uniq hx hje h1.1.symm) hij
        obtain ⟨μ', h'⟩ := Inv.absorbTo cx (Nat.le_of_lt (lt_of_get hk)) (fun k' d' hk' hlt2 => hall k' d' hk' hlt2) (k - p) p μ (by omega) h
        exact h'.effStep cx hcall hk hun hr he fun μ2 μp2 a' w' h2 => ih (k + 1) μ2 μp2 pl _ a' w' h2 hc'
end

end Go.AM
