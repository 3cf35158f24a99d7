/- A part of the proof of the claim of this folder (Draw1). -/
import Derived.Test.YtoiipnendgggoaaGreatDoorSound4
import Derived.OrdersIn
set_option autoImplicit true
set_option relaxedAutoImplicit true
set_option linter.all false
set_option linter.deprecated false
set_option linter.unnecessarySimpa false
set_option linter.unusedSectionVars false
set_option linter.unusedSimpArgs false
set_option linter.unusedVariables false
/-! What evaluation looks at. -/
namespace Go.AM
variable [G : Ground]
variable {P : Program}

theorem map_eval_congr {T T' : Tmps} : ∀ (l : List AOpd), (∀ x ∈ l, T.eval x = T'.eval x) → l.map T.eval = l.map T'.eval
  | [], _ => rfl
  | x :: l, h => by rw [List.map_cons, List.map_cons, h x (by simp), map_eval_congr l fun y hy => h y (by simp [hy])]

theorem opt_eval_congr {T T' : Tmps} (l : Option AOpd) (h : ∀ x ∈ l.toList, T.eval x = T'.eval x) : l.map T.eval = l.map T'.eval := by
  cases l with
  | none => rfl
  | some x => simp [h x (by simp)]

theorem evalParts_congr {T T' : Tmps} : ∀ (l : List (Nat × Nat × AOpd)), (∀ x ∈ l.map (·.2.2), T.eval x = T'.eval x) → evalParts T l = evalParts T' l
  | [], _ => rfl
  | x :: l, h => by
    have := evalParts_congr l fun y hy => h y (by simp only [List.map_cons, List.mem_cons]; exact .inr hy)
    simp only [evalParts, List.map_cons] at this ⊢
    rw [this, h x.2.2 (by simp)]

theorem evalOp_congr {T T' : Tmps} {H : AHeap} {op : AOp} (h : ∀ x ∈ op.reads, T.eval x = T'.eval x) : evalOp T H op = evalOp T' H op := by
  cases op <;> simp only [AOp.reads] at h <;> simp only [evalOp]
  case build z ps => rw [evalParts_congr ps h]
  case buildSlice z a b ps => rw [evalParts_congr ps h]
  case makeFunc f x y => rw [map_eval_congr x fun z hz => h z (by simp [hz]), map_eval_congr y fun z hz => h z (by simp [hz])]
  case max l => rw [map_eval_congr l h]
  case min l => rw [map_eval_congr l h]
  case sliceStr x a b => rw [h x (by simp), opt_eval_congr a fun z hz => h z (by simp [hz]), opt_eval_congr b fun z hz => h z (by simp [hz])]
  case sliceSl s x a b c => rw [h x (by simp), opt_eval_congr a fun z hz => h z (by simp [hz]), opt_eval_congr b fun z hz => h z (by simp [hz]), opt_eval_congr c fun z hz => h z (by simp [hz])]
  case sliceArr s n x a b => rw [h x (by simp), opt_eval_congr a fun z hz => h z (by simp [hz]), opt_eval_congr b fun z hz => h z (by simp [hz])]
  all_goals (simp only [List.mem_cons, List.not_mem_nil, or_false, forall_eq_or_imp, forall_eq, false_imp_iff, implies_true] at h; try simp only [h])

theorem pureR_heap {H H1 : AHeap} {x : Option AVal} {v : AVal} (h : pureR H x = some (v, H1)) : H1 = H ∧ x = some v := by
  cases x with
  | none => simp [pureR] at h
  | some y => simp [pureR] at h; exact ⟨h.2.symm, by rw [h.1]⟩

theorem evalOp_quiet {T : Tmps} {H H1 : AHeap} {op : AOp} {v : AVal} (h1 : effA op = false) (h2 : isAlloc op = false) (h : evalOp T H op = some (v, H1)) : H1 = H := by
  cases op <;> simp [effA, isAlloc] at h1 h2 <;> simp only [evalOp] at h <;> first
    | exact (pureR_heap h).1
    | (simp at h; exact h.2.symm)
    | (split at h <;> simp at h; exact h.2.symm)

theorem evalOp_alloc {T : Tmps} {H H1 : AHeap} {op : AOp} {v : AVal} (h2 : isAlloc op = true) (h : evalOp T H op = some (v, H1)) : ∃ x, H1 = H.new x := by
  cases op <;> simp [isAlloc] at h2 <;> simp only [evalOp, fMakeSlice] at h
  all_goals (repeat' split at h) <;> simp at h <;> exact ⟨_, h.2.symm⟩

theorem row_congr {H H1 : AHeap} {id : Nat} (h : H.get id = H1.get id) : H.row id = H1.row id := by simp [AHeap.row, h]

theorem evalOp_read {T : Tmps} {H H1 : AHeap} {op : AOp} {v : AVal} (h1 : effA op = false) (h2 : isAlloc op = false)
    (hr : ∀ x id, readsHeap op = some x → (T.eval x).block? = some id → H.get id = H1.get id) (h : evalOp T H op = some (v, H)) : evalOp T H1 op = some (v, H1) := by
  cases op <;> simp [effA, isAlloc] at h1 h2 <;> simp only [evalOp] at h ⊢
  case load1 x =>
    obtain ⟨-, h⟩ := pureR_heap h
    have hr := fun id => hr x id rfl
    revert h hr
    generalize T.eval x = y
    intro h hr
    cases y <;> simp [fLoad1] at h ⊢
    rename_i id off
    rw [row_congr (hr id rfl)] at h
    rw [h]; rfl
  case loadN n x =>
    obtain ⟨-, h⟩ := pureR_heap h
    have hr := fun id => hr x id rfl
    revert h hr
    generalize T.eval x = y
    intro h hr
    cases y <;> simp [fLoadN] at h ⊢
    rename_i id off
    rw [row_congr (hr id rfl)] at h
    rw [h]; rfl
  case bytesToStr x =>
    obtain ⟨-, h⟩ := pureR_heap h
    have hr := fun id => hr x id rfl
    revert h hr
    generalize T.eval x = y
    intro h hr
    cases y <;> simp only [fBytesToStr] at h ⊢ <;> first | (cases h; done) | (cases h; rfl) | skip
    rename_i id off len lo ex size
    simp only [sliceCells] at h ⊢
    rw [row_congr (hr id rfl)] at h
    rw [h]; rfl
  case sliceArr n s x a b =>
    obtain ⟨-, h⟩ := pureR_heap h
    have hr := fun id => hr x id rfl
    revert h hr
    generalize T.eval x = y
    intro h hr
    cases y <;> simp only [fSliceArr] at h ⊢ <;> first | (cases h; done) | (cases h; rfl) | skip
    rename_i id off
    rw [row_congr (hr id rfl)] at h
    rw [h]; rfl
  case len k x =>
    obtain ⟨-, h⟩ := pureR_heap h
    have hr := fun id => hr x id rfl
    revert h hr
    generalize T.eval x = y
    intro h hr
    cases k <;> cases y <;> simp only [fLen] at h ⊢ <;> first | (cases h; done) | (cases h; rfl) | (rw [hr _ rfl] at h; rw [h]; rfl)
  case mapGet z ok m k =>
    obtain ⟨-, h⟩ := pureR_heap h
    have hr := fun id => hr m id rfl
    revert h hr
    generalize T.eval m = y
    generalize T.eval k = u
    intro h hr
    cases y <;> cases u <;> simp only [fMapGet] at h ⊢ <;> first | (cases h; done) | (cases h; rfl) | (rw [hr _ rfl] at h; rw [h]; rfl)
  all_goals first
    | (obtain ⟨-, h⟩ := pureR_heap h; rw [h]; rfl)
    | (simp at h ⊢; first | exact h | exact h.1)
    | (split at h <;> simp at h ⊢; first | exact h | exact h.1)

mutual
theorem AVal.beq_eq : ∀ {a b : AVal}, AVal.beq a b = true → a = b := by
  intro a b h
  cases a <;> cases b <;> simp [AVal.beq] at h <;> first
    | rfl
    | (subst h; rfl)
    | (obtain ⟨rfl, rfl⟩ := h; rfl)
    | (obtain ⟨⟨⟨⟨⟨rfl, rfl⟩, rfl⟩, rfl⟩, rfl⟩, rfl⟩ := h; rfl)
    | (rw [AVal.beqs_eq h])
    | (rw [h.1, AVal.beq_eq h.2])
    | (rw [h.1.1, AVal.beqs_eq h.1.2, AVal.beqs_eq h.2])
theorem AVal.beqs_eq : ∀ {a b : List AVal}, AVal.beqs a b = true → a = b := by
  intro a b h
  cases a <;> cases b <;> simp [AVal.beqs] at h
  · rfl
  · rw [AVal.beq_eq h.1, AVal.beqs_eq h.2]
end

mutual
theorem VR.restrict {μ μ' : Mu} {n : Nat} (hm : ∀ id p, id < n → μ id = some p → μ' id = some p) : ∀ {a : AVal} {v : Value}, VR μ a v → AVal.elder n a = true → VR μ' a v
  | _, _, .bool b, _ => .bool b
  | _, _, .int k n, _ => .int k n
  | _, _, .str s l h, _ => .str s l h
  | _, _, .nilptr, _ => .nilptr
  | _, _, .ptr id off p h, e => .ptr id off p (hm _ _ (by simpa [AVal.elder] using e) h)
  | _, _, .nilslice, _ => .nilslice
  | _, _, .slice id off len lo ex s p ad cap h hl hlo hex hat, e => .slice id off len lo ex s p ad cap (hm _ _ (by simpa [AVal.elder] using e) h) hl hlo hex hat
  | _, _, .nilfn, _ => .nilfn
  | _, _, .fn f a b a' b' ha hb, e => .fn f a b a' b' (VRs.restrict hm ha (by simp [AVal.elder] at e; exact e.1)) (VRs.restrict hm hb (by simp [AVal.elder] at e; exact e.2))
  | _, _, .yield l p h, e => .yield l p (hm _ _ (by simpa [AVal.elder] using e) h)
  | _, _, .niliface, _ => .niliface
  | _, _, .iface t v v' h, e => .iface t v v' (VR.restrict hm h (by simpa [AVal.elder] using e))
  | _, _, .nilmap, _ => .nilmap
  | _, _, .map id p h, e => .map id p (hm _ _ (by simpa [AVal.elder] using e) h)
  | _, _, .agg cs cs' h hs, e => .agg cs cs' (VRs.restrict hm h (by simpa [AVal.elder] using e)) hs
  | _, _, .tup cs cs' h, e => .tup cs cs' (VRs.restrict hm h (by simpa [AVal.elder] using e))
theorem VRs.restrict {μ μ' : Mu} {n : Nat} (hm : ∀ id p, id < n → μ id = some p → μ' id = some p) : ∀ {a : List AVal} {v : List Value}, VRs μ a v → AVal.elders n a = true → VRs μ' a v
  | _, _, .nil, _ => .nil
  | _, _, .cons a l a' l' h hl, e => .cons a l a' l' (VR.restrict hm h (by simp [AVal.elders] at e; exact e.1)) (VRs.restrict hm hl (by simp [AVal.elders] at e; exact e.2))
end
end Go.AM
