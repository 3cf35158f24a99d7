/- A part of the proof of the claim of this folder (Heap). -/
import Derived.Test.YtoiipnendgggoaaGreatDoorRel
set_option autoImplicit true
set_option relaxedAutoImplicit true
set_option linter.all false
set_option linter.deprecated false
set_option linter.unnecessarySimpa false
set_option linter.unusedSectionVars false
set_option linter.unusedSimpArgs false
set_option linter.unusedVariables false
/-! The abstract heap in the model's. -/
namespace Go.AM

def stOf : LState → LoopState
  | .ready => .ready
  | .busy => .busy
  | .done => .done

def pendOf : Pend → Option Code
  | .none => none
  | .ret => some .ret
  | .exit id => some (.exit id)

inductive MapsR (μ : Mu) : List (AVal × AVal) → List MapEntry → Prop where
  | nil : MapsR μ [] []
  | cons (k : AVal) (v : AVal) (l : List (AVal × AVal)) (e : MapEntry) (es : List MapEntry) (hk : VR μ k e.key) (hv : VR μ v e.val) (hs : v.scalar = true) (h : MapsR μ l es) : MapsR μ ((k, v) :: l) (e :: es)

theorem MapsR.mono {μ μ' : Mu} (hm : Mu.le μ μ') : ∀ {l : List (AVal × AVal)} {es : List MapEntry}, MapsR μ l es → MapsR μ' l es
  | _, _, .nil => .nil
  | _, _, .cons k v l e es hk hv hs h => .cons k v l e es (hk.mono hm) (hv.mono hm) hs (MapsR.mono hm h)

def CellsAt (μ : Mu) (w : World) (p : Place) (l : List AVal) : Prop :=
  ∃ c el fz, w.heap[p.blk]? = some (.cells c el fz) ∧ c.size = p.size ∧ p.base + l.length ≤ p.size ∧
    (∀ (i : Nat) x, l[i]? = some x → ∃ v, c[p.base + i]? = some v ∧ VR μ x v ∧ x.scalar = true) ∧ (∀ off, off < p.size → ¬ (fz.1 ≤ off ∧ off < fz.2))

def OR (P : Program) (μ : Mu) (w : World) (p : Place) : AObj → Prop
  | .cells l => CellsAt μ w p l
  | .dead => True
  | .loop st pend T ps as bd => ∃ r : Loop, w.heap[p.blk]? = some (.loop r) ∧ r.state = stOf st ∧ r.pending = pendOf pend ∧ TR μ T r.tmps ∧ r.params.toList = ps ∧
      as = compile P r.tmps.size r.assign ∧ bd = compile P r.tmps.size r.body ∧ (∀ q ∈ ps, q < r.tmps.size)
  | .map l => ∃ es clock, w.heap[p.blk]? = some (.map es clock) ∧ MapsR μ l es.toList

def AObj.alive : AObj → Bool
  | .dead => false
  | _ => true

def AHeap.live (H : AHeap) (id : Nat) : Prop := ∃ o, H.get id = some o ∧ o.alive = true

/-- Blocks of the model's that stand throughout: what the library's variables hold. -/
class Ground where
  laid : Nat → Option Obj
  lim : Nat
  below : ∀ b o, laid b = some o → b < lim
  cells : ∀ b o, laid b = some o → ∃ c el fz, o = .cells c el fz

variable [G : Ground]

structure HR (P : Program) (μ : Mu) (H : AHeap) (w : World) : Prop where
  top : ∀ id, H.next ≤ id → H.get id = none ∧ μ id = none
  obj : ∀ id o, H.get id = some o → ∃ p, μ id = some p ∧ OR P μ w p o
  inj : ∀ id id' p p', H.live id → H.live id' → μ id = some p → μ id' = some p' → p.blk = p'.blk → id = id'
  bnd : ∀ id p, μ id = some p → p.blk < w.heap.size
  lim : G.lim ≤ w.heap.size
  ground : ∀ b o, G.laid b = some o → w.heap[b]? = some o
  apart : ∀ id p, μ id = some p → G.laid p.blk = none

theorem Ground.above {b : Nat} (h : G.lim ≤ b) : G.laid b = none := by
  cases e : G.laid b with
  | none => rfl
  | some o => have := G.below b o e; omega

/-- What has turned from one world to another. -/
structure Turn (μ μ' : Mu) (w w' : World) : Prop where
  le : Mu.le μ μ'
  fresh : ∀ id p, μ' id = some p → μ id = some p ∨ w.heap.size ≤ p.blk ∨ ∃ id0 p0, μ id0 = some p0 ∧ p0.blk = p.blk
  keep : ∀ b, b < w.heap.size → (∀ id p, μ id = some p → p.blk ≠ b) → w'.heap[b]? = w.heap[b]?
  grow : w.heap.size ≤ w'.heap.size
  kind : ∀ (b : Nat) r, w.heap[b]? = some (.loop r) → ∃ r', w'.heap[b]? = some (.loop r')
  out : w'.os = w.os ∧ w'.output = w.output

theorem Turn.refl (μ : Mu) (w : World) : Turn μ μ w w := ⟨Mu.le_refl μ, fun _ _ h => .inl h, fun _ _ _ => rfl, Nat.le_refl _, fun _ r h => ⟨r, h⟩, rfl, rfl⟩

theorem Turn.trans {μ₁ μ₂ μ₃ : Mu} {w₁ w₂ w₃ : World} (h : Turn μ₁ μ₂ w₁ w₂) (h' : Turn μ₂ μ₃ w₂ w₃) : Turn μ₁ μ₃ w₁ w₃ := by
  refine ⟨Mu.le_trans h.le h'.le, fun id p hp => ?_, fun b hb hn => ?_, Nat.le_trans h.grow h'.grow, fun b r hr => let ⟨r1, h1⟩ := h.kind b r hr; h'.kind b r1 h1, h'.out.1.trans h.out.1, h'.out.2.trans h.out.2⟩
  · rcases h'.fresh id p hp with h1 | h1 | ⟨id0, p0, h1, h2⟩
    · exact h.fresh id p h1
    · exact .inr (.inl (Nat.le_trans h.grow h1))
    · rcases h.fresh id0 p0 h1 with h3 | h3 | ⟨id1, p1, h3, h4⟩
      · exact .inr (.inr ⟨id0, p0, h3, h2⟩)
      · exact .inr (.inl (h2 ▸ h3))
      · exact .inr (.inr ⟨id1, p1, h3, h4.trans h2⟩)
  · rw [h'.keep b (Nat.lt_of_lt_of_le hb h.grow) ?_, h.keep b hb hn]
    intro id p hp he
    rcases h.fresh id p hp with h3 | h3 | ⟨id1, p1, h3, h4⟩
    · exact hn id p h3 he
    · omega
    · exact hn id1 p1 h3 (h4.trans he)

/-- A block more. -/
structure More (w w' : World) (o : Obj) : Prop where
  size : w'.heap.size = w.heap.size + 1
  new : w'.heap[w.heap.size]? = some o
  old : ∀ j, j < w.heap.size → w'.heap[j]? = w.heap[j]?
  out : w'.os = w.os ∧ w'.output = w.output

/-- One block turned. -/
structure Upd (w w' : World) (b : Nat) (o : Obj) : Prop where
  size : w'.heap.size = w.heap.size
  new : w'.heap[b]? = some o
  old : ∀ j, j ≠ b → w'.heap[j]? = w.heap[j]?
  out : w'.os = w.os ∧ w'.output = w.output

theorem More.push (w w' : World) (o : Obj) (h : w'.heap = w.heap.push o) (ho : w'.os = w.os ∧ w'.output = w.output := by exact ⟨rfl, rfl⟩) : More w w' o :=
  ⟨by simp [h], by simp [h], fun j hj => by simp [h, Array.getElem?_push, Nat.ne_of_lt hj], ho⟩

def Mu.put (μ : Mu) (id : Nat) (p : Place) : Mu := fun j => if j = id then some p else μ j
theorem Mu.put_same (μ : Mu) (id : Nat) (p : Place) : μ.put id p id = some p := by simp [Mu.put]
theorem Mu.put_ne (μ : Mu) {id j : Nat} (p : Place) (h : j ≠ id) : μ.put id p j = μ j := by simp [Mu.put, h]
theorem Mu.le_put (μ : Mu) {id : Nat} (p : Place) (h : μ id = none) : Mu.le μ (μ.put id p) := fun j q hq => by
  by_cases e : j = id
  · subst e; simp [h] at hq
  · rw [Mu.put_ne _ _ e]; exact hq

variable {P : Program}

theorem OR.mono {μ μ' : Mu} {w w' : World} (hm : Mu.le μ μ') {p : Place} (hw : w'.heap[p.blk]? = w.heap[p.blk]?) {o : AObj} (h : OR P μ w p o) : OR P μ' w' p o := by
  cases o with
  | cells l =>
    obtain ⟨c, el, fz, h1, h2, h3, h4, h5⟩ := h
    exact ⟨c, el, fz, hw.trans h1, h2, h3, fun i x hx => let ⟨v, a, b, c⟩ := h4 i x hx; ⟨v, a, b.mono hm, c⟩, h5⟩
  | dead => trivial
  | loop st pend T ps as bd =>
    obtain ⟨r, h1, h2, h3, h4, h5⟩ := h
    exact ⟨r, hw.trans h1, h2, h3, h4.mono hm, h5⟩
  | map l =>
    obtain ⟨es, clock, h1, h2⟩ := h
    exact ⟨es, clock, hw.trans h1, h2.mono hm⟩

theorem AHeap.live_new {H : AHeap} {o : AObj} {id : Nat} (h : (H.new o).live id) : id = H.next ∨ H.live id := by
  by_cases e : id = H.next
  · exact .inl e
  · obtain ⟨x, hx, ha⟩ := h
    rw [AHeap.get_new_ne _ _ (Ne.symm e)] at hx
    exact .inr ⟨x, hx, ha⟩

theorem AHeap.live_put {H : AHeap} {o : AObj} {j id : Nat} (h : (H.put j o).live id) : id = j ∨ H.live id := by
  by_cases e : id = j
  · exact .inl e
  · obtain ⟨x, hx, ha⟩ := h
    rw [AHeap.get_put_ne _ _ (Ne.symm e)] at hx
    exact .inr ⟨x, hx, ha⟩

/-- A new block of both. -/
theorem HR.new {μ : Mu} {H : AHeap} {w w' : World} (h : HR P μ H w) {o : Obj} (hw : More w w' o) (n : Nat) {x : AObj}
    (hx : OR P (μ.put H.next ⟨w.heap.size, 0, n⟩) w' ⟨w.heap.size, 0, n⟩ x) :
    HR P (μ.put H.next ⟨w.heap.size, 0, n⟩) (H.new x) w' ∧ Turn μ (μ.put H.next ⟨w.heap.size, 0, n⟩) w w' := by
  have hnone : μ H.next = none := (h.top H.next (Nat.le_refl _)).2
  have hle := Mu.le_put μ ⟨w.heap.size, 0, n⟩ hnone
  refine ⟨⟨fun id hid => ?_, fun id y hy => ?_, fun id id' p p' hl hl' hp hp' he => ?_, fun id p hp => ?_, by have := hw.size; have := h.lim; omega, fun b x hb => by rw [hw.old b (Nat.lt_of_lt_of_le (G.below b x hb) h.lim)]; exact h.ground b x hb, fun id p hp => by
    by_cases e : id = H.next
    · subst e; rw [Mu.put_same] at hp; cases hp; exact Ground.above h.lim
    · rw [Mu.put_ne _ _ e] at hp; exact h.apart _ _ hp⟩, ⟨hle, fun id p hp => ?_, fun b hb _ => hw.old b hb, by have := hw.size; omega, fun b r hr => ⟨r, by rw [hw.old b (Array.getElem?_eq_some_iff.1 hr).1]; exact hr⟩, hw.out⟩⟩
  · simp at hid
    have h0 := h.top id (by omega)
    rw [AHeap.get_new_ne _ _ (by omega), Mu.put_ne _ _ (by omega)]
    exact h0
  · by_cases e : id = H.next
    · subst e
      rw [AHeap.get_new_same] at hy
      cases hy
      exact ⟨_, Mu.put_same _ _ _, hx⟩
    · rw [AHeap.get_new_ne _ _ (Ne.symm e)] at hy
      obtain ⟨p, hp, ho⟩ := h.obj id y hy
      exact ⟨p, hle _ _ hp, ho.mono hle (hw.old _ (h.bnd _ _ hp))⟩
  · by_cases e : id = H.next
    · by_cases e' : id' = H.next
      · rw [e, e']
      · subst e
        rw [Mu.put_same] at hp
        rw [Mu.put_ne _ _ e'] at hp'
        cases hp
        have := h.bnd _ _ hp'
        simp at he
        omega
    · by_cases e' : id' = H.next
      · subst e'
        rw [Mu.put_same] at hp'
        rw [Mu.put_ne _ _ e] at hp
        cases hp'
        have := h.bnd _ _ hp
        simp at he
        omega
      · rw [Mu.put_ne _ _ e] at hp
        rw [Mu.put_ne _ _ e'] at hp'
        exact h.inj _ _ _ _ ((AHeap.live_new hl).resolve_left e) ((AHeap.live_new hl').resolve_left e') hp hp' he
  · by_cases e : id = H.next
    · subst e; rw [Mu.put_same] at hp; cases hp; have := hw.size; simp; omega
    · rw [Mu.put_ne _ _ e] at hp; have := h.bnd _ _ hp; have := hw.size; omega
  · by_cases e : id = H.next
    · subst e; rw [Mu.put_same] at hp; cases hp; exact .inr (.inl (Nat.le_refl _))
    · rw [Mu.put_ne _ _ e] at hp; exact .inl hp

/-- A block of both is turned. -/
theorem HR.put {μ : Mu} {H : AHeap} {w w' : World} (h : HR P μ H w) {id : Nat} {p : Place} (hp : μ id = some p) (hlive : H.live id) {o : Obj} (hw : Upd w w' p.blk o) (hk : ∀ r, w.heap[p.blk]? = some (.loop r) → ∃ r', o = .loop r') {x : AObj}
    (hx : OR P μ w' p x) : HR P μ (H.put id x) w' ∧ Turn μ μ w w' := by
  obtain ⟨x0, hx0, _⟩ := hlive
  have hid : id < H.next := by
    rcases Nat.lt_or_ge id H.next with h1 | h1
    · exact h1
    · have := (h.top id h1).1; simp [this] at hx0
  refine ⟨⟨fun j hj => ?_, fun j y hy => ?_, fun j j' q q' hl hl' hq hq' he => ?_, fun j q hq => ?_, by rw [hw.size]; exact h.lim, fun b x hb => by rw [hw.old b (fun e => by subst e; rw [h.apart _ _ hp] at hb; cases hb)]; exact h.ground b x hb, h.apart⟩, ⟨Mu.le_refl μ, fun j q hq => .inl hq, fun b hb hn => hw.old b (fun e => hn id p hp e.symm), by have := hw.size; omega, fun b' r hr => if e : b' = p.blk then by obtain ⟨r', rfl⟩ := hk r (by rw [← e]; exact hr); exact ⟨r', by rw [e]; exact hw.new⟩ else ⟨r, by rw [hw.old b' e]; exact hr⟩, hw.out⟩⟩
  · simp at hj
    rw [AHeap.get_put_ne _ _ (by omega)]
    exact h.top j hj
  · by_cases e : j = id
    · subst e; rw [AHeap.get_put_same] at hy; cases hy; exact ⟨p, hp, hx⟩
    · rw [AHeap.get_put_ne _ _ (Ne.symm e)] at hy
      obtain ⟨q, hq, ho⟩ := h.obj j y hy
      refine ⟨q, hq, ?_⟩
      by_cases ha : y.alive = true
      · refine ho.mono (Mu.le_refl μ) (hw.old _ fun eq => e ?_)
        exact h.inj _ _ _ _ ⟨y, hy, ha⟩ ⟨x0, hx0, by assumption⟩ hq hp eq
      · cases y <;> simp [AObj.alive] at ha
        trivial
  · have l1 : H.live j := by
      rcases AHeap.live_put hl with e | l
      · subst e; exact ⟨x0, hx0, by assumption⟩
      · exact l
    have l2 : H.live j' := by
      rcases AHeap.live_put hl' with e | l
      · subst e; exact ⟨x0, hx0, by assumption⟩
      · exact l
    exact h.inj _ _ _ _ l1 l2 hq hq' he
  · rw [hw.size]; exact h.bnd _ _ hq

/-- A block is given up. -/
theorem HR.kill {μ : Mu} {H : AHeap} {w : World} (h : HR P μ H w) {id : Nat} (hid : id < H.next) {p : Place} (hp : μ id = some p) : HR P μ (H.put id .dead) w := by
  refine ⟨fun j hj => ?_, fun j y hy => ?_, fun j j' q q' hl hl' hq hq' he => ?_, fun j q hq => h.bnd _ _ hq, h.lim, h.ground, h.apart⟩
  · simp at hj
    rw [AHeap.get_put_ne _ _ (by omega)]
    exact h.top j hj
  · by_cases e : j = id
    · subst e; rw [AHeap.get_put_same] at hy; cases hy; exact ⟨p, hp, trivial⟩
    · rw [AHeap.get_put_ne _ _ (Ne.symm e)] at hy
      exact h.obj j y hy
  · have aux : ∀ {j}, (H.put id .dead).live j → H.live j := by
      intro j ⟨y, hy, ha⟩
      by_cases e : j = id
      · subst e; rw [AHeap.get_put_same] at hy; cases hy; simp [AObj.alive] at ha
      · rw [AHeap.get_put_ne _ _ (Ne.symm e)] at hy; exact ⟨y, hy, ha⟩
    exact h.inj _ _ _ _ (aux hl) (aux hl') hq hq' he

/-- A block is given up, and a new one takes its place. -/
theorem HR.heir {μ : Mu} {H : AHeap} {w w' : World} (h : HR P μ H w) {id : Nat} {p : Place} (hp : μ id = some p) (hlive : H.live id) {o : Obj} (hw : Upd w w' p.blk o) (hk : ∀ r, w.heap[p.blk]? = some (.loop r) → ∃ r', o = .loop r') (b n : Nat) {x : AObj}
    (hx : OR P (μ.put H.next ⟨p.blk, b, n⟩) w' ⟨p.blk, b, n⟩ x) :
    HR P (μ.put H.next ⟨p.blk, b, n⟩) ((H.put id .dead).new x) w' ∧ Turn μ (μ.put H.next ⟨p.blk, b, n⟩) w w' := by
  have hnone : μ H.next = none := (h.top H.next (Nat.le_refl _)).2
  have hle := Mu.le_put μ ⟨p.blk, b, n⟩ hnone
  have hlive' := hlive
  obtain ⟨x0, hx0, _⟩ := hlive
  have hid : id < H.next := by
    rcases Nat.lt_or_ge id H.next with h1 | h1
    · exact h1
    · have := (h.top id h1).1; simp [this] at hx0
  have aux : ∀ {j}, j ≠ H.next → ((H.put id .dead).new x).live j → H.live j ∧ j ≠ id := by
    intro j e ⟨y, hy, ha⟩
    rw [AHeap.get_new_ne _ _ (by simpa using Ne.symm e)] at hy
    by_cases e' : j = id
    · subst e'; rw [AHeap.get_put_same] at hy; cases hy; simp [AObj.alive] at ha
    · rw [AHeap.get_put_ne _ _ (Ne.symm e')] at hy; exact ⟨⟨y, hy, ha⟩, e'⟩
  refine ⟨⟨fun j hj => ?_, fun j y hy => ?_, fun j j' q q' hl hl' hq hq' he => ?_, fun j q hq => ?_, by rw [hw.size]; exact h.lim, fun b' x' hb => by rw [hw.old b' (fun e => by subst e; rw [h.apart _ _ hp] at hb; cases hb)]; exact h.ground b' x' hb, fun j q hq => by
    by_cases e : j = H.next
    · subst e; rw [Mu.put_same] at hq; cases hq; exact h.apart id p hp
    · rw [Mu.put_ne _ _ e] at hq; exact h.apart _ _ hq⟩, ⟨hle, fun j q hq => ?_, fun b' hb hn => hw.old b' (fun e => hn id p hp e.symm), by have := hw.size; omega, fun b' r hr => if e : b' = p.blk then by obtain ⟨r', rfl⟩ := hk r (by rw [← e]; exact hr); exact ⟨r', by rw [e]; exact hw.new⟩ else ⟨r, by rw [hw.old b' e]; exact hr⟩, hw.out⟩⟩
  · simp at hj
    rw [AHeap.get_new_ne _ _ (by simp; omega), AHeap.get_put_ne _ _ (by omega), Mu.put_ne _ _ (by omega)]
    exact h.top j (by omega)
  · by_cases e : j = H.next
    · subst e
      have : ((H.put id .dead).new x).get H.next = some x := AHeap.get_new_same _ _
      rw [this] at hy
      cases hy
      exact ⟨_, Mu.put_same _ _ _, hx⟩
    · rw [AHeap.get_new_ne _ _ (by simpa using Ne.symm e)] at hy
      by_cases e' : j = id
      · subst e'; rw [AHeap.get_put_same] at hy; cases hy; exact ⟨p, hle _ _ hp, trivial⟩
      · rw [AHeap.get_put_ne _ _ (Ne.symm e')] at hy
        obtain ⟨q, hq, ho⟩ := h.obj j y hy
        refine ⟨q, hle _ _ hq, ?_⟩
        by_cases ha : y.alive = true
        · exact ho.mono hle (hw.old _ fun eq => e' (h.inj _ _ _ _ ⟨y, hy, ha⟩ hlive' hq hp eq))
        · cases y <;> simp [AObj.alive] at ha
          trivial
  · by_cases e : j = H.next
    · by_cases e' : j' = H.next
      · rw [e, e']
      · obtain ⟨l1, n1⟩ := aux e' hl'
        subst e
        rw [Mu.put_same] at hq
        rw [Mu.put_ne _ _ e'] at hq'
        cases hq
        exact absurd (h.inj _ _ _ _ l1 hlive' hq' hp he.symm) n1
    · obtain ⟨l1, n1⟩ := aux e hl
      by_cases e' : j' = H.next
      · subst e'
        rw [Mu.put_same] at hq'
        rw [Mu.put_ne _ _ e] at hq
        cases hq'
        exact absurd (h.inj _ _ _ _ l1 hlive' hq hp he) n1
      · obtain ⟨l2, _⟩ := aux e' hl'
        rw [Mu.put_ne _ _ e] at hq
        rw [Mu.put_ne _ _ e'] at hq'
        exact h.inj _ _ _ _ l1 l2 hq hq' he
  · rw [hw.size]
    by_cases e : j = H.next
    · subst e; rw [Mu.put_same] at hq; cases hq; have := h.bnd id p hp; exact this
    · rw [Mu.put_ne _ _ e] at hq; exact h.bnd _ _ hq
  · by_cases e : j = H.next
    · subst e; rw [Mu.put_same] at hq; cases hq; exact .inr (.inr ⟨id, p, hp, rfl⟩)
    · rw [Mu.put_ne _ _ e] at hq; exact .inl hq

/-- Only the count of draws, or nothing that the relation sees, has turned. -/
theorem HR.heapEq {μ : Mu} {H : AHeap} {w w' : World} (h : HR P μ H w) (hw : w'.heap = w.heap) : HR P μ H w' := by
  refine ⟨h.top, fun id o ho => ?_, h.inj, fun id p hp => by rw [hw]; exact h.bnd id p hp, by rw [hw]; exact h.lim, fun b x hb => by rw [hw]; exact h.ground b x hb, h.apart⟩
  obtain ⟨p, hp, hx⟩ := h.obj id o ho
  exact ⟨p, hp, hx.mono (Mu.le_refl μ) (by rw [hw])⟩

theorem Turn.heapEq {μ : Mu} {w w' : World} (hw : w'.heap = w.heap) (ho : w'.os = w.os ∧ w'.output = w.output := by exact ⟨rfl, rfl⟩) : Turn μ μ w w' := ⟨Mu.le_refl μ, fun _ _ h => .inl h, fun _ _ _ => by rw [hw], by rw [hw]; exact Nat.le_refl _, fun _ r h => ⟨r, by rw [hw]; exact h⟩, ho⟩

/-- A block of the model's alone. -/
theorem HR.extra {μ : Mu} {H : AHeap} {w w' : World} (h : HR P μ H w) {o : Obj} (hw : More w w' o) : HR P μ H w' ∧ Turn μ μ w w' := by
  refine ⟨⟨h.top, fun id o ho => ?_, h.inj, fun id p hp => by have := h.bnd id p hp; have := hw.size; omega, by have := hw.size; have := h.lim; omega, fun b x hb => by rw [hw.old b (Nat.lt_of_lt_of_le (G.below b x hb) h.lim)]; exact h.ground b x hb, h.apart⟩,
    ⟨Mu.le_refl μ, fun _ _ h => .inl h, fun b hb _ => hw.old b hb, by have := hw.size; omega, fun b r hr => ⟨r, by rw [hw.old b (Array.getElem?_eq_some_iff.1 hr).1]; exact hr⟩, hw.out⟩⟩
  obtain ⟨p, hp, hx⟩ := h.obj id o ho
  exact ⟨p, hp, hx.mono (Mu.le_refl μ) (hw.old _ (h.bnd _ _ hp))⟩

/-- A block of the model's alone is turned. -/
theorem HR.other {μ : Mu} {H : AHeap} {w w' : World} (h : HR P μ H w) {b : Nat} {o : Obj} (hw : Upd w w' b o) (hn : ∀ id p, μ id = some p → p.blk ≠ b) (hg : G.laid b = none) : HR P μ H w' := by
  refine ⟨h.top, fun id o ho => ?_, h.inj, fun id p hp => by rw [hw.size]; exact h.bnd id p hp, by rw [hw.size]; exact h.lim, fun b' x hb => by rw [hw.old b' (fun e => by subst e; rw [hg] at hb; cases hb)]; exact h.ground b' x hb, h.apart⟩
  obtain ⟨p, hp, hx⟩ := h.obj id o ho
  exact ⟨p, hp, hx.mono (Mu.le_refl μ) (hw.old _ (hn _ _ hp))⟩

/-! ### Cells -/

theorem AHeap.row_eq {H : AHeap} {id : Nat} {l : List AVal} (h : H.row id = some l) : H.get id = some (.cells l) := by
  unfold AHeap.row at h
  split at h
  · rename_i heq; simp at h; subst h; exact heq
  · simp at h

theorem HR.row {μ : Mu} {H : AHeap} {w : World} (h : HR P μ H w) {id : Nat} {l : List AVal} (hl : H.row id = some l) : ∃ p, μ id = some p ∧ CellsAt μ w p l :=
  h.obj id _ (AHeap.row_eq hl)

theorem AHeap.live_row {H : AHeap} {id : Nat} {l : List AVal} (h : H.row id = some l) : H.live id := ⟨_, AHeap.row_eq h, rfl⟩

theorem CellsAt.cell {μ : Mu} {w : World} {p : Place} {l : List AVal} (h : CellsAt μ w p l) {i : Nat} {x : AVal} (hx : l[i]? = some x) :
    ∃ v, w.cell? ⟨p.blk, p.base + i, none⟩ = some v ∧ VR μ x v ∧ x.scalar = true := by
  obtain ⟨c, el, fz, h1, h2, h3, h4, h5⟩ := h
  obtain ⟨v, a, b, d⟩ := h4 i x hx
  exact ⟨v, by simp [World.cell?, h1, a], b, d⟩

theorem Addr.add_none (b o k : Nat) : (⟨b, o, none⟩ : Addr).add k = ⟨b, o + k, none⟩ := by
  unfold Addr.add
  split
  · rename_i h; subst h; rfl
  · rfl

theorem take?_some {n off : Nat} {l r : List AVal} (h : take? n off l = some r) : off + n ≤ l.length ∧ r = (l.drop off).take n := by
  unfold take? at h
  split at h <;> simp at h
  exact ⟨by assumption, h.symm⟩

theorem take?_length {n off : Nat} {l r : List AVal} (h : take? n off l = some r) : r.length = n := by
  obtain ⟨h1, rfl⟩ := take?_some h
  simp; omega

theorem take?_get {n off : Nat} {l r : List AVal} (h : take? n off l = some r) {i : Nat} (hi : i < n) : r[i]? = l[off + i]? := by
  obtain ⟨h1, rfl⟩ := take?_some h
  simp [List.getElem?_take, hi]

theorem splice?_some {off : Nat} {l new r : List AVal} (h : splice? l off new = some r) : off + new.length ≤ l.length ∧ r = splice l off new := by
  unfold splice? at h
  split at h <;> simp at h
  exact ⟨by assumption, h.symm⟩

/-- Cells read. -/
theorem CellsAt.load {μ : Mu} {w : World} {p : Place} {l : List AVal} (h : CellsAt μ w p l) {n off : Nat} {r : List AVal} (hr : take? n off l = some r) :
    ∃ vs : List Value, (loadCells ⟨p.blk, p.base + off, none⟩ n).run P w = .ok vs.toArray w ∧ VRs μ r vs ∧ r.all AVal.scalar = true := by
  have hlen := take?_length hr
  have hget := fun {i : Nat} (hi : i < n) => take?_get hr hi
  obtain ⟨hle, _⟩ := take?_some hr
  have ex : ∀ i, i < n → ∃ v, w.cell? ⟨p.blk, p.base + off + i, none⟩ = some v ∧ ∀ x, r[i]? = some x → VR μ x v ∧ x.scalar = true := by
    intro i hi
    have hx : l[off + i]? = some l[off + i] := List.getElem?_eq_getElem (by omega)
    obtain ⟨v, a, b, d⟩ := h.cell hx
    refine ⟨v, by rw [← a, Nat.add_assoc], fun x hx' => ?_⟩
    rw [hget hi, hx] at hx'
    cases hx'
    exact ⟨b, d⟩
  let f : Nat → Value := fun i => if hi : i < n then Classical.choose (ex i hi) else undef
  have hf : ∀ i (hi : i < n), w.cell? ⟨p.blk, p.base + off + i, none⟩ = some (f i) ∧ ∀ x, r[i]? = some x → VR μ x (f i) ∧ x.scalar = true := by
    intro i hi
    simp only [f, hi, dite_true]
    exact Classical.choose_spec (ex i hi)
  refine ⟨(List.range n).map f, run_loadCells w _ n f fun j hj => by rw [Addr.add_none]; exact (hf j hj).1, ?_, ?_⟩
  · refine VRs.of_get (by simp [hlen]) fun i x y hx hy => ?_
    have hi : i < n := by
      rcases Nat.lt_or_ge i n with h' | h'
      · exact h'
      · rw [List.getElem?_eq_none (by omega)] at hx; simp at hx
    simp [List.getElem?_map, List.getElem?_range hi] at hy
    subst hy
    exact ((hf i hi).2 x hx).1
  · rw [List.all_eq_true]
    intro x hx
    obtain ⟨i, hi⟩ := List.mem_iff_getElem?.1 hx
    have hin : i < n := by
      rcases Nat.lt_or_ge i n with h' | h'
      · exact h'
      · rw [List.getElem?_eq_none (by omega)] at hi; simp at hi
    exact ((hf i hin).2 x hi).2

theorem splice_length {l new : List AVal} {off : Nat} (h : off + new.length ≤ l.length) : (splice l off new).length = l.length := by
  simp [splice]; omega

theorem splice_get {l new : List AVal} {off : Nat} (h : off + new.length ≤ l.length) (i : Nat) :
    (splice l off new)[i]? = if off ≤ i ∧ i < off + new.length then new[i - off]? else l[i]? := by
  simp only [splice, List.append_assoc, List.getElem?_append, List.length_take, List.getElem?_take, List.getElem?_drop]
  have e : min off l.length = off := by omega
  rw [e]
  by_cases h1 : i < off
  · simp [h1, show ¬ off ≤ i by omega]
  · by_cases h2 : i < off + new.length
    · simp [h1, h2, show off ≤ i by omega, show i - off < new.length by omega]
    · simp [h1, h2, show ¬ i - off < new.length by omega]
      congr 1; omega

/-- Cells written. -/
theorem run_storeCells_row (b : Nat) (el : TypeId) (fz : Nat × Nat) : ∀ (vs : List Value) (o i : Nat) (c : Array Value) (w : World), w.heap[b]? = some (.cells c el fz) →
    o + i + vs.length ≤ c.size → (∀ off, off < c.size → ¬ (fz.1 ≤ off ∧ off < fz.2)) → (∀ v ∈ vs, v.oneCell' = true) →
    ∃ w' c', (storeCells ⟨b, o, none⟩ vs i).run P w = .ok () w' ∧ Upd w w' b (.cells c' el fz) ∧ c'.size = c.size ∧
      (∀ (j : Nat), c'[j]? = if o + i ≤ j ∧ j < o + i + vs.length then vs[j - (o + i)]? else c[j]?)
  | [], o, i, c, w, hb, hle, hf, hv => by
    refine ⟨w, c, by simp [storeCells], ⟨rfl, hb, fun j _ => rfl, rfl, rfl⟩, rfl, fun j => ?_⟩
    rw [if_neg (by simp)]
  | v :: vs, o, i, c, w, hb, hle, hf, hv => by
    simp at hle
    have hlt : o + i < c.size := by omega
    have hcell : w.cell? ⟨b, o + i, none⟩ = some c[o + i] := by simp [World.cell?, hb, hlt]
    have hfro : w.frozen? ⟨b, o + i, none⟩ = false := by
      have h1 := hf (o + i) hlt
      simp [World.frozen?, hb]
      intro h2
      by_cases h3 : o + i < fz.2
      · exact absurd ⟨h2, h3⟩ h1
      · omega
    have hblk : b < w.heap.size := by
      rcases Nat.lt_or_ge b w.heap.size with h1 | h1
      · exact h1
      · simp [Array.getElem?_eq_none h1] at hb
    have hset : (w.setCell ⟨b, o + i, none⟩ v).heap[b]? = some (.cells (c.setIfInBounds (o + i) v) el fz) := by
      simp [World.setCell, Array.getElem?_modify, hb]
    obtain ⟨w', c', h1, h2, h3, h4⟩ := run_storeCells_row b el fz vs o (i + 1) (c.setIfInBounds (o + i) v) (w.setCell ⟨b, o + i, none⟩ v) hset (by simp; omega) (by simpa using hf)
      (fun x hx => hv x (by simp [hx]))
    refine ⟨w', c', ?_, ⟨?_, h2.new, fun j hj => ?_, h2.out⟩, by simpa using h3, fun j => ?_⟩
    · simp only [storeCells, Sem.run_bind, Addr.add_none]
      rw [run_store P w _ v _ (hv v (by simp)), hcell]
      simp [hfro, h1]
    · rw [h2.size]; simp [World.setCell]
    · rw [h2.old j hj]; simp [World.setCell, Array.getElem?_modify, Ne.symm hj]
    · rw [h4 j]
      by_cases e : j = o + i
      · subst e
        rw [if_neg (by omega), if_pos (by simp)]
        simp [hlt]
      · by_cases h5 : o + (i + 1) ≤ j ∧ j < o + (i + 1) + vs.length
        · rw [if_pos h5, if_pos (by simp; omega)]
          have : j - (o + i) = (j - (o + (i + 1))) + 1 := by omega
          rw [this]; simp
        · rw [if_neg h5, if_neg (by simp; omega)]
          simp [Array.getElem?_setIfInBounds, Ne.symm e]

theorem HR.store {μ : Mu} {H : AHeap} {w : World} (h : HR P μ H w) {id off : Nat} {p : Place} {l l' : List AVal} (hp : μ id = some p) (hl : H.row id = some l) {cs : List AVal} {vs : List Value}
    (hs : splice? l off cs = some l') (hc : VRs μ cs vs) (hsc : cs.all AVal.scalar = true) :
    ∃ w', (storeCells ⟨p.blk, p.base + off, none⟩ vs).run P w = .ok () w' ∧ HR P μ (H.put id (.cells l')) w' ∧ Turn μ μ w w' := by
  obtain ⟨q, hq, c, el, fz, h1, h2, h3, h4, h5⟩ := h.row hl
  rw [hp] at hq
  cases hq
  obtain ⟨hle, rfl⟩ := splice?_some hs
  have hlen := hc.length
  have hone : ∀ v ∈ vs, v.oneCell' = true := by
    intro v hv
    obtain ⟨i, hi⟩ := List.mem_iff_getElem?.1 hv
    have hi' : i < cs.length := by
      rcases Nat.lt_or_ge i cs.length with h' | h'
      · exact h'
      · rw [List.getElem?_eq_none (by omega)] at hi; simp at hi
    obtain ⟨y, hy, hr⟩ := hc.get (List.getElem?_eq_getElem hi')
    rw [hi] at hy
    cases hy
    exact hr.oneCell (List.all_eq_true.1 hsc _ (List.getElem_mem hi'))
  obtain ⟨w', c', r1, r2, r3, r4⟩ := run_storeCells_row (P := P) p.blk el fz vs (p.base + off) 0 c w h1 (by omega) (by rw [h2]; exact h5) hone
  obtain ⟨hh, ht⟩ := h.put hp (AHeap.live_row hl) r2 (by intro r hr; rw [h1] at hr; cases hr) (x := .cells (splice l off cs)) (by
    refine ⟨c', el, fz, r2.new, by omega, by rw [splice_length hle]; exact h3, fun i x hx => ?_, h5⟩
    rw [splice_get hle] at hx
    rw [r4]
    by_cases hi : off ≤ i ∧ i < off + cs.length
    · rw [if_pos hi] at hx
      rw [if_pos (by omega)]
      obtain ⟨y, hy, hr⟩ := hc.get hx
      refine ⟨y, ?_, hr, List.all_eq_true.1 hsc _ (List.mem_iff_getElem?.2 ⟨_, hx⟩)⟩
      rw [show p.base + i - (p.base + off + 0) = i - off by omega]; exact hy
    · rw [if_neg hi] at hx
      rw [if_neg (by omega)]
      exact h4 i x hx)
  exact ⟨w', r1, hh, ht⟩
end Go.AM
