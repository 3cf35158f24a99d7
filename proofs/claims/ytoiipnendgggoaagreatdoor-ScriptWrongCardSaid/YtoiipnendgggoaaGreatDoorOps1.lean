/- A part of the proof of the claim of this folder (Ops1). -/
import Derived.Test.YtoiipnendgggoaaGreatDoorHeap
set_option autoImplicit true
set_option relaxedAutoImplicit true
set_option linter.all false
set_option linter.deprecated false
set_option linter.unnecessarySimpa false
set_option linter.unusedSectionVars false
set_option linter.unusedSimpArgs false
set_option linter.unusedVariables false
/-! Operations, one by one. -/
namespace Go.AM
variable [G : Ground]
variable {P : Program}

theorem run_typeInfoA {t : TypeId} {i : TypeInfo} (h : P.info? t = some i) (w : World) : (typeInfo t).run P w = .ok i w := by
  simp [typeInfo, h]

theorem run_sizeOfA {t : TypeId} {n : Nat} (h : sizeA P t = some n) (w : World) : (sizeOf t).run P w = .ok n w := by
  simp only [sizeA, Option.map_eq_some_iff] at h
  obtain ⟨i, hi, rfl⟩ := h
  simp [sizeOf, run_typeInfoA hi]

theorem run_isAggA {t : TypeId} {b : Bool} (h : aggA P t = some b) (w : World) : (isAgg t).run P w = .ok b w := by
  simp only [aggA, Option.map_eq_some_iff] at h
  obtain ⟨d, hd, rfl⟩ := h
  simp only [isAgg, Sem.run_bind, run_underlying hd, Result.andThen_ok]
  cases d <;> rfl

theorem ofFlat_rel {μ : Mu} {v : Value} {y : AVal} (hy : ofFlat v = some y) : VR μ y v ∧ y.scalar = true ∧ y.whole = true := by
  unfold ofFlat at hy
  split at hy <;> simp at hy <;> subst hy <;> first
    | exact ⟨.bool _, rfl, rfl⟩ | exact ⟨.int _ _, rfl, rfl⟩ | exact ⟨.str _ _ rfl, rfl, rfl⟩ | exact ⟨.nilptr, rfl, rfl⟩ | exact ⟨.nilslice, rfl, rfl⟩ | exact ⟨.nilfn, rfl, rfl⟩ | exact ⟨.niliface, rfl, rfl⟩ | exact ⟨.nilmap, rfl, rfl⟩ | exact ⟨.iface _ _ _ (.int _ _), rfl, rfl⟩

theorem ofFlats_rel {μ : Mu} : ∀ {l : List Value} {m : List AVal}, ofFlats l = some m → VRs μ m l ∧ m.all AVal.scalar = true
  | [], m, hm => by simp [ofFlats] at hm; subst hm; exact ⟨.nil, rfl⟩
  | v :: l, m, hm => by
    unfold ofFlats at hm
    split at hm
    · rename_i a as ha has
      simp at hm; subst hm
      have h1 := ofFlat_rel (μ := μ) ha
      have h2 := ofFlats_rel (μ := μ) has
      exact ⟨.cons _ _ _ _ h1.1 h2.1, by simp [h1.2.1, h2.2]⟩
    · simp at hm

theorem ofValue_rel {μ : Mu} {v : Value} {y : AVal} (hy : ofValue v = some y) : VR μ y v ∧ y.whole = true := by
  unfold ofValue at hy
  split at hy
  · rename_i cs
    simp only [Option.map_eq_some_iff] at hy
    obtain ⟨m, hm, rfl⟩ := hy
    exact ⟨.agg m cs.toList (ofFlats_rel hm).1 (ofFlats_rel (μ := μ) hm).2, rfl⟩
  · exact ⟨(ofFlat_rel hy).1, (ofFlat_rel (μ := μ) hy).2.2⟩

/-- The zero value of a type. -/
theorem run_zeroA {μ : Mu} {t : TypeId} {z : List AVal} (h : zeroA P t = some z) (w : World) :
    ∃ v, (zeroValue t).run P w = .ok v w ∧ VRs μ z v.cells.toList ∧ z.all AVal.scalar = true := by
  unfold zeroA at h
  split at h
  · rename_i i hi
    split at h
    · rename_i v hv
      simp only [Option.map_eq_some_iff] at h
      obtain ⟨y, hy, rfl⟩ := h
      have := ofValue_rel (μ := μ) hy
      exact ⟨v, by simp [zeroValue, run_typeInfoA hi, hv], this.1.cells, AVal.cells_scalar this.1 this.2⟩
    · simp at h
  · simp at h

theorem run_zeroFlatA {μ : Mu} {t : TypeId} {z : AVal} (h : zeroFlatA P t = some z) (w : World) :
    ∃ v, (zeroValue t).run P w = .ok v w ∧ VR μ z v := by
  unfold zeroFlatA at h
  split at h
  · rename_i i hi
    split at h
    · rename_i v hv
      exact ⟨v, by simp [zeroValue, run_typeInfoA hi, hv], (ofFlat_rel h).1⟩
    · simp at h
  · simp at h

theorem zeroOkA_eq {t : TypeId} {z : List AVal} (h : zeroOkA P t = some z) : zeroA P t = some z ∧ sizeA P t = some z.length := by
  unfold zeroOkA at h
  split at h
  · rename_i z' n hz hn
    split at h <;> simp at h
    rename_i hl
    subst h
    exact ⟨hz, by rw [hn, hl]⟩
  · simp at h

/-- An operation that has ended well. -/
def Done (P : Program) (μ : Mu) (w : World) (r : Result Next) (v : AVal) (H' : AHeap) : Prop :=
  ∃ cv w' μ', (r = .ok (.value cv) w' ∨ (r = .ok .skip w' ∧ cv = undef)) ∧ VR μ' v cv ∧ HR P μ' H' w' ∧ Turn μ μ' w w'

section
variable {μ : Mu} {H : AHeap} {w : World} {r : Result Next} {v : AVal}

theorem Done.same (hH : HR P μ H w) {cv : Value} (hr : r = .ok (.value cv) w) (hv : VR μ v cv) : Done P μ w r v H :=
  ⟨cv, w, μ, .inl hr, hv, hH, .refl μ w⟩

theorem Done.pure (hH : HR P μ H w) {x : Option AVal} {H' : AHeap} (he : pureR H x = some (v, H')) (h : x = some v → ∃ cv, r = .ok (.value cv) w ∧ VR μ v cv) : Done P μ w r v H' := by
  cases x with
  | none => simp [pureR] at he
  | some y =>
    simp [pureR] at he
    obtain ⟨rfl, rfl⟩ := he
    obtain ⟨cv, h1, h2⟩ := h rfl
    exact .same hH h1 h2

/-- The same world, the same heap. -/
def Quiet (P : Program) (μ : Mu) (w : World) (r : Result Next) (v : AVal) (H H' : AHeap) : Prop :=
  H' = H ∧ ∃ cv, r = .ok (.value cv) w ∧ VR μ v cv

theorem Quiet.done (h : Quiet P μ w r v H H') (hH : HR P μ H w) : Done P μ w r v H' := by
  obtain ⟨rfl, cv, h1, h2⟩ := h
  exact .same hH h1 h2

theorem Quiet.same {H : AHeap} (_ : HR P μ H w) {cv : Value} (hr : r = .ok (.value cv) w) (hv : VR μ v cv) : Quiet P μ w r v H H := ⟨rfl, cv, hr, hv⟩

theorem Quiet.pure (_ : HR P μ H w) {x : Option AVal} {H' : AHeap} (he : pureR H x = some (v, H')) (h : x = some v → ∃ cv, r = .ok (.value cv) w ∧ VR μ v cv) : Quiet P μ w r v H H' := by
  cases x with
  | none => simp [pureR] at he
  | some y =>
    simp [pureR] at he
    obtain ⟨rfl, rfl⟩ := he
    exact ⟨rfl, h rfl⟩

/-- One block more, of both. -/
def Alloc (P : Program) (μ : Mu) (w : World) (r : Result Next) (v : AVal) (H H' : AHeap) : Prop :=
  ∃ cv w' ob n x, H' = H.new x ∧ r = .ok (.value cv) w' ∧ More w w' ob ∧
    ∀ μ', Mu.le μ μ' → μ' H.next = some ⟨w.heap.size, 0, n⟩ → OR P μ' w' ⟨w.heap.size, 0, n⟩ x ∧ VR μ' v cv

theorem Alloc.done (h : Alloc P μ w r v H H') (hH : HR P μ H w) : Done P μ w r v H' := by
  obtain ⟨cv, w', ob, n, x, rfl, hr, hw, hx⟩ := h
  have hle := Mu.le_put μ ⟨w.heap.size, 0, n⟩ (hH.top H.next (Nat.le_refl _)).2
  obtain ⟨h1, h2⟩ := hx _ hle (Mu.put_same _ _ _)
  obtain ⟨hh, ht⟩ := hH.new hw n h1
  exact ⟨cv, w', _, .inl hr, h2, hh, ht⟩

theorem OR.newRow (el : TypeId) (fz : Nat × Nat) {l : List AVal} {vs : List Value} {c : Array Value} (hl : VRs μ l vs) (hs : l.all AVal.scalar = true)
    (hc : ∀ (i : Nat) x, vs[i]? = some x → c[i]? = some x) (hn : l.length ≤ c.size) (hf : ∀ off, off < c.size → ¬ (fz.1 ≤ off ∧ off < fz.2)) {w' : World} (hw : w'.heap = w.heap.push (.cells c el fz)) (ho : w'.os = w.os ∧ w'.output = w.output := by exact ⟨rfl, rfl⟩) :
    More w w' (.cells c el fz) ∧ ∀ μ', Mu.le μ μ' → OR P μ' w' ⟨w.heap.size, 0, c.size⟩ (.cells l) := by
  refine ⟨More.push w w' _ hw ho, fun μ' hle => ⟨c, el, fz, (More.push w w' _ hw ho).new, rfl, by simpa using hn, fun i x hx => ?_, hf⟩⟩
  obtain ⟨y, hy, hr⟩ := hl.get hx
  exact ⟨y, by simpa using hc i y hy, hr.mono hle, List.all_eq_true.1 hs _ (List.mem_iff_getElem?.2 ⟨i, hx⟩)⟩

theorem OR.newRow' (el : TypeId) {l : List AVal} {c : Array Value} (hl : VRs μ l c.toList) (hs : l.all AVal.scalar = true)
    {w' : World} (hw : w'.heap = w.heap.push (.cells c el)) (ho : w'.os = w.os ∧ w'.output = w.output := by exact ⟨rfl, rfl⟩) : More w w' (.cells c el) ∧ ∀ μ', Mu.le μ μ' → OR P μ' w' ⟨w.heap.size, 0, c.size⟩ (.cells l) :=
  OR.newRow el (0, 0) hl hs (fun i x hx => by simpa using hx) (by have := hl.length; simp at this; omega) (by intro off _; simp) hw ho

/-- A new row of cells. -/
theorem HR.newRow (hH : HR P μ H w) (el : TypeId) (fz : Nat × Nat) {l : List AVal} {vs : List Value} {c : Array Value} (hl : VRs μ l vs) (hs : l.all AVal.scalar = true)
    (hc : ∀ (i : Nat) x, vs[i]? = some x → c[i]? = some x) (hn : l.length ≤ c.size) (hf : ∀ off, off < c.size → ¬ (fz.1 ≤ off ∧ off < fz.2)) {w' : World} (hw : w'.heap = w.heap.push (.cells c el fz)) (ho : w'.os = w.os ∧ w'.output = w.output := by exact ⟨rfl, rfl⟩) :
    HR P (μ.put H.next ⟨w.heap.size, 0, c.size⟩) (H.new (.cells l)) w' ∧ Turn μ (μ.put H.next ⟨w.heap.size, 0, c.size⟩) w w' := by
  have hnone : μ H.next = none := (hH.top H.next (Nat.le_refl _)).2
  have hle := Mu.le_put μ ⟨w.heap.size, 0, c.size⟩ hnone
  refine hH.new (More.push w w' _ hw ho) c.size (x := .cells l) ?_
  refine ⟨c, el, fz, (More.push w w' _ hw ho).new, rfl, by simpa using hn, fun i x hx => ?_, hf⟩
  obtain ⟨y, hy, hr⟩ := hl.get hx
  exact ⟨y, by simpa using hc i y hy, hr.mono hle, List.all_eq_true.1 hs _ (List.mem_iff_getElem?.2 ⟨i, hx⟩)⟩

theorem HR.newRow' (hH : HR P μ H w) (el : TypeId) {l : List AVal} {c : Array Value} (hl : VRs μ l c.toList) (hs : l.all AVal.scalar = true)
    {w' : World} (hw : w'.heap = w.heap.push (.cells c el)) (ho : w'.os = w.os ∧ w'.output = w.output := by exact ⟨rfl, rfl⟩) :
    HR P (μ.put H.next ⟨w.heap.size, 0, c.size⟩) (H.new (.cells l)) w' ∧ Turn μ (μ.put H.next ⟨w.heap.size, 0, c.size⟩) w w' :=
  hH.newRow el (0, 0) hl hs (fun i x hx => by simpa using hx) (by have := hl.length; simp at this; omega) (by intro off _; simp) hw ho
end

section inversions
variable {μ : Mu} {v : Value}
theorem VR.bool_inv {b : Bool} (h : VR μ (.bool b) v) : v = .bool b := by cases h; rfl
theorem VR.int_inv {k : IntKind} {n : Int} (h : VR μ (.int k n) v) : v = .int k n := by cases h; rfl
theorem VR.str_inv {l : List Nat} (h : VR μ (.str l) v) : ∃ s : ByteArray, v = .string s ∧ l = s.data.toList.map UInt8.toNat := by cases h; exact ⟨_, rfl, by assumption⟩
theorem VR.nilptr_inv (h : VR μ .nilptr v) : v = .pointer none := by cases h; rfl
theorem VR.ptr_inv {id off : Nat} (h : VR μ (.ptr id off) v) : ∃ p, μ id = some p ∧ v = .pointer (some ⟨p.blk, p.base + off, none⟩) := by cases h; exact ⟨_, by assumption, rfl⟩
theorem VR.nilslice_inv (h : VR μ .nilslice v) : v = .slice none 0 0 := by cases h; rfl
theorem VR.slice_inv {id off len lo : Nat} {exact : Bool} {size : Nat} (h : VR μ (.slice id off len lo exact size) v) :
    ∃ (p : Place) (ad : Addr) (cap : Nat), v = .slice (some ad) len cap ∧ μ id = some p ∧ len ≤ cap ∧ lo ≤ cap ∧ (exact = true → cap = lo) ∧ (cap = 0 ∨ (ad = ⟨p.blk, p.base + off, none⟩ ∧ p.base + off + cap * size ≤ p.size)) := by
  cases h; exact ⟨_, _, _, rfl, by assumption, by assumption, by assumption, by assumption, by assumption⟩
theorem VR.nilfn_inv (h : VR μ .nilfn v) : v = .nilFunc := by cases h; rfl
theorem VR.fn_inv {f : Nat} {x y : List AVal} (h : VR μ (.fn f x y) v) : ∃ x' y' : List Value, v = .func (.func f) ⟨x'⟩ ⟨y'⟩ ∧ VRs μ x x' ∧ VRs μ y y' := by cases h; exact ⟨_, _, rfl, by assumption, by assumption⟩
theorem VR.yield_inv {l : Nat} (h : VR μ (.yield l) v) : ∃ p, μ l = some p ∧ v = .func (.yield p.blk) #[] #[] := by cases h; exact ⟨_, by assumption, rfl⟩
theorem VR.niliface_inv (h : VR μ .niliface v) : v = .nilIface := by cases h; rfl
theorem VR.iface_inv {t : Nat} {x : AVal} (h : VR μ (.iface t x) v) : ∃ x', v = .iface t x' ∧ VR μ x x' := by cases h; exact ⟨_, rfl, by assumption⟩
theorem VR.nilmap_inv (h : VR μ .nilmap v) : v = .map none := by cases h; rfl
theorem VR.map_inv {id : Nat} (h : VR μ (.map id) v) : ∃ p, μ id = some p ∧ v = .map (some p.blk) := by cases h; exact ⟨_, by assumption, rfl⟩
theorem VR.agg_inv {cs : List AVal} (h : VR μ (.agg cs) v) : ∃ cs' : List Value, v = .agg ⟨cs'⟩ ∧ VRs μ cs cs' ∧ cs.all AVal.scalar = true := by cases h; exact ⟨_, rfl, by assumption, by assumption⟩
theorem VR.tup_inv {cs : List AVal} (h : VR μ (.tup cs) v) : ∃ cs' : List Value, v = .tuple ⟨cs'⟩ ∧ VRs μ cs cs' := by cases h; exact ⟨_, rfl, by assumption⟩
theorem VRs.nil_inv {l : List Value} (h : VRs μ [] l) : l = [] := by cases h; rfl
theorem VRs.cons_inv {x : AVal} {m : List AVal} {l : List Value} (h : VRs μ (x :: m) l) : ∃ y n, l = y :: n ∧ VR μ x y ∧ VRs μ m n := by cases h; exact ⟨_, _, rfl, by assumption, by assumption⟩
end inversions

section
variable {μ : Mu} {H H' : AHeap} {w : World} {T : Tmps} {a : Act} {v : AVal} {o : Oper}

theorem sim_mov (hT : TR μ T a.tmps) (hH : HR P μ H w) {x : Operand} {y : AOpd} (ho : o.op = .move x ∨ o.op = .assign x) (hx : opdA x = some y)
    (he : evalOp T H (.mov y) = some (v, H')) : Quiet P μ w ((execOp a.eval o).run P w) v H H' := by
  simp [evalOp] at he
  obtain ⟨rfl, rfl⟩ := he
  refine .same hH (cv := a.eval x) ?_ (hT.eval hx)
  rcases ho with ho | ho <;> simp [execOp, ho]

theorem sim_pick (hT : TR μ T a.tmps) (hH : HR P μ H w) {c x y : Operand} {c' x' y' : AOpd} (ho : o.op = .pick c x y) (hc : opdA c = some c') (hx : opdA x = some x') (hy : opdA y = some y')
    (he : evalOp T H (.pick c' x' y') = some (v, H')) : Quiet P μ w ((execOp a.eval o).run P w) v H H' := by
  have h1 := hT.eval hc
  have h2 := hT.eval hx
  have h3 := hT.eval hy
  simp only [evalOp] at he
  split at he
  · rename_i t ht
    rw [ht] at h1
    have h1 := h1.bool_inv
    simp only [Option.some.injEq, Prod.mk.injEq] at he
    obtain ⟨rfl, rfl⟩ := he
    refine .same hH (cv := if t then a.eval x else a.eval y) ?_ ?_
    · simp [execOp, ho, h1, asBool]
    · cases t <;> simp <;> assumption
  · simp at he

theorem sim_new {e : TypeId} {z : List AVal} (ho : o.op = .alloc e) (hz : zeroOkA P e = some z)
    (he : evalOp T H (.new z) = some (v, H')) : Alloc P μ w ((execOp a.eval o).run P w) v H H' := by
  simp [evalOp] at he
  obtain ⟨rfl, rfl⟩ := he
  obtain ⟨zv, h1, h2, h3⟩ := run_zeroA (μ := μ) (zeroOkA_eq hz).1 w
  obtain ⟨hm, hx⟩ := OR.newRow' (P := P) e h2 h3 (w' := { w with heap := w.heap.push (.cells zv.cells e) }) rfl
  refine ⟨.pointer (some ⟨w.heap.size, 0, none⟩), _, _, _, _, rfl, ?_, hm, fun μ' hle hp => ⟨hx μ' hle, .ptr _ 0 ⟨w.heap.size, 0, _⟩ hp⟩⟩
  simp [execOp, ho, Instr.alloc, h1, newVar, newRow]

theorem sim_box (hT : TR μ T a.tmps) {e : TypeId} {x : Operand} {n : Nat} {x' : AOpd} (ho : o.op = .box e x) (hx : opdA x = some x')
    (he : evalOp T H (.box n x') = some (v, H')) : Alloc P μ w ((execOp a.eval o).run P w) v H H' := by
  have hv := hT.eval hx
  simp only [evalOp] at he
  split at he
  · rename_i hc
    simp only [Option.some.injEq, Prod.mk.injEq] at he
    obtain ⟨rfl, rfl⟩ := he
    obtain ⟨hm, hx⟩ := OR.newRow' (P := P) e hv.cells (AVal.cells_scalar hv hc.2) (w' := { w with heap := w.heap.push (.cells (a.eval x).cells e) }) rfl
    refine ⟨.pointer (some ⟨w.heap.size, 0, none⟩), _, _, _, _, rfl, ?_, hm, fun μ' hle hp => ⟨hx μ' hle, .ptr _ 0 ⟨w.heap.size, 0, _⟩ hp⟩⟩
    simp [execOp, ho, Instr.box, newVar, newRow]
  · simp at he

theorem sim_load1 (hT : TR μ T a.tmps) (hH : HR P μ H w) {t : TypeId} {x : Operand} {x' : AOpd} (ho : o.op = .load t x) (hx : opdA x = some x') (hg : aggA P t = some false)
    (he : evalOp T H (.load1 x') = some (v, H')) : Quiet P μ w ((execOp a.eval o).run P w) v H H' := by
  have hv := hT.eval hx
  refine .pure hH (x := fLoad1 H (T.eval x')) (by simpa [evalOp] using he) fun hl => ?_
  unfold fLoad1 at hl
  split at hl
  · rename_i id off hid
    rw [hid] at hv
    obtain ⟨p, hp, hv⟩ := hv.ptr_inv
    split at hl
    · rename_i l hrow
      obtain ⟨q, hq, hc⟩ := hH.row hrow
      rw [hp] at hq; cases hq
      obtain ⟨cv, h1, h2, _⟩ := hc.cell hl
      refine ⟨cv, ?_, h2⟩
      simp [execOp, ho, Instr.loadAt, hv, Instr.sureAddr, loadVar, run_isAggA hg, h1]
    · simp at hl
  · simp at hl

theorem sim_loadN (hT : TR μ T a.tmps) (hH : HR P μ H w) {t : TypeId} {x : Operand} {x' : AOpd} {n : Nat} (ho : o.op = .load t x) (hx : opdA x = some x') (hg : aggA P t = some true) (hn : sizeA P t = some n)
    (he : evalOp T H (.loadN n x') = some (v, H')) : Quiet P μ w ((execOp a.eval o).run P w) v H H' := by
  have hv := hT.eval hx
  refine .pure hH (x := fLoadN H n (T.eval x')) (by simpa [evalOp] using he) fun hl => ?_
  unfold fLoadN at hl
  split at hl
  · rename_i id off hid
    rw [hid] at hv
    obtain ⟨p, hp, hv⟩ := hv.ptr_inv
    split at hl
    · rename_i l hrow
      obtain ⟨q, hq, hc⟩ := hH.row hrow
      rw [hp] at hq; cases hq
      simp only [Option.map_eq_some_iff] at hl
      obtain ⟨r, hr, rfl⟩ := hl
      obtain ⟨vs, h1, h2, h3⟩ := hc.load (P := P) hr
      refine ⟨.agg vs.toArray, ?_, .agg r vs h2 h3⟩
      simp [execOp, ho, Instr.loadAt, hv, Instr.sureAddr, loadVar, run_isAggA hg, run_sizeOfA hn, h1]
    · simp at hl
  · simp at hl

theorem sim_store (hT : TR μ T a.tmps) (hH : HR P μ H w) {t : TypeId} {x y : Operand} {x' y' : AOpd} {n : Nat} (ho : o.op = .store t x y) (hx : opdA x = some x') (hy : opdA y = some y') (hn : sizeA P t = some n)
    (he : evalOp T H (.store n x' y') = some (v, H')) : Done P μ w ((execOp a.eval o).run P w) v H' := by
  have hv := hT.eval hx
  have hu := hT.eval hy
  simp only [evalOp, fStore] at he
  split at he
  · rename_i id off hid
    rw [hid] at hv
    obtain ⟨p, hp, hv⟩ := hv.ptr_inv
    split at he
    · rename_i l hrow
      split at he
      · rename_i hc
        split at he
        · rename_i l' hs
          simp only [Option.some.injEq, Prod.mk.injEq] at he
          obtain ⟨rfl, rfl⟩ := he
          obtain ⟨w', h1, h2, h3⟩ := hH.store hp hrow hs hu.cells (AVal.cells_scalar hu hc.2)
          refine ⟨undef, w', μ, .inr ⟨?_, rfl⟩, .undef, h2, h3⟩
          have hlen : (a.eval y).cells.size = n := by
            have := hu.cells.length
            simp at this; omega
          simp [execOp, ho, Instr.storeAt, hv, Instr.sureAddr, storeVar, run_sizeOfA hn, hlen, h1]
        · simp at he
      · simp at he
    · simp at he
  · simp at he

theorem sim_nilCheck (hT : TR μ T a.tmps) (hH : HR P μ H w) {x : Operand} {x' : AOpd} (ho : o.op = .nilCheck x) (hx : opdA x = some x')
    (he : evalOp T H (.nilCheck x') = some (v, H')) : Quiet P μ w ((execOp a.eval o).run P w) v H H' := by
  have hv := hT.eval hx
  simp only [evalOp] at he
  split at he
  · rename_i id off hid
    rw [hid] at hv
    simp only [Option.some.injEq, Prod.mk.injEq] at he
    obtain ⟨rfl, rfl⟩ := he
    obtain ⟨p, hp, hv'⟩ := hv.ptr_inv
    refine .same hH (cv := a.eval x) ?_ hv
    simp [execOp, ho, hv']
  · simp at he

theorem sim_iface (hT : TR μ T a.tmps) (hH : HR P μ H w) {t : TypeId} {d : TypeDesc} {x : Operand} {x' : AOpd} (ho : o.op = .makeInterface t x) (hx : opdA x = some x') (hd : P.underlying t = some d)
    (hn : ∀ ms, d ≠ .interface ms) (he : evalOp T H (.mkIface t x') = some (v, H')) : Quiet P μ w ((execOp a.eval o).run P w) v H H' := by
  have hv := hT.eval hx
  simp [evalOp] at he
  obtain ⟨rfl, rfl⟩ := he
  refine .same hH (cv := .iface t (a.eval x)) ?_ (.iface _ _ _ hv)
  simp only [execOp, ho, Instr.makeInterface, Sem.run_bind, run_underlying hd, Result.andThen_ok]
  cases d <;> first | rfl | exact absurd rfl (hn _)

theorem sim_makeFunc (hT : TR μ T a.tmps) (hH : HR P μ H w) {f : Nat} {x y : Array Operand} {x' y' : List AOpd} (ho : o.op = .makeFunc (.func f) x y) (hx : opdsA x.toList = some x') (hy : opdsA y.toList = some y')
    (he : evalOp T H (.makeFunc f x' y') = some (v, H')) : Quiet P μ w ((execOp a.eval o).run P w) v H H' := by
  have hv := hT.evals hx
  have hu := hT.evals hy
  simp [evalOp] at he
  obtain ⟨rfl, rfl⟩ := he
  refine .same hH (cv := .func (.func f) (x.map a.eval) (y.map a.eval)) ?_ ?_
  · simp [execOp, ho, Instr.makeFunc]
  · have e1 : x.map a.eval = ⟨x.toList.map a.eval⟩ := by apply Array.ext'; simp
    have e2 : y.map a.eval = ⟨y.toList.map a.eval⟩ := by apply Array.ext'; simp
    rw [e1, e2]
    exact .fn f _ _ _ _ hv hu

theorem sim_extract (hT : TR μ T a.tmps) (hH : HR P μ H w) {x : Operand} {x' : AOpd} {k : Nat} (ho : o.op = .extract x k) (hx : opdA x = some x')
    (he : evalOp T H (.extract x' k) = some (v, H')) : Quiet P μ w ((execOp a.eval o).run P w) v H H' := by
  have hv := hT.eval hx
  refine .pure hH (x := fExtract (T.eval x') k) (by simpa [evalOp] using he) fun hl => ?_
  unfold fExtract at hl
  split at hl
  · rename_i l heq
    rw [heq] at hv
    obtain ⟨cs, hv, hcs⟩ := hv.tup_inv
    obtain ⟨y, hy, hr⟩ := hcs.get hl
    refine ⟨y, ?_, hr⟩
    simp [execOp, ho, hv, Instr.extract, hy]
  · simp at hl

theorem sim_addOff (hT : TR μ T a.tmps) (hH : HR P μ H w) {t : TypeId} {fields : Array Field} {fl : Field} {x : Operand} {f s : Nat} {x' : AOpd} (ho : o.op = .fieldAddr t x f) (hx : opdA x = some x')
    (hd : P.underlying t = some (.struct fields)) (hf : fields[f]? = some fl) (hs : sizeA P fl.type = some s) (hs0 : s ≠ 0)
    (he : evalOp T H (.addOff fl.offset x') = some (v, H')) : Quiet P μ w ((execOp a.eval o).run P w) v H H' := by
  have hv := hT.eval hx
  refine .pure hH (x := fAddOff fl.offset (T.eval x')) (by simpa [evalOp] using he) fun hl => ?_
  unfold fAddOff at hl
  split at hl
  · rename_i id off heq
    rw [heq] at hv
    obtain ⟨p, hp, hv⟩ := hv.ptr_inv
    simp at hl; subst hl
    refine ⟨.pointer (some ⟨p.blk, p.base + (off + fl.offset), none⟩), ?_, .ptr _ _ p hp⟩
    simp [execOp, ho, Instr.fieldAt, run_underlying hd, hf, hv, Instr.sureAddr, fieldPlace, run_sizeOfA hs, hs0, Addr.add_none, Nat.add_assoc]
  · simp at hl

/-- A part of a struct or an array. -/
theorem run_part {t : TypeId} {g : Bool} {n off : Nat} {x y : AVal} {cv : Value} (hg : aggA P t = some g) (hn : sizeA P t = some n) (hl : fPart g off n x = some y) (hv : VR μ x cv) :
    ∃ cs u, cv = .agg cs ∧ (part t cs off).run P w = .ok u w ∧ VR μ y u := by
  unfold fPart at hl
  split at hl
  · rename_i cs
    obtain ⟨cs', rfl, hcs, hsc⟩ := hv.agg_inv
    refine ⟨⟨cs'⟩, ?_⟩
    cases g
    · simp at hl
      obtain ⟨z, hz, hr⟩ := hcs.get hl
      exact ⟨z, rfl, by simp [part, run_isAggA hg, hz], hr⟩
    · simp at hl
      obtain ⟨r, hr, rfl⟩ := hl
      obtain ⟨hle, rfl⟩ := take?_some hr
      refine ⟨.agg ((⟨cs'⟩ : Array Value).extract off (off + n)), rfl, by simp [part, run_isAggA hg, run_sizeOfA hn], ?_⟩
      have e : (⟨cs'⟩ : Array Value).extract off (off + n) = ⟨(cs'.drop off).take n⟩ := by
        apply Array.ext'
        simp [List.extract_eq_drop_take]
      rw [e]
      refine .agg _ _ ((hcs.drop off).take n) ?_
      rw [List.all_eq_true] at hsc ⊢
      exact fun x hx => hsc x (List.mem_of_mem_drop (List.mem_of_mem_take hx))
  · simp at hl

theorem sim_part (hT : TR μ T a.tmps) (hH : HR P μ H w) {t : TypeId} {fields : Array Field} {fl : Field} {x : Operand} {f n : Nat} {g : Bool} {x' : AOpd} (ho : o.op = .field t x f) (hx : opdA x = some x')
    (hd : P.underlying t = some (.struct fields)) (hf : fields[f]? = some fl) (hg : aggA P fl.type = some g) (hs : sizeA P fl.type = some n)
    (he : evalOp T H (.part g fl.offset n x') = some (v, H')) : Quiet P μ w ((execOp a.eval o).run P w) v H H' := by
  have hv := hT.eval hx
  refine .pure hH (x := fPart g fl.offset n (T.eval x')) (by simpa [evalOp] using he) fun hl => ?_
  obtain ⟨cs, u, h1, h2, h3⟩ := run_part (P := P) (w := w) hg hs hl hv
  refine ⟨u, ?_, h3⟩
  simp [execOp, ho, Instr.field, run_underlying hd, hf, h1, asAgg, h2]

theorem idx?_some {i : AVal} {n j : Nat} (h : idx? i n = some j) : ∃ k m, i = .int k m ∧ 0 ≤ m ∧ m < n ∧ j = m.toNat := by
  unfold idx? at h
  split at h
  · rename_i k m
    split at h <;> simp at h
    rename_i hc
    exact ⟨k, m, rfl, hc.1, hc.2, h.symm⟩
  · simp at h

theorem sim_idxAddrSl (hT : TR μ T a.tmps) (hH : HR P μ H w) {t e : TypeId} {x i : Operand} {s : Nat} {x' i' : AOpd} (ho : o.op = .indexAddr t x i) (hx : opdA x = some x') (hi : opdA i = some i')
    (hd : P.underlying t = some (.slice e)) (hs : sizeA P e = some s)
    (he : evalOp T H (.idxAddrSl s x' i') = some (v, H')) : Quiet P μ w ((execOp a.eval o).run P w) v H H' := by
  have hv := hT.eval hx
  have hu := hT.eval hi
  refine .pure hH (x := fIdxAddrSl s (T.eval x') (T.eval i')) (by simpa [evalOp] using he) fun hl => ?_
  unfold fIdxAddrSl at hl
  split at hl
  · rename_i id off len lo ex sz heq
    rw [heq] at hv
    obtain ⟨p, ad, cap, hv, hp, h1, h2, h3, h4⟩ := hv.slice_inv
    simp only [Option.map_eq_some_iff] at hl
    obtain ⟨j, hj, rfl⟩ := hl
    obtain ⟨k, m, hm, m0, mlt, rfl⟩ := idx?_some hj
    rw [hm] at hu
    have hu := hu.int_inv
    obtain ⟨had, _⟩ := h4.resolve_left (by omega)
    refine ⟨.pointer (some ⟨p.blk, p.base + (off + m.toNat * s), none⟩), ?_, .ptr _ _ p hp⟩
    simp [execOp, ho, Instr.indexAt, run_underlying hd, hv, hu, asIntOf, m0, mlt, run_sizeOfA hs, had, Addr.add_none, Nat.add_assoc]
  · simp at hl

theorem sim_idxAddrArr (hT : TR μ T a.tmps) (hH : HR P μ H w) {t e : TypeId} {n : Nat} {x i : Operand} {s : Nat} {x' i' : AOpd} (ho : o.op = .indexAddr t x i) (hx : opdA x = some x') (hi : opdA i = some i')
    (hd : P.underlying t = some (.array n e)) (hs : sizeA P e = some s)
    (he : evalOp T H (.idxAddrArr n s x' i') = some (v, H')) : Quiet P μ w ((execOp a.eval o).run P w) v H H' := by
  have hv := hT.eval hx
  have hu := hT.eval hi
  refine .pure hH (x := fIdxAddrArr n s (T.eval x') (T.eval i')) (by simpa [evalOp] using he) fun hl => ?_
  unfold fIdxAddrArr at hl
  split at hl
  · rename_i id off heq
    rw [heq] at hv
    obtain ⟨p, hp, hv⟩ := hv.ptr_inv
    simp only [Option.map_eq_some_iff] at hl
    obtain ⟨j, hj, rfl⟩ := hl
    obtain ⟨k, m, hm, m0, mlt, rfl⟩ := idx?_some hj
    rw [hm] at hu
    have hu := hu.int_inv
    refine ⟨.pointer (some ⟨p.blk, p.base + (off + m.toNat * s), none⟩), ?_, .ptr _ _ p hp⟩
    simp [execOp, ho, Instr.indexAt, run_underlying hd, hv, hu, asIntOf, Instr.sureAddr, m0, mlt, run_sizeOfA hs, Addr.add_none, Nat.add_assoc]
  · simp at hl

theorem sim_idxArr (hT : TR μ T a.tmps) (hH : HR P μ H w) {t e : TypeId} {n : Nat} {x i : Operand} {s : Nat} {g : Bool} {x' i' : AOpd} (ho : o.op = .index t x i) (hx : opdA x = some x') (hi : opdA i = some i')
    (hd : P.underlying t = some (.array n e)) (hs : sizeA P e = some s) (hg : aggA P e = some g)
    (he : evalOp T H (.idxArr g n s x' i') = some (v, H')) : Quiet P μ w ((execOp a.eval o).run P w) v H H' := by
  have hv := hT.eval hx
  have hu := hT.eval hi
  refine .pure hH (x := fIdxArr g n s (T.eval x') (T.eval i')) (by simpa [evalOp] using he) fun hl => ?_
  unfold fIdxArr at hl
  split at hl
  · rename_i j hj
    obtain ⟨k, m, hm, m0, mlt, rfl⟩ := idx?_some hj
    rw [hm] at hu
    have hu := hu.int_inv
    obtain ⟨cs, u, h1, h2, h3⟩ := run_part (P := P) (w := w) hg hs hl hv
    refine ⟨u, ?_, h3⟩
    simp [execOp, ho, Instr.index, run_underlying hd, h1, hu, asIntOf, m0, mlt, run_sizeOfA hs, h2]
  · simp at hl

theorem sim_idxStr (hT : TR μ T a.tmps) (hH : HR P μ H w) {t : TypeId} {x i : Operand} {x' i' : AOpd} (ho : o.op = .index t x i) (hx : opdA x = some x') (hi : opdA i = some i')
    (hd : P.underlying t = some .string)
    (he : evalOp T H (.idxStr x' i') = some (v, H')) : Quiet P μ w ((execOp a.eval o).run P w) v H H' := by
  have hv := hT.eval hx
  have hu := hT.eval hi
  refine .pure hH (x := fIdxStr (T.eval x') (T.eval i')) (by simpa [evalOp] using he) fun hl => ?_
  unfold fIdxStr at hl
  split at hl
  · rename_i l k m h1 h2
    rw [h1] at hv
    rw [h2] at hu
    obtain ⟨s, hv2, rfl⟩ := hv.str_inv
    have hu := hu.int_inv
    split at hl
    · rename_i m0
      simp only [Option.map_eq_some_iff, List.getElem?_map] at hl
      obtain ⟨b, ⟨c, hc, rfl⟩, rfl⟩ := hl
      refine ⟨.int .u8 c.toNat, ?_, .int _ _⟩
      have hs : s[m.toNat]? = some c := by
        have hlt : m.toNat < s.data.toList.length := (List.getElem?_eq_some_iff.1 hc).1
        have hlt' : m.toNat < s.size := by simpa using hlt
        rw [getElem?_pos s m.toNat hlt']
        have := (List.getElem?_eq_some_iff.1 hc).2
        simpa [ByteArray.getElem_eq_getElem_data] using this
      simp [execOp, ho, Instr.index, run_underlying hd, hv2, hu, asIntOf, m0, hs]
    · simp at hl
  · simp at hl

theorem sim_convInt (hT : TR μ T a.tmps) (hH : HR P μ H w) {s d : TypeId} {k j : IntKind} {x : Operand} {x' : AOpd} (ho : o.op = .convert s d x) (hx : opdA x = some x')
    (hs : P.underlying s = some (.int j)) (hd : P.underlying d = some (.int k))
    (he : evalOp T H (.convInt k x') = some (v, H')) : Quiet P μ w ((execOp a.eval o).run P w) v H H' := by
  have hv := hT.eval hx
  simp only [evalOp] at he
  split at he
  · rename_i i n heq
    rw [heq] at hv
    simp only [Option.some.injEq, Prod.mk.injEq] at he
    obtain ⟨rfl, rfl⟩ := he
    have hv := hv.int_inv
    refine .same hH (cv := .int k (k.wrap n)) ?_ (.int _ _)
    simp [execOp, ho, convert, run_underlying hs, run_underlying hd, hv, Conv.intToInt]
  · simp at he

theorem sim_same (hT : TR μ T a.tmps) (hH : HR P μ H w) {s d : TypeId} {x : Operand} {x' : AOpd} (ho : o.op = .convert s d x) (hx : opdA x = some x')
    (hs : P.underlying s = some .string) (hd : P.underlying d = some .string)
    (he : evalOp T H (.same x') = some (v, H')) : Quiet P μ w ((execOp a.eval o).run P w) v H H' := by
  have hv := hT.eval hx
  simp only [evalOp] at he
  split at he
  · rename_i l heq
    rw [heq] at hv
    simp only [Option.some.injEq, Prod.mk.injEq] at he
    obtain ⟨rfl, rfl⟩ := he
    obtain ⟨b, hb, hl⟩ := hv.str_inv
    refine .same hH (cv := .string b) ?_ (.str _ _ hl)
    simp [execOp, ho, convert, run_underlying hs, run_underlying hd, hb]
  · simp at he
end
end Go.AM
