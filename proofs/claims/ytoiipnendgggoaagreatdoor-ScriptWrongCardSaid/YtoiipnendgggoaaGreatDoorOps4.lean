/- A part of the proof of the claim of this folder (Ops4). -/
import Derived.Test.YtoiipnendgggoaaGreatDoorOps3
set_option autoImplicit true
set_option relaxedAutoImplicit true
set_option linter.all false
set_option linter.deprecated false
set_option linter.unnecessarySimpa false
set_option linter.unusedSectionVars false
set_option linter.unusedSimpArgs false
set_option linter.unusedVariables false
/-! Operations: slicing, texts and bytes. -/
namespace Go.AM
variable [G : Ground]
variable {P : Program} {μ : Mu} {H H' : AHeap} {w : World} {T : Tmps} {a : Act} {v : AVal} {o : Oper}

/-- An operand that may lack. -/
inductive OR? (μ : Mu) : Option AVal → Option Value → Prop where
  | none : OR? μ none none
  | some (x : AVal) (v : Value) (h : VR μ x v) : OR? μ (some x) (some v)

theorem TR.opt (hT : TR μ T a.tmps) {x : Option Operand} {x' : Option AOpd} (h : optA x = some x') : OR? μ (x'.map T.eval) (x.map a.eval) := by
  cases x with
  | none => simp [optA] at h; subst h; exact .none
  | some y =>
    simp only [optA, Option.map_eq_some_iff] at h
    obtain ⟨z, hz, rfl⟩ := h
    exact .some _ _ (hT.eval hz)

theorem run_bnd {x : AVal} {u : Value} (hu : VR μ x u) {d y r : Nat} (h : bnd? (some x) d y = some r) (c : BoundsCode) {y' : Nat} (hy : y ≤ y') : (Instr.sliceBound u y' c).run P w = .ok r w ∧ r ≤ y := by
  unfold bnd? at h
  split at h
  · simp at *
  · rename_i k i heq
    cases heq
    have hu := hu.int_inv
    subst hu
    split at h <;> simp at h
    rename_i hc
    subst h
    refine ⟨?_, by omega⟩
    simp only [Instr.sliceBound, asIntOf, Sem.run_bind, Sem.run_pure, Result.andThen_ok]
    rw [if_pos ⟨hc.1, by omega⟩]
    rfl
  · simp at h

/-- The three bounds of a slice expression. -/
theorem run_bounds {lo hi mx : Option AVal} {lo' hi' mx' : Option Value} (hl : OR? μ lo lo') (hh : OR? μ hi hi') (hm : OR? μ mx mx') (isS : Bool) {len cap cap' m u l : Nat} (hcap : cap ≤ cap')
    (hmh : mx = none ∨ hi ≠ none) (h1 : bnd? mx cap cap = some m) (h2 : bnd? hi len m = some u) (h3 : bnd? lo 0 u = some l) :
    ∃ m', (Instr.sliceBounds isS len cap' lo' hi' mx').run P w = .ok (l, u, m') w ∧ (mx = none → m' = cap' ∧ m = cap) ∧ (mx ≠ none → m' = m ∧ m ≤ cap) := by
  have low : ∀ (c : BoundsCode), (match lo' with | some v => Instr.sliceBound v u c | none => pure 0 : Sem Nat).run P w = .ok l w := by
    intro c
    cases hl with
    | none => simp [bnd?] at h3; subst h3; rfl
    | some x v hv => exact (run_bnd (P := P) (w := w) hv h3 c (Nat.le_refl _)).1
  cases hm with
  | none =>
    simp [bnd?] at h1
    subst h1
    refine ⟨cap', ?_, fun _ => ⟨rfl, rfl⟩, fun h => absurd rfl h⟩
    cases hh with
    | none =>
      simp [bnd?] at h2
      subst h2
      have := low .sliceB
      cases lo' <;> simp_all [Instr.sliceBounds]
    | some x v hv =>
      have hb := (run_bnd (P := P) (w := w) hv h2 (if isS then .sliceAcap else .sliceAlen) hcap).1
      have := low .sliceB
      cases lo' <;> simp_all [Instr.sliceBounds]
  | some y z hz =>
    have hb0 := run_bnd (P := P) (w := w) hz h1 (if isS then .slice3Acap else .slice3Alen) hcap
    refine ⟨m, ?_, fun h => by simp at h, fun _ => ⟨rfl, hb0.2⟩⟩
    cases hh with
    | none => exact absurd rfl (hmh.resolve_left (by simp))
    | some x v hv =>
      have hb := (run_bnd (P := P) (w := w) hv h2 .slice3B (Nat.le_refl _)).1
      have := low .slice3C
      have hb0 := hb0.1
      cases lo' <;> simp_all [Instr.sliceBounds]

theorem bnd_le {x : Option AVal} {d y r : Nat} (hd : d ≤ y) (h : bnd? x d y = some r) : r ≤ y := by
  unfold bnd? at h
  split at h
  · simp at h; omega
  · split at h <;> simp at h; omega
  · simp at h

theorem sim_sliceStr (hT : TR μ T a.tmps) (hH : HR P μ H w) {t : TypeId} {x : Operand} {lo hi : Option Operand} {x' : AOpd} {lo' hi' : Option AOpd} (ho : o.op = .slice t x lo hi none) (hx : opdA x = some x')
    (hlo : optA lo = some lo') (hhi : optA hi = some hi') (hd : P.underlying t = some .string)
    (he : evalOp T H (.sliceStr x' lo' hi') = some (v, H')) : Quiet P μ w ((execOp a.eval o).run P w) v H H' := by
  have hv := hT.eval hx
  have rl := hT.opt hlo
  have rh := hT.opt hhi
  refine .pure hH (x := fSliceStr (T.eval x') (lo'.map T.eval) (hi'.map T.eval)) (by simpa [evalOp] using he) fun hl => ?_
  unfold fSliceStr at hl
  split at hl
  · rename_i l0 heq
    rw [heq] at hv
    obtain ⟨s, hv2, rfl⟩ := hv.str_inv
    have key : ∀ u l, bnd? (hi'.map T.eval) s.size s.size = some u → bnd? (lo'.map T.eval) 0 u = some l →
        (execOp a.eval o).run P w = .ok (.value (.string (s.extract l u))) w := by
      intro u l hu hl'
      obtain ⟨m', hr, _⟩ := run_bounds (P := P) (w := w) rl rh (.none) false (len := s.size) (cap := s.size) (Nat.le_refl _) (.inl rfl) (by simp [bnd?]) hu hl'
      simp only [execOp, ho, Instr.sliceAt, Instr.slice, Sem.run_bind, run_underlying hd, Result.andThen_ok, hv2, Option.map_none]
      simp [hr]
    have hsz : (s.data.toList.map UInt8.toNat).length = s.size := by simp
    split at hl
    · rename_i hnone
      split at hl
      · rename_i l hl'
        simp at hl
        subst hl
        rw [hsz] at hl'
        refine ⟨_, key s.size l (by rw [hnone]; simp [bnd?]) hl', .str _ _ ?_⟩
        have hle := bnd_le (Nat.zero_le _) hl'
        have h1 : (s.data.toList.drop l).length ≤ s.size - l := by simp
        simp [← List.map_drop, Array.toList_extract, List.extract_eq_take_drop, List.take_of_length_le h1]
      · simp at hl
    · rename_i y hsome
      split at hl
      · rename_i u hu
        split at hl
        · rename_i l hl'
          simp at hl
          subst hl
          rw [hsz] at hu
          refine ⟨_, key u l hu hl', .str _ _ ?_⟩
          simp [Array.toList_extract, List.extract_eq_take_drop]
        · simp at hl
      · simp at hl
  · simp at hl

theorem sim_sliceSl (hT : TR μ T a.tmps) (hH : HR P μ H w) {t e : TypeId} {s : Nat} {x : Operand} {lo hi mx : Option Operand} {x' : AOpd} {lo' hi' mx' : Option AOpd} (ho : o.op = .slice t x lo hi mx) (hx : opdA x = some x')
    (hlo : optA lo = some lo') (hhi : optA hi = some hi') (hmx : optA mx = some mx') (hmh : (mx.isSome && !hi.isSome) = false) (hd : P.underlying t = some (.slice e)) (hs : sizeA P e = some s)
    (he : evalOp T H (.sliceSl s x' lo' hi' mx') = some (v, H')) : Quiet P μ w ((execOp a.eval o).run P w) v H H' := by
  have hv := hT.eval hx
  have rl := hT.opt hlo
  have rh := hT.opt hhi
  have rm := hT.opt hmx
  have hmh' : mx'.map T.eval = none ∨ hi'.map T.eval ≠ none := by
    cases mx with
    | none => simp [optA] at hmx; subst hmx; exact .inl rfl
    | some m =>
      cases hi with
      | none => simp at hmh
      | some h =>
        simp only [optA, Option.map_eq_some_iff] at hhi
        obtain ⟨z, hz, rfl⟩ := hhi
        exact .inr (by simp)
  refine .pure hH (x := fSliceSl s (T.eval x') (lo'.map T.eval) (hi'.map T.eval) (mx'.map T.eval)) (by simpa [evalOp] using he) fun hl => ?_
  unfold fSliceSl at hl
  split at hl
  · rename_i heq
    rw [heq] at hv
    have hv := hv.nilslice_inv
    split at hl
    · rename_i m u l h1 h2 h3
      simp at hl
      subst hl
      have hm0 : m = 0 := Nat.le_zero.1 (bnd_le (Nat.le_refl _) h1)
      subst hm0
      have hu0 : u = 0 := Nat.le_zero.1 (bnd_le (Nat.le_refl _) h2)
      subst hu0
      have hl0 : l = 0 := Nat.le_zero.1 (bnd_le (Nat.le_refl _) h3)
      subst hl0
      obtain ⟨m', hr, h4, h5⟩ := run_bounds (P := P) (w := w) rl rh rm true (len := 0) (cap := 0) (Nat.le_refl _) hmh' h1 h2 h3
      have hm' : m' = 0 := by
        by_cases hn : mx'.map T.eval = none
        · exact (h4 hn).1
        · exact (h5 hn).1
      subst hm'
      refine ⟨.slice none 0 0, ?_, .nilslice⟩
      simp [execOp, ho, Instr.sliceAt, Instr.slice, run_underlying hd, hv, hr, run_sizeOfA hs]
    · simp at hl
  · rename_i id off len cap exact sz heq
    rw [heq] at hv
    obtain ⟨p, ad, c, hv, hp, b1, b2, b3, b4⟩ := hv.slice_inv
    split at hl
    · simp at hl
    · rename_i hsz
      simp at hsz
      split at hl
      · rename_i m h1
        split at hl
        · rename_i u h2
          split at hl
          · rename_i l h3
            simp at hl
            subst hl
            obtain ⟨m', hr, h4, h5⟩ := run_bounds (P := P) (w := w) rl rh rm true (len := len) (cap := cap) b2 hmh' h1 h2 h3
            have hmc : m' ≤ c ∧ m ≤ m' ∧ (exact = true ∨ mx'.map T.eval ≠ none → m' = m) := by
              by_cases hn : mx'.map T.eval = none
              · obtain ⟨e1, e2⟩ := h4 hn
                refine ⟨by omega, by omega, fun h => ?_⟩
                have := b3 (h.resolve_right (fun h' => h' hn))
                omega
              · obtain ⟨e1, e2⟩ := h5 hn
                exact ⟨by omega, by omega, fun _ => e1⟩
            have hu' : u ≤ m' := by
              by_cases hn : mx'.map T.eval = none
              · obtain ⟨e1, e2⟩ := h4 hn
                cases hhv : hi'.map T.eval with
                | none => rw [hhv] at h2; simp [bnd?] at h2; omega
                | some q =>
                  rw [hhv] at h2
                  have : u ≤ m := by
                    unfold bnd? at h2
                    split at h2
                    · simp at *
                    · split at h2 <;> simp at h2; omega
                    · simp at h2
                  omega
              · obtain ⟨e1, e2⟩ := h5 hn
                cases hhv : hi'.map T.eval with
                | none => exact absurd hhv (hmh'.resolve_left hn)
                | some q =>
                  rw [hhv] at h2
                  have : u ≤ m := by
                    unfold bnd? at h2
                    split at h2
                    · simp at *
                    · split at h2 <;> simp at h2; omega
                    · simp at h2
                  omega
            have hlu : l ≤ u := bnd_le (Nat.zero_le _) h3
            refine ⟨.slice (if m' = l then some ad else (some ad).map (·.add (l * s))) (u - l) (m' - l), ?_, ?_⟩
            · simp only [execOp, ho, Instr.sliceAt, Instr.slice, Sem.run_bind, run_underlying hd, Result.andThen_ok, hv]
              simp [hr, run_sizeOfA hs]
            · have hstr : ∃ ad', (if m' = l then some ad else (some ad).map (·.add (l * s))) = some ad' ∧ (m' - l = 0 ∨ (ad' = ⟨p.blk, p.base + (off + l * s), none⟩ ∧ p.base + (off + l * s) + (m' - l) * sz ≤ p.size)) := by
                by_cases hml : m' = l
                · exact ⟨ad, by simp [hml], .inl (by omega)⟩
                · obtain ⟨g1, g2⟩ := b4.resolve_left (by omega)
                  refine ⟨ad.add (l * s), by simp [hml], .inr ⟨by rw [g1, Addr.add_none]; congr 1; omega, ?_⟩⟩
                  subst hsz
                  have : (m' - l) * sz + l * sz = m' * sz := by rw [← Nat.add_mul]; congr 1; omega
                  have h6 : m' * sz ≤ c * sz := Nat.mul_le_mul_right _ hmc.1
                  omega
              obtain ⟨ad', e1, e2⟩ := hstr
              rw [e1]
              refine .slice _ _ _ _ _ _ p ad' _ hp (by omega) (by omega) (fun h => ?_) e2
              have : m' = m := hmc.2.2 (by
                simp at h
                rcases h with h | h
                · exact .inl h
                · right; cases mx' <;> simp_all)
              omega
          · simp at hl
        · simp at hl
      · simp at hl
  · simp at hl

theorem sim_sliceArr (hT : TR μ T a.tmps) (hH : HR P μ H w) {t e : TypeId} {n s : Nat} {x : Operand} {lo hi : Option Operand} {x' : AOpd} {lo' hi' : Option AOpd} (ho : o.op = .slice t x lo hi none) (hx : opdA x = some x')
    (hlo : optA lo = some lo') (hhi : optA hi = some hi') (hd : P.underlying t = some (.array n e)) (hs : sizeA P e = some s)
    (he : evalOp T H (.sliceArr n s x' lo' hi') = some (v, H')) : Quiet P μ w ((execOp a.eval o).run P w) v H H' := by
  have hv := hT.eval hx
  have rl := hT.opt hlo
  have rh := hT.opt hhi
  refine .pure hH (x := fSliceArr H n s (T.eval x') (lo'.map T.eval) (hi'.map T.eval)) (by simpa [evalOp] using he) fun hl => ?_
  unfold fSliceArr at hl
  split at hl
  · rename_i id off heq
    rw [heq] at hv
    obtain ⟨p, hp, hv⟩ := hv.ptr_inv
    split at hl
    · rename_i row hrow
      obtain ⟨q, hq, hcells⟩ := hH.row hrow
      rw [hp] at hq; cases hq
      obtain ⟨_, _, _, _, _, hbase, _⟩ := hcells
      split at hl
      · rename_i hfit
        split at hl
        · rename_i u h2
          split at hl
          · rename_i l h3
            simp at hl
            subst hl
            obtain ⟨m', hr, h4, _⟩ := run_bounds (P := P) (w := w) rl rh (.none) false (len := n) (cap := n) (Nat.le_refl _) (.inl rfl) (by simp [bnd?]) h2 h3
            obtain ⟨rfl, _⟩ := h4 rfl
            have hu : u ≤ m' := bnd_le (Nat.le_refl _) h2
            have hlu : l ≤ u := bnd_le (Nat.zero_le _) h3
            refine ⟨.slice (some (if m' = l then ⟨p.blk, p.base + off, none⟩ else (⟨p.blk, p.base + off, none⟩ : Addr).add (l * s))) (u - l) (m' - l), ?_, ?_⟩
            · simp only [execOp, ho, Instr.sliceAt, Sem.run_bind, run_underlying hd, Result.andThen_ok, hv, Instr.sureAddr, Sem.run_pure, Option.map_none]
              simp [hr, run_sizeOfA hs]
            · refine .slice _ _ _ _ _ _ p _ _ hp (by omega) (Nat.le_refl _) (fun _ => rfl) ?_
              by_cases hml : m' = l
              · exact .inl (by omega)
              · refine .inr ⟨by rw [if_neg hml, Addr.add_none]; congr 1; omega, ?_⟩
                have : (m' - l) * s + l * s = m' * s := by rw [← Nat.add_mul]; congr 1; omega
                omega
          · simp at hl
        · simp at hl
      · simp at hl
    · simp at hl
  · simp at hl

theorem bytes_scalar (l : List Nat) : (l.map fun (n : Nat) => AVal.int .u8 n).all AVal.scalar = true :=
  List.all_eq_true.2 fun x hx => by obtain ⟨n, _, rfl⟩ := List.mem_map.1 hx; rfl

theorem run_stringToBytes (e : TypeId) (b : ByteArray) (w : World) (hlt : b.size < 2 ^ 47) :
    ∃ (c : Array Value) (cap : Nat) (w' : World), (Conv.stringToBytes e b).run P w = .ok (.slice (some ⟨w.heap.size, 0, none⟩) b.size cap) w' ∧ w'.heap = w.heap.push (.cells c e (cap, cap + 1)) ∧ b.size ≤ cap ∧ c.size = cap ∧
      (∀ (i : Nat) x, (b.data.toList.map fun (y : UInt8) => Value.int .u8 y.toNat)[i]? = some x → c[i]? = some x) ∧ w'.os = w.os ∧ w'.output = w.output := by
  generalize hcap : (Question.appendCap b.size 0 e).cut (w.tape w.drawn (.appendCap b.size 0 e)) = cap
  have hle : b.size ≤ cap := by rw [← hcap]; simp only [Question.cut]; omega
  generalize hc : (b.data.map fun (x : UInt8) => Value.int .u8 x.toNat) ++ Array.replicate (cap - b.size) (.int .u8 0) = c
  have hcs : c.size = cap := by
    rw [← hc]
    simp
    omega
  refine ⟨c, cap, { w with heap := w.heap.push (.cells c e (cap, cap + 1)), drawn := w.drawn + 1 }, ?_, rfl, hle, hcs, fun i x hx => ?_, rfl, rfl⟩
  · have hsh : World.shape? { w with heap := w.heap.push (.cells c e), drawn := w.drawn + 1 } w.heap.size = some (e, c.size) := by simp [World.shape?]
    have hfz : World.freeze { w with heap := w.heap.push (.cells c e), drawn := w.drawn + 1 } { block := w.heap.size, off := c.size } 1 = { w with heap := w.heap.push (.cells c e (cap, cap + 1)), drawn := w.drawn + 1 } := by
      simp only [World.freeze]
      rw [if_neg (by omega)]
      congr 1
      apply Array.ext_getElem?
      intro i
      rw [hcs]
      simp only [Array.getElem?_modify, Array.getElem?_push]
      by_cases hi : i = w.heap.size
      · subst hi; simp
      · simp [hi, Ne.symm hi]
    simp only [Conv.stringToBytes, Sem.run_bind, run_choose, Question.forced, newRow, run_newObj, Result.andThen_ok, Sem.run_pure, markStringish, run_shape, Bool.false_eq_true, if_false, hcap, hc]
    rw [hsh]
    simp only [run_freeze, hfz, Result.andThen_ok, Sem.run_pure]
  · rw [← hc, Array.getElem?_append]
    have hx' : (b.data.map fun (x : UInt8) => Value.int .u8 x.toNat)[i]? = some x := by simpa using hx
    rw [if_pos (Array.getElem?_eq_some_iff.1 hx').1]
    exact hx'

theorem sim_strToBytes (hT : TR μ T a.tmps) {s d e : TypeId} {x : Operand} {x' : AOpd} (ho : o.op = .convert s d x) (hx : opdA x = some x')
    (hs : P.underlying s = some .string) (hd : P.underlying d = some (.slice e)) (hu8 : P.underlying e = some (.int .u8))
    (he : evalOp T H (.strToBytes x') = some (v, H')) : Alloc P μ w ((execOp a.eval o).run P w) v H H' := by
  have hv := hT.eval hx
  simp only [evalOp] at he
  split at he
  · rename_i l heq
    rw [heq] at hv
    obtain ⟨b, hv2, rfl⟩ := hv.str_inv
    split at he
    · rename_i hlt
      simp only [Option.some.injEq, Prod.mk.injEq] at he
      obtain ⟨rfl, rfl⟩ := he
      have hsz : (b.data.toList.map UInt8.toNat).length = b.size := by simp
      rw [hsz] at hlt
      obtain ⟨c, cap, w', h1, h2, h3, h4, h5, h6⟩ := run_stringToBytes (P := P) e b w hlt
      have hl : VRs μ ((b.data.toList.map UInt8.toNat).map fun (n : Nat) => AVal.int .u8 n) (b.data.toList.map fun (y : UInt8) => Value.int .u8 y.toNat) := by
        rw [List.map_map]
        exact VRs.map_map _ _ _ fun x _ => .int _ _
      obtain ⟨hm, hx⟩ := OR.newRow (P := P) e (cap, cap + 1) hl (bytes_scalar _) h5 (by rw [h4]; simpa using h3) (by rw [h4]; intro off h1 h2; omega) h2 h6
      refine ⟨.slice (some ⟨w.heap.size, 0, none⟩) b.size cap, w', _, _, _, rfl, ?_, hm, fun μ' hle hp => ⟨hx μ' hle, ?_⟩⟩
      · have hcon : (convert s d (.string b)).run P w = (Conv.stringToBytes e b).run P w := by
          simp [convert, run_underlying hs, run_underlying hd, run_underlying hu8]
        simp [execOp, ho, hv2, hcon, h1]
      · rw [hsz]
        exact .slice _ _ _ _ _ _ ⟨w.heap.size, 0, c.size⟩ _ _ hp h3 h3 (fun h => by simp at h) (.inr ⟨rfl, by simp [h4]⟩)
    · simp at he
  · simp at he

/-- The cells of a slice or of a text, read. -/
theorem run_firstCells (hH : HR P μ H w) {size n : Nat} {y : AVal} {u : Value} (hu : VR μ y u) {new : List AVal} (h : sliceCells H size n y = some new) :
    ∃ vs : List Value, (Builtin.firstCells size n u).run P w = .ok vs.toArray w ∧ VRs μ new vs ∧ new.all AVal.scalar = true ∧ new.length = n * size := by
  unfold sliceCells at h
  split at h
  · have hu := hu.nilslice_inv
    subst hu
    split at h <;> simp at h
    rename_i h0
    subst h
    exact ⟨[], by simp [Builtin.firstCells], .nil, rfl, by simp [h0]⟩
  · rename_i id off len lo ex sz
    obtain ⟨p, ad, cap, rfl, hp, h1, h2, h3, h4⟩ := hu.slice_inv
    split at h
    · rename_i hn
      split at h
      · rename_i l hrow
        obtain ⟨q, hq, hc⟩ := hH.row hrow
        rw [hp] at hq; cases hq
        obtain ⟨vs, g1, g2, g3⟩ := hc.load (P := P) h
        refine ⟨vs, ?_, g2, g3, take?_length h⟩
        rcases Nat.eq_zero_or_pos (n * size) with h0 | h0
        · have hnew : vs = [] := by
            have := g2.length
            rw [take?_length h, h0] at this
            exact List.eq_nil_of_length_eq_zero this.symm
          subst hnew
          simp [Builtin.firstCells, loadCells, h0, loadCellsFrom]
        · have hnpos : 0 < n := Nat.pos_of_mul_pos_right h0
          obtain ⟨g, _⟩ := h4.resolve_left (by omega)
          simp only [Builtin.firstCells, g]
          exact g1
      · simp at h
    · simp at h
  · rename_i s
    obtain ⟨b, rfl, rfl⟩ := hu.str_inv
    split at h
    · rename_i hc
      have h := Option.some.inj h
      subst h
      have hb : (b.data.toList.map UInt8.toNat).length = b.size := by simp
      rw [hb] at hc
      refine ⟨(b.data.toList.take n).map fun (x : UInt8) => Value.int .u8 x.toNat, ?_, ?_, ?_, ?_⟩
      · have e1 : (b.extract 0 n).data.map (fun (x : UInt8) => Value.int .u8 x.toNat) = ((b.data.toList.take n).map fun (x : UInt8) => Value.int .u8 x.toNat).toArray := by
          apply Array.ext'
          simp [Array.toList_extract, List.extract_eq_take_drop]
        simp only [Builtin.firstCells, Sem.run_pure, e1]
      · rw [← List.map_take, List.map_map]
        exact VRs.map_map _ _ _ fun x _ => .int _ _
      · exact bytes_scalar _
      · simp [hc.1]; omega
    · simp at h
  · simp at h

theorem run_lenOf {y : AVal} {u : Value} (hu : VR μ y u) {n : Nat} (h : lenA y = some n) : (Builtin.lenOf u).run P w = .ok n w := by
  unfold lenA at h
  split at h <;> simp at h
  · have := hu.nilslice_inv; subst this; subst h; rfl
  · obtain ⟨p, ad, cap, rfl, _⟩ := hu.slice_inv; subst h; rfl
  · obtain ⟨b, rfl, rfl⟩ := hu.str_inv; subst h; simp [Builtin.lenOf]

theorem bytesOf_rel : ∀ {cs : List AVal} {r : List Nat} {vs : List Value}, bytesOf cs = some r → VRs μ cs vs → vs = (r.map fun (n : Nat) => (n : Int)).map (Value.int .u8) ∧ ∀ n ∈ r, n < 256
  | [], r, vs, h, hv => by simp [bytesOf] at h; subst h; have := hv.nil_inv; subst this; simp
  | c :: cs, r, vs, h, hv => by
    obtain ⟨y, n, rfl, h1, h2⟩ := hv.cons_inv
    unfold bytesOf at h
    split at h
    · simp at *
    · rename_i heq
      cases heq
      split at h
      · rename_i r' hr'
        split at h <;> simp at h
        rename_i hc
        subst h
        obtain ⟨e1, e2⟩ := bytesOf_rel hr' h2
        have h1 := h1.int_inv
        subst h1
        refine ⟨?_, fun m hm => ?_⟩
        · rw [e1]; simp [Int.toNat_of_nonneg hc.1]
        · simp at hm
          rcases hm with rfl | hm
          · omega
          · exact e2 m hm
      · simp at h
    · simp at h

theorem foldl_push : ∀ (ns : List Nat) (s : ByteArray), (∀ n ∈ ns, n < 256) →
    ((ns.map fun (n : Nat) => (n : Int)).foldl (fun (r : ByteArray) (n : Int) => r.push (UInt8.ofNat n.toNat)) s).data.toList.map UInt8.toNat = s.data.toList.map UInt8.toNat ++ ns
  | [], s, _ => by simp
  | n :: ns, s, h => by
    simp only [List.map_cons, List.foldl_cons]
    rw [foldl_push ns _ fun m hm => h m (by simp [hm])]
    have : n < 256 := h n (by simp)
    simp [ByteArray.push, UInt8.toNat_ofNat', Nat.mod_eq_of_lt this]

theorem sim_bytesToStr (hT : TR μ T a.tmps) (hH : HR P μ H w) {s d e : TypeId} {x : Operand} {x' : AOpd} (ho : o.op = .convert s d x) (hx : opdA x = some x')
    (hs : P.underlying s = some (.slice e)) (hd : P.underlying d = some .string) (hu8 : P.underlying e = some (.int .u8))
    (he : evalOp T H (.bytesToStr x') = some (v, H')) : Quiet P μ w ((execOp a.eval o).run P w) v H H' := by
  have hv := hT.eval hx
  refine .pure hH (x := fBytesToStr H (T.eval x')) (by simpa [evalOp] using he) fun hl => ?_
  have hcon : ∀ (q : Option Addr) (m c : Nat), (convert s d (.slice q m c)).run P w = (Conv.bytesToString (.slice q m c)).run P w := by
    intro q m c
    simp [convert, run_underlying hs, run_underlying hd, run_underlying hu8]
  unfold fBytesToStr at hl
  split at hl
  · rename_i heq
    rw [heq] at hv
    have hv := hv.nilslice_inv
    simp at hl; subst hl
    exact ⟨.string .empty, by simp [execOp, ho, hv, hcon, Conv.bytesToString], .str _ _ rfl⟩
  · rename_i id off len lo ex sz heq
    rw [heq] at hv
    split at hl
    · rename_i cs hcs
      simp only [Option.map_eq_some_iff] at hl
      obtain ⟨r, hr, rfl⟩ := hl
      obtain ⟨vs, g1, g2, g3, g4⟩ := run_firstCells hH hv hcs
      obtain ⟨e1, e2⟩ := bytesOf_rel hr g2
      obtain ⟨p, ad, cap, hv, _⟩ := hv.slice_inv
      rw [hv] at g1
      simp only [Builtin.firstCells, Nat.mul_one] at g1
      rw [e1] at g1
      have := run_bytesToString (P := P) w ad len cap _ g1
      refine ⟨_, by simp [execOp, ho, hv, hcon, this]; rfl, ?_⟩
      refine .str _ _ ?_
      rw [foldl_push r _ e2]
      simp
    · simp at hl
  · simp at hl
end Go.AM
