/- A part of the proof of the claim of this folder (Ops3). -/
import Derived.Test.YtoiipnendgggoaaGreatDoorOps2
import Derived.Laws.Tables
import Derived.Laws.BytesString
import Derived.IntWalk
set_option autoImplicit true
set_option relaxedAutoImplicit true
set_option linter.all false
set_option linter.deprecated false
set_option linter.unnecessarySimpa false
set_option linter.unusedSectionVars false
set_option linter.unusedSimpArgs false
set_option linter.unusedVariables false
/-! Operations: building, slicing. -/
namespace Go.AM
variable [G : Ground]
variable {P : Program} {μ : Mu} {H H' : AHeap} {w : World} {T : Tmps} {a : Act} {v : AVal} {o : Oper}

theorem foldl_set (off : Nat) : ∀ (l : List Value) (k : Nat) (cells : Array Value), off + k + l.length ≤ cells.size →
    ((l.zipIdx k).foldl (fun (cs : Array Value) (p : Value × Nat) => cs.setIfInBounds (off + p.2) p.1) cells).size = cells.size ∧
    ∀ i : Nat, ((l.zipIdx k).foldl (fun (cs : Array Value) (p : Value × Nat) => cs.setIfInBounds (off + p.2) p.1) cells)[i]? = if off + k ≤ i ∧ i < off + k + l.length then l[i - (off + k)]? else cells[i]?
  | [], k, cells, h => by
    refine ⟨rfl, fun i => ?_⟩
    rw [if_neg (by simp)]
    rfl
  | x :: l, k, cells, h => by
    simp only [List.length_cons] at h
    obtain ⟨h1, h2⟩ := foldl_set off l (k + 1) (cells.setIfInBounds (off + k) x) (by simp; omega)
    simp only [List.zipIdx_cons, List.foldl_cons]
    refine ⟨by rw [h1]; simp, fun i => ?_⟩
    rw [h2 i]
    by_cases e : i = off + k
    · subst e
      rw [if_neg (by omega), if_pos (by simp)]
      simp [Array.getElem?_setIfInBounds, show off + k < cells.size by omega]
    · by_cases h5 : off + (k + 1) ≤ i ∧ i < off + (k + 1) + l.length
      · rw [if_pos h5, if_pos (by simp; omega)]
        have : i - (off + k) = (i - (off + (k + 1))) + 1 := by omega
        rw [this]; simp
      · rw [if_neg h5, if_neg (by simp; omega)]
        rw [Array.getElem?_setIfInBounds, if_neg (Ne.symm e)]

theorem fill_sim (hT : TR μ T a.tmps) {place : Nat → Option (Nat × Nat)} : ∀ (parts : List (Nat × Operand)) (ap : List (Nat × Nat × AOpd)) (cells r : List AVal) (cells' : Array Value),
    partsOf place parts = some ap → VRs μ cells cells'.toList → cells.all AVal.scalar = true → fillParts cells (evalParts T ap) = some r →
    ∃ r' : Array Value, Instr.fill place cells' (parts.map fun p => (p.1, a.eval p.2)) = some r' ∧ VRs μ r r'.toList ∧ r.all AVal.scalar = true
  | [], ap, cells, r, cells', hp, hc, hs, h => by
    simp [partsOf] at hp
    subst hp
    simp [evalParts, fillParts] at h
    subst h
    exact ⟨cells', by simp [Instr.fill], hc, hs⟩
  | p :: parts, ap, cells, r, cells', hp, hc, hs, h => by
    unfold partsOf at hp
    split at hp
    · rename_i q qs hq hqs
      simp at hp; subst hp
      unfold partOf at hq
      split at hq
      · rename_i off size x hpl hx
        simp at hq; subst hq
        simp only [evalParts, List.map_cons, fillParts] at h
        split at h
        · rename_i hcond
          split at h
          · rename_i cells1 hsp
            obtain ⟨hle, rfl⟩ := splice?_some hsp
            have hv := hT.eval hx
            have hvc := hv.cells
            have hlen := hvc.length
            have hsc := AVal.cells_scalar hv hcond.2
            have hlen2 := hc.length
            simp only [Array.length_toList] at hlen hlen2
            have hfit : off + 0 + (a.eval p.2).cells.toList.length ≤ cells'.size := by simp; omega
            obtain ⟨f1, f2⟩ := foldl_set off (a.eval p.2).cells.toList 0 cells' hfit
            have harr : (a.eval p.2).cells.zipIdx.foldl (fun (cs : Array Value) (x : Value × Nat) => cs.setIfInBounds (off + x.2) x.1) cells' =
                ((a.eval p.2).cells.toList.zipIdx 0).foldl (fun (cs : Array Value) (x : Value × Nat) => cs.setIfInBounds (off + x.2) x.1) cells' := by
              rw [← Array.foldl_toList]; simp
            have hnew : VRs μ (splice cells off (T.eval x).cells) (((a.eval p.2).cells.toList.zipIdx 0).foldl (fun (cs : Array Value) (x : Value × Nat) => cs.setIfInBounds (off + x.2) x.1) cells').toList := by
              refine VRs.of_get (by rw [splice_length hle]; show cells.length = Array.size _; rw [f1]; omega) fun i y z hy hz => ?_
              rw [splice_get hle] at hy
              rw [Array.getElem?_toList, f2] at hz
              by_cases hi : off ≤ i ∧ i < off + (T.eval x).cells.length
              · rw [if_pos hi] at hy
                rw [if_pos (by simp; omega)] at hz
                obtain ⟨z', hz', hr⟩ := hvc.get hy
                simp only [Nat.add_zero] at hz
                rw [hz] at hz'
                cases hz'
                exact hr
              · rw [if_neg hi] at hy
                rw [if_neg (by simp; omega)] at hz
                obtain ⟨z', hz', hr⟩ := hc.get hy
                rw [Array.getElem?_toList] at hz'
                rw [hz] at hz'
                cases hz'
                exact hr
            have hsnew : (splice cells off (T.eval x).cells).all AVal.scalar = true := by
              rw [List.all_eq_true] at hs hsc ⊢
              intro y hy
              simp only [splice, List.mem_append] at hy
              rcases hy with (hy | hy) | hy
              · exact hs y (List.mem_of_mem_take hy)
              · exact hsc y hy
              · exact hs y (List.mem_of_mem_drop hy)
            obtain ⟨r', h1, h2, h3⟩ := fill_sim hT parts qs _ r _ hqs hnew hsnew h
            refine ⟨r', ?_, h2, h3⟩
            simp only [List.map_cons, Instr.fill, hpl]
            rw [if_neg (by simp; omega), harr]
            exact h1
          · simp at h
        · simp at h
      · simp at hq
    · simp at hp

theorem sim_build_struct (hT : TR μ T a.tmps) (hH : HR P μ H w) {t : TypeId} {fields : Array Field} {places : List (Nat × Nat)} {parts : Array (Nat × Operand)} {z : List AVal} {ap : List (Nat × Nat × AOpd)}
    (ho : o.op = .build t parts) (hz : zeroA P t = some z) (hd : P.underlying t = some (.struct fields)) (hpl : structPlaces P fields = some places) (hp : partsOf (places.toArray[·]?) parts.toList = some ap)
    (he : evalOp T H (.build z ap) = some (v, H')) : Quiet P μ w ((execOp a.eval o).run P w) v H H' := by
  refine .pure hH (x := (fillParts z (evalParts T ap)).map .agg) (by simpa [evalOp] using he) fun hl => ?_
  simp only [Option.map_eq_some_iff] at hl
  obtain ⟨r, hr, rfl⟩ := hl
  unfold zeroA at hz
  split at hz
  · rename_i it hit
    split at hz
    · rename_i zv hzv
      simp only [Option.map_eq_some_iff] at hz
      obtain ⟨y, hy, rfl⟩ := hz
      have hrel := ofValue_rel (μ := μ) hy
      obtain ⟨r', h1, h2, h3⟩ := fill_sim hT parts.toList ap _ r zv.cells hp hrel.1.cells (AVal.cells_scalar hrel.1 hrel.2) hr
      refine ⟨.agg r', ?_, .agg r r'.toList h2 h3⟩
      have hb : P.built t (parts.map fun (i, x) => (i, a.eval x)).toList = some r' := by
        simp only [Program.built, hit, hd, hzv]
        unfold structPlaces at hpl
        simp only [hpl]
        rw [← h1]
        simp
      simp [execOp, ho, run_build w t _ r' hb]
    · simp at hz
  · simp at hz

theorem sim_build_array (hT : TR μ T a.tmps) (hH : HR P μ H w) {t e : TypeId} {n s : Nat} {parts : Array (Nat × Operand)} {z : List AVal} {ap : List (Nat × Nat × AOpd)}
    (ho : o.op = .build t parts) (hz : zeroA P t = some z) (hd : P.underlying t = some (.array n e)) (hs : sizeA P e = some s) (hp : partsOf (fun i => some (i * s, s)) parts.toList = some ap)
    (he : evalOp T H (.build z ap) = some (v, H')) : Quiet P μ w ((execOp a.eval o).run P w) v H H' := by
  refine .pure hH (x := (fillParts z (evalParts T ap)).map .agg) (by simpa [evalOp] using he) fun hl => ?_
  simp only [Option.map_eq_some_iff] at hl
  obtain ⟨r, hr, rfl⟩ := hl
  unfold zeroA at hz
  split at hz
  · rename_i it hit
    split at hz
    · rename_i zv hzv
      simp only [Option.map_eq_some_iff] at hz
      obtain ⟨y, hy, rfl⟩ := hz
      have hrel := ofValue_rel (μ := μ) hy
      obtain ⟨r', h1, h2, h3⟩ := fill_sim hT parts.toList ap _ r zv.cells hp hrel.1.cells (AVal.cells_scalar hrel.1 hrel.2) hr
      refine ⟨.agg r', ?_, .agg r r'.toList h2 h3⟩
      simp only [sizeA, Option.map_eq_some_iff] at hs
      obtain ⟨ie, hie, rfl⟩ := hs
      have hb : P.built t (parts.map fun (i, x) => (i, a.eval x)).toList = some r' := by
        simp only [Program.built, hit, hd, hzv, hie]
        rw [← h1]
        simp
      simp [execOp, ho, run_build w t _ r' hb]
    · simp at hz
  · simp at hz

/-! Rows of zeros. -/

theorem zerosN_length (z : List AVal) : ∀ n, (zerosN z n).length = n * z.length
  | 0 => by simp [zerosN]
  | n + 1 => by simp [zerosN, zerosN_length z n, Nat.add_mul]; omega

theorem zerosN_get (z : List AVal) : ∀ (n i : Nat), i < n * z.length → (zerosN z n)[i]? = z[i % z.length]?
  | 0, i, h => by simp at h
  | n + 1, i, h => by
    have hz : 0 < z.length := by
      rcases Nat.eq_zero_or_pos z.length with h0 | h0
      · simp [h0] at h
      · exact h0
    simp only [zerosN, List.getElem?_append]
    by_cases hi : i < z.length
    · simp [hi, Nat.mod_eq_of_lt hi]
    · have hm : (n + 1) * z.length = n * z.length + z.length := Nat.succ_mul n _
      rw [if_neg hi, zerosN_get z n (i - z.length) (by omega)]
      congr 1
      exact (Nat.mod_eq_sub_mod (by omega)).symm

theorem zerosN_scalar (z : List AVal) (hz : z.all AVal.scalar = true) : ∀ n, (zerosN z n).all AVal.scalar = true
  | 0 => rfl
  | n + 1 => by simp [zerosN, List.all_append, hz, zerosN_scalar z hz n]

theorem zerosN_rel {z : List AVal} {zc : Array Value} (h : VRs μ z zc.toList) (n : Nat) : VRs μ (zerosN z n) ((Array.range (n * zc.size)).map (zc[· % zc.size]!)).toList := by
  have hl := h.length
  simp only [Array.length_toList] at hl
  refine VRs.of_get (by simp [zerosN_length, hl]) fun i x y hx hy => ?_
  have hi : i < n * z.length := by
    rcases Nat.lt_or_ge i (n * z.length) with h' | h'
    · exact h'
    · rw [List.getElem?_eq_none (by rw [zerosN_length]; exact h')] at hx; simp at hx
  rw [zerosN_get z n i hi] at hx
  obtain ⟨y', hy', hr⟩ := h.get hx
  rw [Array.getElem?_toList] at hy'
  have hi' : i < n * zc.size := by rw [← hl]; exact hi
  have hm : i % zc.size < zc.size := Nat.mod_lt _ (by
    rcases Nat.eq_zero_or_pos zc.size with h0 | h0
    · simp [h0] at hi'
    · exact h0)
  have e : ((Array.range (n * zc.size)).map (zc[· % zc.size]!)).toList[i]? = some (zc[i % zc.size]!) := by
    rw [Array.getElem?_toList]
    simp [hi']
  rw [e] at hy
  cases hy
  rw [hl] at hy'
  have : zc[i % zc.size]! = y' := by
    rw [getElem!_pos zc _ hm]
    rw [Array.getElem?_eq_getElem hm] at hy'
    exact Option.some.inj hy'
  rw [this]; exact hr

theorem sim_buildSlice (hT : TR μ T a.tmps) {t e : TypeId} {len s : Nat} {parts : Array (Nat × Operand)} {z : List AVal} {ap : List (Nat × Nat × AOpd)}
    (ho : o.op = .buildSlice t len parts) (hz : zeroOkA P e = some z) (hd : P.underlying t = some (.slice e)) (hs : sizeA P e = some s) (hlen : len * s ≤ 2 ^ 24)
    (hp : partsOf (fun i => some (i * s, s)) parts.toList = some ap)
    (he : evalOp T H (.buildSlice (zerosN z len) len s ap) = some (v, H')) : Alloc P μ w ((execOp a.eval o).run P w) v H H' := by
  simp only [evalOp] at he
  split at he
  · rename_i r hr
    simp only [Option.some.injEq, Prod.mk.injEq] at he
    obtain ⟨rfl, rfl⟩ := he
    obtain ⟨hz1, hz2⟩ := zeroOkA_eq hz
    rw [hs] at hz2
    have hz2 := Option.some.inj hz2
    obtain ⟨zv, h1, h2, h3⟩ := run_zeroA (μ := μ) hz1 w
    have hl := h2.length
    simp only [Array.length_toList] at hl
    -- the cells to begin with
    obtain ⟨c0, hc0, hrel⟩ : ∃ c0 : Array Value, ((len * s = 0 ∧ c0 = #[]) ∨ (¬ len * s = 0 ∧ c0 = zv.cells)) ∧ VRs μ (zerosN z len) ((Array.range (len * s)).map (c0[· % c0.size]!)).toList := by
      by_cases h0 : len * s = 0
      · refine ⟨#[], .inl ⟨h0, rfl⟩, ?_⟩
        have e1 : zerosN z len = [] := by
          apply List.eq_nil_of_length_eq_zero
          rw [zerosN_length, ← hz2, h0]
        have e2 : ((Array.range (len * s)).map ((#[] : Array Value)[· % (#[] : Array Value).size]!)).toList = [] := by rw [h0]; simp
        rw [e1, e2]
        exact .nil
      · refine ⟨zv.cells, .inr ⟨h0, rfl⟩, ?_⟩
        have := zerosN_rel h2 len
        rwa [show zv.cells.size = s by omega] at this ⊢
    obtain ⟨r', f1, f2, f3⟩ := fill_sim hT parts.toList ap _ r _ hp hrel (zerosN_scalar z h3 len) hr
    obtain ⟨hm, hx⟩ := OR.newRow' (P := P) e f2 f3 (w' := { w with heap := w.heap.push (.cells r' e) }) rfl
    refine ⟨.slice (some ⟨w.heap.size, 0, none⟩) len len, _, _, _, _, rfl, ?_, hm, fun μ' hle hp => ⟨hx μ' hle, ?_⟩⟩
    · have f1' : Instr.fill (fun i => some (i * s, s)) ((Array.range (len * s)).map (c0[· % c0.size]!)) (parts.map fun (i, x) => (i, a.eval x)).toList = some r' := by
        rw [← f1]; simp
      have hsm : ¬ len * s > 2 ^ 24 := by omega
      simp only [execOp, ho, Instr.buildSlice, Sem.run_bind, run_underlying hd, Result.andThen_ok, run_sizeOfA hs, if_neg hsm, Sem.run_pure]
      rcases hc0 with ⟨h0, rfl⟩ | ⟨h0, rfl⟩
      · rw [if_pos h0]
        simp only [Sem.run_bind, Sem.run_pure, Result.andThen_ok, f1', newRow, run_newObj]
      · rw [if_neg h0]
        simp only [Sem.run_bind, h1, Sem.run_pure, Result.andThen_ok, f1', newRow, run_newObj]
    · have hrl := f2.length
      have hsz : len * s ≤ r'.size := by
        have := fillParts_length hr
        simp only [Array.length_toList] at hrl
        rw [zerosN_length, ← hz2] at this
        omega
      refine .slice _ _ _ _ _ _ ⟨w.heap.size, 0, r'.size⟩ _ _ hp (Nat.le_refl _) (Nat.le_refl _) (fun _ => rfl) (.inr ⟨rfl, by simpa using hsz⟩)
  · simp at he
where
  fillParts_length : ∀ {l : List (Nat × Nat × AVal)} {c r : List AVal}, fillParts c l = some r → r.length = c.length := by
    intro l
    induction l with
    | nil => intro c r h; simp [fillParts] at h; subst h; rfl
    | cons p l ih =>
      intro c r h
      unfold fillParts at h
      split at h
      · split at h
        · rename_i c1 hc1
          obtain ⟨hle, rfl⟩ := splice?_some hc1
          rw [ih h, splice_length hle]
        · simp at h
      · simp at h

theorem sim_makeSlice (hT : TR μ T a.tmps) {t e : TypeId} {x y : Operand} {x' y' : AOpd} {z : List AVal} {b : Nat}
    (ho : o.op = .makeSlice t x y) (hx : opdA x = some x') (hy : opdA y = some y') (hd : P.underlying t = some (.slice e)) (hz : zeroOkA P e = some z) (hb : bytesA P e = some b) (hb0 : b ≠ 0)
    (he : evalOp T H (.makeSlice z b x' y') = some (v, H')) : Alloc P μ w ((execOp a.eval o).run P w) v H H' := by
  have hv := hT.eval hx
  have hu := hT.eval hy
  simp only [evalOp, fMakeSlice] at he
  split at he
  · rename_i k1 l k2 c e1 e2
    rw [e1] at hv
    rw [e2] at hu
    have hv := hv.int_inv
    have hu := hu.int_inv
    split at he
    · rename_i hc
      obtain ⟨hl0, hlc, hroom⟩ := hc
      simp only [Option.some.injEq, Prod.mk.injEq] at he
      obtain ⟨rfl, rfl⟩ := he
      obtain ⟨hz1, hz2⟩ := zeroOkA_eq hz
      obtain ⟨zv, h1, h2, h3⟩ := run_zeroA (μ := μ) hz1 w
      have hzl := h2.length
      simp only [Array.length_toList] at hzl
      simp only [bytesA, Option.map_eq_some_iff] at hb
      obtain ⟨ie, hie, rfl⟩ := hb
      have hcs : c.toNat ≤ maxRoom := Nat.le_trans (Nat.le_mul_of_pos_right _ (Nat.pos_of_ne_zero hb0)) hroom
      have hmax : maxRoom = 70368744177664 := rfl
      rw [hmax] at hcs hroom
      have wl : IntKind.i64.wrap l = l := IntWalk.i64_in _ (by omega)
      have wc : IntKind.i64.wrap c = c := IntWalk.i64_in _ (by omega)
      have hc' : (ie.bytes : Int) * c ≤ 70368744177664 := by
        have : ((c.toNat * ie.bytes : Nat) : Int) ≤ ((70368744177664 : Nat) : Int) := Int.ofNat_le.2 hroom
        rw [Int.natCast_mul, Int.toNat_of_nonneg (by omega)] at this
        rw [Int.mul_comm]; exact this
      have hn : c.toNat * zv.cells.size = (zerosN z c.toNat).length := by rw [zerosN_length, hzl]
      obtain ⟨c0, hc0, hrel⟩ : ∃ c0 : Array Value, ((c.toNat * z.length = 0 ∧ c0 = #[]) ∨ (¬ c.toNat * z.length = 0 ∧ c0 = zv.cells)) ∧
          VRs μ (zerosN z c.toNat) ((Array.range (c.toNat * z.length)).map (c0[· % c0.size]!)).toList := by
        by_cases h0 : c.toNat * z.length = 0
        · refine ⟨#[], .inl ⟨h0, rfl⟩, ?_⟩
          have e1 : zerosN z c.toNat = [] := by
            apply List.eq_nil_of_length_eq_zero
            rw [zerosN_length, h0]
          have e2 : ((Array.range (c.toNat * z.length)).map ((#[] : Array Value)[· % (#[] : Array Value).size]!)).toList = [] := by rw [h0]; simp
          rw [e1, e2]
          exact .nil
        · refine ⟨zv.cells, .inr ⟨h0, rfl⟩, ?_⟩
          have := zerosN_rel h2 c.toNat
          rwa [← hzl] at this ⊢
      obtain ⟨hm, hx⟩ := OR.newRow' (P := P) e hrel (zerosN_scalar z h3 _) (w' := { w with heap := w.heap.push (.cells ((Array.range (c.toNat * z.length)).map (c0[· % c0.size]!)) e) }) rfl
      refine ⟨.slice (some ⟨w.heap.size, 0, none⟩) l.toNat c.toNat, _, _, _, _, rfl, ?_, hm, fun μ' hle hp => ⟨hx μ' hle, ?_⟩⟩
      · have c1 : ¬ ((decide (c < 0) || decide ((ie.bytes : Int) * c > 2 ^ 48)) || decide (l < 0) || decide (l > c)) = true := by
          simp; omega
        simp only [execOp, ho, Instr.makeSlice, Sem.run_bind, run_underlying hd, Result.andThen_ok, hv, hu, asInt, asIntOf, Sem.run_pure, run_typeInfoA hie, wl, wc]
        rw [if_neg c1]
        simp only [Sem.run_bind, run_askRoom, Result.andThen_ok, run_sizeOfA hz2, Sem.run_pure]
        rcases hc0 with ⟨h0, rfl⟩ | ⟨h0, rfl⟩
        · rw [if_pos h0]
          simp only [Sem.run_bind, Sem.run_pure, Result.andThen_ok, newRow, run_newObj]
        · rw [if_neg h0]
          simp only [Sem.run_bind, h1, Sem.run_pure, Result.andThen_ok, newRow, run_newObj]
      · refine .slice _ _ _ _ _ _ ⟨w.heap.size, 0, _⟩ _ _ hp (by omega) (Nat.le_refl _) (fun _ => rfl) (.inr ⟨rfl, by simp⟩)
    · simp at he
  · simp at he
end Go.AM
