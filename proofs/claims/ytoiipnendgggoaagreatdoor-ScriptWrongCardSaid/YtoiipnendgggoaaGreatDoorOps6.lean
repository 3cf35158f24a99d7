/- A part of the proof of the claim of this folder (Ops6). -/
import Derived.Test.YtoiipnendgggoaaGreatDoorOps5
set_option autoImplicit true
set_option relaxedAutoImplicit true
set_option linter.all false
set_option linter.deprecated false
set_option linter.unnecessarySimpa false
set_option linter.unusedSectionVars false
set_option linter.unusedSimpArgs false
set_option linter.unusedVariables false
/-! Operations: the built-in functions, maps. -/
namespace Go.AM
variable [G : Ground]
variable {P : Program} {μ : Mu} {H H' : AHeap} {w : World} {T : Tmps} {a : Act} {v : AVal} {o : Oper}

theorem exec_builtin {b : Builtin} {args : Array Operand} {ts : Array TypeId} (ho : o.op = .call { callee := .builtin b, args := args, argTypes := ts }) :
    (execOp a.eval o).run P w = (builtin b ts o.type (args.map fun | .const _ => true | _ => false) (args.map a.eval)).run P w := by
  simp [execOp, ho, resolve, invoke]
  rfl

theorem Quiet.of_run {x : Sem Value} {r : Result Next} (hr : r = (x.run P w).andThen fun y w' => .ok (.value y) w') (h : H' = H ∧ ∃ cv, x.run P w = .ok cv w ∧ VR μ v cv) : Quiet P μ w r v H H' := by
  obtain ⟨rfl, cv, h1, h2⟩ := h
  exact ⟨rfl, cv, by rw [hr, h1]; rfl, h2⟩

theorem Done.of_run {x : Sem Value} {r : Result Next} (hr : r = (x.run P w).andThen fun y w' => .ok (.value y) w') (h : ∃ cv w' μ', x.run P w = .ok cv w' ∧ VR μ' v cv ∧ HR P μ' H' w' ∧ Turn μ μ' w w') : Done P μ w r v H' := by
  obtain ⟨cv, w', μ', h1, h2, h3, h4⟩ := h
  exact ⟨cv, w', μ', .inl (by rw [hr, h1]; rfl), h2, h3, h4⟩

theorem args2 {args : Array Operand} {x y : AOpd} (h : opdsA args.toList = some [x, y]) : ∃ p q, args = #[p, q] ∧ opdA p = some x ∧ opdA q = some y := by
  obtain ⟨l⟩ := args
  simp only at h
  match l, h with
  | [], h => simp [opdsA] at h
  | [p], h =>
    unfold opdsA at h
    split at h <;> simp_all [opdsA]
  | p :: q :: r, h =>
    unfold opdsA at h
    split at h
    · rename_i a1 as h1 h2
      unfold opdsA at h2
      split at h2
      · rename_i a2 as2 h3 h4
        simp at h2; subst h2
        simp at h
        obtain ⟨rfl, rfl, hnil⟩ := h
        subst hnil
        cases r with
        | nil => exact ⟨p, q, rfl, h1, h3⟩
        | cons z r =>
          unfold opdsA at h4
          split at h4 <;> simp at h4
      · simp at h2
    · simp at h

theorem args1 {args : Array Operand} {x : AOpd} (h : opdsA args.toList = some [x]) : ∃ p, args = #[p] ∧ opdA p = some x := by
  obtain ⟨l⟩ := args
  simp only at h
  match l, h with
  | [], h => simp [opdsA] at h
  | p :: r, h =>
    unfold opdsA at h
    split at h
    · rename_i a1 as h1 h2
      simp at h
      obtain ⟨rfl, hnil⟩ := h
      subst hnil
      cases r with
      | nil => exact ⟨p, rfl, h1⟩
      | cons z r =>
        unfold opdsA at h2
        split at h2 <;> simp at h2
    · simp at h

theorem sim_append (hT : TR μ T a.tmps) (hH : HR P μ H w) {args : Array Operand} {ts : Array TypeId} {x y : AOpd} {e : TypeId} {z : List AVal} {b : Nat} {d : TypeDesc}
    (ho : o.op = .call { callee := .builtin .append, args := args, argTypes := ts }) (ha : opdsA args.toList = some [x, y]) (h0 : (ts[0]?).bind P.underlying = some (.slice e)) (h1 : (ts[1]?).bind P.underlying = some d)
    (hd : (∃ e', d = .slice e') ∨ d = .string) (hz : zeroOkA P e = some z) (hb : bytesA P e = some b) (hb0 : b ≠ 0)
    (he : evalOp T H (.append z b x y) = some (v, H')) : Done P μ w ((execOp a.eval o).run P w) v H' := by
  obtain ⟨p, q, rfl, hp, hq⟩ := args2 ha
  have hv := hT.eval hp
  have hu := hT.eval hq
  simp only [evalOp, fAppend] at he
  split at he
  · rename_i n hn
    split at he
    · rename_i new hnew
      obtain ⟨t0, ht0, hd0⟩ := Option.bind_eq_some_iff.1 h0
      obtain ⟨t1, ht1, hd1⟩ := Option.bind_eq_some_iff.1 h1
      obtain ⟨vs, g1, g2, g3, g4⟩ := run_firstCells hH hu hnew
      obtain ⟨base, sLen, sCap, hs, cv, w', μ', r1, r2, r3, r4⟩ := sim_appendTail (zeros := false) (x := a.eval q) (appended := Builtin.firstCells z.length n (a.eval q)) hH hz hb hb0 hv g3 g4 (fun w' hw => by
        obtain ⟨vs', k1, k2, _⟩ := run_firstCells (P := P) (hH.heapEq hw) hu hnew
        exact ⟨vs', k1, k2⟩) he
      refine Done.of_run (x := Builtin.append_ ts o.type #[a.eval p, a.eval q]) ?_ ⟨cv, w', μ', ?_, r2, r3, r4⟩
      · rw [exec_builtin ho]
        simp [builtin]
      · rw [← r1]
        have hz2 := (zeroOkA_eq hz).2
        rw [hs]
        have e0 : (#[Value.slice base sLen sCap, a.eval q] : Array Value)[0]? = some (Value.slice base sLen sCap) := rfl
        have e1 : (#[Value.slice base sLen sCap, a.eval q] : Array Value)[1]? = some (a.eval q) := rfl
        rcases hd with ⟨e', rfl⟩ | rfl
        · simp only [Builtin.append_, ht0, e0, e1, ht1, Sem.run_bind, run_underlying hd0, run_underlying hd1, Result.andThen_ok, run_sizeOfA hz2, Sem.run_pure]
          rw [if_neg (by simp : ¬ (false = true))]
          simp only [Sem.run_bind, run_lenOf hu hn, Result.andThen_ok]
          rfl
        · simp only [Builtin.append_, ht0, e0, e1, ht1, Sem.run_bind, run_underlying hd0, run_underlying hd1, Result.andThen_ok, run_sizeOfA hz2, Sem.run_pure]
          rw [if_neg (by simp : ¬ (false = true))]
          simp only [Sem.run_bind, run_lenOf hu hn, Result.andThen_ok]
          rfl
    · simp at he
  · simp at he

def isIntD (d : TypeDesc) : Bool :=
  match d with
  | .int _ => true
  | _ => false

theorem sim_appendZeros (hT : TR μ T a.tmps) (hH : HR P μ H w) {args : Array Operand} {ts : Array TypeId} {x y : AOpd} {e : TypeId} {z : List AVal} {b : Nat} {k : IntKind}
    (ho : o.op = .call { callee := .builtin .append, args := args, argTypes := ts }) (ha : opdsA args.toList = some [x, y]) (h0 : (ts[0]?).bind P.underlying = some (.slice e)) (h1 : (ts[1]?).bind P.underlying = some (.int k))
    (hz : zeroOkA P e = some z) (hb : bytesA P e = some b) (hb0 : b ≠ 0)
    (he : evalOp T H (.appendZeros z b x y) = some (v, H')) : Done P μ w ((execOp a.eval o).run P w) v H' := by
  obtain ⟨p, q, rfl, hp, hq⟩ := args2 ha
  have hv := hT.eval hp
  have hu := hT.eval hq
  simp only [evalOp, fAppendZeros] at he
  split at he
  · rename_i k' n heq
    rw [heq] at hu
    have hu := hu.int_inv
    split at he
    · rename_i hc
      obtain ⟨t0, ht0, hd0⟩ := Option.bind_eq_some_iff.1 h0
      obtain ⟨t1, ht1, hd1⟩ := Option.bind_eq_some_iff.1 h1
      obtain ⟨hz1, hz2⟩ := zeroOkA_eq hz
      have hb' := hb
      simp only [bytesA, Option.map_eq_some_iff] at hb'
      obtain ⟨ie, hie, hieb⟩ := hb'
      have hroom := hc.2
      have hmax : maxRoom = 70368744177664 := rfl
      rw [hmax] at hroom
      have hn : n.toNat ≤ 70368744177664 := Nat.le_trans (Nat.le_mul_of_pos_right _ (Nat.pos_of_ne_zero hb0)) hroom
      have wn : IntKind.i64.wrap n = n := IntWalk.i64_in _ (by omega)
      obtain ⟨d, hdk⟩ : ∃ d, d = TypeDesc.int k := ⟨_, rfl⟩
      rw [← hdk] at hd1
      have hzb : isIntD d = true := by rw [hdk]; rfl
      let appended : Sem (Array Value) :=
        if (!isIntD d) = true then Builtin.firstCells z.length n.toNat (.int k' n)
        else if n.toNat * z.length = 0 then pure #[] else do pure (Builtin.zeroCells (← zeroValue e).cells n.toNat)
      have happ : ∀ w' : World, w'.heap = w.heap → ∃ vs : List Value, appended.run P w' = .ok vs.toArray w' ∧ VRs μ (zerosN z n.toNat) vs := by
        intro w' hw
        obtain ⟨zv, z1, z2, z3⟩ := run_zeroA (μ := μ) hz1 w'
        have hzl := z2.length
        simp only [Array.length_toList] at hzl
        have hzn : ¬ (!isIntD d) = true := by rw [hzb]; simp
        by_cases h0 : n.toNat * z.length = 0
        · refine ⟨[], by simp only [appended]; rw [if_neg hzn, if_pos h0]; rfl, ?_⟩
          have e1 : zerosN z n.toNat = [] := by
            apply List.eq_nil_of_length_eq_zero
            rw [zerosN_length, h0]
          rw [e1]; exact .nil
        · refine ⟨(Builtin.zeroCells zv.cells n.toNat).toList, by simp only [appended]; rw [if_neg hzn, if_neg h0]; simp only [Sem.run_bind, z1, Result.andThen_ok, Sem.run_pure, Array.toArray_toList], ?_⟩
          exact zerosN_rel z2 _
      have hsc : (zerosN z n.toNat).all AVal.scalar = true := by
        obtain ⟨zv, z1, z2, z3⟩ := run_zeroA (μ := μ) hz1 w
        exact zerosN_scalar z z3 _
      obtain ⟨base, sLen, sCap, hs, cv, w', μ', r1, r2, r3, r4⟩ := sim_appendTail (zeros := isIntD d) (x := .int k' n) (appended := appended) hH hz hb hb0 hv hsc (zerosN_length _ _) happ he
      refine Done.of_run (x := Builtin.append_ ts o.type #[a.eval p, a.eval q]) ?_ ⟨cv, w', μ', ?_, r2, r3, r4⟩
      · rw [exec_builtin ho]
        simp [builtin]
      · rw [← r1]
        have c1 : ¬ n < 0 := by omega
        have c2 : ¬ (n * (ie.bytes : Int) > 2 ^ 48) := by
          rw [← hieb] at hroom
          have : ((n.toNat * ie.bytes : Nat) : Int) ≤ ((70368744177664 : Nat) : Int) := Int.ofNat_le.2 hroom
          rw [Int.natCast_mul, Int.toNat_of_nonneg hc.1] at this
          have h48 : (2 : Int) ^ 48 = 281474976710656 := by decide
          rw [h48]
          omega
        rw [hs, hu]
        have e0 : (#[Value.slice base sLen sCap, Value.int k' n] : Array Value)[0]? = some (Value.slice base sLen sCap) := rfl
        have e1 : (#[Value.slice base sLen sCap, Value.int k' n] : Array Value)[1]? = some (Value.int k' n) := rfl
        simp only [Builtin.append_, ht0, e0, e1, ht1, Sem.run_bind, run_underlying hd0, run_underlying hd1, Result.andThen_ok, run_sizeOfA hz2, Sem.run_pure]
        erw [if_pos hzb]
        simp only [Sem.run_bind, Sem.run_pure, Result.andThen_ok, asInt, asIntOf, wn]
        rw [if_neg c1]
        simp only [Sem.run_bind, run_typeInfoA hie, Result.andThen_ok, Sem.run_pure]
        rw [if_neg c2]
        simp only [Sem.run_bind, Sem.run_pure, Result.andThen_ok]
        rfl
    · simp at he
  · simp at he

theorem sim_copy (hT : TR μ T a.tmps) (hH : HR P μ H w) {args : Array Operand} {ts : Array TypeId} {x y : AOpd} {e : TypeId} {s : Nat}
    (ho : o.op = .call { callee := .builtin .copy, args := args, argTypes := ts }) (ha : opdsA args.toList = some [x, y]) (h0 : (ts[0]?).bind P.underlying = some (.slice e)) (hs : sizeA P e = some s)
    (he : evalOp T H (.copy s x y) = some (v, H')) : Done P μ w ((execOp a.eval o).run P w) v H' := by
  obtain ⟨p, q, rfl, hp, hq⟩ := args2 ha
  have hv := hT.eval hp
  have hu := hT.eval hq
  obtain ⟨t0, ht0, hd0⟩ := Option.bind_eq_some_iff.1 h0
  refine Done.of_run (x := Builtin.copy_ ts o.type #[a.eval p, a.eval q]) (by rw [exec_builtin ho]; simp [builtin]) ?_
  simp only [evalOp, fCopy] at he
  split at he
  · rename_i m h1 h2
    rw [h1] at hv
    have hv := hv.nilslice_inv
    simp at he
    obtain ⟨rfl, rfl⟩ := he
    refine ⟨.int .i64 0, w, μ, ?_, .int _ _, hH, .refl _ _⟩
    have : (Builtin.firstCells s 0 (a.eval q)).run P w = .ok #[] w := by
      have hl := hu
      unfold lenA at h2
      split at h2 <;> simp at h2
      · rename_i hy; rw [hy] at hu; have := hu.nilslice_inv; rw [this]; simp [Builtin.firstCells]
      · rename_i hy; rw [hy] at hu; obtain ⟨_, _, _, e1, _⟩ := hu.slice_inv; rw [e1]; simp [Builtin.firstCells, loadCells, loadCellsFrom]
      · rename_i hy; rw [hy] at hu; obtain ⟨b, e1, _⟩ := hu.str_inv; rw [e1]; simp [Builtin.firstCells]
    simp [Builtin.copy_, ht0, run_underlying hd0, hv, run_lenOf hu h2, run_sizeOfA hs, this, goInt]
  · rename_i id off len lo ex sz m h1 h2
    rw [h1] at hv
    obtain ⟨pl, ad, cap, hv, hpl, b1, b2, b3, b4⟩ := hv.slice_inv
    split at he
    · rename_i cs l hcs hrow
      split at he
      · rename_i l' hsp
        simp at he
        obtain ⟨rfl, rfl⟩ := he
        obtain ⟨vs, g1, g2, g3, g4⟩ := run_firstCells hH hu hcs
        by_cases hc0 : cap = 0
        · have hl0 : len = 0 := by omega
          have hcs0 : cs = [] := by
            apply List.eq_nil_of_length_eq_zero
            rw [g4, hl0]; simp
          have hvs0 : vs = [] := by
            have := g2.length
            rw [hcs0] at this
            exact List.eq_nil_of_length_eq_zero this.symm
          obtain ⟨hle, rfl⟩ := splice?_some hsp
          have hsame : splice l off cs = l := by rw [hcs0]; simp [splice]
          obtain ⟨qq, hqq, hcells⟩ := hH.row hrow
          rw [hpl] at hqq; cases hqq
          refine ⟨.int .i64 (min m len : Nat), w, μ, ?_, .int _ _, ?_, .refl _ _⟩
          · have g1' : (Builtin.firstCells s (Nat.min m len) (a.eval q)).run P w = .ok vs.toArray w := g1
            simp [Builtin.copy_, ht0, run_underlying hd0, hv, run_lenOf hu h2, run_sizeOfA hs, g1', goInt, hvs0, storeCells]
          · rw [hsame]
            obtain ⟨cc, el, fz, k1, k2⟩ := hcells
            exact (hH.put hpl (AHeap.live_row hrow) ⟨rfl, k1, fun _ _ => rfl, rfl, rfl⟩ (by intro r hr; rw [k1] at hr; cases hr) (x := .cells l) ⟨cc, el, fz, k1, k2⟩).1
        · obtain ⟨e1, e2⟩ := b4.resolve_left hc0
          obtain ⟨w', r1, r2, r3⟩ := hH.store hpl hrow hsp g2 g3
          refine ⟨.int .i64 (min m len : Nat), w', μ, ?_, .int _ _, r2, r3⟩
          have g1' : (Builtin.firstCells s (Nat.min m len) (a.eval q)).run P w = .ok vs.toArray w := g1
          simp [Builtin.copy_, ht0, run_underlying hd0, hv, run_lenOf hu h2, run_sizeOfA hs, g1', goInt, e1, r1]
      · simp at he
    · simp at he
  · simp at he

theorem sim_clear (hT : TR μ T a.tmps) (hH : HR P μ H w) {args : Array Operand} {ts : Array TypeId} {x : AOpd} {e : TypeId} {z : List AVal}
    (ho : o.op = .call { callee := .builtin .clear, args := args, argTypes := ts }) (ha : opdsA args.toList = some [x]) (h0 : (ts[0]?).bind P.underlying = some (.slice e)) (hz : zeroOkA P e = some z)
    (he : evalOp T H (.clear z x) = some (v, H')) : Done P μ w ((execOp a.eval o).run P w) v H' := by
  obtain ⟨p, rfl, hp⟩ := args1 ha
  have hv := hT.eval hp
  obtain ⟨t0, ht0, hd0⟩ := Option.bind_eq_some_iff.1 h0
  refine Done.of_run (x := Builtin.clear_ ts o.type #[a.eval p]) (by rw [exec_builtin ho]; simp [builtin]) ?_
  obtain ⟨hz1, hz2⟩ := zeroOkA_eq hz
  simp only [evalOp] at he
  unfold fClear at he
  split at he
  · rename_i h1
    rw [h1] at hv
    have hv := hv.nilslice_inv
    simp at he
    obtain ⟨rfl, rfl⟩ := he
    exact ⟨.tuple #[], w, μ, by simp [Builtin.clear_, ht0, run_underlying hd0, hv], .tup _ _ .nil, hH, .refl _ _⟩
  · rename_i id off len lo ex sz h1
    rw [h1] at hv
    obtain ⟨pl, ad, cap, hv, hpl, b1, b2, b3, b4⟩ := hv.slice_inv
    split at he
    · rename_i hl0
      simp at he
      obtain ⟨rfl, rfl⟩ := he
      subst hl0
      exact ⟨.tuple #[], w, μ, by simp [Builtin.clear_, ht0, run_underlying hd0, hv], .tup _ _ .nil, hH, .refl _ _⟩
    · rename_i hl0
      split at he
      · rename_i l hrow
        split at he
        · rename_i l' hsp
          simp at he
          obtain ⟨rfl, rfl⟩ := he
          obtain ⟨e1, e2⟩ := b4.resolve_left (by omega)
          obtain ⟨zv, z1, z2, z3⟩ := run_zeroA (μ := μ) hz1 w
          obtain ⟨w', r1, r2, r3⟩ := hH.store hpl hrow hsp (zerosN_rel z2 len) (zerosN_scalar z z3 len)
          refine ⟨.tuple #[], w', μ, ?_, .tup _ _ .nil, r2, r3⟩
          obtain ⟨len', rfl⟩ : ∃ k, len = k + 1 := ⟨len - 1, by omega⟩
          rw [← zeroCells_eq] at r1
          simp [Builtin.clear_, ht0, run_underlying hd0, hv, z1, e1, r1]
        · simp at he
      · simp at he
  · simp at he

theorem MapsR.length {l : List (AVal × AVal)} {es : List MapEntry} (h : MapsR μ l es) : l.length = es.length := by
  induction h with
  | nil => rfl
  | cons _ _ _ _ _ _ _ _ _ ih => simp [ih]

theorem HR.mapAt (hH : HR P μ H w) {id : Nat} {l : List (AVal × AVal)} (hg : H.get id = some (.map l)) : ∃ p es clock, μ id = some p ∧ w.heap[p.blk]? = some (.map es clock) ∧ MapsR μ l es.toList := by
  obtain ⟨p, hp, es, clock, h1, h2⟩ := hH.obj id _ hg
  exact ⟨p, es, clock, hp, h1, h2⟩

theorem sim_len (hT : TR μ T a.tmps) (hH : HR P μ H w) {args : Array Operand} {ts : Array TypeId} {x : AOpd} {d : TypeDesc}
    (ho : o.op = .call { callee := .builtin .len, args := args, argTypes := ts }) (ha : opdsA args.toList = some [x]) (h0 : (ts[0]?).bind P.underlying = some d)
    {k : LK} (hd : (k = .s ∧ d = .string) ∨ (k = .l ∧ ∃ e, d = .slice e) ∨ (k = .m ∧ ∃ q e, d = .map q e))
    (he : evalOp T H (.len k x) = some (v, H')) : Quiet P μ w ((execOp a.eval o).run P w) v H H' := by
  obtain ⟨p, rfl, hp⟩ := args1 ha
  have hv := hT.eval hp
  obtain ⟨t0, ht0, hd0⟩ := Option.bind_eq_some_iff.1 h0
  refine Quiet.of_run (x := Builtin.len_ ts o.type #[a.eval p]) (by rw [exec_builtin ho]; simp [builtin]) ?_
  simp only [evalOp] at he
  unfold fLen at he
  split at he
  · rename_i s h1
    have hd : d = .string := by simpa using hd
    subst hd
    rw [h1] at hv
    obtain ⟨b, hv, hl⟩ := hv.str_inv
    simp [pureR] at he
    obtain ⟨rfl, rfl⟩ := he
    refine ⟨rfl, .int .i64 s.length, ?_, .int _ _⟩
    have : s.length = b.size := by rw [hl]; simp
    simp [Builtin.len_, ht0, run_underlying hd0, hv, goInt, this]
  · rename_i h1
    have hd : ∃ e, d = .slice e := by simpa using hd
    obtain ⟨e, rfl⟩ := hd
    rw [h1] at hv
    have hv := hv.nilslice_inv
    simp [pureR] at he
    obtain ⟨rfl, rfl⟩ := he
    exact ⟨rfl, .int .i64 0, by simp [Builtin.len_, ht0, run_underlying hd0, hv, goInt], .int _ _⟩
  · rename_i id off len lo ex sz h1
    have hd : ∃ e, d = .slice e := by simpa using hd
    obtain ⟨e, rfl⟩ := hd
    rw [h1] at hv
    obtain ⟨pl, ad, cap, hv, _⟩ := hv.slice_inv
    simp [pureR] at he
    obtain ⟨rfl, rfl⟩ := he
    exact ⟨rfl, .int .i64 len, by simp [Builtin.len_, ht0, run_underlying hd0, hv, goInt], .int _ _⟩
  · rename_i h1
    have hd : ∃ q e, d = .map q e := by simpa using hd
    obtain ⟨q, e, rfl⟩ := hd
    rw [h1] at hv
    have hv := hv.nilmap_inv
    simp [pureR] at he
    obtain ⟨rfl, rfl⟩ := he
    exact ⟨rfl, .int .i64 0, by simp [Builtin.len_, ht0, run_underlying hd0, hv, goInt], .int _ _⟩
  · rename_i id h1
    have hd : ∃ q e, d = .map q e := by simpa using hd
    obtain ⟨q, e, rfl⟩ := hd
    rw [h1] at hv
    obtain ⟨pl, hpl, hv⟩ := hv.map_inv
    split at he
    · rename_i l hg
      obtain ⟨p', es, clock, hp', h2, h3⟩ := hH.mapAt hg
      rw [hpl] at hp'; cases hp'
      simp [pureR] at he
      obtain ⟨rfl, rfl⟩ := he
      have hlen := h3.length
      refine ⟨rfl, .int .i64 l.length, ?_, .int _ _⟩
      have hobj : (getObj pl.blk).run P w = .ok (.map es clock) w := by
        simp [getObj, Sem.run, h2]
      simp [Builtin.len_, ht0, run_underlying hd0, hv, goInt, hobj, hlen]
    · simp [pureR] at he
  · simp [pureR] at he

theorem sim_cap (hT : TR μ T a.tmps) (hH : HR P μ H w) {args : Array Operand} {ts : Array TypeId} {x : AOpd} {e : TypeId}
    (ho : o.op = .call { callee := .builtin .cap, args := args, argTypes := ts }) (ha : opdsA args.toList = some [x]) (h0 : (ts[0]?).bind P.underlying = some (.slice e))
    (he : evalOp T H (.cap x) = some (v, H')) : Quiet P μ w ((execOp a.eval o).run P w) v H H' := by
  obtain ⟨p, rfl, hp⟩ := args1 ha
  have hv := hT.eval hp
  obtain ⟨t0, ht0, hd0⟩ := Option.bind_eq_some_iff.1 h0
  refine Quiet.of_run (x := Builtin.cap_ ts o.type #[a.eval p]) (by rw [exec_builtin ho]; simp [builtin]) ?_
  simp only [evalOp] at he
  unfold fCap at he
  split at he
  · rename_i h1
    rw [h1] at hv
    have hv := hv.nilslice_inv
    simp [pureR] at he
    obtain ⟨rfl, rfl⟩ := he
    exact ⟨rfl, .int .i64 0, by simp [Builtin.cap_, ht0, run_underlying hd0, hv, goInt], .int _ _⟩
  · rename_i id off len lo sz h1
    rw [h1] at hv
    obtain ⟨pl, ad, cap, hv2, hpl, b1, b2, b3, b4⟩ := hv.slice_inv
    simp [pureR] at he
    obtain ⟨rfl, rfl⟩ := he
    have := b3 rfl
    subst this
    exact ⟨rfl, .int .i64 cap, by simp [Builtin.cap_, ht0, run_underlying hd0, hv2, goInt], .int _ _⟩
  · simp [pureR] at he

theorem run_max2 {least : Bool} {x y z : AVal} {u q : Value} (hx : VR μ x u) (hy : VR μ y q) (h : maxA least x y = some z) (f : Value → Value → Sem Value)
    (hf : ∀ k m n, f (.int k m) (.int k n) = pure (.int k (if least then (if n < m then n else m) else (if m < n then n else m)))) : ∃ r, (f u q).run P w = .ok r w ∧ VR μ z r := by
  unfold maxA at h
  split at h
  · rename_i k m k' n
    have hx := hx.int_inv
    have hy := hy.int_inv
    split at h <;> simp at h
    rename_i hk
    subst hk; subst h; subst hx; subst hy
    exact ⟨_, by rw [hf]; rfl, .int _ _⟩
  · simp at h

theorem run_foldMax {least : Bool} (f : Value → Value → Sem Value) (hf : ∀ k m n, f (.int k m) (.int k n) = pure (.int k (if least then (if n < m then n else m) else (if m < n then n else m)))) :
    ∀ (l : List AVal) (vs : List Value) (x z : AVal) (u : Value), VR μ x u → VRs μ l vs → foldMax least x l = some z → ∃ r, (vs.foldlM f u).run P w = .ok r w ∧ VR μ z r
  | [], vs, x, z, u, hx, hl, h => by
    have := hl.nil_inv
    subst this
    simp [foldMax] at h
    subst h
    exact ⟨u, by simp, hx⟩
  | y :: l, vs, x, z, u, hx, hl, h => by
    obtain ⟨q, qs, rfl, h1, h2⟩ := hl.cons_inv
    simp only [foldMax] at h
    split at h
    · rename_i c hc
      obtain ⟨r, hr, hrr⟩ := run_max2 (P := P) (w := w) hx h1 hc f hf
      obtain ⟨r2, hr2, hrr2⟩ := run_foldMax f hf l qs c z r hrr h2 h
      exact ⟨r2, by simp [hr, hr2], hrr2⟩
    · simp at h

theorem sim_max (hT : TR μ T a.tmps) (hH : HR P μ H w) {args : Array Operand} {ts : Array TypeId} {xs : List AOpd}
    (ho : o.op = .call { callee := .builtin .max, args := args, argTypes := ts }) (ha : opdsA args.toList = some xs)
    (he : evalOp T H (.max xs) = some (v, H')) : Quiet P μ w ((execOp a.eval o).run P w) v H H' := by
  have hv := hT.evals ha
  refine Quiet.of_run (x := Builtin.max_ ts o.type (args.map a.eval)) (by rw [exec_builtin ho]; simp [builtin]) ?_
  simp only [evalOp] at he
  unfold maxOf at he
  split at he
  · simp [pureR] at he
  · rename_i x l heq
    rw [heq] at hv
    obtain ⟨u, us, h1, h2, h3⟩ := hv.cons_inv
    cases hf : foldMax false x l with
    | none => simp [hf, pureR] at he
    | some z =>
      simp [hf, pureR] at he
      obtain ⟨rfl, rfl⟩ := he
      obtain ⟨r, hr, hrr⟩ := run_foldMax (P := P) (w := w) (least := false) Builtin.max2 (by intro k m n; simp [Builtin.max2]) l us x z u h2 h3 hf
      refine ⟨rfl, r, ?_, hrr⟩
      simp only [Builtin.max_, Array.toList_map, h1]
      exact hr

theorem sim_min (hT : TR μ T a.tmps) (hH : HR P μ H w) {args : Array Operand} {ts : Array TypeId} {xs : List AOpd}
    (ho : o.op = .call { callee := .builtin .min, args := args, argTypes := ts }) (ha : opdsA args.toList = some xs)
    (he : evalOp T H (.min xs) = some (v, H')) : Quiet P μ w ((execOp a.eval o).run P w) v H H' := by
  have hv := hT.evals ha
  refine Quiet.of_run (x := Builtin.min_ ts o.type (args.map a.eval)) (by rw [exec_builtin ho]; simp [builtin]) ?_
  simp only [evalOp] at he
  unfold maxOf at he
  split at he
  · simp [pureR] at he
  · rename_i x l heq
    rw [heq] at hv
    obtain ⟨u, us, h1, h2, h3⟩ := hv.cons_inv
    cases hf : foldMax true x l with
    | none => simp [hf, pureR] at he
    | some z =>
      simp [hf, pureR] at he
      obtain ⟨rfl, rfl⟩ := he
      obtain ⟨r, hr, hrr⟩ := run_foldMax (P := P) (w := w) (least := true) Builtin.min2 (by intro k m n; simp [Builtin.min2]) l us x z u h2 h3 hf
      refine ⟨rfl, r, ?_, hrr⟩
      simp only [Builtin.min_, Array.toList_map, h1]
      exact hr

/-! Maps with texts as keys. -/

theorem sim_makeMap {t : TypeId} (ho : o.op = .makeMap t none) (he : evalOp T H .makeMap = some (v, H')) : Alloc P μ w ((execOp a.eval o).run P w) v H H' := by
  simp [evalOp] at he
  obtain ⟨rfl, rfl⟩ := he
  exact ⟨.map (some w.heap.size), _, _, 0, .map [], rfl, by simp [execOp, ho, Instr.makeMap], More.push w { w with heap := w.heap.push (.map #[] 0) } _ rfl,
    fun μ' _ hp => ⟨⟨#[], 0, by simp, .nil⟩, .map _ ⟨w.heap.size, 0, 0⟩ hp⟩⟩

theorem find_sim {k : List Nat} {kb : ByteArray} (hk : k = kb.data.toList.map UInt8.toNat) : ∀ (l : List (AVal × AVal)) (es : List MapEntry) (i : Nat) (r : Option AVal), MapsR μ l es → mapFind k l = some r →
    match r with
    | none => Instr.findNow .string (.string kb) es i = some none
    | some x => ∃ j y, Instr.findNow .string (.string kb) es i = some (some (j, y)) ∧ VR μ x y
  | [], es, i, r, h, hf => by
    cases h
    simp [mapFind] at hf
    subst hf
    rfl
  | (key, val) :: l, es, i, r, h, hf => by
    cases h with
    | cons _ _ _ e es hkey hval hs hrest =>
      unfold mapFind at hf
      split at hf
      · simp at *
      · rename_i q u l' heq
        simp at heq
        obtain ⟨⟨rfl, rfl⟩, rfl⟩ := heq
        obtain ⟨qb, hqb, hq⟩ := hkey.str_inv
        split at hf
        · rename_i hqk
          simp at hf
          subst hf
          refine ⟨i, e.val, ?_, hval⟩
          have heq : kb.data.toList = qb.data.toList := map_toNat_inj.1 (by rw [← hk, ← hqk, hq])
          have : (kb == qb) = true := by rw [beq_toListBytes, ByteArray.toList_eq, ByteArray.toList_eq, heq]; simp
          simp [Instr.findNow, Instr.sameNow, hqb, this]
        · rename_i hqk
          have ih := find_sim hk l es (i + 1) r hrest hf
          have hne : (kb == qb) = false := by
            rw [beq_toListBytes, ByteArray.toList_eq, ByteArray.toList_eq]
            have : ¬ kb.data.toList = qb.data.toList := fun h => hqk (by rw [hq, hk, h])
            simpa using this
          have hstep : Instr.findNow .string (.string kb) (e :: es) i = Instr.findNow .string (.string kb) es (i + 1) := by
            simp [Instr.findNow, Instr.sameNow, hqb, hne]
          rw [hstep]
          exact ih
      · simp at hf

theorem MapsR.snoc : ∀ {l : List (AVal × AVal)} {es : List MapEntry} {k x : AVal} {e : MapEntry}, MapsR μ l es → VR μ k e.key → VR μ x e.val → x.scalar = true → MapsR μ (l ++ [(k, x)]) (es ++ [e])
  | _, _, _, _, _, .nil, hk, hv, hs => .cons _ _ _ _ _ hk hv hs .nil
  | _, _, _, _, _, .cons _ _ _ _ _ a b c d, hk, hv, hs => .cons _ _ _ _ _ a b c (MapsR.snoc d hk hv hs)

theorem run_checkKey_str (n : Nat) (e : Bool) {kt : TypeId} (hkt : P.underlying kt = some .string) (kb : ByteArray) (w : World) : (Instr.checkKey e (n + 1) kt (.string kb)).run P w = .ok () w := by
  simp only [Instr.checkKey, Sem.run_bind, run_underlying hkt, Result.andThen_ok]
  rfl

theorem sim_mapSet (hT : TR μ T a.tmps) (hH : HR P μ H w) {t kt et : TypeId} {m k x : Operand} {m' k' x' : AOpd} (ho : o.op = .insert t m k x) (hm : opdA m = some m') (hk : opdA k = some k') (hx : opdA x = some x')
    (hd : P.underlying t = some (.map kt et)) (hkt : P.underlying kt = some .string)
    (he : evalOp T H (.mapSet m' k' x') = some (v, H')) : Done P μ w ((execOp a.eval o).run P w) v H' := by
  have hvm := hT.eval hm
  have hvk := hT.eval hk
  have hvx := hT.eval hx
  simp only [evalOp] at he
  unfold fMapSet at he
  split at he
  · rename_i id s h1 h2
    rw [h1] at hvm
    rw [h2] at hvk
    obtain ⟨pl, hpl, hvm⟩ := hvm.map_inv
    obtain ⟨kb, hvk, hs⟩ := hvk.str_inv
    split at he
    · rename_i l hg
      split at he
      · rename_i hfind
        split at he
        · rename_i hsc
          simp at he
          obtain ⟨rfl, rfl⟩ := he
          obtain ⟨p', es, clock, hp', g1, g2⟩ := hH.mapAt hg
          rw [hpl] at hp'; cases hp'
          have hfn := find_sim hs l es.toList 0 none g2 hfind
          have hblk : pl.blk < w.heap.size := hH.bnd _ _ hpl
          let w' : World := { w with heap := w.heap.setIfInBounds pl.blk (.map (es.push { key := a.eval k, val := a.eval x, born := clock }) (clock + 1)) }
          have hupd : Upd w w' pl.blk (.map (es.push { key := a.eval k, val := a.eval x, born := clock }) (clock + 1)) :=
            ⟨by simp [w'], by simp [w', hblk], fun j hj => by simp [w', Array.getElem?_setIfInBounds, Ne.symm hj], rfl, rfl⟩
          obtain ⟨hh, ht⟩ := hH.put hpl ⟨_, hg, rfl⟩ hupd (by intro r hr; rw [g1] at hr; cases hr) (x := .map (l ++ [(.str s, T.eval x')])) (by
            refine ⟨_, _, hupd.new, ?_⟩
            simp only [Array.toList_push]
            exact MapsR.snoc g2 (by rw [hvk]; exact .str _ _ hs) hvx hsc)
          refine ⟨undef, w', μ, .inr ⟨?_, rfl⟩, .undef, hh, ht⟩
          have hobj : (getObj pl.blk).run P w = .ok (.map es clock) w := by simp [getObj, Sem.run, g1]
          have hset : (setObj pl.blk (.map (es.push { key := .string kb, val := a.eval x, born := clock }) (clock + 1))).run P w = .ok () w' := by
            simp [setObj, Sem.run, g1, w', hvk]
          have hck : (Instr.checkKey false 10000 kt (.string kb)).run P w = .ok () w := run_checkKey_str 9999 false hkt kb w
          simp only [execOp, ho, Instr.mapUpdate, Sem.run_bind, run_underlying hd, Result.andThen_ok, hvm, hvk, hobj]
          rw [hck]
          simp only [Result.andThen_ok, Instr.findKey, Sem.run_bind, run_underlying hkt, hfn, Sem.run_pure, hset]
        · simp at he
      · simp at he
    · simp at he
  · simp at he

theorem sim_mapGet (hT : TR μ T a.tmps) (hH : HR P μ H w) {t kt et : TypeId} {m k : Operand} {m' k' : AOpd} {z : AVal} {ok : Bool} (ho : o.op = .lookup t m k ok) (hm : opdA m = some m') (hk : opdA k = some k')
    (hd : P.underlying t = some (.map kt et)) (hkt : P.underlying kt = some .string) (hz : zeroFlatA P et = some z)
    (he : evalOp T H (.mapGet z ok m' k') = some (v, H')) : Quiet P μ w ((execOp a.eval o).run P w) v H H' := by
  have hvm := hT.eval hm
  have hvk := hT.eval hk
  refine .pure hH (x := fMapGet H z ok (T.eval m') (T.eval k')) (by simpa [evalOp] using he) fun hl => ?_
  unfold fMapGet at hl
  split at hl
  · rename_i id s h1 h2
    rw [h1] at hvm
    rw [h2] at hvk
    obtain ⟨pl, hpl, hvm⟩ := hvm.map_inv
    obtain ⟨kb, hvk, hs⟩ := hvk.str_inv
    split at hl
    · rename_i l hg
      split at hl
      · rename_i r hfind
        simp at hl
        obtain ⟨p', es, clock, hp', g1, g2⟩ := hH.mapAt hg
        rw [hpl] at hp'; cases hp'
        have hfn := find_sim hs l es.toList 0 r g2 hfind
        have hobj : (getObj pl.blk).run P w = .ok (.map es clock) w := by simp [getObj, Sem.run, g1]
        have hck : (Instr.checkKey es.isEmpty 10000 kt (.string kb)).run P w = .ok () w := run_checkKey_str 9999 es.isEmpty hkt kb w
        obtain ⟨zv, hz1, hz2⟩ := run_zeroFlatA (μ := μ) hz w
        cases r with
        | none =>
          simp only at hfn
          subst hl
          refine ⟨if ok then .tuple #[zv, .bool false] else zv, ?_, ?_⟩
          · simp only [execOp, ho, Instr.lookup, Sem.run_bind, run_underlying hd, Result.andThen_ok, hvm, hvk, hobj, Sem.run_pure]
            rw [hck]
            simp only [Result.andThen_ok, Instr.findKey, Sem.run_bind, run_underlying hkt, hfn, Sem.run_pure, hz1]
          · cases ok
            · simpa using hz2
            · exact .tup _ _ (.cons _ _ _ _ hz2 (.cons _ _ _ _ (.bool _) .nil))
        | some y =>
          obtain ⟨j, yv, hfn, hy⟩ := hfn
          subst hl
          refine ⟨if ok then .tuple #[yv, .bool true] else yv, ?_, ?_⟩
          · simp only [execOp, ho, Instr.lookup, Sem.run_bind, run_underlying hd, Result.andThen_ok, hvm, hvk, hobj, Sem.run_pure]
            rw [hck]
            simp only [Result.andThen_ok, Instr.findKey, Sem.run_bind, run_underlying hkt, hfn, Sem.run_pure]
          · cases ok
            · simpa using hy
            · exact .tup _ _ (.cons _ _ _ _ hy (.cons _ _ _ _ (.bool _) .nil))
      · simp at hl
    · simp at hl
  · simp at hl
end Go.AM
