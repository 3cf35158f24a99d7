/- A part of the proof of the claim of this folder (EvalRun). -/
import Derived.Test.YtoiipnendgggoaaGreatDoorEvalOps
set_option autoImplicit true
set_option relaxedAutoImplicit true
set_option linter.all false
set_option linter.deprecated false
set_option linter.unnecessarySimpa false
set_option linter.unusedSectionVars false
set_option linter.unusedSimpArgs false
set_option linter.unusedVariables false
namespace Go.AM

def thenO (r : Option (Tmps × AHeap)) (k : KT) : Ans :=
  match r with
  | some (T, h) => k T h
  | none => none

def thenX (r : Option (AExit × Tmps × AHeap)) (k : KT) (kx : KX) : Ans :=
  match r with
  | some (e, T, h) => if e = .normal then k T h else kx e T h
  | none => none

def CallOk (ck : CallK) (c : Caller) : Prop := ∀ f args h k, ck f args h k = resK k (c f args h)
def ExecOk (xk : ExecK) (x : Exec) : Prop := ∀ c T h k kx, xk c T h k kx = thenX (x c T h) k kx

noncomputable def operSpec (o : AOper) : OperK := fun call T h k =>
  if wantedA T o.guard = true then genOp o.op call T h (fun v h => k (putDst T o.dst v) h) else k (putDst T o.dst undefA) h

theorem operC_eq (o : AOper) : operC o = Wr.mk (operSpec o) := by
  obtain ⟨d, g, op⟩ := o
  show dstC d (fun s => opC op fun b => operB g s b) = _
  rw [dstC_eq, opC_eq]
  cases g with
  | none => rfl
  | some g =>
    obtain ⟨t, want⟩ := g
    show pathC (Nat.succ t) t (fun c => Wr.mk fun call T h k => @Bool.rec (fun _ => Ans) (k (putDst T d undefA) h) (genOp op call T h fun v h => k (putDst T d v) h) (vFlag (c T) fun b => @Bool.rec (fun _ => Bool) (notK want) want b)) = _
    rw [pathC_eq _ _ _ (Nat.lt_succ_self t)]
    congr 1
    funext call T h k
    have hv : ∀ v : AVal, vFlag v (fun b => @Bool.rec (fun _ => Bool) (notK want) want b) = (match v with | .bool b => b == want | _ => false) := by
      intro v
      cases v with
      | bool b => cases b <;> cases want <;> rfl
      | _ => rfl
    rw [boolRec, hv]
    rfl

noncomputable def opsSpec : List AOper → OperK
  | [] => fun _ T h k => k T h
  | o :: l => fun call T h k => operSpec o call T h fun T h => opsSpec l call T h k

theorem opsC_eq : ∀ l, opsC l = Wr.mk (opsSpec l)
  | [] => rfl
  | o :: l => by
    show @Wr.rec (fun _ => Wr) (fun f => @Wr.rec (fun _ => Wr) (fun fs => Wr.mk fun call T h k => f call T h fun T h => fs call T h k) (opsC l)) (operC o) = _
    rw [opsC_eq l, operC_eq]
    rfl

theorem genOp_ok {ck : CallK} {c : Caller} (hc : CallOk ck c) (op : AOp) (T : Tmps) (h : AHeap) (k : KV) : genOp op ck T h k = resK k (doOp c T h op) := by
  cases op <;> first | rfl | exact hc _ _ _ _

theorem operSpec_ok {ck : CallK} {c : Caller} (hc : CallOk ck c) (o : AOper) (T : Tmps) (h : AHeap) (k : KT) : operSpec o ck T h k = thenO (doOper c T h o) k := by
  unfold operSpec doOper
  split
  · rw [genOp_ok hc, resK_eq]
    cases doOp c T h o.op <;> rfl
  · rfl

theorem opsSpec_ok {ck : CallK} {c : Caller} (hc : CallOk ck c) : ∀ (l : List AOper) (T : Tmps) (h : AHeap) (k : KT), opsSpec l ck T h k = thenO (doOps c T h l) k
  | [], _, _, _ => rfl
  | o :: l, T, h, k => by
    simp only [opsSpec, doOps]
    rw [operSpec_ok hc]
    cases doOper c T h o with
    | none => rfl
    | some p => exact opsSpec_ok hc l p.1 p.2 k

theorem drawK_ok {ck : CallK} {c : Caller} (hc : CallOk ck c) : ∀ (l : List DOper) (T : Tmps) (h : AHeap) (hist : List AHeap) (k : KT), drawK ck l T h hist k = thenO (doDraw c T h hist l) k
  | [], _, _, _, _ => rfl
  | d :: l, T, h, hist, k => by
    show @Bool.rec (fun _ => Ans)
      (@Bool.rec (fun _ => Ans) (drawK ck l (putDst T d.o.dst undefA) h hist k)
        (resK (fun v h' => @Bool.rec (fun _ => Ans) none (drawK ck l (putDst T d.o.dst v) h' hist k) (drawOk T d.o.op v h hist d.lo && (AVal.elder h'.next v && freshOk h h'))) (evalOp T h d.o.op))
        (wantedA T d.o.guard))
      (runW (operC d.o) ck T h fun T' h' => @Bool.rec (fun _ => Ans) none (drawK ck l T' h' (h' :: hist) k) (Nat.ble h.next h'.next && swapOk T d))
      d.eff = _
    simp only [drawK_ok hc l]
    rw [operC_eq]
    rw [show ∀ f c T h k, runW (Wr.mk f) c T h k = f c T h k from fun _ _ _ _ _ => rfl, operSpec_ok hc]
    simp only [doDraw, boolRec]
    cases d.eff with
    | true =>
      simp only [if_true]
      cases doOper c T h d.o with
      | none => rfl
      | some p =>
        obtain ⟨T', h'⟩ := p
        simp only [thenO, bleN, Bool.and_eq_true, decide_eq_true_eq]
        split <;> rfl
    | false =>
      simp only [Bool.false_eq_true, if_false]
      split
      · rw [resK_eq]
        cases evalOp T h d.o.op with
        | none => rfl
        | some p =>
          obtain ⟨v, h'⟩ := p
          simp only [Bool.and_eq_true]
          split <;> rfl
      · rfl

theorem atK_eq (T : Tmps) (t : Nat) : atK T t = T.at t := by
  unfold atK Tmps.at
  rw [getK_eq]
  cases PT.get T t <;> rfl

theorem evK_eq (T : Tmps) (x : AOpd) : evK T x = T.eval x := by
  cases x with
  | tmp t => exact atK_eq T t
  | const v => rfl

theorem tmpsK_eq : ∀ (l : List AVal) (i : Nat) (T : Tmps), tmpsK l i T = tmpsOf l i T
  | [], _, _ => rfl
  | a :: l, i, T => by
    show tmpsK l (Nat.succ i) (setFK a (Nat.succ i) T i) = _
    rw [setFK_eq, tmpsK_eq l]
    rfl

theorem resultK_eq (T : Tmps) (h : AHeap) (r : Nat × Option (Bool × Nat)) (f : AVal → Ans) : resultK T h r f = match readResult T h r with | some v => f v | none => none := by
  obtain ⟨t, o⟩ := r
  cases o with
  | none => show f (atK T t) = _; rw [atK_eq]; rfl
  | some p =>
    obtain ⟨agg, n⟩ := p
    show vPtr (atK T t) (fun id off => rowK h id fun l => @Bool.rec (fun _ => Ans) (nthK l off f) (dropK off l fun l => takeK n l fun l => f (.agg l)) agg) = _
    rw [atK_eq, vPtr_eq]
    simp only [rowK_eq, takeDrop_eq, nthK_eq, readResult]
    cases T.at t with
    | ptr id off =>
      cases agg with
      | true =>
        simp only [fLoadN, if_true]
        cases h.row id with
        | none => rfl
        | some l => dsimp only; cases take? n off l <;> rfl
      | false =>
        simp only [fLoad1, Bool.false_eq_true, if_false]
        cases h.row id with
        | none => rfl
        | some l => dsimp only; cases l[off]? <;> rfl
    | _ => cases agg <;> rfl

theorem resultsL_eq (T : Tmps) (h : AHeap) : ∀ (l : List (Nat × Option (Bool × Nat))) (f : List AVal → Ans), resultsL T h l f = match readResults T h l with | some v => f v | none => none
  | [], _ => rfl
  | r :: l, f => by
    show resultK T h r (fun v => resultsL T h l fun vs => f (v :: vs)) = _
    rw [resultK_eq]
    simp only [resultsL_eq T h l, readResults]
    cases readResult T h r with
    | none => rfl
    | some v => dsimp only; cases readResults T h l <;> rfl

theorem resultsK_eq (T : Tmps) (h : AHeap) (l : List (Nat × Option (Bool × Nat))) (k : KV) : resultsK T h l k = match readResults T h l with | some vs => k (tupled vs) h | none => none := by
  unfold resultsK
  rw [resultsL_eq]
  cases readResults T h l with
  | none => rfl
  | some vs =>
    cases vs with
    | nil => rfl
    | cons v t => cases t <;> rfl

theorem enterFnK_ok {E : Env} {xk : ExecK} {x : Exec} (hx : ExecOk xk x) (f : Nat) (args : List AVal) (h : AHeap) (k : KV) : enterFnK E xk f args h k = resK k (enterFn E x f args h) := by
  unfold enterFnK enterFn
  cases E.fn f with
  | none => rfl
  | some fn =>
    obtain ⟨ntmps, body, results⟩ := fn
    show @Bool.rec (fun _ => Ans) none (xk body (tmpsK args 0 .leaf) h (fun T h => resultsK T h results k) (fun e T h => @AExit.rec (fun _ => Ans) (resultsK T h results k) (resultsK T h results k) (fun _ => none) e)) (Nat.ble (lenK args) ntmps) = _
    rw [boolRec, bleN, lenK_eq, tmpsK_eq, hx]
    simp only [decide_eq_true_eq]
    split
    · cases x body (tmpsOf args 0 .leaf) h with
      | none => rfl
      | some p =>
        obtain ⟨e, T, h⟩ := p
        cases e with
        | normal => simp only [thenX, if_true, AExit.stays, resultsK_eq]; cases readResults T h results <;> rfl
        | ret => simp only [thenX, AExit.stays, resultsK_eq]; cases readResults T h results <;> rfl
        | exit id => rfl
    · rfl

theorem roundOut_eq (l : Nat) (k : KV) (e : AExit) (h : AHeap) : roundOut l k e h = resK k (match h.get l with
    | some (.loop _ _ tmps params assign body) =>
      some (.bool (decide (e = .normal)), h.put l (.loop (if e = .normal then .ready else .done) e.pend tmps params assign body))
    | _ => none) := by
  unfold roundOut
  cases h.get l with
  | none => rfl
  | some o => cases o <;> rfl

theorem roundK_ok {xk : ExecK} {x : Exec} (hx : ExecOk xk x) (l : Nat) (args : List AVal) (h : AHeap) (k : KV) : roundK xk l args h k = resK k (roundA x l args h) := by
  unfold roundK roundA
  cases h.get l with
  | none => rfl
  | some o =>
    cases o with
    | loop st0 pend0 tmps params assign body0 =>
      show @Bool.rec (fun _ => Ans) none (xk assign (setAll tmps params args) h (fun T h => roundIn xk body0 l k T h) (fun e T h => @AExit.rec (fun _ => Ans) (roundIn xk body0 l k T h) none (fun _ => none) e)) (Nat.beq (lenK args) (lenK params)) = _
      rw [boolRec, beqN, lenK_eq, lenK_eq, hx]
      simp only [decide_eq_true_eq]
      by_cases hl : args.length = params.length
      · simp only [hl, if_true]
        cases x assign (setAll tmps params args) h with
        | none => rfl
        | some p =>
          obtain ⟨e, T, h⟩ := p
          cases e with
          | normal =>
            simp only [thenX, if_true, roundIn]
            cases h.get l with
            | none => rfl
            | some o =>
              cases o with
              | loop st pend tmps params assign body' =>
                cases st with
                | ready =>
                  simp only [if_true]
                  rw [hx]
                  cases x body0 T (h.put l (.loop .busy pend tmps params assign body')) with
                  | none => rfl
                  | some q =>
                    obtain ⟨e, T, h⟩ := q
                    simp only [thenX]
                    split
                    · rename_i he; subst he; rw [roundOut_eq]; rfl
                    · rename_i he; rw [roundOut_eq]; simp only [he, if_false]; rfl
                | _ => rfl
              | _ => rfl
          | ret => rfl
          | exit id => rfl
      · simp only [hl, if_false]; rfl
    | _ => rfl

theorem enterK_ok {E : Env} {xk : ExecK} {x : Exec} (hx : ExecOk xk x) (f : Nat) (args : List AVal) (h : AHeap) (k : KV) : enterK E xk f args h k = resK k (enterA E x f args h) := by
  unfold enterK enterA
  cases E.prim f with
  | none => exact enterFnK_ok hx f args h k
  | some p => rfl

theorem callK_ok {E : Env} {xk : ExecK} {x : Exec} (hx : ExecOk xk x) : CallOk (callK E xk) (callA E x) := by
  intro f args h k
  cases f with
  | fn f a b => exact enterK_ok hx _ _ _ _
  | yield l => exact roundK_ok hx _ _ _ _
  | _ => rfl

theorem pendK_eq (p : Pend) (T : Tmps) (h : AHeap) (k : KT) (kx : KX) : pendK p T h k kx = thenX (some (p.out, T, h)) k kx := by cases p <;> rfl

theorem rangeK_ok {E : Env} {xk : ExecK} {x : Exec} (hx : ExecOk xk x) (f : AVal) (params : List Nat) (assign body : ACode) (T : Tmps) (h : AHeap) (k : KT) (kx : KX) :
    rangeK E xk f params assign body T h k kx = thenX (rangeA E x f params assign body T h) k kx := by
  cases f with
  | fn f a b =>
    simp only [rangeK, rangeA]
    rw [enterFnK_ok hx, resK_eq]
    cases enterFn E x f (a ++ [.yield h.next] ++ b) (h.new (.loop .ready .none T params assign body)) with
    | none => rfl
    | some p =>
      obtain ⟨v, h'⟩ := p
      simp only [rangeOut]
      cases h'.get h.next with
      | none => rfl
      | some o =>
        cases o with
        | loop st pend _ _ _ _ =>
          cases st with
          | busy => rfl
          | ready => simp only [pendK_eq]; rfl
          | done => simp only [pendK_eq]; rfl
        | _ => rfl
  | _ => rfl

theorem vBool_eq (v : AVal) (f : Bool → Ans) : vBool v f = match v with | .bool b => f b | _ => none := by cases v <;> rfl

theorem stepC_ok {E : Env} {ck : CallK} {xk : ExecK} {x : Exec} (hc : CallOk ck (callA E x)) (hx : ExecOk xk x) : ExecOk (stepC E ck xk) (stepA E x) := by
  intro c T h k kx
  cases c with
  | skip => rfl
  | ops l =>
    show runW (opsC l) ck T h k = _
    rw [opsC_eq]
    show opsSpec l ck T h k = _
    rw [opsSpec_ok hc]
    simp only [stepA]
    cases doOps (callA E x) T h l <;> rfl
  | draw l =>
    show drawK ck l T h [h] k = _
    rw [drawK_ok hc]
    simp only [stepA]
    cases doDraw (callA E x) T h [h] l <;> rfl
  | seq a b =>
    show xk a T h (fun T h => xk b T h k kx) kx = _
    rw [hx]
    simp only [hx, stepA]
    cases x a T h with
    | none => rfl
    | some p =>
      obtain ⟨e, T, h⟩ := p
      by_cases he : e = .normal
      · simp only [thenX, he, if_true]; exact hx _ _ _ _ _
      · simp only [thenX, he, if_false]
  | cond c a b =>
    show vBool (evK T c) (fun t => @Bool.rec (fun _ => Ans) (xk b T h k kx) (xk a T h k kx) t) = _
    rw [evK_eq, vBool_eq]
    simp only [stepA]
    cases T.eval c with
    | bool t => cases t <;> exact hx _ _ _ _ _
    | _ => rfl
  | block id b =>
    show xk b T h k (blockX id k kx) = _
    rw [hx]
    simp only [stepA]
    cases x b T h with
    | none => rfl
    | some p =>
      obtain ⟨e, T, h⟩ := p
      cases e with
      | normal => rfl
      | ret => rfl
      | exit i =>
        show @Bool.rec (fun _ => Ans) (kx (.exit i) T h) (k T h) (Nat.beq i id) = _
        rw [boolRec, beqN]
        by_cases he : i = id
        · simp [he, thenX]
        · simp [he, thenX]
  | loop b =>
    show xk b T h (fun T h => xk (.loop b) T h k kx) kx = _
    rw [hx]
    simp only [hx, stepA]
    cases x b T h with
    | none => rfl
    | some p =>
      obtain ⟨e, T, h⟩ := p
      by_cases he : e = .normal
      · simp only [thenX, he, if_true]; exact hx _ _ _ _ _
      · simp only [thenX, he, if_false]
  | rangeFunc f params assign body =>
    show rangeK E xk (evK T f) params assign body T h k kx = _
    rw [evK_eq, rangeK_ok hx]
    rfl
  | exit id => rfl
  | ret => rfl
  | fail => rfl

theorem stepK_ok {E : Env} {xk : ExecK} {x : Exec} (hx : ExecOk xk x) : ExecOk (stepK E xk) (stepA E x) := stepC_ok (callK_ok hx) hx

theorem execK_ok (E : Env) : ∀ n, ExecOk (execK E n) (exec E n)
  | 0 => fun _ _ _ _ _ => rfl
  | n + 1 => stepK_ok (execK_ok E n)

/-- THE FORM THAT THE KERNEL RUNS SAYS WHAT THE MACHINE SAYS. -/
theorem runK_ok (E : Env) (n f : Nat) (args : List AVal) (h : AHeap) (k : KV) : runK E n f args h k = resK k (runF E n f args h) := enterK_ok (execK_ok E n) f args h k

/-- The run itself. -/
theorem runK_run (E : Env) (n f : Nat) (args : List AVal) (h : AHeap) : runK E n f args h (fun v h => some (v, h)) = runF E n f args h := by
  rw [runK_ok, resK_eq]
  cases runF E n f args h <;> rfl

theorem forceV_eq (v : AVal) (f : AVal → Ans) : forceV v f = f v := by cases v <;> rfl
theorem forceVs_eq : ∀ (l : List AVal) (f : List AVal → Ans), forceVs l f = f l
  | [], _ => rfl
  | a :: l, f => by
    show forceV a (fun a => forceVs l fun l => f (a :: l)) = _
    rw [forceV_eq, forceVs_eq l]
theorem forceH_eq (h : AHeap) (f : AHeap → Ans) : forceH h f = f h := by
  obtain ⟨n, t⟩ := h
  cases t <;> rfl

theorem callTop_ok (E : Env) (m : Nat) : CallOk (callTop E m) (callA E (exec E m)) := by
  intro f args h k
  unfold callTop
  rw [forceVs_eq, forceH_eq, callK_ok (execK_ok E m)]
  cases callA E (exec E m) f args h <;> rfl

theorem execTop_ok (E : Env) : ∀ n, ExecOk (execTop E n) (exec E n)
  | 0 => fun _ _ _ _ _ => rfl
  | n + 1 => stepC_ok (callTop_ok E n) (execTop_ok E n)

theorem runTop_ok {E : Env} {n f : Nat} {args : List AVal} {h : AHeap} {k : KV} (hp : E.prim f = none) : runTop E n f args h k = resK k (runF E n f args h) := by
  unfold runTop runF enterA
  rw [hp]
  exact enterFnK_ok (execTop_ok E n) f args h k
end Go.AM
