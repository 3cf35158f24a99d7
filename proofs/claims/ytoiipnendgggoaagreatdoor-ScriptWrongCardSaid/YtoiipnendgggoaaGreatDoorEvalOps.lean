/- A part of the proof of the claim of this folder (EvalOps). -/
import Derived.Test.YtoiipnendgggoaaGreatDoorEvalOk
set_option autoImplicit true
set_option relaxedAutoImplicit true
set_option linter.all false
set_option linter.deprecated false
set_option linter.unnecessarySimpa false
set_option linter.unusedSectionVars false
set_option linter.unusedSimpArgs false
set_option linter.unusedVariables false
namespace Go.AM

theorem genOp_plain {op : AOp} (h : (match op with | .call .. => false | .callv .. => false | _ => true) = true) : genOp op = fun _ T h k => resK k (evalOp T h op) := by
  funext c T hp k
  cases op <;> first | rfl | simp at h

abbrev ev (x : AOpd) : Tmps → AVal := fun T => T.eval x

theorem oMov_eq (x : AOpd) : oMov (ev x) = genOp (.mov x) := rfl
theorem oCall_eq (f : Nat) (l : List AOpd) : oCall f (fun T => l.map T.eval) = genOp (.call f l) := rfl
theorem oCallv_eq (x : AOpd) (l : List AOpd) : oCallv (ev x) (fun T => l.map T.eval) = genOp (.callv x l) := rfl

theorem oPick_eq (c a b : AOpd) : oPick (ev c) (ev a) (ev b) = genOp (.pick c a b) := by
  funext call T h k
  simp only [oPick, genOp, evalOp, ev]
  cases T.eval c <;> first | rfl | (rename_i t; cases t <;> rfl)

theorem oNew_eq (cells : List AVal) : oNew cells = genOp (.new cells) := by
  funext call T h k
  simp only [oNew, genOp, evalOp, newK_eq]
  rfl

theorem vCells_eq (v : AVal) (f : List AVal → Ans) : vCells v f = if v.whole = true then f v.cells else none := by cases v <;> rfl

theorem oBox_eq (n : Nat) (x : AOpd) : oBox n (ev x) = genOp (.box n x) := by
  funext call T h k
  simp only [oBox, genOp, evalOp, newK_eq, vCells_eq, lenK_eq, beqN, boolRec, decide_eq_true_eq, ev]
  by_cases h1 : (T.eval x).cells.length = n <;> by_cases h2 : (T.eval x).whole = true <;> simp [h1, h2, resK]

theorem vPtr_eq (v : AVal) (f : Nat → Nat → Ans) : vPtr v f = match v with | .ptr a b => f a b | _ => none := by cases v <;> rfl
theorem vInt_eq (v : AVal) (f : IntKind → Int → Ans) (g : Ans) : vInt v f g = match v with | .int a b => f a b | _ => g := by cases v <;> rfl

theorem oLoad1_eq (x : AOpd) : oLoad1 (ev x) = genOp (.load1 x) := by
  funext call T h k
  simp only [oLoad1, genOp, evalOp, rowK_eq, nthK_eq, ev]
  cases T.eval x with
  | ptr id off =>
    show (match h.row id with | some l => _ | none => none) = _
    simp only [fLoad1]
    cases h.row id with
    | none => rfl
    | some l => dsimp only; cases l[off]? <;> rfl
  | _ => rfl

theorem oLoadN_eq (n : Nat) (x : AOpd) : oLoadN n (ev x) = genOp (.loadN n x) := by
  funext call T h k
  simp only [oLoadN, genOp, evalOp, rowK_eq, takeDrop_eq, ev]
  cases T.eval x with
  | ptr id off =>
    show (match h.row id with | some l => _ | none => none) = _
    simp only [fLoadN]
    cases h.row id with
    | none => rfl
    | some l => dsimp only; cases take? n off l <;> rfl
  | _ => rfl

theorem oStore_eq (n : Nat) (x v : AOpd) : oStore n (ev x) (ev v) = genOp (.store n x v) := by
  funext call T h k
  simp only [oStore, genOp, evalOp, rowK_eq, splK_eq, vCells_eq, lenK_eq, beqN, boolRec, decide_eq_true_eq, ev, putK_eq]
  cases T.eval x with
  | ptr id off =>
    show (match h.row id with | some l => _ | none => none) = _
    simp only [fStore]
    cases h.row id with
    | none => rfl
    | some l =>
      by_cases h1 : (T.eval v).cells.length = n <;> by_cases h2 : (T.eval v).whole = true <;> simp only [h1, h2, if_true, and_self, and_false, false_and, if_false]
      · cases splice? l off (T.eval v).cells <;> rfl
      all_goals rfl
  | _ => rfl

theorem oNilCheck_eq (x : AOpd) : oNilCheck (ev x) = genOp (.nilCheck x) := by
  funext call T h k
  simp only [oNilCheck, genOp, evalOp, ev]
  cases T.eval x <;> rfl

theorem oAddOff_eq (n : Nat) (x : AOpd) : oAddOff n (ev x) = genOp (.addOff n x) := by
  funext call T h k
  simp only [oAddOff, genOp, evalOp, ev]
  cases T.eval x <;> rfl

theorem oConv_eq (j : IntKind) (x : AOpd) : oConv j (ev x) = genOp (.convInt j x) := by
  funext call T h k
  simp only [oConv, genOp, evalOp, ev]
  cases T.eval x <;> rfl

theorem oUn_eq (op : UnOp) (x : AOpd) : oUn op (ev x) = genOp (.un op x) := by
  funext call T h k
  simp only [oUn, genOp, evalOp, ev]
  cases op with
  | not =>
    cases T.eval x with
    | bool b => cases b <;> rfl
    | _ => rfl
  | _ => exact optK_eq _ _ _

theorem oExtract_eq (x : AOpd) (n : Nat) : oExtract (ev x) n = genOp (.extract x n) := by
  funext call T h k
  simp only [oExtract, genOp, evalOp, nthK_eq, ev]
  cases T.eval x with
  | tup l => simp only [fExtract, vTup]; cases l[n]? <;> rfl
  | _ => rfl

theorem intK_eq (i : Int) (f : Nat → Ans) : intK i f = if 0 ≤ i then f i.toNat else none := by
  cases i with
  | ofNat n => rfl
  | negSucc n => rfl

theorem oIdxAddrSl_eq (size : Nat) (x i : AOpd) : oIdxAddrSl size (ev x) (ev i) = genOp (.idxAddrSl size x i) := by
  funext call T h k
  simp only [oIdxAddrSl, genOp, evalOp, ev, intK_eq, boolRec, bleN, decide_eq_true_eq]
  cases T.eval x with
  | slice id off len lo e s =>
    cases T.eval i with
    | int kk n =>
      show (if 0 ≤ n then if Nat.succ n.toNat ≤ len then k (.ptr id (off + n.toNat * size)) h else none else none) = resK k (pureR h ((idx? (.int kk n) len).map fun i => .ptr id (off + i * size)))
      simp only [idx?]
      by_cases h0 : 0 ≤ n
      · by_cases h1 : n.toNat + 1 ≤ len
        · rw [if_pos h0, if_pos h1, if_pos ⟨h0, by omega⟩]; rfl
        · rw [if_pos h0, if_neg h1, if_neg (by omega)]; rfl
      · rw [if_neg h0, if_neg (by omega)]; rfl
    | _ => rfl
  | _ => rfl

theorem oIdxStr_eq (x i : AOpd) : oIdxStr (ev x) (ev i) = genOp (.idxStr x i) := by
  funext call T h k
  simp only [oIdxStr, genOp, evalOp, ev, intK_eq, nthK_eq]
  cases T.eval x with
  | str s =>
    cases T.eval i with
    | int kk n =>
      simp only [fIdxStr, vStr, vInt]
      by_cases h0 : 0 ≤ n
      · simp only [h0, if_true]; cases s[n.toNat]? <;> rfl
      · simp only [h0, if_false]; rfl
    | _ => rfl
  | _ => rfl

theorem oLen_eq (lk : LK) (x : AOpd) : oLen lk (ev x) = genOp (.len lk x) := by
  funext call T h k
  simp only [oLen, genOp, evalOp, ev, lenK_eq, optK_eq]
  cases lk with
  | s => cases T.eval x <;> rfl
  | l => cases T.eval x <;> rfl
  | m => rfl

theorem kindN_i64 {k : IntKind} (h : Nat.beq (kindN k) 3 = true) : k = .i64 := by cases k <;> first | rfl | (exact absurd h (by decide))

theorem bothK_eq {x y : AVal} {f : Nat → Nat → Ans} {g : Ans} (h : ∀ a b : Nat, x = .int .i64 a → y = .int .i64 b → f a b = g) : bothK x y f g = g := by
  unfold bothK
  rw [vInt_eq]
  split
  · rename_i k a
    rw [vInt_eq]
    split
    · rename_i k' b
      cases h1 : Nat.beq (kindN k) 3 <;> cases h2 : Nat.beq (kindN k') 3 <;> try rfl
      cases a with
      | ofNat a =>
        cases b with
        | ofNat b => exact h a b (by rw [kindN_i64 h1]; rfl) (by rw [kindN_i64 h2]; rfl)
        | negSucc b => rfl
      | negSucc a => rfl
    · rfl
  · rfl

theorem oBin_eq (op : BinOp) (x y : AOpd) : oBin op (ev x) (ev y) = genOp (.bin op x y) := by
  funext call T h k
  simp only [oBin, genOp, evalOp, ev, optK_eq]

theorem wrap_small {a : Nat} (h : a ≤ 9223372036854775807) : IntKind.wrap .i64 (a : Int) = a := by
  have e : ((a : Int) % (2 ^ 64 : Int)) = a := by omega
  have e2 : ¬ ((a : Int) ≥ (2 ^ 63 : Int)) := by omega
  simp only [IntKind.wrap, IntKind.bits, IntKind.signed, Bool.true_and, e, decide_eq_true_eq, show (64 - 1 : Nat) = 63 from rfl]
  rw [if_neg e2]

theorem oAdd_eq (x y : AOpd) : oAdd (ev x) (ev y) = genOp (.bin .add x y) := by
  rw [← oBin_eq]
  funext call T h k
  unfold oAdd
  refine bothK_eq fun a b hx hy => ?_
  rw [boolRec, bleN]
  split
  · rename_i hle
    simp only [oBin]
    rw [hx, hy]
    simp only [binA, isShift, intBin, Bool.false_eq_true, if_false, if_true]
    rw [show ((a : Int) + (b : Int)) = ((Nat.add a b : Nat) : Int) by simp, wrap_small (by simpa using hle)]
    rfl
  · rfl

theorem oCmp_eq (op : BinOp) (f : Nat → Nat → Bool) (x y : AOpd) (hf : ∀ a b : Nat, binA op (.int .i64 a) (.int .i64 b) = some (.bool (f a b))) : oCmp op f (ev x) (ev y) = genOp (.bin op x y) := by
  rw [← oBin_eq]
  funext call T h k
  unfold oCmp
  refine bothK_eq fun a b hx hy => ?_
  simp only [oBin]
  rw [hx, hy, hf]
  rfl

theorem binC_eq (op : BinOp) (x y : AOpd) (κ : OpK → Wr) : binC op (ev x) (ev y) κ = κ (genOp (.bin op x y)) := by
  cases op
  case add => exact congrArg κ (oAdd_eq x y)
  case eql => exact congrArg κ (oCmp_eq _ _ x y fun a b => by simp [binA, isShift, intBin, beqN, Int.ofNat_inj])
  case neq => exact congrArg κ (oCmp_eq _ _ x y fun a b => by simp [binA, isShift, intBin, beqN, notK_eq, Int.ofNat_inj])
  case lss => exact congrArg κ (oCmp_eq _ _ x y fun a b => by simp [binA, isShift, intBin, bleN, Nat.succ_le_iff])
  case leq => exact congrArg κ (oCmp_eq _ _ x y fun a b => by simp [binA, isShift, intBin, bleN])
  case gtr => exact congrArg κ (oCmp_eq _ _ x y fun a b => by simp [binA, isShift, intBin, bleN, Nat.succ_le_iff])
  case geq => exact congrArg κ (oCmp_eq _ _ x y fun a b => by simp [binA, isShift, intBin, bleN])
  all_goals exact congrArg κ (oBin_eq _ x y)

theorem eqC_eq (k : EqK) (neg : Bool) (x y : AOpd) (κ : OpK → Wr) : eqC k neg x y κ = κ (genOp (.eq k neg x y)) := by
  cases k with
  | iface =>
    cases y with
    | tmp t => rfl
    | const v =>
      cases v with
      | niliface =>
        show opdC x (fun x => κ (oEqNil neg x)) = _
        rw [opdC_eq]
        congr 1
        funext call T h k
        simp only [oEqNil, genOp, evalOp, eqA, show (x.isConst || (AOpd.const AVal.niliface).isConst) = true from by cases x <;> rfl]
        show _ = resK k (pureR h ((eqIface (T.eval x) .niliface true).map _))
        generalize T.eval x = v
        cases v <;> cases neg <;> rfl
      | _ => rfl
  | _ => rfl

theorem opC_eq (op : AOp) (κ : OpK → Wr) : opC op κ = κ (genOp op) := by
  cases op <;> try rfl
  case mov x => show opdC x _ = _; rw [opdC_eq]; rfl
  case pick c a b => show opdC c _ = _; rw [opdC_eq, opdC_eq, opdC_eq, ← oPick_eq]
  case new cells => exact congrArg κ (oNew_eq cells)
  case box n x => show opdC x _ = _; rw [opdC_eq, ← oBox_eq]
  case load1 x => show opdC x _ = _; rw [opdC_eq, ← oLoad1_eq]
  case loadN n x => show opdC x _ = _; rw [opdC_eq, ← oLoadN_eq]
  case store n x v => show opdC x _ = _; rw [opdC_eq, opdC_eq, ← oStore_eq]
  case nilCheck x => show opdC x _ = _; rw [opdC_eq, ← oNilCheck_eq]
  case bin op x y => show opdC x _ = _; rw [opdC_eq, opdC_eq]; exact binC_eq op x y κ
  case eq k neg x y => exact eqC_eq k neg x y κ
  case un op x => show opdC x _ = _; rw [opdC_eq, ← oUn_eq]
  case convInt k x => show opdC x _ = _; rw [opdC_eq, ← oConv_eq]
  case addOff k x => show opdC x _ = _; rw [opdC_eq, ← oAddOff_eq]
  case idxAddrSl s x i => show opdC x _ = _; rw [opdC_eq, opdC_eq, ← oIdxAddrSl_eq]
  case idxStr x i => show opdC x _ = _; rw [opdC_eq, opdC_eq, ← oIdxStr_eq]
  case extract x k => show opdC x _ = _; rw [opdC_eq, ← oExtract_eq]
  case call f l => show opdsC l _ = _; rw [opdsC_eq]; rfl
  case callv x l => show opdC x _ = _; rw [opdC_eq, opdsC_eq]; rfl
  case len k x => show opdC x _ = _; rw [opdC_eq, ← oLen_eq]
end Go.AM
