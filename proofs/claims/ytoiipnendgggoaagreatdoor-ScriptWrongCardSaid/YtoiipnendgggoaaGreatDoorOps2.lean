/- A part of the proof of the claim of this folder (Ops2). -/
import Derived.Test.YtoiipnendgggoaaGreatDoorOps1
import Derived.Laws.StructEq
set_option autoImplicit true
set_option relaxedAutoImplicit true
set_option linter.all false
set_option linter.deprecated false
set_option linter.unnecessarySimpa false
set_option linter.unusedSectionVars false
set_option linter.unusedSimpArgs false
set_option linter.unusedVariables false
/-! Operations: arithmetic, texts, equality. -/
namespace Go.AM
variable [G : Ground]
variable {P : Program} {μ : Mu} {H H' : AHeap} {w : World} {T : Tmps} {a : Act} {v : AVal} {o : Oper}

theorem run_eqGuard_int (op : BinOp) (t : TypeId) (x y : Operand) (k k' : IntKind) (m n : Int) (w : World) : (eqGuard op t x y (.int k m) (.int k' n)).run P w = .ok () w := by
  cases op <;> simp [eqGuard]
theorem run_eqGuard_str (op : BinOp) (t : TypeId) (x y : Operand) (m n : ByteArray) (w : World) : (eqGuard op t x y (.string m) (.string n)).run P w = .ok () w := by
  cases op <;> simp [eqGuard]

theorem run_intBin {op : BinOp} {t : TypeId} {k : IntKind} {m n : Int} (hs : isShift op = false) (h : intBin op k m n = some v) :
    ∃ cv, (binOp op t (.int k m) (.int k n)).run P w = .ok cv w ∧ VR μ v cv := by
  cases op <;> simp only [intBin, isShift, Option.some.injEq, reduceCtorEq] at h hs
  case quo =>
    split at h <;> simp at h
    subst h
    rename_i h0
    exact ⟨_, by simp [binOp, Op.intDiv, h0], .int _ _⟩
  case rem =>
    split at h <;> simp at h
    subst h
    rename_i h0
    exact ⟨_, by simp [binOp, Op.intDiv, h0], .int _ _⟩
  all_goals (first | contradiction | skip)
  all_goals (subst h)
  all_goals first
    | exact ⟨_, by simp [binOp, Op.intArith]; rfl, .int _ _⟩
    | exact ⟨_, by simp [binOp, Op.intBits]; rfl, .int _ _⟩
    | exact ⟨_, by simp [binOp, Op.intBits], .int _ _⟩
    | exact ⟨_, by simp [binOp, Op.intArith], .int _ _⟩
    | (refine ⟨_, by simp only [binOp, Op.intCmp]; simp; rfl, ?_⟩; exact .bool _)
    | (refine ⟨.bool _, by simp [binOp, Op.intCmp]; rfl, ?_⟩; simp [beq_iff_eq]; constructor)

theorem run_shiftBin {op : BinOp} {t : TypeId} {k k' : IntKind} {m n : Int} (hs : isShift op = true) (h : shiftBin op k m n = some v) :
    ∃ cv, (binOp op t (.int k m) (.int k' n)).run P w = .ok cv w ∧ VR μ v cv := by
  unfold shiftBin at h
  split at h
  · simp at h
  · rename_i h0
    cases op <;> simp [isShift] at hs <;> simp at h <;> subst h
    · exact ⟨_, by simp [binOp, Op.shift, h0], .int _ _⟩
    · exact ⟨_, by simp [binOp, Op.shift, h0], .int _ _⟩

theorem bytesLt_eq : ∀ (x y : List UInt8), bytesLt (x.map UInt8.toNat) (y.map UInt8.toNat) = Op.bytesLess x y
  | [], [] => rfl
  | _ :: _, [] => rfl
  | [], _ :: _ => rfl
  | a :: x, b :: y => by
    have ih := bytesLt_eq x y
    simp only [List.map_cons, bytesLt, Op.bytesLess, ih]
    by_cases h : a < b
    · simp [h, UInt8.lt_iff_toNat_lt.1 h]
    · have h1 : ¬ a.toNat < b.toNat := fun h' => h (UInt8.lt_iff_toNat_lt.2 h')
      by_cases e : a = b
      · subst e; simp [h, h1]
      · have e' : a.toNat ≠ b.toNat := fun h' => e (UInt8.toNat_inj.1 h')
        simp [h, h1, e, e']

theorem map_toNat_inj {x y : List UInt8} : (x.map UInt8.toNat = y.map UInt8.toNat) ↔ x = y := by
  constructor
  · intro h
    induction x generalizing y with
    | nil => cases y <;> simp_all
    | cons a x ih =>
      cases y with
      | nil => simp at h
      | cons b y =>
        simp only [List.map_cons, List.cons.injEq] at h
        rw [UInt8.toNat_inj.1 h.1, ih h.2]
  · rintro rfl; rfl

theorem run_strBin {op : BinOp} {t : TypeId} {x y : ByteArray} (h : strBin op (x.data.toList.map UInt8.toNat) (y.data.toList.map UInt8.toNat) = some v) :
    ∃ cv, (binOp op t (.string x) (.string y)).run P w = .ok cv w ∧ VR μ v cv := by
  have hl := bytesLt_eq x.data.toList y.data.toList
  have he : decide (x.data.toList.map UInt8.toNat = y.data.toList.map UInt8.toNat) = (x.data.toList == y.data.toList) := by
    rw [Bool.eq_iff_iff]; simp [map_toNat_inj]
  have hb : ∀ b : Bool, VR μ (.bool b) (.bool b) := fun b => .bool b
  have hrun : (binOp op t (.string x) (.string y)).run P w = (Op.stringOp op x y).run P w := by
    cases op <;> simp [binOp]
  rw [hrun]
  unfold strBin at h
  cases op <;> simp only [Option.some.injEq, reduceCtorEq, he, hl] at h
  case add =>
    split at h <;> simp at h
    subst h
    rename_i hlt
    refine ⟨.string (x ++ y), ?_, .str _ _ (by simp)⟩
    have hsz : ¬ (IntKind.i64.max < (((x.size + y.size : Nat)) : Int)) := by
      simp only [List.length_map, Array.length_toList] at hlt
      have e1 : x.data.size = x.size := rfl
      have e2 : y.data.size = y.size := rfl
      rw [e1, e2] at hlt
      have : IntKind.i64.max = 9223372036854775807 := by decide
      rw [this]
      omega
    have hsz' : ¬ (((x.size + y.size : Nat) : Int) > IntKind.i64.max) := hsz
    simp only [Op.stringOp]
    rw [if_neg hsz']
    rfl
  all_goals (subst h)
  all_goals first
    | (refine ⟨.bool _, by simp only [Op.stringOp, ByteArray.toList_eq]; rfl, ?_⟩; exact hb _)

theorem sim_bin (hT : TR μ T a.tmps) (hH : HR P μ H w) {op : BinOp} {t t' : TypeId} {x y : Operand} {x' y' : AOpd} (ho : o.op = .binOp op t x y t') (hx : opdA x = some x') (hy : opdA y = some y')
    (he : evalOp T H (.bin op x' y') = some (v, H')) : Quiet P μ w ((execOp a.eval o).run P w) v H H' := by
  have hv := hT.eval hx
  have hu := hT.eval hy
  refine .pure hH (x := binA op (T.eval x') (T.eval y')) (by simpa [evalOp] using he) fun hl => ?_
  unfold binA at hl
  split at hl
  · rename_i k m k' n h1 h2
    rw [h1] at hv
    rw [h2] at hu
    have hv := hv.int_inv
    have hu := hu.int_inv
    split at hl
    · rename_i hs
      obtain ⟨cv, h3, h4⟩ := run_shiftBin (P := P) (w := w) (t := t) (k' := k') (μ := μ) hs hl
      exact ⟨cv, by simp [execOp, ho, hv, hu, run_eqGuard_int, h3], h4⟩
    · rename_i hs
      split at hl
      · rename_i hk
        subst hk
        obtain ⟨cv, h3, h4⟩ := run_intBin (P := P) (w := w) (t := t) (μ := μ) (by simpa using hs) hl
        exact ⟨cv, by simp [execOp, ho, hv, hu, run_eqGuard_int, h3], h4⟩
      · simp at hl
  · rename_i m n h1 h2
    rw [h1] at hv
    rw [h2] at hu
    obtain ⟨s1, hv2, rfl⟩ := hv.str_inv
    obtain ⟨s2, hu2, rfl⟩ := hu.str_inv
    obtain ⟨cv, h3, h4⟩ := run_strBin (P := P) (w := w) (t := t) (μ := μ) hl
    exact ⟨cv, by simp [execOp, ho, hv2, hu2, run_eqGuard_str, h3], h4⟩
  · simp at hl

theorem sim_un (hT : TR μ T a.tmps) (hH : HR P μ H w) {op : UnOp} {t : TypeId} {x : Operand} {x' : AOpd} (ho : o.op = .unOp op t x) (hx : opdA x = some x')
    (he : evalOp T H (.un op x') = some (v, H')) : Quiet P μ w ((execOp a.eval o).run P w) v H H' := by
  have hv := hT.eval hx
  refine .pure hH (x := fUn op (T.eval x')) (by simpa [evalOp] using he) fun hl => ?_
  unfold fUn at hl
  split at hl
  · rename_i b h1
    rw [h1] at hv
    have hv := hv.bool_inv
    simp at hl; subst hl
    exact ⟨.bool (!b), by simp [execOp, ho, hv, Op.unary], .bool _⟩
  · rename_i k n h1
    rw [h1] at hv
    have hv := hv.int_inv
    simp only [Option.some.injEq] at hl; subst hl
    exact ⟨.int k (k.wrap (0 - n)), by simp [execOp, ho, hv, Op.unary, Op.intArith], .int _ _⟩
  · rename_i k n h1
    rw [h1] at hv
    have hv := hv.int_inv
    simp only [intBin, Option.some.injEq] at hl; subst hl
    exact ⟨_, by simp [execOp, ho, hv, Op.unary, Op.intBits], .int _ _⟩
  · simp at hl

/-! ### Equality -/

theorem plainEqs_append : ∀ {ks js : List SK} {x y u z : List AVal} {r : Bool}, x.length = ks.length → y.length = ks.length → plainEqs (ks ++ js) (x ++ u) (y ++ z) = some r →
    ∃ r1, plainEqs ks x y = some r1 ∧ (if r1 then plainEqs js u z = some r else r = false)
  | [], js, [], [], u, z, r, _, _, h => ⟨true, rfl, by simpa using h⟩
  | [], _, _ :: _, _, _, _, _, h, _, _ => by simp at h
  | [], _, [], _ :: _, _, _, _, _, h, _ => by simp at h
  | _ :: _, _, [], _, _, _, _, h, _, _ => by simp at h
  | _ :: _, _, _ :: _, [], _, _, _, _, h, _ => by simp at h
  | k :: ks, js, a :: x, b :: y, u, z, r, hl, hl', h => by
    simp only [List.cons_append, plainEqs] at h ⊢
    cases hp : plainEq k a b with
    | none => simp [hp] at h
    | some q =>
      cases q
      · simp [hp] at h; exact ⟨false, by simp, by simp [h]⟩
      · simp only [hp] at h
        obtain ⟨r1, h1, h2⟩ := plainEqs_append (by simpa using hl) (by simpa using hl') h
        exact ⟨r1, by simp [h1], h2⟩

/-- What equalIn tells of values of a type with such cells. -/
def EqSim (P : Program) (μ : Mu) (w : World) (d : Nat) (t : TypeId) (ks : List SK) : Prop :=
  ∀ (x y : List AVal) (u z : List Value) (r : Bool), VRs μ x u → VRs μ y z → x.length = ks.length → y.length = ks.length → plainEqs ks x y = some r →
    (aggA P t = some true ∧ ∀ D, d ≤ D → (Op.equalIn D t (.agg ⟨u⟩) (.agg ⟨z⟩)).run P w = .ok r w) ∨
    (aggA P t = some false ∧ ∃ u0 z0, u = [u0] ∧ z = [z0] ∧ ∀ D, d ≤ D → (Op.equalIn D t u0 z0).run P w = .ok r w)

theorem eqSim_scalar {d : Nat} {t : TypeId} {k : SK} {dd : TypeDesc} (hd : P.underlying t = some dd) (hk : (k = .b ∧ dd = .bool) ∨ (k = .i ∧ ∃ j, dd = .int j) ∨ (k = .s ∧ dd = .string)) :
    EqSim P μ w (d + 1) t [k] := by
  intro x y u z r hu hz hx hy h
  right
  have hg : aggA P t = some false := by
    simp only [aggA, hd, Option.map_some]
    rcases hk with ⟨_, rfl⟩ | ⟨_, j, rfl⟩ | ⟨_, rfl⟩ <;> rfl
  refine ⟨hg, ?_⟩
  cases hu with
  | nil => simp at hx
  | cons x0 x1 u0 u1 h0 h1 =>
    cases hz with
    | nil => simp at hy
    | cons y0 y1 z0 z1 g0 g1 =>
      have e1 : x1 = [] := by simpa using hx
      have e2 : y1 = [] := by simpa using hy
      subst e1; subst e2
      have e3 := h1.nil_inv
      have e4 := g1.nil_inv
      subst e3; subst e4
      refine ⟨u0, z0, rfl, rfl, fun D hD => ?_⟩
      obtain ⟨D, rfl⟩ : ∃ m, D = m + 1 := ⟨D - 1, by omega⟩
      simp only [plainEqs] at h
      have hp : plainEq k x0 y0 = some r := by
        cases hq : plainEq k x0 y0 with
        | none => simp [hq] at h
        | some q => cases q <;> simp [hq] at h <;> simp [h]
      unfold plainEq at hp
      split at hp
      · rename_i p q
        have h0 := h0.bool_inv
        have g0 := g0.bool_inv
        subst h0; subst g0
        simp at hp
        have hb : dd = .bool := by simpa using hk
        subst hb
        rw [run_equalIn_bool' _ _ _ _ _ hd, hp]
      · rename_i k1 p k2 q
        split at hp <;> simp at hp
        rename_i hkk
        have h0 := h0.int_inv
        have g0 := g0.int_inv
        subst h0; subst g0; subst hkk
        have hb : ∃ j, dd = .int j := by simpa using hk
        obtain ⟨j, rfl⟩ := hb
        rw [run_equalIn_int _ _ _ _ _ _ _ hd]
        congr 1
      · rename_i p q
        obtain ⟨s1, rfl, rfl⟩ := h0.str_inv
        obtain ⟨s2, rfl, rfl⟩ := g0.str_inv
        simp at hp
        have hb : dd = .string := by simpa using hk
        subst hb
        rw [run_equalIn_string _ _ _ _ _ hd, ByteArray.toList_eq, ByteArray.toList_eq]
        congr 1
        rw [← hp, Bool.eq_iff_iff]; simp [map_toNat_inj]
      · simp at hp

theorem eqSim_fields {d : Nat} {deep : TypeId → Option (List SK)} (hdeep : ∀ t ks, deep t = some ks → EqSim P μ w d t ks) (x y : List AVal) (u z : List Value) (hu : VRs μ x u) (hz : VRs μ y z) :
    ∀ (l : List Field) (off : Nat) (ks : List SK) (r : Bool), kindsFields P deep off l = some ks → x.length = off + ks.length → y.length = off + ks.length → plainEqs ks (x.drop off) (y.drop off) = some r →
      ∀ D, d ≤ D → (Op.eqFields D ⟨u⟩ ⟨z⟩ l).run P w = .ok r w
  | [], off, ks, r, hk, hx, hy, h, D, hD => by
    simp [kindsFields] at hk
    subst hk
    have e1 : x.drop off = [] := by simp at hx ⊢; omega
    have e2 : y.drop off = [] := by simp at hy ⊢; omega
    rw [e1, e2] at h
    simp [plainEqs] at h
    subst h
    simp [Op.eqFields]
  | f :: l, off, ks, r, hk, hx, hy, h, D, hD => by
    unfold kindsFields at hk
    split at hk
    · rename_i hc
      obtain ⟨hoff, hname⟩ := hc
      split at hk
      · rename_i k1 hk1
        split at hk
        · rename_i hsz
          split at hk
          · rename_i k2 hk2
            simp at hk
            subst hk
            simp at hx hy
            have ex : x.drop off = (x.drop off).take k1.length ++ x.drop (off + k1.length) := by rw [← List.drop_drop]; exact (List.take_append_drop _ _).symm
            have ey : y.drop off = (y.drop off).take k1.length ++ y.drop (off + k1.length) := by rw [← List.drop_drop]; exact (List.take_append_drop _ _).symm
            rw [ex, ey] at h
            obtain ⟨r1, h1, h2⟩ := plainEqs_append (by simp; omega) (by simp; omega) h
            have hr := hdeep f.type k1 hk1 _ _ _ _ r1 ((hu.drop off).take k1.length) ((hz.drop off).take k1.length) (by simp; omega) (by simp; omega) h1
            have rest : ∀ r', r1 = true → plainEqs k2 (x.drop (off + k1.length)) (y.drop (off + k1.length)) = some r' → (Op.eqFields D ⟨u⟩ ⟨z⟩ l).run P w = .ok r' w := fun r' _ h' =>
              eqSim_fields hdeep x y u z hu hz l (off + k1.length) k2 r' hk2 (by omega) (by omega) h' D hD
            have fin : ∀ (p q : Value), (part f.type ⟨u⟩ f.offset).run P w = .ok p w → (part f.type ⟨z⟩ f.offset).run P w = .ok q w → (Op.equalIn D f.type p q).run P w = .ok r1 w →
                (Op.eqFields D ⟨u⟩ ⟨z⟩ (f :: l)).run P w = .ok r w := by
              intro p q hp hq he
              simp only [Op.eqFields, if_pos hname, Sem.run_bind, hp, hq, he, Result.andThen_ok]
              cases r1
              · simp at h2; subst h2; simp
              · simp at h2; simpa using rest r rfl h2
            rcases hr with ⟨hg, hr⟩ | ⟨hg, u0, z0, hu0, hz0, hr⟩
            · refine fin (.agg ⟨(u.drop off).take k1.length⟩) (.agg ⟨(z.drop off).take k1.length⟩) ?_ ?_ (hr D hD)
              · simp [part, run_isAggA hg, run_sizeOfA hsz, hoff]
              · simp [part, run_isAggA hg, run_sizeOfA hsz, hoff]
            · refine fin u0 z0 ?_ ?_ (hr D hD)
              · have : u[off]? = some u0 := by
                  have := congrArg (fun l => l[0]?) hu0
                  have h1 : 0 < k1.length := by
                    have := congrArg List.length hu0
                    simp at this; omega
                  simpa [List.getElem?_take, h1] using this
                simp [part, run_isAggA hg, hoff, this]
              · have : z[off]? = some z0 := by
                  have := congrArg (fun l => l[0]?) hz0
                  have h1 : 0 < k1.length := by
                    have := congrArg List.length hz0
                    simp at this; omega
                  simpa [List.getElem?_take, h1] using this
                simp [part, run_isAggA hg, hoff, this]
          · simp at hk
        · simp at hk
      · simp at hk
    · simp at hk

theorem eqSim : ∀ (d : Nat) (t : TypeId) (ks : List SK), kindsA P d t = some ks → EqSim P μ w d t ks
  | 0, _, _, h => by simp [kindsA] at h
  | d + 1, t, ks, h => by
    unfold kindsA at h
    split at h
    · rename_i hd; simp at h; subst h; exact eqSim_scalar hd (.inl ⟨rfl, rfl⟩)
    · rename_i j hd; simp at h; subst h; exact eqSim_scalar hd (.inr (.inl ⟨rfl, j, rfl⟩))
    · rename_i hd; simp at h; subst h; exact eqSim_scalar hd (.inr (.inr ⟨rfl, rfl⟩))
    · rename_i fs hd
      split at h
      · simp at h
      · rename_i hst
        intro x y u z r hu hz hx hy he
        refine .inl ⟨by simp [aggA, hd, isAggD], fun D hD => ?_⟩
        obtain ⟨D, rfl⟩ : ∃ m, D = m + 1 := ⟨D - 1, by omega⟩
        have hfs : P.fieldsOf t = fs := by simp [Program.fieldsOf, hd]
        rw [run_equalIn_struct w D t _ _ (by rw [hfs]; exact hd) (by simpa using hst), hfs]
        exact eqSim_fields (fun t' ks' h' => eqSim d t' ks' h') x y u z hu hz fs.toList 0 ks r h (by simpa using hx) (by simpa using hy) (by simpa using he) D (by omega)
    · simp at h

theorem run_eq_other {op : BinOp} {neg : Bool} (hop : isEq op = some neg) {t : TypeId} {u z : Value} {r : Bool} (hne : ¬ ((∃ k m k' n, u = .int k m ∧ z = .int k' n) ∨ (∃ s s', u = .string s ∧ z = .string s') ∨
    (∃ k m k' n, u = .float k m ∧ z = .float k' n) ∨ (∃ k m m' k' n n', u = .complex k m m' ∧ z = .complex k' n n'))) (h : (Op.equal t u z).run P w = .ok r w) :
    (binOp op t u z).run P w = .ok (.bool (if neg then !r else r)) w := by
  cases op <;> simp [isEq] at hop <;> subst hop
  all_goals
    cases u <;> cases z <;> first
      | (simp [binOp, h]; done)
      | (exfalso; apply hne; simp; done)
      | simp [binOp, h]

theorem run_eqGuard_other (op : BinOp) (t : TypeId) (x y : Operand) {u z : Value} (hi : ¬ (u = .nilIface ∧ z = .nilIface)) (ha : ¬ (∃ a b, u = .agg a ∧ z = .agg b)) : (eqGuard op t x y u z).run P w = .ok () w := by
  have e : eqGuard op t x y u z = pure () := by
    unfold eqGuard
    cases op <;> simp <;> (cases u <;> cases z <;> simp_all)
  rw [e]; rfl

theorem run_equal_of {t : TypeId} {u z : Value} {r : Bool} (h : ∀ d, (Op.equalIn (d + 1) t u z).run P w = .ok r w) : (Op.equal t u z).run P w = .ok r w := h 9999

theorem sim_eq (hT : TR μ T a.tmps) (hH : HR P μ H w) {op : BinOp} {neg : Bool} (hop : isEq op = some neg) {t t' : TypeId} {k : EqK} {x y : Operand} {x' y' : AOpd} (ho : o.op = .binOp op t x y t')
    (hx : opdA x = some x') (hy : opdA y = some y') (hk : eqKind P t = some k)
    (he : evalOp T H (.eq k neg x' y') = some (v, H')) : Quiet P μ w ((execOp a.eval o).run P w) v H H' := by
  have hv := hT.eval hx
  have hu := hT.eval hy
  refine .pure hH (x := (eqA k (T.eval x') (T.eval y') (x'.isConst || y'.isConst)).map fun b => .bool (if neg then !b else b)) (by simpa [evalOp] using he) fun hl => ?_
  simp only [Option.map_eq_some_iff] at hl
  obtain ⟨r, hr, rfl⟩ := hl
  refine ⟨.bool (if neg then !r else r), ?_, .bool _⟩
  have fin : (eqGuard op t x y (a.eval x) (a.eval y)).run P w = .ok () w → (binOp op t (a.eval x) (a.eval y)).run P w = .ok (.bool (if neg then !r else r)) w →
      (execOp a.eval o).run P w = .ok (.value (.bool (if neg then !r else r))) w := by
    intro h1 h2
    simp [execOp, ho, h1, h2]
  have lit : ∀ {x : Operand} {x' : AOpd}, opdA x = some x' → T.eval x' = .niliface → x'.isConst = true → ∃ c, x = .const c := by
    intro x x' hx he hc
    cases x with
    | const c => exact ⟨c, rfl⟩
    | tmp s => simp [opdA] at hx; subst hx; simp [AOpd.isConst] at hc
    | global g => simp [opdA] at hx
    | func f => simp [opdA] at hx; subst hx; simp [Tmps.eval] at he
  clear he
  unfold eqKind at hk
  split at hk
  · rename_i ms hd
    simp at hk; subst hk
    simp only [eqA] at hr
    unfold eqIface at hr
    split at hr
    · rename_i h1 h2
      rw [h1] at hv
      rw [h2] at hu
      have hv := hv.niliface_inv
      have hu := hu.niliface_inv
      split at hr <;> simp at hr
      rename_i hc
      subst hr
      refine fin ?_ ?_
      · rw [hv, hu]
        have hcc : (∃ c, x = .const c) ∨ (∃ c, y = .const c) := by
          simp at hc
          rcases hc with hc | hc
          · exact .inl (lit hx h1 hc)
          · exact .inr (lit hy h2 hc)
        have : eqGuard op t x y .nilIface .nilIface = pure () := by
          unfold eqGuard
          rcases hcc with ⟨c, rfl⟩ | ⟨c, rfl⟩ <;> cases op <;> simp
        rw [this]; rfl
      · rw [hv, hu]
        exact run_eq_other hop (by simp) (run_equal_of fun d => by simp only [Op.equalIn, Sem.run_bind, run_underlying hd, Result.andThen_ok, Sem.run_pure])
    · rename_i h1 h2
      rw [h1] at hv
      rw [h2] at hu
      have hv := hv.niliface_inv
      obtain ⟨q, hu, _⟩ := hu.iface_inv
      simp at hr; subst hr
      refine fin (run_eqGuard_other _ _ _ _ (by simp [hu]) (by simp [hv])) ?_
      rw [hv, hu]
      exact run_eq_other hop (by simp) (run_equal_of fun d => by simp only [Op.equalIn, Sem.run_bind, run_underlying hd, Result.andThen_ok, Sem.run_pure])
    · rename_i h1 h2
      rw [h1] at hv
      rw [h2] at hu
      have hu := hu.niliface_inv
      obtain ⟨q, hv, _⟩ := hv.iface_inv
      simp at hr; subst hr
      refine fin (run_eqGuard_other _ _ _ _ (by simp [hv]) (by simp [hu])) ?_
      rw [hv, hu]
      exact run_eq_other hop (by simp) (run_equal_of fun d => by simp only [Op.equalIn, Sem.run_bind, run_underlying hd, Result.andThen_ok, Sem.run_pure])
    · simp at hr
  · rename_i el hd
    simp at hk; subst hk
    simp only [eqA] at hr
    unfold eqPtr at hr
    split at hr
    · rename_i h1 h2
      rw [h1] at hv
      rw [h2] at hu
      have hv := hv.nilptr_inv
      have hu := hu.nilptr_inv
      simp at hr; subst hr
      refine fin (run_eqGuard_other _ _ _ _ (by simp [hu]) (by simp [hv])) ?_
      rw [hv, hu]
      exact run_eq_other hop (by simp) (run_equal_of fun d => by simp [Op.equalIn, run_underlying hd])
    · rename_i h1 h2
      rw [h1] at hv
      rw [h2] at hu
      have hv := hv.nilptr_inv
      obtain ⟨p, _, hu⟩ := hu.ptr_inv
      simp at hr; subst hr
      refine fin (run_eqGuard_other _ _ _ _ (by simp [hu]) (by simp [hv])) ?_
      rw [hv, hu]
      exact run_eq_other hop (by simp) (run_equal_of fun d => by simp [Op.equalIn, run_underlying hd])
    · rename_i h1 h2
      rw [h1] at hv
      rw [h2] at hu
      have hu := hu.nilptr_inv
      obtain ⟨p, _, hv⟩ := hv.ptr_inv
      simp at hr; subst hr
      refine fin (run_eqGuard_other _ _ _ _ (by simp [hu]) (by simp [hv])) ?_
      rw [hv, hu]
      exact run_eq_other hop (by simp) (run_equal_of fun d => by simp [Op.equalIn, run_underlying hd])
    · simp at hr
  · rename_i el hd
    simp at hk; subst hk
    simp only [eqA] at hr
    unfold eqNilSl at hr
    split at hr
    · rename_i h1 h2
      rw [h1] at hv
      rw [h2] at hu
      have hv := hv.nilslice_inv
      have hu := hu.nilslice_inv
      simp at hr; subst hr
      refine fin (run_eqGuard_other _ _ _ _ (by simp [hu]) (by simp [hv])) ?_
      rw [hv, hu]
      exact run_eq_other hop (by simp) (run_equal_of fun d => by simp [Op.equalIn, run_underlying hd])
    · rename_i h1 h2
      rw [h1] at hv
      rw [h2] at hu
      have hv := hv.nilslice_inv
      obtain ⟨p, ad, cap, hu, _⟩ := hu.slice_inv
      simp at hr; subst hr
      refine fin (run_eqGuard_other _ _ _ _ (by simp [hu]) (by simp [hv])) ?_
      rw [hv, hu]
      exact run_eq_other hop (by simp) (run_equal_of fun d => by simp [Op.equalIn, run_underlying hd])
    · rename_i h1 h2
      rw [h1] at hv
      rw [h2] at hu
      have hu := hu.nilslice_inv
      obtain ⟨p, ad, cap, hv, _⟩ := hv.slice_inv
      simp at hr; subst hr
      refine fin (run_eqGuard_other _ _ _ _ (by simp [hu]) (by simp [hv])) ?_
      rw [hv, hu]
      exact run_eq_other hop (by simp) (run_equal_of fun d => by simp [Op.equalIn, run_underlying hd])
    · simp at hr
  · rename_i ps rs va hd
    simp at hk; subst hk
    simp only [eqA] at hr
    unfold eqNilFn at hr
    split at hr
    · rename_i h1 h2
      rw [h1] at hv
      rw [h2] at hu
      have hv := hv.nilfn_inv
      have hu := hu.nilfn_inv
      simp at hr; subst hr
      refine fin (run_eqGuard_other _ _ _ _ (by simp [hu]) (by simp [hv])) ?_
      rw [hv, hu]
      exact run_eq_other hop (by simp) (run_equal_of fun d => by simp [Op.equalIn, run_underlying hd])
    · rename_i h1 h2
      rw [h1] at hv
      rw [h2] at hu
      have hv := hv.nilfn_inv
      obtain ⟨_, _, hu, _⟩ := hu.fn_inv
      simp at hr; subst hr
      refine fin (run_eqGuard_other _ _ _ _ (by simp [hu]) (by simp [hv])) ?_
      rw [hv, hu]
      exact run_eq_other hop (by simp) (run_equal_of fun d => by simp [Op.equalIn, run_underlying hd])
    · rename_i h1 h2
      rw [h1] at hv
      rw [h2] at hu
      have hu := hu.nilfn_inv
      obtain ⟨_, _, hv, _⟩ := hv.fn_inv
      simp at hr; subst hr
      refine fin (run_eqGuard_other _ _ _ _ (by simp [hu]) (by simp [hv])) ?_
      rw [hv, hu]
      exact run_eq_other hop (by simp) (run_equal_of fun d => by simp [Op.equalIn, run_underlying hd])
    · simp at hr
  · rename_i hd
    simp at hk; subst hk
    simp only [eqA] at hr
    unfold eqBool at hr
    split at hr
    · rename_i h1 h2
      rw [h1] at hv
      rw [h2] at hu
      have hv := hv.bool_inv
      have hu := hu.bool_inv
      simp at hr; subst hr
      refine fin (run_eqGuard_other _ _ _ _ (by simp [hu]) (by simp [hv])) ?_
      rw [hv, hu]
      exact run_eq_other hop (by simp) (run_equal_of fun d => by rw [run_equalIn_bool' _ _ _ _ _ hd])
    · simp at hr
  · rename_i fs hd
    split at hk
    · simp at hk
    · rename_i hgt
      simp only [Option.map_eq_some_iff] at hk
      obtain ⟨ks, hks, rfl⟩ := hk
      simp only [eqA] at hr
      unfold eqAgg at hr
      split at hr
      · rename_i h1 h2
        split at hr
        · rename_i hlen
          rw [h1] at hv
          rw [h2] at hu
          obtain ⟨c1, hv, hc1, _⟩ := hv.agg_inv
          obtain ⟨c2, hu, hc2, _⟩ := hu.agg_inv
          have hsim := eqSim (P := P) (μ := μ) (w := w) 20 t ks hks _ _ _ _ r hc1 hc2 hlen.1 hlen.2 hr
          have hsim := (hsim.resolve_right (by rintro ⟨hg, _⟩; simp [aggA, hd, isAggD] at hg)).2
          refine fin ?_ ?_
          · rw [hv, hu]
            exact run_eqGuard_agg w op t x y _ _ (by simpa using hgt)
          · rw [hv, hu]
            exact run_eq_other hop (by simp) (hsim 10000 (by omega))
        · simp at hr
      · simp at hr
  · simp at hk
end Go.AM
