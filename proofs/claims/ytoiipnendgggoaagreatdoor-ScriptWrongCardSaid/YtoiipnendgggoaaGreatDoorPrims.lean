/- A part of the proof of the claim of this folder (Prims). -/
import Derived.Test.YtoiipnendgggoaaGreatDoorDraw9
import Derived.Below
import Derived.Lib.Bytealg
import Derived.Lib.Join
import Derived.Lib.ItoaNum
import Derived.Lib.ParseIntB
import Derived.Lib.Repeat
import Derived.Laws.Externs
set_option autoImplicit true
set_option relaxedAutoImplicit true
set_option linter.all false
set_option linter.deprecated false
set_option linter.unnecessarySimpa false
set_option linter.unusedSectionVars false
set_option linter.unusedSimpArgs false
set_option linter.unusedVariables false
/-! What functions of the library give, in the machine's words; that it is so, out of their contracts. -/
namespace Go.AM
open Go.RowKit (Below)
variable [G : Ground] {P : Program}

/-- What a prim says of a function is so. -/
def PrimOk (P : Program) (f : Nat) (p : List AVal → AHeap → Res) : Prop :=
  ∀ args H v H', p args H = some (v, H') → ∀ (μ : Mu) (w : World) (cargs : List Value), HR P μ H w → VRs μ args cargs →
    ∃ nx w1, (callFunc f ⟨cargs⟩).run P w = .ok nx w1 ∧ Leads P μ w w1 v H' nx

def Enters' (P : Program) (f : Nat) : Prop := ∀ (args : Array Value) (w : World), (callFunc f args).run P w = .ok (.enter f args) w

theorem HR.below {μ : Mu} {H : AHeap} {w w' : World} (h : HR P μ H w) (hb : Below w.heap.size w w') : HR P μ H w' ∧ Turn μ μ w w' := by
  refine ⟨⟨h.top, fun id o ho => ?_, h.inj, fun id p hp => Nat.lt_of_lt_of_le (h.bnd id p hp) hb.size, Nat.le_trans h.lim hb.size, fun b x hx => ?_, h.apart⟩,
    ⟨Mu.le_refl μ, fun _ _ h => .inl h, fun b hb' _ => hb.block b hb', hb.size, fun b r hr => ⟨r, by rw [hb.block b (Array.getElem?_eq_some_iff.1 hr).1]; exact hr⟩, hb.os, hb.output⟩⟩
  · obtain ⟨p, hp, hx⟩ := h.obj id o ho
    exact ⟨p, hp, hx.mono (Mu.le_refl μ) (hb.block _ (h.bnd _ _ hp))⟩
  · rw [hb.block b (Nat.lt_of_lt_of_le (G.below b x hx) h.lim)]
    exact h.ground b x hx

theorem leads_of_calls {f : Nat} {args : Array Value} {w : World} (he : Enters' P f) {Q : Ending → World → Prop} (hc : Calls P f args w Q) {μ : Mu} {v : AVal} {H' : AHeap}
    (hq : ∀ e w', Q e w' → CallPost P μ w v H' e w') : ∃ nx w1, (callFunc f args).run P w = .ok nx w1 ∧ Leads P μ w w1 v H' nx :=
  ⟨_, w, he args w, .inl ⟨_, _, rfl, callsIn_wide.2 (hc.mono hq)⟩⟩

theorem post_below {μ : Mu} {H : AHeap} {w w' : World} (h : HR P μ H w) (hb : Below w.heap.size w w') {v : AVal} {cv : Value} (hv : VR μ v cv) : CallPost P μ w v H (.returned cv) w' :=
  ⟨cv, μ, rfl, hv, (h.below hb).1, (h.below hb).2⟩

theorem leads_of_value {f : Nat} {args : Array Value} {w : World} {v : AVal} {cv : Value} {μ : Mu} {H : AHeap} (h : HR P μ H w) (hr : (callFunc f args).run P w = .ok (.value cv) w) (hv : VR μ v cv) :
    ∃ nx w1, (callFunc f args).run P w = .ok nx w1 ∧ Leads P μ w w1 v H nx :=
  ⟨_, w, hr, .inr (.inr ⟨cv, rfl, cv, μ, rfl, hv, h, Turn.refl μ w⟩)⟩

/-! ### Texts -/
def toB (l : List Nat) : List UInt8 := l.map UInt8.ofNat
def ofB (l : List UInt8) : List Nat := l.map UInt8.toNat

omit G in
theorem toB_ofB (l : List UInt8) : toB (ofB l) = l := by
  unfold toB ofB
  rw [List.map_map]
  conv => rhs; rw [← List.map_id l]
  apply List.map_congr_left
  intro x _
  simp

omit G in
theorem VR.text {μ : Mu} (l : List UInt8) : VR μ (.str (ofB l)) (.string ⟨l.toArray⟩) := .str _ _ (by simp [ofB])

def pIndexByte : List AVal → AHeap → Res
  | [.str s, .int .u8 c], h => some (.int .i64 (Lib.indexByte (toB s) c.toNat.toUInt8), h)
  | _, _ => none

theorem pIndexByte_ok {f : Nat} (hf : ∀ (args : Array Value) (w : World), (callFunc f args).run P w = ((Extern.BytealgIndexByte.indexByte args).run P w).andThen fun v w' => .ok (.value v) w') : PrimOk P f pIndexByte := by
  intro args H v H' h μ w cargs hH ha
  unfold pIndexByte at h
  split at h
  · simp only [Option.some.injEq, Prod.mk.injEq] at h
    obtain ⟨rfl, rfl⟩ := h
    obtain ⟨x, l, rfl, hx, ha⟩ := ha.cons_inv
    obtain ⟨y, l, rfl, hy, ha⟩ := ha.cons_inv
    obtain rfl := ha.nil_inv
    obtain ⟨b, rfl, rfl⟩ := hx.str_inv
    obtain rfl := hy.int_inv
    refine leads_of_value hH (by rw [hf]; show ((Extern.BytealgIndexByte.indexByte #[.string b, .int .u8 _]).run P w).andThen _ = _; rw [Lib.run_indexByteString]; rfl) ?_
    rw [show toB (List.map UInt8.toNat b.data.toList) = b.data.toList from toB_ofB _]
    exact .int _ _
  · simp at h

def pCount : List AVal → AHeap → Res
  | [.str s, .int .u8 c], h => some (.int .i64 (Lib.countByte (toB s) c.toNat.toUInt8), h)
  | _, _ => none

theorem pCount_ok {f : Nat} (hf : ∀ (args : Array Value) (w : World), (callFunc f args).run P w = ((Extern.BytealgCount.count args).run P w).andThen fun v w' => .ok (.value v) w') : PrimOk P f pCount := by
  intro args H v H' h μ w cargs hH ha
  unfold pCount at h
  split at h
  · simp only [Option.some.injEq, Prod.mk.injEq] at h
    obtain ⟨rfl, rfl⟩ := h
    obtain ⟨x, l, rfl, hx, ha⟩ := ha.cons_inv
    obtain ⟨y, l, rfl, hy, ha⟩ := ha.cons_inv
    obtain rfl := ha.nil_inv
    obtain ⟨b, rfl, rfl⟩ := hx.str_inv
    obtain rfl := hy.int_inv
    refine leads_of_value hH (by rw [hf]; show ((Extern.BytealgCount.count #[.string b, .int .u8 _]).run P w).andThen _ = _; rw [Lib.run_countString]; rfl) ?_
    rw [show toB (List.map UInt8.toNat b.data.toList) = b.data.toList from toB_ofB _]
    exact .int _ _
  · simp at h

def pRepeat : List AVal → AHeap → Res
  | [.str s, .int .i64 n], h => if 0 ≤ n ∧ n ≤ 9223372036854775807 ∧ s.length * n.toNat ≤ 140737488355328 then some (.str (ofB (Lib.repeatL (toB s) n.toNat)), h) else none
  | _, _ => none

theorem pRepeat_ok {f : Nat} (he : Enters' P f)
    (hc : ∀ (s : ByteArray) (c : Nat) (w : World), c ≤ 9223372036854775807 → s.size * c ≤ 140737488355328 →
      Calls P f #[.string s, .int .i64 c] w fun e w' => e = .returned (.string ⟨(Lib.repeatL s.data.toList c).toArray⟩) ∧ Below w.heap.size w w') : PrimOk P f pRepeat := by
  intro args H v H' h μ w cargs hH ha
  unfold pRepeat at h
  split at h
  · split at h
    · rename_i s n hn
      simp only [Option.some.injEq, Prod.mk.injEq] at h
      obtain ⟨rfl, rfl⟩ := h
      obtain ⟨x, l, rfl, hx, ha⟩ := ha.cons_inv
      obtain ⟨y, l, rfl, hy, ha⟩ := ha.cons_inv
      obtain rfl := ha.nil_inv
      obtain ⟨b, rfl, rfl⟩ := hx.str_inv
      obtain rfl := hy.int_inv
      obtain ⟨h0, h1, h2⟩ := hn
      obtain ⟨c, rfl⟩ := Int.eq_ofNat_of_zero_le h0
      have hs : (List.map UInt8.toNat b.data.toList).length = b.size := by rw [List.length_map]; exact (Lib.size_eq b).symm
      rw [hs] at h2
      simp only [Int.toNat_natCast] at h2 ⊢
      refine leads_of_calls he (hc b c w (by omega) h2) fun e w' ⟨he, hw⟩ => ?_
      subst he
      refine post_below hH hw ?_
      rw [show toB (List.map UInt8.toNat b.data.toList) = b.data.toList from toB_ofB _]
      exact VR.text _
    · simp at h
  · simp at h

def strs? : List AVal → Option (List (List Nat))
  | [] => some []
  | .str s :: l => match strs? l with
    | some r => some (s :: r)
    | none => none
  | _ => none

def isSl : AVal → Bool
  | .str _ => false
  | _ => true

def pJoin : List AVal → AHeap → Res
  | [l, .str sep], h =>
    if isSl l = true then
    match lenA l with
    | some n =>
      match sliceCells h 1 n l with
      | some cs =>
        match strs? cs with
        | some ss =>
          if n ≤ 140737488355328 ∧ (Lib.join (ss.map toB) (toB sep)).length ≤ 140737488355328 then some (.str (ofB (Lib.join (ss.map toB) (toB sep))), h) else none
        | none => none
      | none => none
    | none => none
    else none
  | _, _ => none

omit G in
theorem strs?_spec : ∀ {cs : List AVal} {ss : List (List Nat)}, strs? cs = some ss → cs = ss.map AVal.str
  | [], ss, h => by simp [strs?] at h; subst h; rfl
  | a :: l, ss, h => by
    cases a <;> try (simp [strs?] at h; done)
    simp only [strs?] at h
    split at h
    · rename_i r hr
      simp at h; subst h
      rw [strs?_spec hr]; rfl
    · simp at h

theorem pJoin_ok {f : Nat} (he : Enters' P f)
    (h0 : ∀ (a : Option Addr) (c : Nat) (sep : ByteArray) (w : World), Calls P f #[.slice a 0 c, .string sep] w fun e w' => e = .returned (.string ⟨#[]⟩) ∧ w' = w)
    (hc : ∀ (bk o c : Nat) (xs : List ByteArray) (sep : ByteArray) (w : World) (_ : ∀ (j : Nat) x, xs[j]? = some x → w.cell? ⟨bk, o + j, none⟩ = some (.string x))
      (_ : bk < w.heap.size) (_ : xs.length ≤ 140737488355328) (_ : xs.length ≤ c) (_ : (Lib.join (xs.map (·.data.toList)) sep.data.toList).length ≤ 140737488355328),
      Calls P f #[.slice (some ⟨bk, o, none⟩) xs.length c, .string sep] w fun e w' => e = .returned (.string ⟨(Lib.join (xs.map (·.data.toList)) sep.data.toList).toArray⟩) ∧ Below w.heap.size w w') : PrimOk P f pJoin := by
  intro args H v H' h μ w cargs hH ha
  unfold pJoin at h
  split at h
  · rename_i l0 sep
    split at h
    rotate_left
    · simp at h
    rename_i hl0
    split at h
    · rename_i n hn
      split at h
      · rename_i cs hcs
        split at h
        · rename_i ss hss
          split at h
          · rename_i hlim
            simp only [Option.some.injEq, Prod.mk.injEq] at h
            obtain ⟨rfl, rfl⟩ := h
            obtain ⟨x, l, rfl, hx, ha⟩ := ha.cons_inv
            obtain ⟨y, l, rfl, hy, ha⟩ := ha.cons_inv
            obtain rfl := ha.nil_inv
            obtain ⟨b, rfl, rfl⟩ := hy.str_inv
            have hb : toB (List.map UInt8.toNat b.data.toList) = b.data.toList := toB_ofB _
            obtain rfl := strs?_spec hss
            rw [hb] at hlim ⊢
            have nil : n = 0 → ss = [] → ∀ a c, x = .slice a 0 c → ∃ nx w1, (callFunc f ⟨[x, .string b]⟩).run P w = .ok nx w1 ∧ Leads P μ w w1 (.str (ofB (Lib.join (ss.map toB) b.data.toList))) H nx := by
              rintro - rfl a c rfl
              refine leads_of_calls he (h0 a c b w) fun e w' ⟨he, hw⟩ => ?_
              subst he hw
              refine post_below hH (.refl _ _) ?_
              exact .str _ _ (by simp [ofB, Lib.join_nil])
            cases l0 with
            | nilslice =>
              simp [lenA] at hn
              subst hn
              simp [sliceCells] at hcs
              obtain rfl := hx.nilslice_inv
              exact nil rfl hcs none 0 rfl
            | slice id off len lo ex sz =>
              simp [lenA] at hn
              subst hn
              obtain ⟨p, ad, cap, rfl, hp, hl, hlo, hex, hat⟩ : ∃ p ad cap, x = .slice (some ad) len cap ∧ μ id = some p ∧ len ≤ cap ∧ lo ≤ cap ∧ (ex = true → cap = lo) ∧ (cap = 0 ∨ (ad = ⟨p.blk, p.base + off, none⟩ ∧ p.base + off + cap * sz ≤ p.size)) := by
                cases hx; exact ⟨_, _, _, rfl, by assumption, by assumption, by assumption, by assumption, by assumption⟩
              simp only [sliceCells, Nat.le_refl, if_true] at hcs
              split at hcs
              · rename_i row hrow
                unfold take? at hcs
                split at hcs
                · rename_i hle
                  simp only [Nat.mul_one] at hcs hle
                  simp only [Option.some.injEq] at hcs
                  have hssl : ss.length = len := by
                    have := congrArg List.length hcs
                    simp at this
                    omega
                  rcases hat with h00 | ⟨rfl, hsz⟩
                  · have : len = 0 := by omega
                    subst this
                    exact nil rfl (List.length_eq_zero_iff.1 hssl) (some ad) cap rfl
                  · obtain ⟨p', hp', c, el, fz, g1, g2, g3, g4, g5⟩ := hH.row hrow
                    obtain rfl : p = p' := Option.some.inj (hp.symm.trans hp')
                    have hcell : ∀ (j : Nat) s, ss[j]? = some s → ∃ bs : ByteArray, w.cell? ⟨p.blk, p.base + off + j, none⟩ = some (.string bs) ∧ bs.data.toList = toB s := by
                      intro j s hj
                      have hj' : row[off + j]? = some (.str s) := by
                        have hlt : j < ss.length := (List.getElem?_eq_some_iff.1 hj).1
                        have e1 : ((row.drop off).take len)[j]? = some (.str s) := by rw [hcs, List.getElem?_map, hj]; rfl
                        rw [List.getElem?_take, if_pos (by omega), List.getElem?_drop] at e1
                        exact e1
                      obtain ⟨v, k1, k2, -⟩ := g4 (off + j) _ hj'
                      obtain ⟨bs, rfl, rfl⟩ := k2.str_inv
                      refine ⟨bs, ?_, (toB_ofB _).symm⟩
                      unfold World.cell?
                      simp only [g1]
                      rw [show p.base + off + j = p.base + (off + j) by omega]
                      simpa using k1
                    have hxs : ∃ xs : List ByteArray, xs.length = len ∧ xs.map (·.data.toList) = ss.map toB ∧ ∀ (j : Nat) x, xs[j]? = some x → w.cell? ⟨p.blk, p.base + off + j, none⟩ = some (.string x) := by
                      have : ∀ (m : Nat), m ≤ ss.length → ∃ xs : List ByteArray, xs.length = m ∧ xs.map (·.data.toList) = (ss.take m).map toB ∧ ∀ (j : Nat) x, xs[j]? = some x → w.cell? ⟨p.blk, p.base + off + j, none⟩ = some (.string x) := by
                        intro m
                        induction m with
                        | zero => intro _; exact ⟨[], rfl, by simp, fun j x hx => by simp at hx⟩
                        | succ m ih =>
                          intro hm
                          obtain ⟨xs, e1, e2, e3⟩ := ih (by omega)
                          have hg : ss[m]? = some ss[m] := by simp
                          obtain ⟨bs, k1, k2⟩ := hcell m _ hg
                          refine ⟨xs ++ [bs], by simp [e1], ?_, fun j x hx => ?_⟩
                          · rw [List.take_add_one, hg, List.map_append, List.map_append, e2]
                            simp [k2]
                          · rcases Nat.lt_or_ge j m with hlt | hge
                            · rw [List.getElem?_append_left (by omega)] at hx
                              exact e3 j x hx
                            · rw [List.getElem?_append_right (by omega)] at hx
                              have hj : j - xs.length = 0 := by
                                have := (List.getElem?_eq_some_iff.1 hx).1
                                simp at this; omega
                              rw [hj] at hx
                              simp at hx
                              subst hx
                              rw [show j = m by omega]
                              exact k1
                      obtain ⟨xs, e1, e2, e3⟩ := this ss.length (Nat.le_refl _)
                      exact ⟨xs, by omega, by rw [e2, List.take_length], e3⟩
                    obtain ⟨xs, e1, e2, e3⟩ := hxs
                    have hcall := hc p.blk (p.base + off) cap xs b w e3 (hH.bnd _ _ hp) (by omega) (by omega) (by rw [e2]; exact hlim.2)
                    rw [e1, e2] at hcall
                    refine leads_of_calls he hcall fun e w' ⟨he, hw⟩ => ?_
                    subst he
                    exact post_below hH hw (VR.text _)
                · simp at hcs
              · simp at hcs
            | str s =>
              obtain ⟨q, rfl, -⟩ := hx.str_inv
              exact absurd hl0 (by simp [isSl])
            | _ => simp [lenA] at hn
          · simp at h
        · simp at h
      · simp at h
    · simp at h
  · simp at h
end Go.AM
