/- A part of the proof of the claim of this folder (Prims2). -/
import Derived.Test.YtoiipnendgggoaaGreatDoorPrims
import Derived.Test.YtoiipnendgggoaaGreatDoorEval
set_option autoImplicit true
set_option relaxedAutoImplicit true
set_option linter.all false
set_option linter.deprecated false
set_option linter.unnecessarySimpa false
set_option linter.unusedSectionVars false
set_option linter.unusedSimpArgs false
set_option linter.unusedVariables false
namespace Go.AM
open Go.RowKit (Below)
variable [G : Ground] {P : Program}

/-- What is laid stands. -/
def Stands [G : Ground] (w : World) : Prop := ∀ b o, G.laid b = some o → w.heap[b]? = some o

omit G in
theorem digits_spec : ∀ (f u : Nat) (acc : List UInt8), u < 10 ^ f → 0 < f →
    (Nat.rec (fun _ acc => acc) (fun _ ih u acc => if u < 10 then UInt8.ofNat (48 + u) :: acc else ih (u / 10) (UInt8.ofNat (48 + u % 10) :: acc)) f : Nat → List UInt8 → List UInt8) u acc = Lib.decDigits u ++ acc := by
  intro f
  induction f with
  | zero => intro u acc _ h; omega
  | succ f ih =>
    intro u acc h _
    show (if u < 10 then UInt8.ofNat (48 + u) :: acc else _) = _
    rw [Lib.decDigits]
    by_cases hu : u < 10
    · simp [hu]
    · rw [if_neg hu, dif_neg hu]
      have h' : u / 10 < 10 ^ f := by rw [Nat.pow_succ] at h; omega
      have hf : 0 < f := by
        rcases Nat.eq_zero_or_pos f with rfl | hf
        · simp at h; omega
        · exact hf
      rw [ih _ _ h' hf]
      simp

noncomputable def digs (u : Nat) : List UInt8 :=
  (Nat.rec (fun _ acc => acc) (fun _ ih u acc => if u < 10 then UInt8.ofNat (48 + u) :: acc else ih (u / 10) (UInt8.ofNat (48 + u % 10) :: acc)) 20 : Nat → List UInt8 → List UInt8) u []

omit G in
theorem digs_eq {u : Nat} (h : u < 10 ^ 20) : digs u = Lib.decDigits u := by
  unfold digs
  rw [digits_spec 20 u [] h (by omega)]; simp

noncomputable def pFormat : List AVal → AHeap → Res
  | [.int .i64 n, .int .i64 b], h =>
    if b = 10 ∧ -9223372036854775808 ≤ n ∧ n ≤ 9223372036854775807 then some (.str (ofB (if n < 0 then 45 :: digs n.natAbs else digs n.toNat)), h) else none
  | _, _ => none

theorem pFormat_ok {f : Nat} (he : Enters' P f) (T : World → Prop) (hT : ∀ w, Stands w → T w)
    (hc : ∀ (n : Int), -9223372036854775808 ≤ n → n ≤ 9223372036854775807 → ∀ (w : World), T w →
      Calls P f #[.int .i64 n, .int .i64 10] w fun e w' => e = .returned (.string ⟨(Lib.itoa n).toArray⟩) ∧ Below w.heap.size w w') : PrimOk P f pFormat := by
  intro args H v H' h μ w cargs hH ha
  unfold pFormat at h
  split at h
  · split at h
    · rename_i n b hn
      simp only [Option.some.injEq, Prod.mk.injEq] at h
      obtain ⟨rfl, rfl⟩ := h
      obtain ⟨x, l, rfl, hx, ha⟩ := ha.cons_inv
      obtain ⟨y, l, rfl, hy, ha⟩ := ha.cons_inv
      obtain rfl := ha.nil_inv
      obtain rfl := hx.int_inv
      obtain rfl := hy.int_inv
      obtain ⟨rfl, h1, h2⟩ := hn
      refine leads_of_calls he (hc n h1 h2 w (hT w hH.ground)) fun e w' ⟨he, hw⟩ => ?_
      subst he
      refine post_below hH hw ?_
      rw [show (if n < 0 then 45 :: digs n.natAbs else digs n.toNat) = Lib.itoa n by unfold Lib.itoa; rw [digs_eq (by omega), digs_eq (by omega)]]
      exact VR.text _
    · simp at h
  · simp at h

def pParse (tE : Nat) : List AVal → AHeap → Res
  | [.str s, .int .i64 b, .int .i64 z], h =>
    if b = 10 ∧ z = 64 ∧ s.length ≤ 281474976710656 then
      match Lib.parseIntB 64 (toB s) with
      | .ok v => some (.tup [.int .i64 v, .niliface], h)
      | .syntax => some (.tup [.int .i64 0, .iface tE (.ptr h.next 0)], h.new .dead)
      | .range => some (.tup [.int .i64 (Lib.intSat 64 (toB s)), .iface tE (.ptr h.next 0)], h.new .dead)
    else none
  | _, _ => none

theorem post_err {μ : Mu} {H : AHeap} {w w' : World} (h : HR P μ H w) (hb : Below w.heap.size w w') {N : Nat} (h1 : w.heap.size ≤ N) (h2 : N < w'.heap.size) (v : Int) (tE : Nat) :
    CallPost P μ w (.tup [.int .i64 v, .iface tE (.ptr H.next 0)]) (H.new .dead) (.returned (.tuple #[.int .i64 v, .iface tE (.pointer (some ⟨N, 0, none⟩))])) w' := by
  obtain ⟨k1, k2⟩ := h.below hb
  have hne : ∀ id p, μ id = some p → p.blk ≠ N := fun id p hp => by have := h.bnd id p hp; omega
  have hr := k1.absorb (q := ⟨N, 0, 0⟩) (x := .dead) trivial h2 hne (Ground.above (Nat.le_trans h.lim h1))
  have hle := Mu.le_put μ ⟨N, 0, 0⟩ (h.top H.next (Nat.le_refl _)).2
  refine ⟨_, μ.put H.next ⟨N, 0, 0⟩, rfl, .tup _ _ (.cons _ _ _ _ (.int _ _) (.cons _ _ _ _ (.iface _ _ _ ?_) .nil)), hr, ⟨Mu.le_trans k2.le hle, fun id p hp => ?_, k2.keep, k2.grow, k2.kind, k2.out⟩⟩
  · have := VR.ptr (μ := μ.put H.next ⟨N, 0, 0⟩) H.next 0 ⟨N, 0, 0⟩ (Mu.put_same _ _ _)
    simpa using this
  · by_cases e : id = H.next
    · subst e; rw [Mu.put_same] at hp; cases hp; exact .inr (.inl h1)
    · rw [Mu.put_ne _ _ e] at hp; exact .inl hp

theorem pParse_ok {f tE : Nat} (he : Enters' P f) (S R : World → Prop) (hS : ∀ w, Stands w → S w) (hR : ∀ w, Stands w → R w)
    (hok : ∀ (s : ByteArray), s.size ≤ 281474976710656 → ∀ (v : Int), Lib.parseIntB 64 s.data.toList = .ok v → ∀ (w : World),
      Calls P f #[.string s, .int .i64 10, .int .i64 64] w fun e w' => e = .returned (.tuple #[.int .i64 v, .nilIface]) ∧ Below w.heap.size w w')
    (hsy : ∀ (s : ByteArray), s.size ≤ 281474976710656 → Lib.parseIntB 64 s.data.toList = .syntax → ∀ (w : World), S w →
      Calls P f #[.string s, .int .i64 10, .int .i64 64] w fun e w' => ∃ N, e = .returned (.tuple #[.int .i64 0, .iface tE (.pointer (some ⟨N, 0, none⟩))]) ∧ w.heap.size ≤ N ∧ N < w'.heap.size ∧ Below w.heap.size w w')
    (hra : ∀ (s : ByteArray), s.size ≤ 281474976710656 → Lib.parseIntB 64 s.data.toList = .range → ∀ (w : World), R w →
      Calls P f #[.string s, .int .i64 10, .int .i64 64] w fun e w' => ∃ N, e = .returned (.tuple #[.int .i64 (Lib.intSat 64 s.data.toList), .iface tE (.pointer (some ⟨N, 0, none⟩))]) ∧ w.heap.size ≤ N ∧ N < w'.heap.size ∧ Below w.heap.size w w') :
    PrimOk P f (pParse tE) := by
  intro args H v H' h μ w cargs hH ha
  unfold pParse at h
  split at h
  · split at h
    · rename_i s b z hn
      obtain ⟨x, l, rfl, hx, ha⟩ := ha.cons_inv
      obtain ⟨y, l, rfl, hy, ha⟩ := ha.cons_inv
      obtain ⟨u, l, rfl, hu, ha⟩ := ha.cons_inv
      obtain rfl := ha.nil_inv
      obtain ⟨bs, rfl, rfl⟩ := hx.str_inv
      obtain rfl := hy.int_inv
      obtain rfl := hu.int_inv
      obtain ⟨rfl, rfl, hlen⟩ := hn
      have hs : (List.map UInt8.toNat bs.data.toList).length = bs.size := by rw [List.length_map]; exact (Lib.size_eq bs).symm
      rw [hs] at hlen
      rw [show toB (List.map UInt8.toNat bs.data.toList) = bs.data.toList from toB_ofB _] at h
      split at h
      · rename_i n hp
        simp only [Option.some.injEq, Prod.mk.injEq] at h
        obtain ⟨rfl, rfl⟩ := h
        refine leads_of_calls he (hok bs hlen n hp w) fun e w' ⟨he, hw⟩ => ?_
        subst he
        exact post_below hH hw (.tup _ _ (.cons _ _ _ _ (.int _ _) (.cons _ _ _ _ .niliface .nil)))
      · rename_i hp
        simp only [Option.some.injEq, Prod.mk.injEq] at h
        obtain ⟨rfl, rfl⟩ := h
        refine leads_of_calls he (hsy bs hlen hp w (hS w hH.ground)) fun e w' ⟨N, he, h1, h2, hw⟩ => ?_
        subst he
        exact post_err hH hw h1 h2 _ _
      · rename_i hp
        simp only [Option.some.injEq, Prod.mk.injEq] at h
        obtain ⟨rfl, rfl⟩ := h
        refine leads_of_calls he (hra bs hlen hp w (hR w hH.ground)) fun e w' ⟨N, he, h1, h2, hw⟩ => ?_
        subst he
        exact post_err hH hw h1 h2 _ _
    · simp at h
  · simp at h

/-- errors.Is: of two that are the same. -/
def pIs (tE : Nat) : List AVal → AHeap → Res
  | [.iface t (.int .i64 a), .iface t' (.int .i64 b)], h => if t = tE ∧ t' = tE ∧ a = b then some (.bool true, h) else none
  | _, _ => none

theorem pIs_ok {f tE : Nat} (he : Enters' P f) (hc : ∀ (a : Int) (w : World), Calls P f #[.iface tE (.int .i64 a), .iface tE (.int .i64 a)] w fun e w' => e = .returned (.bool true) ∧ w' = w) : PrimOk P f (pIs tE) := by
  intro args H v H' h μ w cargs hH ha
  unfold pIs at h
  split at h
  · split at h
    · rename_i t a t' b hn
      simp only [Option.some.injEq, Prod.mk.injEq] at h
      obtain ⟨rfl, rfl⟩ := h
      obtain ⟨x, l, rfl, hx, ha⟩ := ha.cons_inv
      obtain ⟨y, l, rfl, hy, ha⟩ := ha.cons_inv
      obtain rfl := ha.nil_inv
      obtain ⟨x', rfl, hx2⟩ := hx.iface_inv
      obtain ⟨y', rfl, hy2⟩ := hy.iface_inv
      obtain rfl := hx2.int_inv
      obtain rfl := hy2.int_inv
      obtain ⟨rfl, rfl, rfl⟩ := hn
      refine leads_of_calls he (hc a w) fun e w' ⟨he, hw⟩ => ?_
      subst he; subst hw
      exact post_below hH (.refl _ _) (.bool _)
    · simp at h
  · simp at h

/-- errors.As: of nil; of a whole number of type tE, into a variable of that type. -/
def pAs (tE tP : Nat) : List AVal → AHeap → Res
  | [.niliface, _], h => some (.bool false, h)
  | [.iface t (.int .i64 a), .iface t' (.ptr id off)], h =>
    if t = tE ∧ t' = tP then
      match fStore h 1 (.ptr id off) (.int .i64 a) with
      | some (_, h') => some (.bool true, h')
      | none => none
    else none
  | _, _ => none

theorem pAs_ok {f tE tP : Nat} (he : Enters' P f) (S : World → Prop) (hS : ∀ w, Stands w → S w)
    (hn : ∀ (v : Value) (w : World), Calls P f #[.nilIface, v] w fun e w' => e = .returned (.bool false) ∧ w' = w)
    (W4 : Int → Nat → Nat → World → World) (hW4 : ∀ a b o w, Below w.heap.size w (W4 a b o w))
    (hc : ∀ (a : Int) (b o : Nat) (w w5 : World), S w → (storeCells ⟨b, o, none⟩ [.int .i64 a]).run P (W4 a b o w) = .ok () w5 →
      Calls P f #[.iface tE (.int .i64 a), .iface tP (.pointer (some ⟨b, o, none⟩))] w fun e w' => e = .returned (.bool true) ∧ w' = w5) : PrimOk P f (pAs tE tP) := by
  intro args H v H' h μ w cargs hH ha
  unfold pAs at h
  split at h
  · simp only [Option.some.injEq, Prod.mk.injEq] at h
    obtain ⟨rfl, rfl⟩ := h
    obtain ⟨x, l, rfl, hx, ha⟩ := ha.cons_inv
    obtain ⟨y, l, rfl, hy, ha⟩ := ha.cons_inv
    obtain rfl := ha.nil_inv
    obtain rfl := hx.niliface_inv
    refine leads_of_calls he (hn y w) fun e w' ⟨he, hw⟩ => ?_
    subst he; subst hw
    exact post_below hH (.refl _ _) (.bool _)
  · split at h
    · rename_i t a t' id off hn'
      obtain ⟨rfl, rfl⟩ := hn'
      split at h
      · rename_i u h' hst
        simp only [Option.some.injEq, Prod.mk.injEq] at h
        obtain ⟨rfl, rfl⟩ := h
        obtain ⟨x, l, rfl, hx, ha⟩ := ha.cons_inv
        obtain ⟨y, l, rfl, hy, ha⟩ := ha.cons_inv
        obtain rfl := ha.nil_inv
        obtain ⟨x', rfl, hx2⟩ := hx.iface_inv
        obtain ⟨y', rfl, hy2⟩ := hy.iface_inv
        obtain rfl := hx2.int_inv
        obtain ⟨p, hp, rfl⟩ := hy2.ptr_inv
        obtain ⟨k1, k2⟩ := hH.below (hW4 a p.blk (p.base + off) w)
        unfold fStore at hst
        simp only at hst
        split at hst
        · rename_i row hrow
          simp only [AVal.cells, AVal.whole] at hst
          simp only [List.length_singleton, and_self, if_true] at hst
          split at hst
          · rename_i row' hsp
            simp only [Option.some.injEq, Prod.mk.injEq] at hst
            obtain ⟨-, rfl⟩ := hst
            obtain ⟨w5, hs, hh, ht⟩ := k1.store hp hrow (cs := [.int .i64 a]) (vs := [.int .i64 a]) hsp (.cons _ _ _ _ (.int _ _) .nil) rfl
            refine leads_of_calls he (hc a p.blk (p.base + off) w w5 (hS w hH.ground) hs) fun e w' ⟨he, hw⟩ => ?_
            subst he; subst hw
            exact ⟨_, μ, rfl, .bool _, hh, k2.trans ht⟩
          · simp at hst
        · simp at hst
      · simp at h
    · simp at h
  · simp at h
end Go.AM
