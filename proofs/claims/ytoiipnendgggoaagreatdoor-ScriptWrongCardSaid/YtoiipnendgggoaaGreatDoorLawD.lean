/- A part of the proof of the claim of this folder (LawD). -/
import Derived.Test.YtoiipnendgggoaaGreatDoorLawB
import Derived.Test.YtoiipnendgggoaaGreatDoorLawC
import Derived.Test.YtoiipnendgggoaaGreatDoorWalk
import Derived.Test.YtoiipnendgggoaaGreatDoorLay
import Derived.Shelf.Strings.OnBuilder
import Derived.Shelf.Strings.Repeat
import Derived.Shelf.Strconv.Itoa4
import Derived.Shelf.Strconv.ErrVarParseInt
import Derived.WalkSmall
set_option autoImplicit true
set_option relaxedAutoImplicit true
set_option linter.all false
set_option linter.deprecated false
set_option linter.unnecessarySimpa false
set_option linter.unusedSectionVars false
set_option linter.unusedSimpArgs false
set_option linter.unusedVariables false
namespace Go.Proofs
open Go.Shelf Go.RowKit
theorem Tryz.extraJ : Builder.Extra Tryz.prog Tryz.laysJoin_ren where
  sizeBuilder := by kernel_rfl
  liesBuilder := by kernel_rfl
  t5 := Tryz.laysParse.t5
  a5 := Tryz.laysParse.a5
  z5 := Tryz.laysParse.z5
  v5 := Tryz.laysParse.v5
  infoByte := by kernel_rfl
  cellsByte := by kernel_rfl
  sizeByte := by kernel_rfl
  neB5 := by decide
theorem Tryz.extraR : Builder.Extra Tryz.prog Tryz.laysRepeat_ren where
  sizeBuilder := by kernel_rfl
  liesBuilder := by kernel_rfl
  t5 := Tryz.laysParse.t5
  a5 := Tryz.laysParse.a5
  z5 := Tryz.laysParse.z5
  v5 := Tryz.laysParse.v5
  infoByte := by kernel_rfl
  cellsByte := by kernel_rfl
  sizeByte := by kernel_rfl
  neB5 := by decide
end Go.Proofs

namespace Go.AM

/-- The blocks of cells among the first n of a world. -/
abbrev groundOf (W : World) (n : Nat) : Ground where
  laid := fun b => if b < n then (match W.heap[b]? with | some (.cells c e f) => some (.cells c e f) | _ => none) else none
  lim := n
  below := fun b o h => by
    split at h
    · assumption
    · cases h
  cells := fun b o h => by
    split at h
    · split at h
      · cases h; exact ⟨_, _, _, rfl⟩
      · cases h
    · cases h

theorem stands_cells {W : World} {n b : Nat} (hb : b < n) {c : Array Value} {e : TypeId} {f : Nat × Nat} (hW : W.heap[b]? = some (.cells c e f)) {w : World} (h : @Stands (groundOf W n) w) : w.heap[b]? = some (.cells c e f) := by
  refine h b _ ?_
  show (if b < n then (match W.heap[b]? with | some (Obj.cells c e f) => some (Obj.cells c e f) | _ => none) else none) = _
  rw [if_pos hb, hW]

theorem stands_var {P : Program} {W : World} {n g : Nat} {name : String} {cs : Array Value} (hg : P.globalNamed name = some g) (hn : g < n) (hW : W.var? P name = some cs) {w : World} (h : @Stands (groundOf W n) w) : w.var? P name = some cs := by
  unfold World.var? at hW ⊢
  rw [hg] at hW ⊢
  simp only [Option.bind_some] at hW ⊢
  split at hW
  · rename_i c e f hc
    rw [stands_cells hn hc h]
    exact hW
  · cases hW

/-- Before a run of nothing that came in. -/
theorem HR.empty [G : Ground] {P : Program} {w : World} (hl : G.lim ≤ w.heap.size) (hs : Stands w) : HR P (fun _ => none) { next := 0, tbl := .leaf } w := by
  have hg : ∀ id, AHeap.get { next := 0, tbl := .leaf } id = none := fun id => by cases id <;> rfl
  exact ⟨fun id _ => ⟨hg id, rfl⟩, fun id o h => (by rw [hg] at h; cases h), fun id _ _ _ hl => (by obtain ⟨o, h, _⟩ := hl; rw [hg] at h; cases h), fun _ _ h => (by cases h), hl, hs, fun _ _ h => (by cases h)⟩

/-- Behind a run of nothing that came in: what was there stands. -/
theorem Turn.all {μ' : Mu} {w w' : World} (h : Turn (fun _ => none) μ' w w') : w'.os = w.os ∧ w'.output = w.output ∧ w.heap.size ≤ w'.heap.size ∧ ∀ b, b < w.heap.size → w'.heap[b]? = w.heap[b]? :=
  ⟨h.out.1, h.out.2, h.grow, fun b hb => h.keep b hb fun _ _ h => by cases h⟩

theorem HR.kept [G : Ground] {P : Program} {μ : Mu} {H : AHeap} {w w' : World} (h : HR P μ H w) (ho : w'.os = w.os) (hp : w'.output = w.output) (hz : w.heap.size ≤ w'.heap.size) (hb : ∀ b, b < w.heap.size → w'.heap[b]? = w.heap[b]?) :
    HR P μ H w' ∧ Turn μ μ w w' := by
  refine ⟨⟨h.top, fun id o hid => ?_, h.inj, fun id p hp => Nat.lt_of_lt_of_le (h.bnd id p hp) hz, Nat.le_trans h.lim hz, fun b x hx => ?_, h.apart⟩,
    ⟨Mu.le_refl μ, fun _ _ h => .inl h, fun b hb' _ => hb b hb', hz, fun b r hr => ⟨r, by rw [hb b (Array.getElem?_eq_some_iff.1 hr).1]; exact hr⟩, ho, hp⟩⟩
  · obtain ⟨p, hp, hx⟩ := h.obj id o hid
    exact ⟨p, hp, hx.mono (Mu.le_refl μ) (hb _ (h.bnd _ _ hp))⟩
  · rw [hb b (Nat.lt_of_lt_of_le (G.below b x hx) h.lim)]
    exact h.ground b x hx

/-- A function that takes nothing and says true, run by itself, is a prim. -/
theorem prim_of_run [G : Ground] {P : Program} {E : Env} (hE : EnvOk P E) (hP : PrimsOk P E) {n f : Nat} {H' : AHeap} (hp : E.prim f = none) {p : List AVal → AHeap → Res}
    (hr : runF E n f [] { next := 0, tbl := .leaf } = some (.bool true, H')) (hpd : ∀ args H v H', p args H = some (v, H') → args = [] ∧ v = .bool true ∧ H' = H) : PrimOk P f p := by
  intro args H v H1 h μ w cargs hH ha
  obtain ⟨rfl, rfl, rfl⟩ := hpd _ _ _ _ h
  obtain rfl := ha.nil_inv
  obtain ⟨h1, h2⟩ := sim_whole hE hP hp hr (HR.empty hH.lim hH.ground) (.nil)
  refine ⟨_, w, h1, .inl ⟨_, _, rfl, h2.mono fun e w' ⟨cv, μ', he, hv, _, ht⟩ => ?_⟩⟩
  obtain rfl := hv.bool_inv
  obtain ⟨k1, k2, k3, k4⟩ := ht.all
  obtain ⟨g1, g2⟩ := hH.kept k1 k2 k3 k4
  exact ⟨_, μ, he, .bool _, g1, g2⟩

theorem isT_inv {r : Option (AVal × AHeap)} (h : Go.Proofs.Law.isT r = true) : ∃ H, r = some (.bool true, H) := by
  unfold Go.Proofs.Law.isT at h
  split at h
  · rename_i b H; subst h; exact ⟨_, rfl⟩
  · cases h
end Go.AM
