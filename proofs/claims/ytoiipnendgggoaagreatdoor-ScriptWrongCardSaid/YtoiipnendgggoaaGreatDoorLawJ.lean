/- A part of the proof of the claim of this folder (LawJ). -/
import Derived.Test.YtoiipnendgggoaaGreatDoorLawI
import Derived.Test.YtoiipnendgggoaaGreatDoorLawH
import Derived.Lay
import Derived.LaidHandle
set_option autoImplicit true
set_option relaxedAutoImplicit true
set_option linter.all false
set_option linter.deprecated false
set_option linter.unnecessarySimpa false
set_option linter.unusedSectionVars false
set_option linter.unusedSimpArgs false
set_option linter.unusedVariables false
namespace Go.Proofs.YtoiipnendgggoaaGreatDoor
open Go.ChangeShapes Go.WideShapes Go.ChangeAt Go.RowKit Go.Proofs.Law Go.AM

noncomputable def w0 (os : Os) : World :=
  { World.holding Tryz.prog os ⟨#[], #[], []⟩ with heap := (World.holding Tryz.prog os ⟨#[], #[], []⟩).heap.modify 0 fun
      | .cells _ t frozen => .cells #[.iface 125 (.agg #[.pointer (some ⟨9, 32, none⟩)])] t frozen
      | o => o }
abbrev plainL : List (String × DataW Unit) := laidL.filter fun x => x.2.handleName?.isNone
abbrev greatL : List String := ["unicode/utf8.first", "unicode/utf8.acceptRanges", "internal/strconv.uint64pow10", "math/bits.deBruijn32tab", "math/bits.deBruijn64tab", "strconv.ErrSyntax", "strconv.ErrRange"]
noncomputable def wit (os : Os) : World := (w0 os).layVars Tryz.prog (plainL.filter fun x => greatL.contains x.1)
theorem wit_os (os : Os) : (wit os).os = os := World.layVars_os _ _ _
theorem memHeap (w : World) (args : Array Value) : (w.forCall (fun _ _ => 0) ⟨#[], args, []⟩).memory.heap = w.heap := by
  simp [World.forCall, World.memory, Input.heap]
theorem wit_met (os : Os) (args : Array Value) : laidMetH Tryz.prog laidL ((wit os).forCall (fun _ _ => 0) ⟨#[], args, []⟩).memory := by
  refine laidMetH_of_parts (laidMet_layVars (w0 := w0 os) greatL [] (memHeap (wit os) args) (by kernel_rfl) (by kernel_rfl) ?_) (by kernel_rfl)
  have e : (plainL.filter fun x => !greatL.contains x.1) = [] := by kernel_rfl
  rw [e]
  exact LaidIn.none

theorem keptBut_all {w w' : World} {may : MemPlace → Prop} (h1 : w'.os = w.os) (h2 : w'.output = w.output) (h3 : ∀ b, b < w.heap.size → w'.heap[b]? = w.heap[b]?) : w.keptBut w' may := by
  refine ⟨h1, h2, fun i hi => ?_⟩
  rw [h3 i hi]
  split
  · simp_all
  · simp_all
  · rfl

set_option maxRecDepth 100000 in
theorem lifted (os : Os) (started : os.Started) (H : Type) (enc : TypeId × Value → H) :
    ReturnsInHanded {} Tryz.checked os 3 .any (fun w args => (Rows.scriptWrongSpec.pre enc Tryz.prog Tryz.f3 [] false w args ∧ laidMetH Tryz.prog laidL w) ∧ sizedMet enc Tryz.prog Tryz.f3 (OpenSpec.ofChange Rows.scriptWrongSpec) false w args)
      (Rows.scriptWrongSpec.post enc Tryz.prog Tryz.f3 false true false false) := by
  refine returnsInHanded_of_change_and (C := Tryz.checked) (X := fun w _ => laidMetH Tryz.prog laidL w) (fun _ _ _ hh h => h.of_heap hh) own started (by kernel_rfl) Tryz.func3
    (ChangeSpec.witness_shaped (enc := enc) (C := Tryz.checked) (os := os) (X := fun w _ => laidMetH Tryz.prog laidL w) false (wit os) #[.int .u8 0] 8 (wit_os os) (World.shaped_of_ZipB (by kernel_rfl) (by kernel_rfl)) (by kernel_rfl) (by kernel_rfl) (by kernel_rfl) (wit_met os _)) ?_
  intro W base args ds gs before hval0 hW _ _ hL _
  have hval : ∀ (j : Nat) t v, Tryz.f3.params[j]? = some t → args[j]? = some v → Value.okWide Tryz.prog W .any base t v := hval0
  have hW' := hW
  obtain ⟨p, q, hA0, hV, rfl, hfz, hnd⟩ := hW
  have hA : DataW.TrodAll enc Tryz.prog W 0 (fun _ => true) true Tryz.f3.params.toList args.toList ds p := hA0
  rw [Tryz.params3] at hA hval
  obtain ⟨v0, d0, rfl, rfl, h0⟩ := trodAll_one hA
  obtain ⟨rfl, rfl⟩ := trodVars_none hV
  obtain ⟨n, rfl, rfl, rfl, hwn⟩ := open_int Tryz.underlying5 (hval 0 5 v0 rfl rfl) h0
  clear hA0 hval0
  simp only [List.append_nil] at hW'
  obtain ⟨hn0, hn1⟩ : 0 ≤ n ∧ n < 256 := by
    simp only [Lit.wf, Bool.and_eq_true, decide_eq_true_eq] at hwn
    obtain ⟨h1, h2⟩ := hwn
    have e1 : IntKind.min .u8 = 0 := rfl
    have e2 : IntKind.max .u8 = 255 := rfl
    rw [e1] at h1; rw [e2] at h2
    omega
  obtain ⟨m, rfl⟩ := Int.eq_ofNat_of_zero_le hn0
  refine (law_calls (of_laid hL) m (by omega)).mono fun e W' ⟨he, k1, k2, k3, k4⟩ => ?_
  refine ⟨_, he, _, _, [], [], [], [], hW', ?_, ?_, ?_, keptBut_all k1 k2 k4, fun h => by cases h⟩
  · exact trodAll_mk1 (shut_bool Tryz.underlying4 _)
  · exact trodAll_mk1 (shut_int Tryz.underlying5 hwn)
  · rfl

theorem scriptWrong_holds : Rows.ScriptWrongSaid :=
  OpenClaim.holds_of_wide 3 Tryz.f3 rfl rfl rfl rfl rfl rfl rfl ⟨rfl, rfl, rfl, rfl, rfl⟩ rfl rfl rfl rfl rfl (by kernel_rfl) Tryz.func3 closed
    (of_decide_eq_true (by kernel_rfl)) (by unfold Func.isWrapper; first | (rw [if_pos (by decide +kernel)]; kernel_rfl) | (rw [if_neg (by decide +kernel)]; exact ⟨rfl, rfl⟩))
    (fun os started H enc _ => lifted os started H enc)
end Go.Proofs.YtoiipnendgggoaaGreatDoor
