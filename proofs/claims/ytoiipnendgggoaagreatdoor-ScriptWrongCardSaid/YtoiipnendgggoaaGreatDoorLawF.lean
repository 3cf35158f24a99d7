/- A part of the proof of the claim of this folder (LawF). -/
import Derived.Test.YtoiipnendgggoaaGreatDoorLawE
set_option autoImplicit true
set_option relaxedAutoImplicit true
set_option linter.all false
set_option linter.deprecated false
set_option linter.unnecessarySimpa false
set_option linter.unusedSectionVars false
set_option linter.unusedSimpArgs false
set_option linter.unusedVariables false
namespace Go.Proofs.Law
open Go.AM Go.Shelf Go.RowKit

theorem lenT : Tryz.prog.types.toList.length < 2 ^ 14 := of_decide_eq_true (by kernel_rfl)
theorem lenF : Tryz.prog.funcs.toList.length < 2 ^ 14 := of_decide_eq_true (by kernel_rfl)
theorem envOk1 : EnvOk Tryz.prog E1 := ⟨fun _ _ h => vfnV_eq Tryz.prog lenT lenF h, by kernel_rfl⟩
theorem envOk2 : EnvOk Tryz.prog E2 := ⟨fun _ _ h => vfnV_eq Tryz.prog lenT lenF h, by kernel_rfl⟩

theorem pKnown_inv {args : List AVal} {H : AHeap} {v : AVal} {H' : AHeap} (h : pKnown args H = some (v, H')) : args = [] ∧ v = .bool true ∧ H' = H := by
  unfold pKnown at h
  split at h
  · simp only [Option.some.injEq, Prod.mk.injEq] at h
    exact ⟨rfl, h.1.symm, h.2.symm⟩
  · cases h

theorem primsOk2 {W : World} (hL : Laid W) : @PrimsOk (groundOf W 7) Tryz.prog E2 := by
  letI := groundOf W 7
  intro f p hp
  by_cases e : f = 4
  · subst e
    have hp' : prims2 4 = some p := hp
    have : p = pKnown := by
      have h2 : prims2 4 = some pKnown := rfl
      exact Option.some.inj (hp'.symm.trans h2)
    subst this
    have hk := knownB
    rw [runK_run] at hk
    obtain ⟨H', hr⟩ := isT_inv hk
    exact prim_of_run envOk1 (primsOk1 hL) rfl hr fun _ _ _ _ h => pKnown_inv h
  · refine primsOk1 hL f p ?_
    have hp' : prims2 f = some p := hp
    unfold prims2 at hp'
    rw [beqN, decide_eq_false e] at hp'
    exact hp'

theorem law_run (n : Nat) (hn : n < 256) : ∃ H', runF E2 100000 3 [.int .u8 (Int.ofNat n)] H0 = some (.bool true, H') := by
  have h := lawB n hn

  rw [runTop_ok (by rfl)] at h
  have e : resK (fun v h => some (v, h)) (runF E2 100000 3 [.int .u8 (Int.ofNat n)] H0) = runF E2 100000 3 [.int .u8 (Int.ofNat n)] H0 := by
    cases runF E2 100000 3 [.int .u8 (Int.ofNat n)] H0 <;> rfl
  rw [e] at h
  exact isT_inv h

theorem law_calls {W : World} (hL : Laid W) (n : Nat) (hn : n < 256) : Calls Tryz.prog 3 #[.int .u8 n] W fun e W' => e = .returned (.bool true) ∧
    W'.os = W.os ∧ W'.output = W.output ∧ W.heap.size ≤ W'.heap.size ∧ ∀ b, b < W.heap.size → W'.heap[b]? = W.heap[b]? := by
  letI := groundOf W 7
  obtain ⟨H', hr⟩ := law_run n hn
  have hs : Stands W := by
    intro b o h
    have h' : (if b < 7 then (match W.heap[b]? with | some (Obj.cells c e f) => some (Obj.cells c e f) | _ => none) else none) = some o := h
    split at h'
    · split at h'
      · rename_i heq; rw [heq]; exact h'
      · cases h'
    · cases h'
  obtain ⟨-, h2⟩ := sim_whole envOk2 (primsOk2 hL) (f := 3) rfl hr (HR.empty (G := groundOf W 7) hL.size hs) (cargs := [.int .u8 n]) (.cons _ _ _ _ (.int _ _) .nil)
  refine (callsIn_wide.1 h2).mono fun e w' ⟨cv, μ', he, hv, _, ht⟩ => ?_
  obtain rfl := hv.bool_inv
  exact ⟨he, ht.all⟩
end Go.Proofs.Law
