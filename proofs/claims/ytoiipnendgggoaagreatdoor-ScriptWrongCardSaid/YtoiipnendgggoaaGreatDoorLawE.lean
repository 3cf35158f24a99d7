/- A part of the proof of the claim of this folder (LawE). -/
import Derived.Test.YtoiipnendgggoaaGreatDoorLawD
import Derived.Test.YtoiipnendgggoaaGreatDoorWalk
set_option autoImplicit true
set_option relaxedAutoImplicit true
set_option linter.all false
set_option linter.deprecated false
set_option linter.unnecessarySimpa false
set_option linter.unusedSectionVars false
set_option linter.unusedSimpArgs false
set_option linter.unusedVariables false
namespace Go.Proofs.Law
open Go.AM Go.Shelf Go.RowKit

/-- What the listed variables hold. -/
structure Laid (w : World) : Prop where
  pow : Lib.TabIs Tryz.prog w "internal/strconv.uint64pow10" .u64 Lib.pow10Tab
  syn : ∃ tp p, w.var? Tryz.prog "strconv.ErrSyntax" = some #[.iface tp p]
  ran : ∃ tp p, w.var? Tryz.prog "strconv.ErrRange" = some #[.iface tp p]
  ety : w.var? Tryz.prog "errors.errorType" = some #[.iface 125 (.agg #[.pointer (some ⟨9, 32, none⟩)])]

theorem g0 : Tryz.prog.globalNamed "errors.errorType" = some 0 := by kernel_rfl
theorem g4 : Tryz.prog.globalNamed "internal/strconv.uint64pow10" = some 4 := by kernel_rfl
theorem g5 : Tryz.prog.globalNamed "strconv.ErrSyntax" = some 5 := by kernel_rfl
theorem g6 : Tryz.prog.globalNamed "strconv.ErrRange" = some 6 := by kernel_rfl

theorem Laid.stands {W : World} (h : Laid W) {w : World} (hs : @Stands (groundOf W 7) w) : Laid w := by
  obtain ⟨h1, ⟨t2, p2, h2⟩, ⟨t3, p3, h3⟩, h4⟩ := h
  exact ⟨stands_var g4 (by decide) h1 hs, ⟨t2, p2, stands_var g5 (by decide) h2 hs⟩, ⟨t3, p3, stands_var g6 (by decide) h3 hs⟩, stands_var g0 (by decide) h4 hs⟩

theorem Laid.size {W : World} (h : Laid W) : 7 ≤ W.heap.size := by
  obtain ⟨t3, p3, h3⟩ := h.ran
  unfold World.var? at h3
  rw [g6] at h3
  simp only [Option.bind_some] at h3
  split at h3
  · rename_i hc
    have := (Array.getElem?_eq_some_iff.1 hc).1
    omega
  · cases h3

theorem ent {f : Nat} {fn : Func} {c : Code} (hf : Tryz.prog.funcs[f]? = some fn) (hname : (fn.name == "runtime.NumGoroutine") = false) (hb : fn.body = some c) : Enters' Tryz.prog f := fun args w => enters_of hf hname hb args w

theorem below_grown {w : World} {k : Nat} {os : Array Obj} : Below w.heap.size w (Sort.grow (w.drewN k) os) := by
  refine ⟨rfl, rfl, rfl, by show w.heap.size ≤ (w.heap ++ os).size; simp, fun b hb => ?_⟩
  show (w.heap ++ os)[b]? = _
  rw [Array.getElem?_append_left hb]

theorem below_bytes {w : World} {e : TypeId} {s : ByteArray} : Below w.heap.size w (Lib.bytesWorld w e s) := by
  exact Lib.bytesWorld_below _ _ _

theorem below_as4 {a : Int} {b o : Nat} {w : World} : Below w.heap.size w (asW4 a b o w) := by
  refine ⟨rfl, rfl, rfl, ?_, fun k hk => ?_⟩
  · show w.heap.size ≤ ((((w.heap.push _).push _).push _).push _).size; simp; omega
  · show ((((w.heap.push _).push _).push _).push _)[k]? = _
    simp [Array.getElem?_push, show ¬ k = w.heap.size + 1 + 1 + 1 by omega, show ¬ k = w.heap.size + 1 + 1 by omega, show ¬ k = w.heap.size + 1 by omega, show ¬ k = w.heap.size by omega]

theorem prims_inv {f : Nat} {p : List AVal → AHeap → Res} (h : prims f = some p) :
    (f = 95 ∧ p = pParse 354) ∨ (f = 96 ∧ p = pFormat) ∨ (f = 37 ∧ p = pAs 36 114) ∨ (f = 9 ∧ p = pIs 36) ∨ (f = 89 ∧ p = pCount) ∨ (f = 197 ∧ p = pIndexByte) ∨ (f = 43 ∧ p = pRepeat) ∨ (f = 55 ∧ p = pJoin) := by
  unfold prims at h
  simp only [beqN] at h
  by_cases e1 : f = 95
  · simp [e1] at h; exact .inl ⟨e1, h.symm⟩
  by_cases e2 : f = 96
  · simp [e2] at h; exact .inr (.inl ⟨e2, h.symm⟩)
  by_cases e3 : f = 37
  · simp [e3] at h; exact .inr (.inr (.inl ⟨e3, h.symm⟩))
  by_cases e4 : f = 9
  · simp [e4] at h; exact .inr (.inr (.inr (.inl ⟨e4, h.symm⟩)))
  by_cases e5 : f = 89
  · simp [e5] at h; exact .inr (.inr (.inr (.inr (.inl ⟨e5, h.symm⟩))))
  by_cases e6 : f = 197
  · simp [e6] at h; exact .inr (.inr (.inr (.inr (.inr (.inl ⟨e6, h.symm⟩)))))
  by_cases e7 : f = 43
  · simp [e7] at h; exact .inr (.inr (.inr (.inr (.inr (.inr (.inl ⟨e7, h.symm⟩))))))
  by_cases e8 : f = 55
  · simp [e8] at h; exact .inr (.inr (.inr (.inr (.inr (.inr (.inr ⟨e8, h.symm⟩))))))
  simp [e1, e2, e3, e4, e5, e6, e7, e8] at h

theorem primsOk1 {W : World} (hL : Laid W) : @PrimsOk (groundOf W 7) Tryz.prog E1 := by
  letI := groundOf W 7
  intro f p hp
  rcases prims_inv hp with ⟨rfl, rfl⟩ | ⟨rfl, rfl⟩ | ⟨rfl, rfl⟩ | ⟨rfl, rfl⟩ | ⟨rfl, rfl⟩ | ⟨rfl, rfl⟩ | ⟨rfl, rfl⟩ | ⟨rfl, rfl⟩
  · refine pParse_ok (ent Tryz.func95 (by kernel_rfl) rfl) Laid Laid (fun _ h => hL.stands h) (fun _ h => hL.stands h) (fun s hs v hv w => ?_) (fun s hs hv w hw => ?_) (fun s hs hv w hw => ?_)
    · refine (Any.strconv_ParseInt_10_at64_ok Tryz.laysParse s (by omega) v hv w).mono fun e w' ⟨he, hw⟩ => ⟨he, ?_⟩
      rcases hw with rfl | ⟨t, rfl⟩
      · exact .refl _ _
      · exact below_bytes
    · obtain ⟨tp, q, h2⟩ := hw.syn
      refine (Any.strconv_ParseInt_10_at64_syntax_var Tryz.laysParse s hs hv tp q w h2).mono fun e w' ⟨N, he, h1, h3, h4⟩ => ⟨N, he, h1, (Array.getElem?_eq_some_iff.1 h3).1, h4⟩
    · obtain ⟨tp, q, h2⟩ := hw.ran
      refine (Any.strconv_ParseInt_10_at64_range_var Tryz.laysParse s hs hv tp q w h2).mono fun e w' ⟨N, he, h1, h3, h4⟩ => ⟨N, he, h1, (Array.getElem?_eq_some_iff.1 h3).1, h4⟩
  · refine pFormat_ok (ent Tryz.func96 (by kernel_rfl) rfl) Laid (fun _ h => hL.stands h) fun n h0 h1 w hw => ?_
    exact (Any.strconv_FormatInt_10 Tryz.laysFormat n h0 h1 w hw.pow).mono fun e w' ⟨he, k, os, hw'⟩ => ⟨he, hw' ▸ below_grown⟩
  · refine pAs_ok (ent Tryz.func37 (by kernel_rfl) rfl) Laid (fun _ h => hL.stands h) as_nil asW4 (fun a b o w => below_as4) fun a b o w w5 hw hst => ?_
    have := World.var?_cell g0 hw.ety 0
    exact as_errno a b o w w5 (by simpa using this) (by have := hw.size; omega) hst
  · exact pIs_ok (ent Tryz.func9 (by kernel_rfl) rfl) is_errno
  · exact pCount_ok (run_callFunc_extern Tryz.func89 (by kernel_rfl) (by kernel_rfl) (by kernel_rfl) (e := Extern.BytealgCount.count) (by kernel_rfl))
  · exact pIndexByte_ok (run_callFunc_extern Tryz.func197 (by kernel_rfl) (by kernel_rfl) (by kernel_rfl) (e := Extern.BytealgIndexByte.indexByte) (by kernel_rfl))
  · exact pRepeat_ok (ent Tryz.func43 (by kernel_rfl) rfl) fun s c w h1 h2 => Any.strings_Repeat Tryz.laysRepeat Tryz.extraR s c w h1 h2
  · exact pJoin_ok (ent Tryz.func55 (by kernel_rfl) rfl) (fun a c sep w => Any.strings_Join_none Tryz.laysJoin Tryz.extraJ a c sep w) fun bk o c xs sep w h1 h2 h3 h4 h5 => Any.strings_Join Tryz.laysJoin Tryz.extraJ bk o c xs sep w h1 h2 h3 h4 h5
end Go.Proofs.Law
