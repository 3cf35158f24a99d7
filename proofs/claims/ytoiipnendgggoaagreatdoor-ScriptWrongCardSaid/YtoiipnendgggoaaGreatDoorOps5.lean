/- A part of the proof of the claim of this folder (Ops5). -/
import Derived.Test.YtoiipnendgggoaaGreatDoorOps4
set_option autoImplicit true
set_option relaxedAutoImplicit true
set_option linter.all false
set_option linter.deprecated false
set_option linter.unnecessarySimpa false
set_option linter.unusedSectionVars false
set_option linter.unusedSimpArgs false
set_option linter.unusedVariables false
/-! Operations: append, copy, clear, len, cap, max, min, maps. -/
namespace Go.AM
variable [G : Ground]
variable {P : Program} {μ : Mu} {H H' : AHeap} {w : World} {T : Tmps} {a : Act} {v : AVal} {o : Oper}

/-- The end of append, once it is known how many elements there are and how they are read. -/
def appendTail (elem : TypeId) (size : Nat) (zeros : Bool) (base : Option Addr) (sLen sCap n : Nat) (s x : Value) (appended : Sem (Array Value)) : Sem Value := do
  let need := sLen + n
  if need ≤ sCap then
    let new ← appended
    if let some a := base then storeCells (a.add (sLen * size)) new.toList
    pure (.slice base need sCap)
  else
    if (need : Int) > IntKind.i64.max ∧ (zeros ∨ (← typeInfo elem).bytes = 0) then runtimePanic (.error "growslice: len out of range")
    if Builtin.nextslicecap need sCap * (← typeInfo elem).bytes > 2 ^ 48 then (if zeros then runtimePanic (.error "growslice: len out of range") else do
      if !(← Builtin.mayShare size sLen n base x) then mark .noRoom
      unsupported (.resourceLimit "append: a slice or a string whose bytes no memory bears"))
    let newCap ← choose (.appendCap need sCap elem)
    askRoom (newCap * (← typeInfo elem).bytes)
    let old ← Builtin.firstCells size sLen s
    let new ← appended
    let rest := Builtin.zeroCells (← zeroValue elem).cells (newCap - need)
    pure (.slice (some (← newRow elem (old ++ new ++ rest))) need newCap)

theorem growBy_le (newLen : Nat) : ∀ (r c b : Nat), c ≤ b → newLen ≤ b → Builtin.growBy newLen r c ≤ 2 * b + 192 * 1
  | 0, c, b, hc, hn => by simp [Builtin.growBy]; omega
  | r + 1, c, b, hc, hn => by
    simp only [Builtin.growBy]
    split
    · omega
    · rename_i h
      by_cases h2 : c + (c + 768) / 4 ≤ b
      · exact growBy_le newLen r _ b h2 hn
      · have : newLen ≤ c + (c + 768) / 4 := by omega
        cases r with
        | zero => simp [Builtin.growBy]; omega
        | succ r => simp only [Builtin.growBy, ge_iff_le, this, if_true]; omega

theorem nextcap_le (need cap : Nat) (h : cap < need) : Builtin.nextslicecap need cap ≤ 3 * need := by
  unfold Builtin.nextslicecap
  split
  · omega
  · split
    · omega
    · have := growBy_le need 4 cap need (by omega) (Nat.le_refl _)
      omega

theorem zeroCells_eq (z : Array Value) (n : Nat) : Builtin.zeroCells z n = (Array.range (n * z.size)).map (z[· % z.size]!) := rfl

/-- append, once the new cells are known. -/
theorem sim_appendTail (hH : HR P μ H w) {e : TypeId} {z : List AVal} {b n : Nat} {zeros : Bool} {s x : Value} {sA : AVal} {appended : Sem (Array Value)} {new : List AVal}
    (hz : zeroOkA P e = some z) (hb : bytesA P e = some b) (hb0 : b ≠ 0) (hs : VR μ sA s) (hsc : new.all AVal.scalar = true) (hnl : new.length = n * z.length)
    (happ : ∀ w', w'.heap = w.heap → ∃ vs : List Value, appended.run P w' = .ok vs.toArray w' ∧ VRs μ new vs) (he : appendCells H z.length b sA n new = some (v, H')) :
    ∃ (base : Option Addr) (sLen sCap : Nat), s = .slice base sLen sCap ∧ ∃ cv w' μ', (appendTail e z.length zeros base sLen sCap n s x appended).run P w = .ok cv w' ∧ VR μ' v cv ∧ HR P μ' H' w' ∧ Turn μ μ' w w' := by
  obtain ⟨hz1, hz2⟩ := zeroOkA_eq hz
  simp only [bytesA, Option.map_eq_some_iff] at hb
  obtain ⟨ie, hie, rfl⟩ := hb
  have hmax : maxRoom = 70368744177664 := rfl
  -- the way with a new row
  have grow : ∀ (base : Option Addr) (sLen sCap : Nat) (old : List AVal) (olds vs : List Value), VRs μ new vs → appended.run P { w with drawn := w.drawn + 1 } = .ok vs.toArray { w with drawn := w.drawn + 1 } → ¬ sLen + n ≤ sCap → (sLen + n) * ie.bytes ≤ maxRoom → VRs μ old olds → old.all AVal.scalar = true → old.length = sLen * z.length →
      (Builtin.firstCells z.length sLen s).run P { w with drawn := w.drawn + 1 } = .ok olds.toArray { w with drawn := w.drawn + 1 } →
      ∃ (newCap : Nat) (c : Array Value) (w' : World), (appendTail e z.length zeros base sLen sCap n s x appended).run P w = .ok (.slice (some ⟨w.heap.size, 0, none⟩) (sLen + n) newCap) w' ∧
        w'.heap = w.heap.push (.cells c e) ∧ sLen + n ≤ newCap ∧ c.size = newCap * z.length ∧ (∀ (i : Nat) y, (olds ++ vs)[i]? = some y → c[i]? = some y) ∧ w'.os = w.os ∧ w'.output = w.output := by
    intro base sLen sCap old olds vs hnew happd hn hroom ho hosc hol hread
    rw [hmax] at hroom
    have hneed : sLen + n ≤ 70368744177664 := Nat.le_trans (Nat.le_mul_of_pos_right _ (Nat.pos_of_ne_zero hb0)) hroom
    generalize hcap : (Question.appendCap (sLen + n) sCap e).cut (w.tape w.drawn (.appendCap (sLen + n) sCap e)) = newCap
    have hle : sLen + n ≤ newCap := by rw [← hcap]; simp only [Question.cut]; omega
    obtain ⟨zv, z1, z2, z3⟩ := run_zeroA (μ := μ) hz1 { w with drawn := w.drawn + 1 }
    have hzl := z2.length
    simp only [Array.length_toList] at hzl
    refine ⟨newCap, olds.toArray ++ vs.toArray ++ Builtin.zeroCells zv.cells (newCap - (sLen + n)), { w with heap := w.heap.push (.cells (olds.toArray ++ vs.toArray ++ Builtin.zeroCells zv.cells (newCap - (sLen + n))) e), drawn := w.drawn + 1 }, ?_, rfl, hle, ?_, ?_, rfl, rfl⟩
    · have c1 : ¬ (((sLen + n : Nat) : Int) > IntKind.i64.max ∧ (zeros = true ∨ ie.bytes = 0)) := by
        rintro ⟨h1, _⟩
        have : IntKind.i64.max = 9223372036854775807 := by decide
        rw [this] at h1
        omega
      have c2 : ¬ (Builtin.nextslicecap (sLen + n) sCap * ie.bytes > 2 ^ 48) := by
        have h1 := nextcap_le (sLen + n) sCap (by omega)
        have h2 : Builtin.nextslicecap (sLen + n) sCap * ie.bytes ≤ (3 * (sLen + n)) * ie.bytes := Nat.mul_le_mul_right _ h1
        have h3 : (3 * (sLen + n)) * ie.bytes = 3 * ((sLen + n) * ie.bytes) := Nat.mul_assoc _ _ _
        omega
      unfold appendTail
      simp only [if_neg hn, Sem.run_bind, run_typeInfoA hie, Result.andThen_ok]
      rw [if_neg c1]
      simp only [Sem.run_bind, run_typeInfoA hie, Result.andThen_ok]
      rw [if_neg c2]
      simp only [Sem.run_bind, run_choose, Question.forced, Bool.false_eq_true, if_false, hcap, Result.andThen_ok, run_typeInfoA hie, run_askRoom, hread, happd, z1, newRow, run_newObj, Sem.run_pure]
    · simp only [Array.size_append, List.size_toArray, zeroCells_eq, Array.size_map, Array.size_range]
      have e1 := ho.length
      have e2 := hnew.length
      have e3 : newCap * z.length = sLen * z.length + n * z.length + (newCap - (sLen + n)) * z.length := by
        rw [← Nat.add_mul, ← Nat.add_mul]; congr 1; omega
      rw [← hzl]
      omega
    · intro i y hy
      have hi : i < (olds ++ vs).length := (List.getElem?_eq_some_iff.1 hy).1
      rw [Array.getElem?_append]
      rw [if_pos (by simpa using hi)]
      have : (olds.toArray ++ vs.toArray) = (olds ++ vs).toArray := by simp
      rw [this]
      simpa using hy
  unfold appendCells at he
  split at he
  · have hs := hs.nilslice_inv
    refine ⟨none, 0, 0, hs, ?_⟩
    split at he
    · rename_i h0
      simp at he
      obtain ⟨rfl, rfl⟩ := he
      subst h0
      refine ⟨.slice none 0 0, w, μ, ?_, .nilslice, hH, .refl _ _⟩
      obtain ⟨vs, hv1, hnew⟩ := happ w rfl
      unfold appendTail
      simp [hv1]
    · rename_i h0
      split at he <;> simp at he
      rename_i hroom
      obtain ⟨rfl, rfl⟩ := he
      obtain ⟨vs, hv1, hnew⟩ := happ { w with drawn := w.drawn + 1 } rfl
      obtain ⟨newCap, c, w', h1, h2, h3, h4, h5, h6⟩ := grow none 0 0 [] [] vs hnew hv1 (by omega) (by simpa using hroom) .nil rfl (by simp) (by simp [hs, Builtin.firstCells])
      simp only [Nat.zero_add] at h1 h3
      obtain ⟨hh, ht⟩ := hH.newRow e (0, 0) hnew hsc (by simpa using h5) (by rw [h4, hnl]; exact Nat.mul_le_mul_right _ h3) (by intro off _; simp) h2 h6
      exact ⟨_, w', _, h1, .slice _ _ _ _ _ _ ⟨w.heap.size, 0, c.size⟩ _ _ (Mu.put_same _ _ _) h3 h3 (fun h => by simp at h) (.inr ⟨rfl, by simp [h4]⟩), hh, ht⟩
  · rename_i id off len lo exact sz
    obtain ⟨p, ad, cap, hs2, hp, b1, b2, b3, b4⟩ := hs.slice_inv
    refine ⟨some ad, len, cap, hs2, ?_⟩
    split at he
    · simp at he
    · rename_i hsz
      simp at hsz
      subst hsz
      split at he
      · rename_i hin
        split at he
        · rename_i l hrow
          split at he
          · rename_i l' hsp
            simp at he
            obtain ⟨rfl, rfl⟩ := he
            obtain ⟨vs, hv1, hnew⟩ := happ w rfl
            by_cases hc0 : cap = 0
            · -- nothing is written
              have hn0 : n = 0 := by omega
              have hl0 : len = 0 := by omega
              have hvs : vs = [] := by
                have := hnew.length
                rw [hnl, hn0] at this
                simp at this
                exact List.eq_nil_of_length_eq_zero this.symm
              have hnew0 : new = [] := by
                have := hnew.length
                rw [hvs] at this
                exact List.eq_nil_of_length_eq_zero this
              obtain ⟨hle, rfl⟩ := splice?_some hsp
              have hsame : splice l (off + len * z.length) new = l := by rw [hnew0]; simp [splice]
              obtain ⟨q, hq, hcells⟩ := hH.row hrow
              rw [hp] at hq; cases hq
              refine ⟨.slice (some ad) (len + n) cap, w, μ, ?_, .slice _ _ _ _ _ _ p ad cap hp (by omega) b2 b3 b4, ?_, .refl _ _⟩
              · unfold appendTail
                simp [show len + n ≤ cap by omega, hv1, hvs, storeCells]
              · rw [hsame]
                obtain ⟨cc, el, fz, k1, k2⟩ := hcells
                exact (hH.put hp (AHeap.live_row hrow) ⟨rfl, k1, fun _ _ => rfl, rfl, rfl⟩ (by intro r hr; rw [k1] at hr; cases hr) (x := .cells l) ⟨cc, el, fz, k1, k2⟩).1
            · obtain ⟨g1, g2⟩ := b4.resolve_left hc0
              obtain ⟨w', h1, h2, h3⟩ := hH.store hp hrow hsp hnew hsc
              refine ⟨.slice (some ad) (len + n) cap, w', μ, ?_, .slice _ _ _ _ _ _ p ad cap hp (by omega) b2 b3 b4, h2, h3⟩
              unfold appendTail
              simp only [show len + n ≤ cap by omega, if_true, Sem.run_bind, hv1, Result.andThen_ok, g1, Addr.add_none]
              simp [← Nat.add_assoc] at h1
              simp [h1]
          · simp at he
        · simp at he
      · rename_i hout
        split at he
        · rename_i hroom
          split at he
          · rename_i l hrow
            split at he
            · rename_i old hold
              simp at he
              obtain ⟨rfl, rfl⟩ := he
              obtain ⟨q, hq, hcells⟩ := hH.row hrow
              rw [hp] at hq; cases hq
              have hid : id < H.next := by
                rcases Nat.lt_or_ge id H.next with h1 | h1
                · exact h1
                · have := (hH.top id h1).2; simp [this] at hp
              have holdl := take?_length hold
              by_cases hfit : len + n ≤ cap
              · -- there is room: the old row goes on
                obtain ⟨vs, hv1, hnew⟩ := happ w rfl
                have hex : exact = false := by
                  cases exact
                  · rfl
                  · have := b3 rfl; omega
                subst hex
                obtain ⟨g1, g2⟩ := b4.resolve_left (by omega)
                obtain ⟨c, el, fz, k1, k2, k3, k4, k5⟩ := hcells
                have hlen := hnew.length
                obtain ⟨hle, hold'⟩ := take?_some hold
                have hcap : (len + n) * z.length ≤ cap * z.length := Nat.mul_le_mul_right _ hfit
                have hsum : (len + n) * z.length = len * z.length + n * z.length := Nat.add_mul _ _ _
                have hone : ∀ y ∈ vs, y.oneCell' = true := by
                  intro y hy
                  obtain ⟨i, hi⟩ := List.mem_iff_getElem?.1 hy
                  have hi' : i < new.length := by
                    rcases Nat.lt_or_ge i new.length with h' | h'
                    · exact h'
                    · rw [List.getElem?_eq_none (by omega)] at hi; simp at hi
                  obtain ⟨y', hy', hr⟩ := hnew.get (List.getElem?_eq_getElem hi')
                  rw [hi] at hy'
                  cases hy'
                  exact hr.oneCell (List.all_eq_true.1 hsc _ (List.getElem_mem hi'))
                obtain ⟨w', c', r1, r2, r3, r4⟩ := run_storeCells_row (P := P) p.blk el fz vs (p.base + off + len * z.length) 0 c w k1 (by omega) (by rw [k2]; exact k5) hone
                have hnone : μ H.next = none := (hH.top H.next (Nat.le_refl _)).2
                have hmle := Mu.le_put μ ⟨p.blk, p.base + off, p.size⟩ hnone
                obtain ⟨hh, ht⟩ := hH.heir hp (AHeap.live_row hrow) r2 (by intro r hr; rw [k1] at hr; cases hr) (p.base + off) p.size (x := .cells (old ++ new)) (by
                  refine ⟨c', el, fz, r2.new, (by show c'.size = p.size; omega), ?_, fun i y hy => ?_, k5⟩
                  · show p.base + off + (old ++ new).length ≤ p.size
                    simp only [List.length_append]; omega
                  · show ∃ u, c'[p.base + off + i]? = some u ∧ _
                    rw [List.getElem?_append] at hy
                    rw [r4]
                    by_cases hi : i < old.length
                    · rw [if_pos hi] at hy
                      rw [take?_get hold (by omega)] at hy
                      rw [if_neg (by omega)]
                      obtain ⟨u, m1, m2, m3⟩ := k4 _ _ hy
                      exact ⟨u, by rw [Nat.add_assoc]; exact m1, m2.mono hmle, m3⟩
                    · rw [if_neg hi] at hy
                      have hi2 : i - old.length < new.length := (List.getElem?_eq_some_iff.1 hy).1
                      rw [if_pos (by omega)]
                      obtain ⟨u, m1, m2⟩ := hnew.get hy
                      refine ⟨u, ?_, m2.mono hmle, List.all_eq_true.1 hsc _ (List.mem_iff_getElem?.2 ⟨_, hy⟩)⟩
                      rw [show p.base + off + i - (p.base + off + len * z.length + 0) = i - old.length by omega]
                      exact m1)
                refine ⟨.slice (some ad) (len + n) cap, w', _, ?_, .slice _ _ _ _ _ _ ⟨p.blk, p.base + off, p.size⟩ ad cap (Mu.put_same _ _ _) hfit hfit (fun h => by simp at h) (.inr ⟨by rw [g1]; simp, by simpa using g2⟩), hh, ht⟩
                unfold appendTail
                simp only [hfit, if_true, Sem.run_bind, hv1, Result.andThen_ok, g1, Addr.add_none]
                simp [r1]
              · -- there is none: a new row
                obtain ⟨vs, hv1, hnew⟩ := happ { w with drawn := w.drawn + 1 } rfl
                obtain ⟨olds, k1, k2, k3, k4⟩ := run_firstCells (P := P) (w := { w with drawn := w.drawn + 1 }) (size := z.length) (n := len) (new := old) (hH.heapEq rfl) hs (by
                    simp only [sliceCells, Nat.le_refl, if_true, hrow]; exact hold)
                obtain ⟨newCap, c, w', h1, h2, h3, h4, h5, h6⟩ := grow (some ad) len cap old olds vs hnew hv1 hfit hroom k2 k3 holdl k1
                have hk : HR P μ (if exact = true then H else H.put id .dead) w := by
                  cases exact
                  · simpa using hH.kill hid hp
                  · simpa using hH
                have hnx : (if exact = true then H else H.put id .dead).next = H.next := by cases exact <;> rfl
                obtain ⟨hh, ht⟩ := hk.newRow e (0, 0) (k2.append hnew) (by simp [List.all_append, k3, hsc]) h5 (by rw [h4, List.length_append, hnl, holdl, ← Nat.add_mul]; exact Nat.mul_le_mul_right _ h3) (by intro off _; simp) h2 h6
                rw [hnx] at hh ht
                exact ⟨_, w', _, h1, .slice _ _ _ _ _ _ ⟨w.heap.size, 0, c.size⟩ _ _ (Mu.put_same _ _ _) h3 h3 (fun h => by simp at h) (.inr ⟨rfl, by simp [h4]⟩), hh, ht⟩
            · simp at he
          · simp at he
        · simp at he
  · simp at he
end Go.AM
