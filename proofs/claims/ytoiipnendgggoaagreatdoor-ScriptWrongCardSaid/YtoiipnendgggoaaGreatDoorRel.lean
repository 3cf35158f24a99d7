/- A part of the proof of the claim of this folder (Rel). -/
import Derived.Test.YtoiipnendgggoaaGreatDoorComp
import Derived.RangeFuncLeaves
import Derived.RangeFuncRecord
import Derived.RangeFuncNested
import Derived.Laws.Cells
import Derived.Laws.Entries
set_option autoImplicit true
set_option relaxedAutoImplicit true
set_option linter.all false
set_option linter.deprecated false
set_option linter.unnecessarySimpa false
set_option linter.unusedSectionVars false
set_option linter.unusedSimpArgs false
set_option linter.unusedVariables false
/-! How the abstract machine's state lies in the model's world. -/
namespace Go.AM

/-! ### Tables -/

theorem PT.setF_get_same {α : Type} (x : α) : ∀ (f n : Nat) (t : PT α), n < f → (PT.setF x f t n).get n = some x
  | 0, n, t, h => by omega
  | f + 1, 0, .leaf, h => by simp [PT.setF, PT.get]
  | f + 1, 0, .node l v r, h => by simp [PT.setF, PT.get]
  | f + 1, k + 1, .leaf, h => by
    have := PT.setF_get_same x f (k / 2) .leaf (by omega)
    simp only [PT.setF]
    split <;> rename_i hk <;> simp [PT.get, hk, this]
  | f + 1, k + 1, .node l v r, h => by
    have h1 := PT.setF_get_same x f (k / 2) l (by omega)
    have h2 := PT.setF_get_same x f (k / 2) r (by omega)
    simp only [PT.setF]
    split <;> rename_i hk <;> simp [PT.get, hk, h1, h2]

theorem PT.setF_get_ne {α : Type} (x : α) : ∀ (f n m : Nat) (t : PT α), n ≠ m → (PT.setF x f t n).get m = t.get m
  | 0, n, m, t, h => by simp [PT.setF]
  | f + 1, 0, 0, t, h => absurd rfl h
  | f + 1, 0, m + 1, .leaf, h => by
    simp only [PT.setF, PT.get]; split <;> simp [PT.get]
  | f + 1, 0, m + 1, .node l v r, h => by simp [PT.setF, PT.get]
  | f + 1, k + 1, 0, .leaf, h => by
    simp only [PT.setF]; split <;> simp [PT.get]
  | f + 1, k + 1, 0, .node l v r, h => by
    simp only [PT.setF]; split <;> simp [PT.get]
  | f + 1, k + 1, m + 1, .leaf, h => by
    simp only [PT.setF]
    split <;> rename_i hk
    · simp only [PT.get]
      split <;> rename_i hm
      · have := PT.setF_get_ne x f (k / 2) (m / 2) .leaf (by omega)
        simp [this, PT.get]
      · simp [PT.get]
    · simp only [PT.get]
      split <;> rename_i hm
      · simp [PT.get]
      · have := PT.setF_get_ne x f (k / 2) (m / 2) .leaf (by omega)
        simp [this, PT.get]
  | f + 1, k + 1, m + 1, .node l v r, h => by
    simp only [PT.setF]
    split <;> rename_i hk
    · simp only [PT.get]
      split <;> rename_i hm
      · exact PT.setF_get_ne x f (k / 2) (m / 2) l (by omega)
      · rfl
    · simp only [PT.get]
      split <;> rename_i hm
      · rfl
      · exact PT.setF_get_ne x f (k / 2) (m / 2) r (by omega)

theorem PT.get_set_same {α : Type} (t : PT α) (n : Nat) (x : α) : (t.set n x).get n = some x := PT.setF_get_same x (n + 1) n t (by omega)
theorem PT.get_set_ne {α : Type} (t : PT α) {n m : Nat} (x : α) (h : n ≠ m) : (t.set n x).get m = t.get m := PT.setF_get_ne x (n + 1) n m t h
theorem PT.get_leaf {α : Type} (n : Nat) : (PT.leaf : PT α).get n = none := by cases n <;> simp [PT.get]

theorem AHeap.get_put_same (h : AHeap) (id : Nat) (o : AObj) : (h.put id o).get id = some o := PT.get_set_same _ _ _
theorem AHeap.get_put_ne (h : AHeap) {id j : Nat} (o : AObj) (hn : id ≠ j) : (h.put id o).get j = h.get j := PT.get_set_ne _ _ hn
theorem AHeap.get_new_same (h : AHeap) (o : AObj) : (h.new o).get h.next = some o := PT.get_set_same _ _ _
theorem AHeap.get_new_ne (h : AHeap) {j : Nat} (o : AObj) (hn : h.next ≠ j) : (h.new o).get j = h.get j := PT.get_set_ne _ _ hn
@[simp] theorem AHeap.next_put (h : AHeap) (id : Nat) (o : AObj) : (h.put id o).next = h.next := rfl
@[simp] theorem AHeap.next_new (h : AHeap) (o : AObj) : (h.new o).next = h.next + 1 := rfl

theorem Tmps.at_set_same (T : Tmps) (n : Nat) (v : AVal) : Tmps.at (PT.set T n v) n = v := by simp [Tmps.at, PT.get_set_same]
theorem Tmps.at_set_ne (T : Tmps) {n m : Nat} (v : AVal) (h : n ≠ m) : Tmps.at (PT.set T n v) m = Tmps.at T m := by simp [Tmps.at, PT.get_set_ne _ _ h]
theorem Tmps.at_leaf (n : Nat) : Tmps.at (.leaf : PT AVal) n = undefA := by simp [Tmps.at, PT.get_leaf]

/-! ### Values -/

/-- Where a block of the abstract machine lies: the model's block, from which cell on, how many cells that block has. -/
structure Place where
  blk : Nat
  base : Nat
  size : Nat

abbrev Mu := Nat → Option Place

mutual
inductive VR (μ : Mu) : AVal → Value → Prop where
  | bool (b : Bool) : VR μ (.bool b) (.bool b)
  | int (k : IntKind) (n : Int) : VR μ (.int k n) (.int k n)
  | str (s : ByteArray) (l : List Nat) (h : l = s.data.toList.map UInt8.toNat) : VR μ (.str l) (.string s)
  | nilptr : VR μ .nilptr (.pointer none)
  | ptr (id off : Nat) (p : Place) (h : μ id = some p) : VR μ (.ptr id off) (.pointer (some ⟨p.blk, p.base + off, none⟩))
  | nilslice : VR μ .nilslice (.slice none 0 0)
  | slice (id off len lo : Nat) (exact : Bool) (size : Nat) (p : Place) (ad : Addr) (cap : Nat) (h : μ id = some p) (hl : len ≤ cap) (hlo : lo ≤ cap) (hex : exact = true → cap = lo)
      (hat : cap = 0 ∨ (ad = ⟨p.blk, p.base + off, none⟩ ∧ p.base + off + cap * size ≤ p.size)) : VR μ (.slice id off len lo exact size) (.slice (some ad) len cap)
  | nilfn : VR μ .nilfn .nilFunc
  | fn (f : Nat) (a b : List AVal) (a' b' : List Value) (ha : VRs μ a a') (hb : VRs μ b b') : VR μ (.fn f a b) (.func (.func f) ⟨a'⟩ ⟨b'⟩)
  | yield (l : Nat) (p : Place) (h : μ l = some p) : VR μ (.yield l) (.func (.yield p.blk) #[] #[])
  | niliface : VR μ .niliface .nilIface
  | iface (t : Nat) (v : AVal) (v' : Value) (h : VR μ v v') : VR μ (.iface t v) (.iface t v')
  | nilmap : VR μ .nilmap (.map none)
  | map (id : Nat) (p : Place) (h : μ id = some p) : VR μ (.map id) (.map (some p.blk))
  | agg (cs : List AVal) (cs' : List Value) (h : VRs μ cs cs') (hs : cs.all AVal.scalar = true) : VR μ (.agg cs) (.agg ⟨cs'⟩)
  | tup (cs : List AVal) (cs' : List Value) (h : VRs μ cs cs') : VR μ (.tup cs) (.tuple ⟨cs'⟩)
inductive VRs (μ : Mu) : List AVal → List Value → Prop where
  | nil : VRs μ [] []
  | cons (a : AVal) (l : List AVal) (a' : Value) (l' : List Value) (h : VR μ a a') (hl : VRs μ l l') : VRs μ (a :: l) (a' :: l')
end

def Mu.le (μ μ' : Mu) : Prop := ∀ id p, μ id = some p → μ' id = some p
theorem Mu.le_refl (μ : Mu) : Mu.le μ μ := fun _ _ h => h
theorem Mu.le_trans {μ₁ μ₂ μ₃ : Mu} (h : Mu.le μ₁ μ₂) (h' : Mu.le μ₂ μ₃) : Mu.le μ₁ μ₃ := fun id p hp => h' id p (h id p hp)

mutual
theorem VR.mono {μ μ' : Mu} (hm : Mu.le μ μ') : ∀ {a : AVal} {v : Value}, VR μ a v → VR μ' a v
  | _, _, .bool b => .bool b
  | _, _, .int k n => .int k n
  | _, _, .str s l h => .str s l h
  | _, _, .nilptr => .nilptr
  | _, _, .ptr id off p h => .ptr id off p (hm _ _ h)
  | _, _, .nilslice => .nilslice
  | _, _, .slice id off len lo e s p ad cap h hl hlo hex hat => .slice id off len lo e s p ad cap (hm _ _ h) hl hlo hex hat
  | _, _, .nilfn => .nilfn
  | _, _, .fn f a b a' b' ha hb => .fn f a b a' b' (VRs.mono hm ha) (VRs.mono hm hb)
  | _, _, .yield l p h => .yield l p (hm _ _ h)
  | _, _, .niliface => .niliface
  | _, _, .iface t v v' h => .iface t v v' (VR.mono hm h)
  | _, _, .nilmap => .nilmap
  | _, _, .map id p h => .map id p (hm _ _ h)
  | _, _, .agg cs cs' h hs => .agg cs cs' (VRs.mono hm h) hs
  | _, _, .tup cs cs' h => .tup cs cs' (VRs.mono hm h)
theorem VRs.mono {μ μ' : Mu} (hm : Mu.le μ μ') : ∀ {a : List AVal} {v : List Value}, VRs μ a v → VRs μ' a v
  | _, _, .nil => .nil
  | _, _, .cons a l a' l' h hl => .cons a l a' l' (VR.mono hm h) (VRs.mono hm hl)
end

theorem VRs.length {μ : Mu} : ∀ {a : List AVal} {v : List Value}, VRs μ a v → a.length = v.length
  | _, _, .nil => rfl
  | _, _, .cons _ _ _ _ _ hl => by simp [VRs.length hl]

theorem VRs.get {μ : Mu} : ∀ {a : List AVal} {v : List Value}, VRs μ a v → ∀ {i : Nat} {x : AVal}, a[i]? = some x → ∃ y, v[i]? = some y ∧ VR μ x y
  | _, _, .nil, i, x, h => by simp at h
  | _, _, .cons a l a' l' h hl, 0, x, hx => by simp at hx; subst hx; exact ⟨a', by simp, h⟩
  | _, _, .cons a l a' l' h hl, i + 1, x, hx => by simp at hx; simpa using VRs.get hl hx

theorem VRs.of_get {μ : Mu} : ∀ {a : List AVal} {v : List Value}, a.length = v.length → (∀ (i : Nat) x y, a[i]? = some x → v[i]? = some y → VR μ x y) → VRs μ a v
  | [], [], _, _ => .nil
  | [], _ :: _, h, _ => by simp at h
  | _ :: _, [], h, _ => by simp at h
  | a :: l, b :: m, h, g => .cons a l b m (g 0 a b (by simp) (by simp)) (VRs.of_get (by simpa using h) fun i x y hx hy => g (i + 1) x y (by simpa using hx) (by simpa using hy))

theorem VRs.append {μ : Mu} : ∀ {a : List AVal} {v : List Value} {b : List AVal} {u : List Value}, VRs μ a v → VRs μ b u → VRs μ (a ++ b) (v ++ u)
  | _, _, _, _, .nil, h => by simpa using h
  | _, _, _, _, .cons a l a' l' h hl, hb => .cons _ _ _ _ h (VRs.append hl hb)

theorem VRs.take {μ : Mu} : ∀ {a : List AVal} {v : List Value}, VRs μ a v → ∀ n, VRs μ (a.take n) (v.take n)
  | _, _, .nil, n => by simpa using VRs.nil
  | _, _, .cons a l a' l' h hl, 0 => by simpa using VRs.nil
  | _, _, .cons a l a' l' h hl, n + 1 => .cons _ _ _ _ h (VRs.take hl n)

theorem VRs.drop {μ : Mu} : ∀ {a : List AVal} {v : List Value}, VRs μ a v → ∀ n, VRs μ (a.drop n) (v.drop n)
  | _, _, .nil, n => by simpa using VRs.nil
  | _, _, .cons a l a' l' h hl, 0 => .cons _ _ _ _ h hl
  | _, _, .cons a l a' l' h hl, n + 1 => by simpa using VRs.drop hl n

theorem VRs.map_map {μ : Mu} {β : Type} (f : β → AVal) (g : β → Value) : ∀ (l : List β), (∀ x ∈ l, VR μ (f x) (g x)) → VRs μ (l.map f) (l.map g)
  | [], _ => .nil
  | x :: l, h => .cons _ _ _ _ (h x (by simp)) (VRs.map_map f g l fun y hy => h y (by simp [hy]))

/-- The cells of a value. -/
theorem VR.cells {μ : Mu} {a : AVal} {v : Value} (h : VR μ a v) : VRs μ a.cells v.cells.toList := by
  cases h <;> first
    | (rename_i cs cs' h hs; exact h)
    | exact .cons _ _ _ _ (by constructor <;> assumption) .nil
    | (rename_i cs cs' h; exact .cons _ _ _ _ (.tup _ _ h) .nil)

theorem AVal.cells_scalar {μ : Mu} {a : AVal} {v : Value} (h : VR μ a v) (hw : a.whole = true) : a.cells.all AVal.scalar = true := by
  cases h <;> simp_all [AVal.cells, AVal.scalar, AVal.whole]

theorem VR.oneCell {μ : Mu} {a : AVal} {v : Value} (h : VR μ a v) (hs : a.scalar = true) : v.oneCell' = true := by
  cases h <;> simp_all [AVal.scalar, Value.oneCell']

theorem VR.undef {μ : Mu} : VR μ undefA undef := .tup _ _ .nil

/-! ### Temporaries -/

def TR (μ : Mu) (T : Tmps) (a : Array Value) : Prop := ∀ i, VR μ (T.at i) (a.getD i undef)

theorem TR.mono {μ μ' : Mu} (hm : Mu.le μ μ') {T : Tmps} {a : Array Value} (h : TR μ T a) : TR μ' T a := fun i => (h i).mono hm

theorem TR.set {μ : Mu} {T : Tmps} {a : Array Value} (h : TR μ T a) {d : Nat} (hd : d < a.size) {x : AVal} {v : Value} (hx : VR μ x v) :
    TR μ (PT.set T d x) (a.setIfInBounds d v) := by
  intro i
  by_cases hi : d = i
  · subst hi
    simpa [Tmps.at_set_same, hd] using hx
  · have := h i
    rw [Tmps.at_set_ne _ _ hi]
    simpa [Array.getD_eq_getD_getElem?, Array.getElem?_setIfInBounds, hi] using this

theorem TR.eval {μ : Mu} {T : Tmps} {a : Act} (h : TR μ T a.tmps) : ∀ {o : Operand} {x : AOpd}, opdA o = some x → VR μ (T.eval x) (a.eval o) := by
  have flat : ∀ {v : Value} {y : AVal}, ofFlat v = some y → VR μ y v := by
    intro v y hy
    unfold ofFlat at hy
    split at hy <;> simp at hy <;> subst hy <;> first
      | exact .bool _ | exact .int _ _ | exact .str _ _ rfl | exact .nilptr | exact .nilslice | exact .nilfn | exact .niliface | exact .nilmap | exact .iface _ _ _ (.int _ _)
  have flats : ∀ {l : List Value} {m : List AVal}, ofFlats l = some m → VRs μ m l ∧ m.all AVal.scalar = true := by
    intro l
    induction l with
    | nil => intro m hm; simp [ofFlats] at hm; subst hm; exact ⟨.nil, rfl⟩
    | cons v l ih =>
      intro m hm
      unfold ofFlats at hm
      split at hm
      · rename_i a as ha has
        simp at hm; subst hm
        refine ⟨.cons _ _ _ _ (flat ha) (ih has).1, ?_⟩
        have : a.scalar = true := by
          unfold ofFlat at ha
          split at ha <;> simp at ha <;> subst ha <;> rfl
        simp [this, (ih has).2]
      · simp at hm
  intro o x hx
  cases o with
  | tmp t => simp [opdA] at hx; subst hx; exact h t
  | func f => simp [opdA] at hx; subst hx; exact .fn f [] [] [] [] .nil .nil
  | global g => simp [opdA] at hx
  | const v =>
    simp only [opdA, Option.map_eq_some_iff] at hx
    obtain ⟨y, hy, rfl⟩ := hx
    show VR μ y v
    unfold ofValue at hy
    split at hy
    · rename_i cs
      simp only [Option.map_eq_some_iff] at hy
      obtain ⟨m, hm, rfl⟩ := hy
      exact .agg m cs.toList (flats hm).1 (flats hm).2
    · exact flat hy

theorem TR.evals {μ : Mu} {T : Tmps} {a : Act} (h : TR μ T a.tmps) : ∀ {o : List Operand} {x : List AOpd}, opdsA o = some x → VRs μ (x.map T.eval) (o.map a.eval)
  | [], x, hx => by simp [opdsA] at hx; subst hx; exact .nil
  | o :: l, x, hx => by
    unfold opdsA at hx
    split at hx
    · rename_i b bs hb hbs
      simp at hx; subst hx
      exact .cons _ _ _ _ (TR.eval h hb) (TR.evals h hbs)
    · simp at hx
end Go.AM
