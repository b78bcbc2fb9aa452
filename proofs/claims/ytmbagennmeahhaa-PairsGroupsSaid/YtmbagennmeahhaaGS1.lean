import Derived.Test.YtmbagennmeahhaaGK1
namespace Go.Proofs.Ytmbagennmeahhaa.G
open Go.BX
set_option linter.unusedSimpArgs false
set_option linter.unusedVariables false

/-! # Rows of pairs as functions of their places: swaps, turns, and what they keep -/

/-! ## The order of keys -/

theorem bl_irr : ∀ (a : Bytes), lessB a a = false
  | [] => rfl
  | x :: a => by
    show (decide (x < x) || (x == x && lessB a a)) = false
    rw [bl_irr a]
    simp

theorem bl_trans : ∀ (a b c : Bytes), lessB a b = true → lessB b c = true → lessB a c = true
  | [], [], c, h1, h2 => by cases h1
  | [], y :: b, [], h1, h2 => by cases h2
  | [], y :: b, z :: c, h1, h2 => rfl
  | x :: a, [], c, h1, h2 => by cases h1
  | x :: a, y :: b, [], h1, h2 => by cases h2
  | x :: a, y :: b, z :: c, h1, h2 => by
    have h1' : (decide (x < y) || (x == y && lessB a b)) = true := h1
    have h2' : (decide (y < z) || (y == z && lessB b c)) = true := h2
    show (decide (x < z) || (x == z && lessB a c)) = true
    simp only [Bool.or_eq_true, Bool.and_eq_true, decide_eq_true_eq, beq_iff_eq] at h1' h2' ⊢
    rcases h1' with k1 | ⟨e1, k1⟩ <;> rcases h2' with k2 | ⟨e2, k2⟩
    · exact .inl (UInt8.lt_trans k1 k2)
    · exact .inl (e2 ▸ k1)
    · exact .inl (e1 ▸ k2)
    · exact .inr ⟨e1.trans e2, bl_trans a b c k1 k2⟩

theorem bl_tot : ∀ (a b : Bytes), lessB a b = false → lessB b a = false → a = b
  | [], [], h1, h2 => rfl
  | [], y :: b, h1, h2 => by cases h1
  | x :: a, [], h1, h2 => by cases h2
  | x :: a, y :: b, h1, h2 => by
    have h1' : (decide (x < y) || (x == y && lessB a b)) = false := h1
    have h2' : (decide (y < x) || (y == x && lessB b a)) = false := h2
    simp only [Bool.or_eq_false_iff, Bool.and_eq_false_imp, decide_eq_false_iff_not, beq_iff_eq] at h1' h2'
    have e : x = y := by
      rcases UInt8.lt_or_lt_of_ne (a := x) (b := y) |> fun h => Classical.or_iff_not_imp_left.mpr (fun hn : ¬ x = y => h hn) with h | h | h
      · exact h
      · exact absurd h h1'.1
      · exact absurd h h2'.1
    subst e
    rw [bl_tot a b (h1'.2 rfl) (h2'.2 rfl)]

theorem bl_asym {a b : Bytes} (h : lessB a b = true) : lessB b a = false := by
  cases h2 : lessB b a with
  | false => rfl
  | true => have := bl_trans a b a h h2; rw [bl_irr] at this; cases this

/-- a is before b, or the same: transitive. -/
theorem bl_le {a b c : Bytes} (h1 : lessB b a = false) (h2 : lessB c b = false) : lessB c a = false := by
  cases h : lessB c a with
  | false => rfl
  | true =>
    cases hb : lessB b c with
    | true => have := bl_trans b c a hb h; rw [h1] at this; cases this
    | false => have e := bl_tot b c hb h2; subst e; rw [h1] at h; cases h

theorem bl_lt_le {a b c : Bytes} (h1 : lessB a b = true) (h2 : lessB c b = false) : lessB a c = true := by
  cases h : lessB a c with
  | true => rfl
  | false => have := bl_le h2 h; rw [h1] at this; cases this

theorem bl_le_lt {a b c : Bytes} (h1 : lessB b a = false) (h2 : lessB b c = true) : lessB a c = true := by
  cases h : lessB a c with
  | true => rfl
  | false => have := bl_le h h1; rw [h2] at this; cases this

theorem bl_ne {a b : Bytes} (h : lessB a b = true) : a ≠ b := by
  intro e; subst e; rw [bl_irr] at h; cases h

/-- Strictly before. -/
abbrev ltP (p q : Pr) : Bool := lessB p.key q.key

/-! ## Swaps and turns -/

def sw (f : Nat → Pr) (i j : Nat) : Nat → Pr := fun k => if k = i then f j else if k = j then f i else f k

def swp (f : Nat → Pr) (a b m : Nat) : Nat → Pr := fun k => if a ≤ k ∧ k < a + m then f (k - a + b) else if b ≤ k ∧ k < b + m then f (k - b + a) else f k

def rot (f : Nat → Pr) (a m b : Nat) : Nat → Pr := fun k => if a ≤ k ∧ k < a + (b - m) then f (k - a + m) else if a + (b - m) ≤ k ∧ k < b then f (k - (b - m)) else f k

theorem swp_zero (f : Nat → Pr) (a b : Nat) : swp f a b 0 = f := by
  funext k
  unfold swp
  rw [if_neg (by omega), if_neg (by omega)]

theorem swp_succ (f : Nat → Pr) {a b m i : Nat} (hab : a + m ≤ b) (hi : i < m) : sw (swp f a b i) (a + i) (b + i) = swp f a b (i + 1) := by
  funext k
  unfold sw swp
  repeat' split
  all_goals first | (exfalso; omega) | exact congrArg f (by omega)

theorem rot_gt (f : Nat → Pr) {m i j : Nat} (hi : i ≤ m) (h : j < i) : rot f (m - i) m (m + j) = rot (swp f (m - i) m j) (m - (i - j)) m (m + j) := by
  funext k
  unfold rot swp
  repeat' split
  all_goals first | (exfalso; omega) | exact congrArg f (by omega)

theorem rot_lt (f : Nat → Pr) {m i j : Nat} (hi : i ≤ m) (h : i < j) : rot f (m - i) m (m + j) = rot (swp f (m - i) (m + j - i) i) (m - i) m (m + (j - i)) := by
  funext k
  unfold rot swp
  repeat' split
  all_goals first | (exfalso; omega) | exact congrArg f (by omega)

theorem rot_eq (f : Nat → Pr) {m i : Nat} (hi : i ≤ m) : rot f (m - i) m (m + i) = swp f (m - i) m i := by
  funext k
  unfold rot swp
  repeat' split
  all_goals first | (exfalso; omega) | exact congrArg f (by omega)

theorem rot_nil (f : Nat → Pr) (a b : Nat) : rot f a a b = f := by
  funext k
  unfold rot
  repeat' split
  all_goals first | (exfalso; omega) | exact congrArg f (by omega)

theorem rot_nil' (f : Nat → Pr) (a b : Nat) : rot f a b b = f := by
  funext k
  unfold rot
  repeat' split
  all_goals first | (exfalso; omega) | exact congrArg f (by omega)

theorem rot_sw (f : Nat → Pr) (j : Nat) : rot f j (j + 1) (j + 2) = sw f j (j + 1) := by
  funext k
  unfold rot sw
  repeat' split
  all_goals first | (exfalso; omega) | exact congrArg f (by omega)

theorem rot_up (f : Nat → Pr) {a k : Nat} (h : a ≤ k) : sw (rot f a (a + 1) (k + 1)) k (k + 1) = rot f a (a + 1) (k + 2) := by
  funext x
  unfold rot sw
  dsimp only
  repeat' split
  all_goals first | (exfalso; omega) | exact congrArg f (by omega)

theorem rot_down (f : Nat → Pr) {k m : Nat} (h : k < m) : sw (rot f (k + 1) m (m + 1)) (k + 1) k = rot f k m (m + 1) := by
  funext x
  unfold rot sw
  dsimp only
  repeat' split
  all_goals first | (exfalso; omega) | exact congrArg f (by omega)

/-! ## Stretches -/

def seg (f : Nat → Pr) (a m : Nat) : List Pr := (List.range m).map fun i => f (a + i)

theorem seg_len (f : Nat → Pr) (a m : Nat) : (seg f a m).length = m := by simp [seg]

theorem seg_congr {f g : Nat → Pr} {a b m : Nat} (h : ∀ i, i < m → f (a + i) = g (b + i)) : seg f a m = seg g b m := by
  unfold seg
  exact List.map_congr_left fun i hi => h i (List.mem_range.mp hi)

theorem seg_add (f : Nat → Pr) (a m k : Nat) : seg f a (m + k) = seg f a m ++ seg f (a + m) k := by
  unfold seg
  rw [List.range_add, List.map_append, List.map_map]
  congr 1
  apply List.map_congr_left
  intro i _
  simp only [Function.comp]
  congr 1
  omega

theorem mem_seg {f : Nat → Pr} {a m : Nat} {p : Pr} : p ∈ seg f a m ↔ ∃ i, a ≤ i ∧ i < a + m ∧ f i = p := by
  unfold seg
  rw [List.mem_map]
  constructor
  · rintro ⟨i, hi, rfl⟩
    have := List.mem_range.mp hi
    exact ⟨a + i, by omega, by omega, rfl⟩
  · rintro ⟨i, h1, h2, rfl⟩
    exact ⟨i - a, List.mem_range.mpr (by omega), by rw [show a + (i - a) = i by omega]⟩

/-- Those of a key. -/
def ofKey (κ : Bytes) (l : List Pr) : List Pr := l.filter fun p => p.key == κ

theorem ofKey_app (κ : Bytes) (a b : List Pr) : ofKey κ (a ++ b) = ofKey κ a ++ ofKey κ b := by
  unfold ofKey
  exact List.filter_append ..

theorem ofKey_none {κ : Bytes} {l : List Pr} (h : ∀ p, p ∈ l → p.key ≠ κ) : ofKey κ l = [] := by
  unfold ofKey
  rw [List.filter_eq_nil_iff]
  intro p hp
  simpa using h p hp

theorem ofKey_swap {κ : Bytes} {a b : List Pr} (h : ∀ p q, p ∈ a → q ∈ b → p.key ≠ q.key) : ofKey κ (a ++ b) = ofKey κ (b ++ a) := by
  rw [ofKey_app, ofKey_app]
  by_cases ha : ∃ p, p ∈ a ∧ p.key = κ
  · obtain ⟨p, hp, rfl⟩ := ha
    rw [ofKey_none (l := b) (fun q hq e => h p q hp hq e.symm), List.append_nil, List.nil_append]
  · rw [ofKey_none (l := a) (fun p hp e => ha ⟨p, hp, e⟩), List.append_nil, List.nil_append]

/-- Moved about within [a, b), those of one key in their order. -/
def Mv (a b : Nat) (f g : Nat → Pr) : Prop := (∀ k, k < a ∨ b ≤ k → g k = f k) ∧ ∀ κ, ofKey κ (seg g a (b - a)) = ofKey κ (seg f a (b - a))

theorem Mv.refl (a b : Nat) (f : Nat → Pr) : Mv a b f f := ⟨fun _ _ => rfl, fun _ => rfl⟩

theorem Mv.trans {a b : Nat} {f g h : Nat → Pr} (x : Mv a b f g) (y : Mv a b g h) : Mv a b f h :=
  ⟨fun k hk => (y.1 k hk).trans (x.1 k hk), fun κ => (y.2 κ).trans (x.2 κ)⟩

theorem Mv.wide {a b a' b' : Nat} {f g : Nat → Pr} (x : Mv a b f g) (ha : a' ≤ a) (hab : a ≤ b) (hb : b ≤ b') : Mv a' b' f g := by
  refine ⟨fun k hk => x.1 k (by omega), fun κ => ?_⟩
  have e : b' - a' = (a - a') + ((b - a) + (b' - b)) := by omega
  rw [e, seg_add, seg_add, seg_add, seg_add, ofKey_app, ofKey_app, ofKey_app, ofKey_app]
  rw [show a' + (a - a') = a by omega, x.2 κ]
  rw [seg_congr (f := g) (g := f) (a := a') (b := a') (fun i hi => x.1 _ (by omega)), seg_congr (f := g) (g := f) (a := a + (b - a)) (b := a + (b - a)) (fun i hi => x.1 _ (by omega))]

theorem Mv.mem {a b : Nat} {f g : Nat → Pr} (x : Mv a b f g) {i : Nat} (h1 : a ≤ i) (h2 : i < b) : ∃ j, a ≤ j ∧ j < b ∧ f j = g i := by
  have hm : g i ∈ ofKey (g i).key (seg g a (b - a)) := by
    unfold ofKey
    rw [List.mem_filter]
    exact ⟨mem_seg.mpr ⟨i, h1, by omega, rfl⟩, by simp⟩
  rw [x.2] at hm
  unfold ofKey at hm
  rw [List.mem_filter] at hm
  obtain ⟨j, j1, j2, j3⟩ := mem_seg.mp hm.1
  exact ⟨j, j1, by omega, j3⟩

theorem rot_mv {f : Nat → Pr} {a m b : Nat} (h1 : a ≤ m) (h2 : m ≤ b) (h : ∀ p q, a ≤ p → p < m → m ≤ q → q < b → (f p).key ≠ (f q).key) : Mv a b f (rot f a m b) := by
  constructor
  · intro k hk
    unfold rot
    rw [if_neg (by omega), if_neg (by omega)]
  · intro κ
    have e1 : b - a = (m - a) + (b - m) := by omega
    have e2 : b - a = (b - m) + (m - a) := by omega
    have s1 : seg f a (b - a) = seg f a (m - a) ++ seg f m (b - m) := by
      rw [e1, seg_add, show a + (m - a) = m by omega]
    have s2 : seg (rot f a m b) a (b - a) = seg f m (b - m) ++ seg f a (m - a) := by
      rw [e2, seg_add]
      congr 1
      · apply seg_congr
        intro i hi
        unfold rot
        rw [if_pos (by omega)]
        exact congrArg f (by omega)
      · apply seg_congr
        intro i hi
        unfold rot
        rw [if_neg (by omega), if_pos (by omega)]
        exact congrArg f (by omega)
    rw [s1, s2]
    refine (ofKey_swap ?_).symm
    intro p q hp hq
    obtain ⟨i, i1, i2, rfl⟩ := mem_seg.mp hp
    obtain ⟨j, j1, j2, rfl⟩ := mem_seg.mp hq
    exact h i j i1 (by omega) j1 (by omega)

/-- In order. -/
def Srt (f : Nat → Pr) (a b : Nat) : Prop := ∀ i j, a ≤ i → i < j → j < b → ltP (f j) (f i) = false

theorem Srt.sub {f : Nat → Pr} {a b a' b' : Nat} (h : Srt f a b) (h1 : a ≤ a') (h2 : b' ≤ b) : Srt f a' b' := fun i j x y z => h i j (by omega) y (by omega)

theorem Srt.le {f : Nat → Pr} {a b : Nat} (h : Srt f a b) {i j : Nat} (h1 : a ≤ i) (h2 : i ≤ j) (h3 : j < b) : ltP (f j) (f i) = false := by
  by_cases e : i = j
  · subst e; exact bl_irr _
  · exact h i j h1 (by omega) h3

theorem Srt.congr {f g : Nat → Pr} {a b : Nat} (h : Srt f a b) (e : ∀ k, a ≤ k → k < b → g k = f k) : Srt g a b := by
  intro i j h1 h2 h3
  rw [e i h1 (by omega), e j (by omega) h3]
  exact h i j h1 h2 h3

theorem Srt.one {f : Nat → Pr} {a b : Nat} (h : b ≤ a + 1) : Srt f a b := fun i j x y z => absurd z (by omega)

/-- Two sorted stretches, none of the first behind one of the second. -/
theorem Srt.glue {f : Nat → Pr} {a m b : Nat} (h1 : Srt f a m) (h2 : Srt f m b) (h : ∀ i j, a ≤ i → i < m → m ≤ j → j < b → ltP (f j) (f i) = false) : Srt f a b := by
  intro i j x y z
  by_cases c1 : j < m
  · exact h1 i j x y c1
  · by_cases c2 : m ≤ i
    · exact h2 i j c2 y z
    · exact h i j x (by omega) (by omega) z

/-! ## What one step of a sort keeps -/

/-- In the midst of an insertion: the pair at j is out of its place, all behind it are greater. -/
def Ins (f : Nat → Pr) (a i j : Nat) : Prop := (∀ p q, a ≤ p → p < q → q ≤ i → p ≠ j → q ≠ j → ltP (f q) (f p) = false) ∧ ∀ q, j < q → q ≤ i → ltP (f j) (f q) = true

theorem Ins.start {f : Nat → Pr} {a i : Nat} (h : Srt f a i) : Ins f a i i := ⟨fun p q h1 h2 h3 h4 h5 => h p q h1 h2 (by omega), fun q h1 h2 => absurd h1 (by omega)⟩

theorem Ins.stop {f : Nat → Pr} {a i j : Nat} (h : Ins f a i j) (ha : a ≤ j) (hj : j ≤ i) (he : j = a ∨ ltP (f j) (f (j - 1)) = false) : Srt f a (i + 1) := by
  intro p q h1 h2 h3
  by_cases e1 : p = j
  · subst e1
    exact bl_asym (h.2 q h2 (by omega))
  · by_cases e2 : q = j
    · subst e2
      rcases he with he | he
      · omega
      · by_cases e3 : p = q - 1
        · subst e3; exact he
        · exact bl_le (h.1 p (q - 1) h1 (by omega) (by omega) (by omega) (by omega)) he
    · exact h.1 p q h1 h2 (by omega) e1 e2

theorem Ins.step {f : Nat → Pr} {a i j : Nat} (h : Ins f a i (j + 1)) (ha : a ≤ j) (hj : j + 1 ≤ i) (he : ltP (f (j + 1)) (f j) = true) : Ins (sw f (j + 1) j) a i j ∧ Mv a (i + 1) f (sw f (j + 1) j) := by
  have e0 : sw f (j + 1) j (j + 1) = f j := by unfold sw; rw [if_pos rfl]
  have e1 : sw f (j + 1) j j = f (j + 1) := by unfold sw; rw [if_neg (by omega), if_pos rfl]
  have e2 : ∀ k, k ≠ j → k ≠ j + 1 → sw f (j + 1) j k = f k := fun k h1 h2 => by unfold sw; rw [if_neg h2, if_neg h1]
  refine ⟨⟨?_, ?_⟩, ?_⟩
  · intro p q h1 h2 h3 h4 h5
    by_cases c : q = j + 1
    · subst c
      rw [e0, e2 p h4 (by omega)]
      exact h.1 p j h1 (by omega) (by omega) (by omega) (by omega)
    · rw [e2 q h5 c]
      by_cases d : p = j + 1
      · subst d
        rw [e0]
        exact h.1 j q ha (by omega) h3 (by omega) c
      · rw [e2 p h4 d]
        exact h.1 p q h1 h2 h3 d c
  · intro q h1 h2
    rw [e1]
    by_cases c : q = j + 1
    · subst c; rw [e0]; exact he
    · rw [e2 q (by omega) c]
      exact h.2 q (by omega) h2
  · have es : sw f (j + 1) j = rot f j (j + 1) (j + 2) := by
      rw [rot_sw]
      funext k
      unfold sw
      repeat' split
      all_goals first | (exfalso; omega) | rfl
    rw [es]
    refine (rot_mv (by omega) (by omega) ?_).wide ha (by omega) (by omega)
    intro p q h1 h2 h3 h4
    rw [show p = j by omega, show q = j + 1 by omega]
    exact fun e => bl_ne he e.symm

/-- One pair, put into a sorted row behind it. -/
theorem mrg_one {f : Nat → Pr} {a b i : Nat} (h1 : a + 1 ≤ i) (h2 : i ≤ b) (hs : Srt f (a + 1) b) (hl : ∀ q, a + 1 ≤ q → q < i → ltP (f q) (f a) = true) (hr : ∀ q, i ≤ q → q < b → ltP (f q) (f a) = false) :
    Mv a b f (rot f a (a + 1) i) ∧ Srt (rot f a (a + 1) i) a b := by
  refine ⟨(rot_mv (by omega) h1 ?_).wide (by omega) (by omega) h2, ?_⟩
  · intro p q x y z w
    rw [show p = a by omega]
    exact fun e => bl_ne (hl q z w) e.symm
  · intro p q x y z
    unfold rot
    repeat' split
    all_goals first | (exfalso; omega) | skip
    · exact hs _ _ (by omega) (by omega) (by omega)
    · have e : q - (i - (a + 1)) = a := by omega
      rw [e]
      exact bl_asym (hl _ (by omega) (by omega))
    · exact hs _ _ (by omega) (by omega) (by omega)
    · have e : p - (i - (a + 1)) = a := by omega
      rw [e]
      exact hr q (by omega) z
    · exact hs _ _ (by omega) (by omega) (by omega)

/-- One pair, put into a sorted row ahead of it. -/
theorem mrg_last {f : Nat → Pr} {a m i : Nat} (h1 : a ≤ i) (h2 : i ≤ m) (hs : Srt f a m) (hl : ∀ q, a ≤ q → q < i → ltP (f m) (f q) = false) (hr : ∀ q, i ≤ q → q < m → ltP (f m) (f q) = true) :
    Mv a (m + 1) f (rot f i m (m + 1)) ∧ Srt (rot f i m (m + 1)) a (m + 1) := by
  refine ⟨(rot_mv h2 (by omega) ?_).wide h1 (by omega) (by omega), ?_⟩
  · intro p q x y z w
    rw [show q = m by omega]
    exact fun e => bl_ne (hr p x y) e.symm
  · intro p q x y z
    unfold rot
    repeat' split
    all_goals first | (exfalso; omega) | skip
    · have e : q - i + m = m := by omega
      rw [e]
      exact hl _ x (by omega)
    · have e : p - i + m = m := by omega
      rw [e]
      exact bl_asym (hr _ (by omega) (by omega))
    all_goals exact hs _ _ (by omega) (by omega) (by omega)

/-- Where two sorted rows are cut and turned. -/
structure Cut (f : Nat → Pr) (a m b mid s : Nat) : Prop where
  am : a < m
  mb : m < b
  lo : a ≤ s
  hi : s ≤ m
  mi : s ≤ mid
  me : mid + m - s ≤ b
  ms : m ≤ mid + m - s
  /-- All that goes back is greater than all that comes forward. -/
  gt : ∀ p q, s ≤ p → p < m → m ≤ q → q < mid + m - s → ltP (f q) (f p) = true
  le : ∀ p q, a ≤ p → p < s → mid + m - s ≤ q → q < b → ltP (f q) (f p) = false

theorem Cut.mv {f : Nat → Pr} {a m b mid s : Nat} (c : Cut f a m b mid s) : Mv a b f (rot f s m (mid + m - s)) := by
  obtain ⟨h1, h2, h3, h4, h5, h6, h7, h8, h9⟩ := c
  refine (rot_mv h4 h7 ?_).wide h3 (by omega) h6
  intro p q x y z w
  exact fun e => bl_ne (h8 p q x y z w) e.symm

theorem Cut.srt {f : Nat → Pr} {a m b mid s : Nat} (c : Cut f a m b mid s) (s1 : Srt f a m) (s2 : Srt f m b) :
    Srt (rot f s m (mid + m - s)) a s ∧ Srt (rot f s m (mid + m - s)) s mid ∧ Srt (rot f s m (mid + m - s)) mid (mid + m - s) ∧ Srt (rot f s m (mid + m - s)) (mid + m - s) b := by
  obtain ⟨h1, h2, h3, h4, h5, h6, h7, h8, h9⟩ := c
  refine ⟨?_, ?_, ?_, ?_⟩
  all_goals
    intro p q x y z
    unfold rot
    repeat' split
    all_goals first | (exfalso; omega) | exact s1 _ _ (by omega) (by omega) (by omega) | exact s2 _ _ (by omega) (by omega) (by omega)

theorem Cut.cross {f : Nat → Pr} {a m b mid s : Nat} (c : Cut f a m b mid s) (s1 : Srt f a m) (s2 : Srt f m b) :
    ∀ p q, a ≤ p → p < mid → mid ≤ q → q < b → ltP (rot f s m (mid + m - s) q) (rot f s m (mid + m - s) p) = false := by
  obtain ⟨h1, h2, h3, h4, h5, h6, h7, h8, h9⟩ := c
  intro p q x y z w
  unfold rot
  repeat' split
  all_goals first | (exfalso; omega) | skip
  all_goals first | exact bl_asym (h8 _ _ (by omega) (by omega) (by omega) (by omega)) | exact s1 _ _ (by omega) (by omega) (by omega) | exact s2 _ _ (by omega) (by omega) (by omega) | exact h9 _ _ (by omega) (by omega) (by omega) (by omega)

/-- Both halves sorted behind a cut: the whole is. -/
theorem halves {f g h : Nat → Pr} {a mid b : Nat} (h1 : a ≤ mid) (h2 : mid ≤ b) (hc : ∀ p q, a ≤ p → p < mid → mid ≤ q → q < b → ltP (f q) (f p) = false) (m1 : Mv a mid f g) (m2 : Mv mid b g h) (s1 : Srt g a mid) (s2 : Srt h mid b) :
    Mv a b f h ∧ Srt h a b := by
  refine ⟨(m1.wide (Nat.le_refl _) h1 h2).trans (m2.wide h1 h2 (Nat.le_refl _)), ?_⟩
  refine (s1.congr (fun k x y => m2.1 k (.inl y))).glue s2 ?_
  intro i j x y z w
  rw [m2.1 i (.inl y)]
  obtain ⟨i', i1, i2, i3⟩ := m1.mem x y
  obtain ⟨j', j1, j2, j3⟩ := m2.mem z w
  rw [← i3, ← j3, m1.1 j' (.inr j1)]
  exact hc i' j' i1 i2 j1 j2
end Go.Proofs.Ytmbagennmeahhaa.G
