import Derived.Test.YtckhmpcmlochpaaKRVChoice5
import Derived.Test.YtckhmpcmlochpaaKRVChoice3
import Derived.Laws.BitsLemmas
namespace Go.Proofs.Ytckhmpcmlochpaa.G
open Go.BX
set_option linter.unusedSimpArgs false
set_option linter.unusedVariables false
structure Nd where
  op : Int
  v : Vl
abbrev encN (n : Nd) : List AV := [.int .i64 n.op, .int .i64 n.v.k, .int .i64 n.v.n, .str n.v.s, .int .i64 n.v.x, .int .i64 n.v.y]
abbrev ndA (n : Nd) : AV := .agg [.int .i64 n.op, .int .i64 n.v.k, .int .i64 n.v.n, .str n.v.s, .int .i64 n.v.x, .int .i64 n.v.y]
def ops : List (Bytes × Nat) := [([97, 100, 100], 2), ([115, 117, 98], 2), ([109, 117, 108], 2), ([100, 105, 118], 2), ([109, 111, 100], 2), ([110, 101, 103], 1), ([108, 101, 115, 115], 2), ([115, 97, 109, 101], 2), ([110, 111, 116], 1), ([105, 102], 3), ([109, 97, 120], 2), ([109, 105, 110], 2), ([99, 97, 116], 2), ([108, 101, 110], 1), ([99, 117, 116], 3), ([119, 111, 114, 100], 2), ([119, 111, 114, 100, 115], 1), ([110, 117, 109], 1), ([116, 101, 120, 116], 1), ([97, 116], 2), ([114, 101], 1), ([105, 109], 1), ([110, 111, 114, 109], 1), ([99, 111, 110, 106], 1), ([101, 109, 105, 116], 2), ([116, 104, 101, 110], 2), ([101, 97, 99, 104], 2), ([108, 101, 116], 2)]
def isOp (op : Int) : Bool := decide (2 ≤ op) && decide (op ≤ 29)
def opOf (op : Int) : Bytes × Nat := if isOp op then ops.getD (op - 2).toNat ([], 0) else ([], 0)
def wordM (op : Int) : Bytes := (opOf op).1
def partsM (op : Int) : Nat := (opOf op).2
theorem ops_len : ops.length = 28 := rfl
theorem ops_get {op : Int} (h : isOp op = true) : ∃ h2 : (op - 2).toNat < ops.length, opOf op = ops[(op - 2).toNat] := by
  unfold isOp at h
  simp only [Bool.and_eq_true, decide_eq_true_eq] at h
  have h2 : (op - 2).toNat < ops.length := by rw [ops_len]; omega
  refine ⟨h2, ?_⟩
  unfold opOf isOp
  rw [if_pos (by simp; omega)]
  simp [List.getD, List.getElem?_eq_getElem h2]
theorem parts_pos {op : Int} (h : isOp op = true) : 1 ≤ partsM op ∧ partsM op ≤ 3 := by
  obtain ⟨h2, e⟩ := ops_get h
  unfold partsM
  rw [e]
  have key : ∀ x, x ∈ ops → 1 ≤ x.2 ∧ x.2 ≤ 3 := by decide
  exact key _ (List.getElem_mem h2)
theorem parts_no {op : Int} (h : isOp op = false) : partsM op = 0 ∧ wordM op = [] := by
  unfold partsM wordM opOf
  rw [h]
  exact ⟨rfl, rfl⟩
def zeroV (v : Vl) : Bool := v.k == 0 && (v.n == 0 && (v.s == [] && (v.x == 0 && v.y == 0)))
def aloneM (n : Nd) : Bool :=
  if n.op = 1 then ((n.v.k == 0 && okV n.v) && decide (0 ≤ n.v.n)) && decide (n.v.n < 5)
  else n.op == 0 && okV n.v
def partsN (n : Nd) : Nat × Bool := if isOp n.op then (partsM n.op, zeroV n.v) else (0, aloneM n)
theorem alone_op {n : Nd} (h : aloneM n = true) : isOp n.op = false ∧ (n.op = 0 ∨ n.op = 1) := by
  unfold aloneM at h
  split at h
  · rename_i e
    rw [e]
    exact ⟨rfl, .inr rfl⟩
  · rw [Bool.and_eq_true, beq_iff_eq] at h
    rw [h.1]
    exact ⟨rfl, .inl rfl⟩
theorem alone_ok {n : Nd} (h : aloneM n = true) : okV n.v = true := by
  unfold aloneM at h
  split at h
  · simp only [Bool.and_eq_true] at h; exact h.1.1.2
  · simp only [Bool.and_eq_true] at h; exact h.2
def nameT (n : Int) : Bytes := [[107, 101, 121], [118, 97, 108], [97, 99, 99], [105], [105, 116]].getD n.toNat []
def leafT (n : Nd) : Bytes := if n.op = 0 then writeV n.v.k n.v.n n.v.s n.v.x n.v.y else nameT n.v.n
def nodeT (n : Nd) (cs : List Bytes) : Bytes := 40 :: (wordM n.op ++ (cs.flatMap (fun c => 32 :: c) ++ [41]))
inductive Es : Nat → Nat → List Nd → List Bytes → Prop
  | nil (d : Nat) : Es d 0 [] []
  | leaf {d k : Nat} {n : Nd} {ls : List Nd} {bs : List Bytes} (h : aloneM n = true) (hs : Es d k ls bs) : Es d (k + 1) (n :: ls) (leafT n :: bs)
  | node {d k : Nat} {n : Nd} {ps ls : List Nd} {cs bs : List Bytes} (h : isOp n.op = true) (hz : zeroV n.v = true) (hp : Es d (partsM n.op) ps cs) (hs : Es (d + 1) k ls bs) : Es (d + 1) (k + 1) (n :: (ps ++ ls)) (nodeT n cs :: bs)
theorem Es.up {d k : Nat} {l : List Nd} {bs : List Bytes} (h : Es d k l bs) : ∀ {d' : Nat}, d ≤ d' → Es d' k l bs := by
  induction h with
  | nil => intro d' _; exact .nil _
  | leaf h hs ih => intro d' hd; exact .leaf h (ih hd)
  | node h hz hp hs ih1 ih2 =>
    intro d' hd
    obtain ⟨e, rfl⟩ : ∃ e, d' = e + 1 := ⟨d' - 1, by omega⟩
    exact .node h hz (ih1 (by omega)) (ih2 (by omega))
theorem Es.len {d k : Nat} {l : List Nd} {bs : List Bytes} (h : Es d k l bs) : k ≤ l.length ∧ bs.length = k := by
  induction h with
  | nil => exact ⟨Nat.le_refl _, rfl⟩
  | leaf h hs ih => simp only [List.length_cons]; omega
  | node h hz hp hs ih1 ih2 => simp only [List.length_cons, List.length_append]; omega
theorem Es.split {d k : Nat} {l : List Nd} {bs : List Bytes} (h : Es d (k + 1) l bs) : ∃ e ls b bs', l = e ++ ls ∧ bs = b :: bs' ∧ Es d 1 e [b] ∧ Es d k ls bs' := by
  cases h with
  | leaf h hs => exact ⟨[_], _, _, _, rfl, rfl, .leaf h (.nil _), hs⟩
  | node h hz hp hs => exact ⟨_, _, _, _, (by rw [List.cons_append]), rfl, by have := Es.node h hz hp (.nil _); rwa [List.append_nil] at this, hs⟩
theorem Es.uniq {d k : Nat} {l : List Nd} {bs : List Bytes} (h : Es d k l bs) : ∀ {d' : Nat} {l' : List Nd} {bs' : List Bytes} {p p' : List Nd}, Es d' k l' bs' → l ++ p = l' ++ p' → l = l' ∧ p = p' ∧ bs = bs' := by
  induction h with
  | nil =>
    intro d' l' bs' p p' h' e
    cases h'
    exact ⟨rfl, e, rfl⟩
  | leaf h hs ih =>
    intro d' l' bs' p p' h' e
    cases h' with
    | leaf h2 hs2 =>
      rw [List.cons_append, List.cons_append] at e
      obtain ⟨rfl, e2⟩ := List.cons.inj e
      obtain ⟨rfl, rfl, rfl⟩ := ih hs2 e2
      exact ⟨rfl, rfl, rfl⟩
    | node h2 hz2 hp2 hs2 =>
      rw [List.cons_append, List.cons_append] at e
      obtain ⟨rfl, e2⟩ := List.cons.inj e
      have := (alone_op h).1
      rw [h2] at this
      cases this
  | node h hz hp hs ih1 ih2 =>
    intro d' l' bs' p p' h' e
    cases h' with
    | leaf h2 hs2 =>
      rw [List.cons_append, List.cons_append] at e
      obtain ⟨rfl, e2⟩ := List.cons.inj e
      have := (alone_op h2).1
      rw [h] at this
      cases this
    | node h2 hz2 hp2 hs2 =>
      rw [List.cons_append, List.cons_append, List.append_assoc, List.append_assoc] at e
      obtain ⟨rfl, e2⟩ := List.cons.inj e
      obtain ⟨rfl, e3, rfl⟩ := ih1 hp2 e2
      obtain ⟨rfl, rfl, rfl⟩ := ih2 hs2 e3
      exact ⟨rfl, rfl, rfl⟩
theorem Es.at {d k : Nat} {l : List Nd} {bs : List Bytes} (h : Es d k l bs) : ∀ (i : Nat), i < l.length → ∃ d' e post b, l.drop i = e ++ post ∧ Es d' 1 e [b] ∧ d' ≤ d := by
  induction h with
  | nil => intro i hi; simp at hi
  | @leaf d k n ls bs h hs ih =>
    intro i hi
    cases i with
    | zero => exact ⟨d, [n], ls, _, rfl, .leaf h (.nil _), Nat.le_refl _⟩
    | succ i =>
      obtain ⟨d', e, post, b, h1, h2, h3⟩ := ih i (by simpa using hi)
      exact ⟨d', e, post, b, h1, h2, h3⟩
  | @node d k n ps ls cs bs h hz hp hs ih1 ih2 =>
    intro i hi
    cases i with
    | zero =>
      refine ⟨d + 1, n :: ps, ls, _, (by simp), by have := Es.node h hz hp (.nil (d + 1)); rwa [List.append_nil] at this, Nat.le_refl _⟩
    | succ i =>
      by_cases hi1 : i < ps.length
      · obtain ⟨d', e, post, b, h1, h2, h3⟩ := ih1 i hi1
        refine ⟨d', e, post ++ ls, b, ?_, h2, by omega⟩
        rw [List.drop_succ_cons, List.drop_append_of_le_length (by omega), h1, List.append_assoc]
      · obtain ⟨d', e, post, b, h1, h2, h3⟩ := ih2 (i - ps.length) (by simp at hi; omega)
        refine ⟨d', e, post, b, ?_, h2, h3⟩
        rw [List.drop_succ_cons, List.drop_append, List.drop_of_length_le (by omega), h1]
        rfl
def popZ : List Nat → List Nat
  | 0 :: r => popZ r
  | l => l
def stepM (st : List Nat) (n : Nd) : Option (List Nat) :=
  match st with
  | [] => none
  | t :: r => if (partsN n).2 = true ∧ r.length ≤ 24 then some (popZ ((partsN n).1 :: (t - 1) :: r)) else none
def runM : List Nat → List Nd → Option (List Nat)
  | st, [] => some st
  | st, n :: l => match stepM st n with
    | some st' => runM st' l
    | none => none
def rightM (l : List Nd) : Bool := (!(l.isEmpty || decide (400 < l.length))) && (runM [1] l == some [])
theorem popZ_pos {t : Nat} {r : List Nat} (h : 1 ≤ t) : popZ (t :: r) = t :: r := by
  cases t with
  | zero => omega
  | succ t => rfl
theorem run_Es {d k : Nat} {e : List Nd} {bs : List Bytes} (h : Es d k e bs) : ∀ {t : Nat} {r : List Nat} {post : List Nd}, r.length + d = 24 → 1 ≤ k → runM ((k + t) :: r) (e ++ post) = runM (popZ (t :: r)) post := by
  induction h with
  | nil => intro t r post hd hk; omega
  | @leaf d k n ls bs h hs ih =>
    intro t r post hd hk
    have hp : partsN n = (0, true) := by unfold partsN; rw [(alone_op h).1, h]; rfl
    rw [List.cons_append]
    show (match stepM ((k + 1 + t) :: r) n with | some st' => runM st' (ls ++ post) | none => none) = _
    unfold stepM
    rw [hp]
    simp only [true_and]
    rw [if_pos (by omega)]
    simp only
    show runM (popZ ((k + 1 + t - 1) :: r)) (ls ++ post) = _
    rw [show k + 1 + t - 1 = k + t by omega]
    by_cases hk0 : k = 0
    · subst hk0
      cases hs
      rw [Nat.zero_add]
      rfl
    · rw [popZ_pos (by omega)]
      exact ih hd (by omega)
  | @node d k n ps ls cs bs h hz hp hs ih1 ih2 =>
    intro t r post hd hk
    have hpn : partsN n = (partsM n.op, true) := by unfold partsN; rw [h, hz]; rfl
    have hpp := (parts_pos h).1
    rw [List.cons_append]
    show (match stepM ((k + 1 + t) :: r) n with | some st' => runM st' (ps ++ ls ++ post) | none => none) = _
    unfold stepM
    rw [hpn]
    simp only [true_and]
    rw [if_pos (by omega)]
    simp only
    rw [popZ_pos hpp, show k + 1 + t - 1 = k + t by omega, List.append_assoc]
    have h1 := ih1 (t := 0) (r := (k + t) :: r) (post := ls ++ post) (by rw [List.length_cons]; omega) hpp
    rw [Nat.add_zero] at h1
    rw [h1]
    show runM (popZ ((k + t) :: r)) (ls ++ post) = _
    by_cases hk0 : k = 0
    · subst hk0
      cases hs
      rw [Nat.zero_add]
      rfl
    · rw [popZ_pos (by omega)]
      exact ih2 hd (by omega)
theorem Es_run : ∀ (m : Nat) (l : List Nd) (t d : Nat) (r : List Nat), l.length ≤ m → 1 ≤ t → r.length + d = 24 → runM (t :: r) l = some [] → ∃ e post bs, l = e ++ post ∧ Es d t e bs ∧ runM (popZ r) post = some [] := by
  intro m
  induction m with
  | zero =>
    intro l t d r hm ht hd h
    have hl : l = [] := List.eq_nil_of_length_eq_zero (by omega)
    subst hl
    cases h
  | succ m ih =>
    intro l t d r hm ht hd h
    cases l with
    | nil => cases h
    | cons n l =>
      rw [List.length_cons] at hm
      replace h : (match stepM (t :: r) n with | some st' => runM st' l | none => none) = some [] := h
      unfold stepM at h
      simp only at h
      split at h
      · rename_i st' hst
        split at hst
        · rename_i hc
          cases hst
          cases ho : isOp n.op with
          | false =>
            have hp : partsN n = (0, aloneM n) := by unfold partsN; rw [ho]; rfl
            rw [hp] at hc h
            have ha : aloneM n = true := hc.1
            replace h : runM (popZ ((t - 1) :: r)) l = some [] := h
            by_cases ht1 : t = 1
            · subst ht1
              exact ⟨[n], l, _, rfl, .leaf ha (.nil _), h⟩
            · rw [popZ_pos (by omega)] at h
              obtain ⟨e, post, bs, rfl, h2, h3⟩ := ih l (t - 1) d r (by omega) (by omega) hd h
              refine ⟨n :: e, post, leafT n :: bs, rfl, ?_, h3⟩
              have := Es.leaf ha h2
              rwa [show t - 1 + 1 = t by omega] at this
          | true =>
            have hp : partsN n = (partsM n.op, zeroV n.v) := by unfold partsN; rw [ho]; rfl
            rw [hp] at hc h
            have hz : zeroV n.v = true := hc.1
            have hpp := (parts_pos ho).1
            rw [popZ_pos hpp] at h
            have hd1 : 1 ≤ d := by
              cases l with
              | nil => cases h
              | cons n2 l2 =>
                replace h : (match stepM (partsM n.op :: (t - 1) :: r) n2 with | some st' => runM st' l2 | none => none) = some [] := h
                unfold stepM at h
                simp only at h
                split at h
                · rename_i st2 hst2
                  split at hst2
                  · rename_i hc2
                    have := hc2.2
                    rw [List.length_cons] at this
                    omega
                  · cases hst2
                · cases h
            obtain ⟨d, rfl⟩ : ∃ d', d = d' + 1 := ⟨d - 1, by omega⟩
            obtain ⟨ps, post, cs, rfl, h2, h3⟩ := ih l (partsM n.op) d ((t - 1) :: r) (by omega) hpp (by rw [List.length_cons]; omega) h
            by_cases ht1 : t = 1
            · subst ht1
              refine ⟨n :: ps, post, [nodeT n cs], rfl, ?_, h3⟩
              have := Es.node ho hz h2 (.nil (d + 1))
              rwa [List.append_nil] at this
            · rw [popZ_pos (by omega)] at h3
              rw [List.length_append] at hm
              obtain ⟨e, post2, bs, rfl, h4, h5⟩ := ih post (t - 1) (d + 1) r (by omega) (by omega) hd h3
              refine ⟨n :: (ps ++ e), post2, nodeT n cs :: bs, by simp, ?_, h5⟩
              have := Es.node ho hz h2 h4
              rwa [show t - 1 + 1 = t by omega] at this
        · cases hst
      · cases h
theorem right_iff {l : List Nd} : rightM l = true ↔ l.length ≤ 400 ∧ ∃ b, Es 24 1 l [b] := by
  unfold rightM
  rw [Bool.and_eq_true, beq_iff_eq, Bool.not_eq_true', Bool.or_eq_false_iff, decide_eq_false_iff_not]
  constructor
  · rintro ⟨⟨_, h1⟩, h2⟩
    obtain ⟨e, post, bs, rfl, h3, h4⟩ := Es_run l.length l 1 24 [] (Nat.le_refl _) (Nat.le_refl _) rfl h2
    have hpost : post = [] := by
      cases post with
      | nil => rfl
      | cons n p => cases h4
    subst hpost
    refine ⟨by omega, ?_⟩
    rw [List.append_nil]
    match bs, h3.len.2 with
    | [b], _ => exact ⟨b, h3⟩
  · rintro ⟨h1, b, h2⟩
    refine ⟨⟨?_, by omega⟩, ?_⟩
    · have := h2.len.1
      cases l with
      | nil => simp at this
      | cons n l => rfl
    · have := run_Es h2 (t := 0) (r := []) (post := []) rfl (Nat.le_refl _)
      rw [List.append_nil] at this
      exact this
end Go.Proofs.Ytckhmpcmlochpaa.G

namespace Go.Proofs.Ytckhmpcmlochpaa.G.Gs
open Go.BX
set_option linter.unusedSimpArgs false
abbrev spot (x y : Int) : AV := .agg [.int .i64 x, .int .i64 y]
def inR (n : Int) : Bool := decide (-16777216 ≤ n) && decide (n ≤ 16777216)
theorem inside_ok (x : Int) : PCall Cx 37 [.int .i64 x] (.bool (inR x)) := by
  refine pcall_run (noext _) body37 ?_
  by_cases h : -16777216 ≤ x <;>
  simp only [h, inR, r37_0, res37, bb, bc, ↓bd, Nat.reduceEqDiff, ↓reduceIte, reduceCtorEq, Int.reduceNeg]
theorem number_ok (x y : Int) (hx : inR x = true) (hy : inR y = true) : PCall Cx 81 [spot x y] (.cpx x y) := by
  refine pcall_run (noext _) body81 ?_
  simp only [inR, Bool.and_eq_true, decide_eq_true_eq] at hx hy
  have fx : fits x = true := by simp [fits]; omega
  have fy : fits y = true := by simp [fits]; omega
  simp only [spot, fx, fy, r81_0, res81, tt, bb, bc, ↓bd, Nat.reduceEqDiff, Nat.reduceAdd, ↓reduceIte]
theorem inside_call {x : Int} {fn : FuncId} {T : Nat → AV} {ds : List ADef} {ro : Option Nat} {dst : Option Nat} {os : List AO} {k : List AItem} {H : AHeap} {Q : AV → AHeap → Prop} :
    RunCall Cx fn T ds ro 37 [.int .i64 x] dst os k H Q = RunOps Cx fn (putA T dst (.bool (inR x))) ds ro os k H Q := call_pure pure37 rfl (inside_ok x)
theorem Right_ok (x y : Int) : PCall Cx 24 [spot x y] (.bool (inR x && inR y)) := by
  refine pcall_run (noext _) body24 ?_
  by_cases h : inR x = true
  · simp only [h, spot, inside_call, r24_0, res24, tt, bb, bc, ↓bd, Nat.reduceEqDiff, Nat.reduceAdd, ↓reduceIte]
  · simp only [Bool.not_eq_true] at h
    simp only [h, spot, inside_call, r24_0, res24, tt, bb, bc, ↓bd, Nat.reduceEqDiff, Nat.reduceAdd, ↓reduceIte]
end Go.Proofs.Ytckhmpcmlochpaa.G.Gs

namespace Go.Proofs.Ytckhmpcmlochpaa.G.Gs
open Go.BX
set_option linter.unusedSimpArgs false
theorem wr64 {n : Int} (h1 : -9223372036854775808 ≤ n) (h2 : n ≤ 9223372036854775807) : IntKind.i64.wrap n = n := by
  rw [IntKind.wrap_i64]; omega
def nr (n d : Int) : Int := (2 * n + d) / (2 * d)
theorem tdiv_floor {a b : Int} (hb : 0 < b) : a / b = if a.tmod b < 0 then a.tdiv b - 1 else a.tdiv b := by
  have e := Int.tmod_add_mul_tdiv a b
  have h1 := Int.tmod_lt_of_pos a hb
  have h2 : -b < a.tmod b := by
    have := Int.tmod_lt_of_pos (-a) hb
    rw [Int.neg_tmod] at this
    omega
  split
  · refine ((Int.ediv_emod_unique (r := a.tmod b + b) hb).mpr ⟨?_, by omega, by omega⟩).1
    rw [Int.mul_sub]; omega
  · exact ((Int.ediv_emod_unique (r := a.tmod b) hb).mpr ⟨e, by omega, by omega⟩).1
theorem nearest_ok (n d : Int) (hn : -1125899906842624 ≤ n ∧ n ≤ 1125899906842624) (hd : 0 < d ∧ d ≤ 1125899906842624) : PCall Cx 89 [.int .i64 n, .int .i64 d] (.int .i64 (nr n d)) := by
  refine pcall_run (noext _) body89 ?_
  have w1 : IntKind.i64.wrap (2 * n) = 2 * n := wr64 (by omega) (by omega)
  have w2 : IntKind.i64.wrap (2 * n + d) = 2 * n + d := wr64 (by omega) (by omega)
  have w3 : IntKind.i64.wrap (2 * d) = 2 * d := wr64 (by omega) (by omega)
  have h0 : (2 * d = 0) = False := by simp; omega
  have hf := tdiv_floor (a := 2 * n + d) (b := 2 * d) (by omega)
  have e := Int.tmod_add_mul_tdiv (2 * n + d) (2 * d)
  have hb : -9223372036854775808 ≤ (2 * n + d).tdiv (2 * d) - 1 ∧ (2 * n + d).tdiv (2 * d) ≤ 9223372036854775807 := by
    have u1 : (2 * n + d) / (2 * d) ≤ 4503599627370496 := Int.ediv_le_of_le_mul (by omega) (by omega)
    have u2 : -4503599627370496 ≤ (2 * n + d) / (2 * d) := Int.le_ediv_of_mul_le (by omega) (by omega)
    rw [hf] at u1 u2
    split at u1 <;> simp_all <;> omega
  have w4 : IntKind.i64.wrap ((2 * n + d).tdiv (2 * d)) = (2 * n + d).tdiv (2 * d) := wr64 (by omega) (by omega)
  have w5 : IntKind.i64.wrap ((2 * n + d).tdiv (2 * d) - 1) = (2 * n + d).tdiv (2 * d) - 1 := wr64 (by omega) (by omega)
  by_cases h : (2 * n + d).tmod (2 * d) < 0
  · simp only [h, w1, w2, w3, w4, w5, h0, nr, hf, r89_0, r89_1, res89, bb, bc, ↓bd, Nat.reduceEqDiff, ↓reduceIte, reduceCtorEq]
  · simp only [h, w1, w2, w3, w4, h0, nr, hf, r89_0, r89_1, res89, bb, bc, ↓bd, Nat.reduceEqDiff, ↓reduceIte, reduceCtorEq]
end Go.Proofs.Ytckhmpcmlochpaa.G.Gs

namespace Go.Proofs.Ytckhmpcmlochpaa.G.Gs
open Go.BX
set_option linter.unusedSimpArgs false
theorem inR_iff {x : Int} : inR x = true ↔ -16777216 ≤ x ∧ x ≤ 16777216 := by simp [inR]
theorem fits_of {x : Int} (h : -9007199254740992 ≤ x ∧ x ≤ 9007199254740992) : fits x = true := by simp [fits]; omega
theorem number_ok' (x y : Int) (fx : fits x = true) (fy : fits y = true) : PCall Cx 81 [spot x y] (.cpx x y) := by
  refine pcall_run (noext _) body81 ?_
  simp only [fx, fy, r81_0, res81, tt, bb, bc, ↓bd, Nat.reduceEqDiff, Nat.reduceAdd, ↓reduceIte]
theorem mulB {a b M : Int} {A : Int} (ha : -A ≤ a ∧ a ≤ A) (hb : -M ≤ b ∧ b ≤ M) : -(A * M) ≤ a * b ∧ a * b ≤ A * M := by
  have h1 := Int.mul_nonneg (a := A - a) (b := M - b) (by omega) (by omega)
  have h2 := Int.mul_nonneg (a := A + a) (b := M + b) (by omega) (by omega)
  have h3 := Int.mul_nonneg (a := A - a) (b := M + b) (by omega) (by omega)
  have h4 := Int.mul_nonneg (a := A + a) (b := M - b) (by omega) (by omega)
  simp only [Int.sub_mul, Int.mul_sub, Int.add_mul, Int.mul_add] at h1 h2 h3 h4
  omega
def nrm (x y : Int) : Int := x * x + y * y
theorem nrm_bound {x y : Int} (hx : inR x = true) (hy : inR y = true) : 0 ≤ x * x ∧ 0 ≤ y * y ∧ x * x ≤ 281474976710656 ∧ y * y ≤ 281474976710656 := by
  rw [inR_iff] at hx hy
  have h1 := mulB hx hx
  have h2 := mulB hy hy
  have h3 : 0 ≤ x * x := by rcases Int.le_total 0 x with h | h
                            · exact Int.mul_nonneg h h
                            · exact Int.mul_nonneg_of_nonpos_of_nonpos h h
  have h4 : 0 ≤ y * y := by rcases Int.le_total 0 y with h | h
                            · exact Int.mul_nonneg h h
                            · exact Int.mul_nonneg_of_nonpos_of_nonpos h h
  omega
theorem norm_ok (x y : Int) (hx : inR x = true) (hy : inR y = true) : PCall Cx 76 [spot x y] (.int .i64 (nrm x y)) := by
  refine pcall_run (noext _) body76 ?_
  obtain ⟨h1, h2, h3, h4⟩ := nrm_bound hx hy
  have w1 : IntKind.i64.wrap (x * x) = x * x := wr64 (by omega) (by omega)
  have w2 : IntKind.i64.wrap (y * y) = y * y := wr64 (by omega) (by omega)
  have w3 : IntKind.i64.wrap (x * x + y * y) = x * x + y * y := wr64 (by omega) (by omega)
  simp only [w1, w2, w3, nrm, r76_0, res76, tt, bb, bc, ↓bd, Nat.reduceEqDiff, Nat.reduceAdd, ↓reduceIte]
end Go.Proofs.Ytckhmpcmlochpaa.G.Gs

namespace Go.Proofs.Ytckhmpcmlochpaa.G.Gs
open Go.BX
set_option linter.unusedSimpArgs false
def zx (a b c d : Int) : Int := a * c - b * (0 - d)
def zy (a b c d : Int) : Int := a * (0 - d) + b * c
def qX (a b c d : Int) : Int := nr (zx a b c d) (nrm c d)
def qY (a b c d : Int) : Int := nr (zy a b c d) (nrm c d)
def rX (a b c d : Int) : Int := a - (qX a b c d * c - qY a b c d * d)
def rY (a b c d : Int) : Int := b - (qX a b c d * d + qY a b c d * c)
theorem sq_ge (x : Int) : x ≤ x * x ∧ -x ≤ x * x := by
  constructor
  · rcases Int.le_total 1 x with h | h
    · have := Int.mul_nonneg (a := x) (b := x - 1) (by omega) (by omega)
      rw [Int.mul_sub] at this; omega
    · have := Int.mul_nonneg (a := 1 - x) (b := 1 - x) (by omega) (by omega)
      simp only [Int.sub_mul, Int.mul_sub] at this
      rcases Int.le_total x 0 with h0 | h0
      · have := Int.mul_nonneg_of_nonpos_of_nonpos h0 h0; omega
      · have : x = 0 ∨ x = 1 := by omega
        rcases this with rfl | rfl <;> simp
  · rcases Int.le_total x (-1) with h | h
    · have := Int.mul_nonneg (a := -x) (b := -x - 1) (by omega) (by omega)
      simp only [Int.mul_sub, Int.neg_mul, Int.mul_neg, Int.mul_one] at this; omega
    · rcases Int.le_total 0 x with h0 | h0
      · have := Int.mul_nonneg h0 h0; omega
      · have : x = 0 ∨ x = -1 := by omega
        rcases this with rfl | rfl <;> simp
theorem nrm_pos {c d : Int} (h : ¬ (c = 0 ∧ d = 0)) : 0 < nrm c d := by
  have h1 := sq_ge c
  have h2 := sq_ge d
  unfold nrm
  by_cases hc : c = 0
  · have hd : d ≠ 0 := fun e => h ⟨hc, e⟩
    subst hc
    omega
  · omega
theorem z_bound {a b c d : Int} (ha : inR a = true) (hb : inR b = true) : -(16777216 * nrm c d) ≤ a * c - b * (0 - d) ∧ a * c - b * (0 - d) ≤ 16777216 * nrm c d ∧ -(16777216 * nrm c d) ≤ a * (0 - d) + b * c ∧ a * (0 - d) + b * c ≤ 16777216 * nrm c d := by
  rw [inR_iff] at ha hb
  obtain ⟨c1, c2⟩ := sq_ge c
  obtain ⟨d1, d2⟩ := sq_ge d
  have e1 := mulB (A := 16777216) (M := c * c) ha (b := c) (by omega)
  have e2 := mulB (A := 16777216) (M := d * d) hb (b := 0 - d) (by omega)
  have e3 := mulB (A := 16777216) (M := d * d) ha (b := 0 - d) (by omega)
  have e4 := mulB (A := 16777216) (M := c * c) hb (b := c) (by omega)
  unfold nrm
  rw [Int.mul_add]
  omega
theorem nr_bound {n d : Int} (hd : 0 < d) (h : -(16777216 * d) ≤ n ∧ n ≤ 16777216 * d) : -16777216 ≤ nr n d ∧ nr n d ≤ 16777217 := by
  unfold nr
  constructor
  · exact Int.le_ediv_of_mul_le (by omega) (by omega)
  · exact Int.ediv_le_of_le_mul (by omega) (by omega)
theorem div_ok (a b c d : Int) (ha : inR a = true) (hb : inR b = true) (hc : inR c = true) (hd : inR d = true) (h0 : ¬ (c = 0 ∧ d = 0)) :
    PCall Cx 82 [spot a b, spot c d] (.tuple [spot (qX a b c d) (qY a b c d), spot (rX a b c d) (rY a b c d)]) := by
  refine pcall_run (noext _) body82 ?_
  have hp := nrm_pos h0
  have hN := nrm_bound hc hd
  have hNm : nrm c d ≤ 562949953421312 := by unfold nrm; omega
  obtain ⟨z1, z2, z3, z4⟩ := z_bound (c := c) (d := d) ha hb
  have ha' := inR_iff.mp ha
  have hb' := inR_iff.mp hb
  have hc' := inR_iff.mp hc
  have hd' := inR_iff.mp hd
  have m1 := mulB ha' hc'
  have m2 := mulB hb' (b := 0 - d) (M := 16777216) (by omega)
  have m3 := mulB ha' (b := 0 - d) (M := 16777216) (by omega)
  have m4 := mulB hb' hc'
  have q1 : -16777216 ≤ qX a b c d ∧ qX a b c d ≤ 16777217 := nr_bound hp ⟨z1, z2⟩
  have q2 : -16777216 ≤ qY a b c d ∧ qY a b c d ≤ 16777217 := nr_bound hp ⟨z3, z4⟩
  have p1 := mulB (a := qX a b c d) (A := 16777217) (by omega) hc'
  have p2 := mulB (a := qY a b c d) (A := 16777217) (by omega) hd'
  have p3 := mulB (a := qX a b c d) (A := 16777217) (by omega) hd'
  have p4 := mulB (a := qY a b c d) (A := 16777217) (by omega) hc'
  have w1 : IntKind.i64.wrap (0 - d) = 0 - d := wr64 (by omega) (by omega)
  have f0 : fits (0 - d) = true := fits_of (by omega)
  have f1 : fits (a * c) = true := fits_of (by omega)
  have f2 : fits (b * (0 - d)) = true := fits_of (by omega)
  have f3 : fits (a * c - b * (0 - d)) = true := fits_of (by omega)
  have f4 : fits (a * (0 - d)) = true := fits_of (by omega)
  have f5 : fits (b * c) = true := fits_of (by omega)
  have f6 : fits (a * (0 - d) + b * c) = true := fits_of (by omega)
  have fa : fits a = true := fits_of (by omega)
  have fb : fits b = true := fits_of (by omega)
  have fc : fits c = true := fits_of (by omega)
  have fd : fits d = true := fits_of (by omega)
  have fq1 : fits (qX a b c d) = true := fits_of (by omega)
  have fq2 : fits (qY a b c d) = true := fits_of (by omega)
  have g1 : fits (qX a b c d * c) = true := fits_of (by omega)
  have g2 : fits (qY a b c d * d) = true := fits_of (by omega)
  have g3 : fits (qX a b c d * d) = true := fits_of (by omega)
  have g4 : fits (qY a b c d * c) = true := fits_of (by omega)
  have g5 : fits (qX a b c d * c - qY a b c d * d) = true := fits_of (by omega)
  have g6 : fits (qX a b c d * d + qY a b c d * c) = true := fits_of (by omega)
  have g7 : fits (a - (qX a b c d * c - qY a b c d * d)) = true := fits_of (by omega)
  have g8 : fits (b - (qX a b c d * d + qY a b c d * c)) = true := fits_of (by omega)
  have hmin : IntKind.i64.min = -9223372036854775808 := rfl
  have hmax : IntKind.i64.max = 9223372036854775807 := rfl
  have v1 : (-9223372036854775808 ≤ a * c - b * (0 - d) ∧ a * c - b * (0 - d) ≤ 9223372036854775807) = True := eq_true (by omega)
  have v2 : (-9223372036854775808 ≤ a * (0 - d) + b * c ∧ a * (0 - d) + b * c ≤ 9223372036854775807) = True := eq_true (by omega)
  have v3 : (-9223372036854775808 ≤ a - (qX a b c d * c - qY a b c d * d) ∧ a - (qX a b c d * c - qY a b c d * d) ≤ 9223372036854775807) = True := eq_true (by omega)
  have v4 : (-9223372036854775808 ≤ b - (qX a b c d * d + qY a b c d * c) ∧ b - (qX a b c d * d + qY a b c d * c) ≤ 9223372036854775807) = True := eq_true (by omega)
  have e1 : PCall Cx 89 [.int .i64 (a * c - b * (0 - d)), .int .i64 (nrm c d)] (.int .i64 (qX a b c d)) := nearest_ok _ _ (by omega) (by omega)
  have e2 : PCall Cx 89 [.int .i64 (a * (0 - d) + b * c), .int .i64 (nrm c d)] (.int .i64 (qY a b c d)) := nearest_ok _ _ (by omega) (by omega)
  simp only [w1, f1, f2, f3, f4, f5, f6, g1, g2, g3, g4, g5, g6, g7, g8, hmin, hmax, v1, v2, v3, v4, cpxBin, call_pure pure81 rfl (number_ok' a b fa fb), call_pure pure81 rfl (number_ok' c (0 - d) fc f0), call_pure pure81 rfl (number_ok' c d fc fd), call_pure pure81 rfl (number_ok' (qX a b c d) (qY a b c d) fq1 fq2), call_pure pure76 rfl (norm_ok c d hc hd), call_pure pure89 rfl e1, call_pure pure89 rfl e2, rX, rY, r82_0, r82_1, res82, tt, bb, bc, ↓bd, Nat.reduceEqDiff, Nat.reduceAdd, Nat.reduceLeDiff, ↓reduceIte, reduceCtorEq, Int.reduceNeg]
end Go.Proofs.Ytckhmpcmlochpaa.G.Gs

namespace Go.Proofs.Ytckhmpcmlochpaa.G
open Go.BX
set_option linter.unusedSimpArgs false
set_option linter.unusedVariables false
abbrev nV (n : Int) : Vl := ⟨0, n, [], 0, 0⟩
abbrev tV (s : Bytes) : Vl := ⟨1, 0, s, 0, 0⟩
abbrev pV (x y : Int) : Vl := ⟨2, 0, [], x, y⟩
abbrev zV : Vl := ⟨0, 0, [], 0, 0⟩
abbrev truV (b : Bool) : Vl := if b then nV 1 else nV 0
abbrev pairV (k : Bytes) (v : Vl) : Pr := ⟨k, v.k, v.n, v.s, v.x, v.y⟩
def ordE (a b : Vl) : Int := ordV a.k a.n a.s a.x a.y b.k b.n b.s b.x b.y
structure Env where
  key : Bytes
  val : Vl
  acc : Vl
structure St where
  i : Int
  it : Vl
  out : List Pr
  left : Nat
  err : Int
inductive Ex where
  | lit (v : Vl)
  | nam (n : Int)
  | op1 (op : Int) (a : Ex)
  | op2 (op : Int) (a b : Ex)
  | op3 (op : Int) (a b c : Ex)
def flatE : Ex → List Nd
  | .lit v => [⟨0, v⟩]
  | .nam n => [⟨1, nV n⟩]
  | .op1 op a => ⟨op, zV⟩ :: flatE a
  | .op2 op a b => ⟨op, zV⟩ :: (flatE a ++ flatE b)
  | .op3 op a b c => ⟨op, zV⟩ :: (flatE a ++ (flatE b ++ flatE c))
def WF : Ex → Prop
  | .lit v => okV v = true
  | .nam n => 0 ≤ n ∧ n < 5
  | .op1 op a => (isOp op = true ∧ partsM op = 1) ∧ WF a
  | .op2 op a b => (isOp op = true ∧ partsM op = 2) ∧ WF a ∧ WF b
  | .op3 op a b c => (isOp op = true ∧ partsM op = 3) ∧ WF a ∧ WF b ∧ WF c
inductive AR where
  | val (v : Vl)
  | out (p : Pr) (v : Vl)
  | bad (e : Int)
def chkV (v : Vl) : AR := if okV v then .val v else .bad 14
def chkP (x y : Int) : AR := if inR x && inR y then .val (pV x y) else .bad 14
def downM (a b : Int) : Int × Int := if (a.tmod b != 0) && (decide (a.tmod b < 0) != decide (b < 0)) then (a.tdiv b - 1, a.tmod b + b) else (a.tdiv b, a.tmod b)
def num2 (op a b : Int) : AR :=
  if op = 2 then chkV (nV (a + b)) else if op = 3 then chkV (nV (a - b)) else if op = 4 then chkV (nV (a * b))
  else if b = 0 then .bad 16 else if op = 6 then .val (nV (downM a b).2) else chkV (nV (downM a b).1)
def pts2 (op a b c d : Int) : AR :=
  if op = 2 then chkP (a + c) (b + d) else if op = 3 then chkP (a - c) (b - d) else if op = 4 then chkP (a * c - b * d) (a * d + b * c)
  else if c = 0 ∧ d = 0 then .bad 16
  else if (inR (Gs.qX a b c d) && inR (Gs.qY a b c d)) && (inR (Gs.rX a b c d) && inR (Gs.rY a b c d)) then (if op = 6 then .val (pV (Gs.rX a b c d) (Gs.rY a b c d)) else .val (pV (Gs.qX a b c d) (Gs.qY a b c d))) else .bad 14
def wordsGo : Bytes → Bytes → List Bytes
  | [], cur => if cur = [] then [] else [cur]
  | c :: r, cur => if c = 32 then (if cur = [] then wordsGo r [] else cur :: wordsGo r []) else wordsGo r (cur ++ [c])
def wordsM (s : Bytes) : List Bytes := wordsGo s []
def numP (s : Bytes) : AR :=
  match parseX s with
  | .ok (v, n) => if n = s.length ∧ v.k = 0 then .val v else .bad 6
  | .error _ => .bad 6
def ap1 (op : Int) (a : Vl) : AR :=
  if op = 7 then (if a.k = 2 then .val (pV (-a.x) (-a.y)) else if a.k = 0 then .val (nV (-a.n)) else .bad 13)
  else if op = 10 then (if a.k = 0 then .val (truV (a.n == 0)) else .bad 13)
  else if op = 15 then (if a.k = 1 then .val (nV a.s.length) else .bad 13)
  else if op = 18 then (if a.k = 1 then .val (nV (wordsM a.s).length) else .bad 13)
  else if op = 19 then (if a.k = 1 then numP a.s else .bad 13)
  else if op = 20 then (if a.k = 1 then .val a else .val (tV (writeV a.k a.n a.s a.x a.y)))
  else if a.k = 2 then (if op = 22 then .val (nV a.x) else if op = 23 then .val (nV a.y) else if op = 24 then .val (nV (a.x * a.x + a.y * a.y)) else .val (pV a.x (-a.y)))
  else .bad 13
def ap2 (op : Int) (a b : Vl) (n : Nat) : AR :=
  if op ≤ 6 then (if a.k = 2 ∧ b.k = 2 then pts2 op a.x a.y b.x b.y else if a.k = 0 ∧ b.k = 0 then num2 op a.n b.n else .bad 13)
  else if op = 9 then .val (truV (ordE a b == 0))
  else if op ≤ 13 then (if a.k = b.k then (if op = 8 then .val (truV (decide (ordE a b < 0))) else if op = 12 then .val (if 0 < ordE a b then a else b) else .val (if ordE a b ≤ 0 then a else b)) else .bad 13)
  else if op = 14 then (if a.k = 1 ∧ b.k = 1 then (if a.s.length + b.s.length ≤ 4096 then .val (tV (a.s ++ b.s)) else .bad 3) else .bad 13)
  else if op = 17 then (if a.k = 1 ∧ b.k = 0 then (if 0 ≤ b.n ∧ b.n < (wordsM a.s).length then .val (tV ((wordsM a.s).getD b.n.toNat [])) else .bad 14) else .bad 13)
  else if op = 21 then (if a.k = 0 ∧ b.k = 0 then chkP a.n b.n else .bad 13)
  else if op = 26 then (if a.k = 1 then (if a.s.length ≤ 64 then (if n = 64 then .bad 22 else .out (pairV a.s b) b) else .bad 3) else .bad 13)
  else .val b
def ap3 (a b c : Vl) : AR :=
  if a.k = 1 ∧ b.k = 0 ∧ c.k = 0 then (if (0 ≤ b.n ∧ b.n ≤ c.n) ∧ c.n ≤ a.s.length then .val (tV ((a.s.take c.n.toNat).drop b.n.toNat)) else .bad 14) else .bad 13
def finS (r : AR) (st : St) : Vl × St :=
  match r with
  | .val v => (v, st)
  | .out p v => (v, { st with out := st.out ++ [p] })
  | .bad e => (zV, { st with err := e })
def failS (e : Int) (st : St) : St := if st.err = 0 then { st with err := e } else st
def eachL (f : St → Vl × St) (N : Int) : Nat → Int → Vl → St → Vl × St
  | 0, _, v, st => (v, st)
  | c + 1, k, v, st => if k < N ∧ st.err = 0 then eachL f N c (k + 1) (f { st with i := k }).1 (f { st with i := k }).2 else (v, st)
def nameE (E : Env) (n : Int) (st : St) : Vl := if n = 0 then tV E.key else if n = 1 then E.val else if n = 2 then E.acc else if n = 3 then nV st.i else st.it
def evT (E : Env) (f : Ex → St → Vl × St) (g : Nat) (t : Ex) (st : St) : Vl × St :=
  match t with
  | .lit v => (v, st)
  | .nam n => (nameE E n st, st)
  | .op1 op a => if (f a st).2.err ≠ 0 then (zV, (f a st).2) else finS (ap1 op (f a st).1) (f a st).2
  | .op2 op a b =>
    if (f a st).2.err ≠ 0 then (zV, (f a st).2)
    else if op = 29 then ((f b { (f a st).2 with it := (f a st).1 }).1, { (f b { (f a st).2 with it := (f a st).1 }).2 with it := (f a st).2.it })
    else if op = 28 then (if (f a st).1.k ≠ 0 then (zV, { (f a st).2 with err := 13 }) else if (f a st).1.n < 0 then (zV, { (f a st).2 with err := 14 })
      else ((eachL (f b) (f a st).1.n (g + 1) 0 (nV 0) (f a st).2).1, { (eachL (f b) (f a st).1.n (g + 1) 0 (nV 0) (f a st).2).2 with i := (f a st).2.i }))
    else if (f b (f a st).2).2.err ≠ 0 then (zV, (f b (f a st).2).2)
    else finS (ap2 op (f a st).1 (f b (f a st).2).1 (f b (f a st).2).2.out.length) (f b (f a st).2).2
  | .op3 op a b c =>
    if (f a st).2.err ≠ 0 then (zV, (f a st).2)
    else if op = 11 then (if (f a st).1.k ≠ 0 then (zV, { (f a st).2 with err := 13 }) else if (f a st).1.n ≠ 0 then f b (f a st).2 else f c (f a st).2)
    else if (f b (f a st).2).2.err ≠ 0 then (zV, (f b (f a st).2).2)
    else if (f c (f b (f a st).2).2).2.err ≠ 0 then (zV, (f c (f b (f a st).2).2).2)
    else finS (ap3 (f a st).1 (f b (f a st).2).1 (f c (f b (f a st).2).2).1) (f c (f b (f a st).2).2).2
def ev (E : Env) : Nat → Ex → St → Vl × St
  | 0, _, st => (zV, failS 15 st)
  | g + 1, t, st => if st.err ≠ 0 ∨ st.left = 0 then (zV, failS 15 st) else evT E (ev E g) g t { st with left := st.left - 1 }
theorem ev_err {E : Env} {g : Nat} {t : Ex} {st : St} (h : st.err ≠ 0) : ev E g t st = (zV, st) := by
  cases g with
  | zero => show (zV, failS 15 st) = _; unfold failS; rw [if_neg h]
  | succ g => unfold ev; rw [if_pos (.inl h)]; unfold failS; rw [if_neg h]
theorem ev_zero {E : Env} {g : Nat} {t : Ex} {st : St} (h : st.err = 0) (h0 : st.left = 0) : ev E g t st = (zV, { st with err := 15 }) := by
  cases g with
  | zero => show (zV, failS 15 st) = _; unfold failS; rw [if_pos h]
  | succ g => unfold ev; rw [if_pos (.inr h0)]; unfold failS; rw [if_pos h]
theorem ev_succ {E : Env} {g : Nat} {t : Ex} {st : St} (h : st.err = 0) (h0 : st.left ≠ 0) : ev E (g + 1) t st = evT E (ev E g) g t { st with left := st.left - 1 } := by
  conv => lhs; unfold ev
  rw [if_neg (by simp [h, h0])]
theorem zeroV_eq {v : Vl} (h : zeroV v = true) : v = zV := by
  unfold zeroV at h
  simp only [Bool.and_eq_true, beq_iff_eq] at h
  obtain ⟨h1, h2, h3, h4, h5⟩ := h
  cases v
  simp only at h1 h2 h3 h4 h5
  subst h1 h2 h3 h4 h5
  rfl
theorem leaf_tree {n : Nd} (h : aloneM n = true) : ∃ t, flatE t = [n] ∧ WF t := by
  obtain ⟨op, v⟩ := n
  have hok := alone_ok h
  rcases (alone_op h).2 with h0 | h1
  · simp only at h0
    subst h0
    exact ⟨.lit v, rfl, hok⟩
  · simp only at h1
    subst h1
    unfold aloneM at h
    rw [if_pos rfl] at h
    simp only [Bool.and_eq_true, decide_eq_true_eq, beq_iff_eq] at h
    obtain ⟨⟨⟨hk, _⟩, h0⟩, h5⟩ := h
    refine ⟨.nam v.n, ?_, h0, h5⟩
    obtain ⟨k, n, s, x, y⟩ := v
    simp only at hk hok h0 h5
    subst hk
    rcases right_cases (show rightV 0 n s x y = true from hok) with ⟨_, _, rfl, rfl, rfl⟩ | ⟨hk, _⟩ | ⟨hk, _⟩
    · rfl
    · cases hk
    · cases hk
theorem trees {d k : Nat} {l : List Nd} {bs : List Bytes} (h : Es d k l bs) : ∃ ts : List Ex, ts.length = k ∧ (∀ t, t ∈ ts → WF t) ∧ l = (ts.map flatE).flatten := by
  induction h with
  | nil => exact ⟨[], rfl, fun t h => (by cases h), rfl⟩
  | leaf h hs ih =>
    obtain ⟨ts, h1, h2, h3⟩ := ih
    obtain ⟨t, e, hw⟩ := leaf_tree h
    refine ⟨t :: ts, by simp [h1], fun x hx => ?_, ?_⟩
    · rcases List.mem_cons.mp hx with rfl | hx
      · exact hw
      · exact h2 x hx
    · rw [List.map_cons, List.flatten_cons, e, h3]; rfl
  | @node d k n ps ls cs bs h hz hp hs ih1 ih2 =>
    obtain ⟨us, g1, g2, g3⟩ := ih1
    obtain ⟨ts, h1, h2, h3⟩ := ih2
    obtain ⟨op, v⟩ := n
    simp only at h hz g1 hp
    obtain rfl := zeroV_eq hz
    have hpp := parts_pos h
    have key : ∃ t, WF t ∧ flatE t = ⟨op, zV⟩ :: ps := by
      match us, g1, g2, g3 with
      | [], g1, _, _ => simp at g1; omega
      | [a], g1, g2, g3 => exact ⟨.op1 op a, ⟨⟨h, g1.symm⟩, g2 a (by simp)⟩, by rw [g3]; simp [flatE]⟩
      | [a, b], g1, g2, g3 => exact ⟨.op2 op a b, ⟨⟨h, g1.symm⟩, g2 a (by simp), g2 b (by simp)⟩, by rw [g3]; simp [flatE]⟩
      | [a, b, c], g1, g2, g3 => exact ⟨.op3 op a b c, ⟨⟨h, g1.symm⟩, g2 a (by simp), g2 b (by simp), g2 c (by simp)⟩, by rw [g3]; simp [flatE]⟩
      | a :: b :: c :: e :: us, g1, _, _ => simp at g1; omega
    obtain ⟨t, hw, e⟩ := key
    refine ⟨t :: ts, by simp [h1], fun x hx => ?_, ?_⟩
    · rcases List.mem_cons.mp hx with rfl | hx
      · exact hw
      · exact h2 x hx
    · rw [List.map_cons, List.flatten_cons, e, h3]; rfl
theorem right_tree {l : List Nd} (h : rightM l = true) : l.length ≤ 400 ∧ ∃ t, WF t ∧ l = flatE t := by
  obtain ⟨h1, b, hb⟩ := right_iff.mp h
  refine ⟨h1, ?_⟩
  obtain ⟨ts, g1, g2, g3⟩ := trees hb
  match ts, g1, g2, g3 with
  | [t], _, g2, g3 => exact ⟨t, g2 t (by simp), by rw [g3]; simp⟩
end Go.Proofs.Ytckhmpcmlochpaa.G

namespace Go.Proofs.Ytckhmpcmlochpaa.G
open Go.BX
set_option linter.unusedSimpArgs false
set_option linter.unusedVariables false
structure Kp (s s' : St) : Prop where
  i : s'.i = s.i
  it : s'.it = s.it
  left : s'.left ≤ s.left
  bad : s.err ≠ 0 → s' = s
  out : ∃ l, s'.out = s.out ++ l
theorem Kp.refl (s : St) : Kp s s := ⟨rfl, rfl, Nat.le_refl _, fun _ => rfl, [], by rw [List.append_nil]⟩
theorem Kp.trans {a b c : St} (h : Kp a b) (h' : Kp b c) : Kp a c where
  i := h'.i.trans h.i
  it := h'.it.trans h.it
  left := Nat.le_trans h'.left h.left
  bad hb := by
    have e := h.bad hb
    have := h'.bad (by rw [e]; exact hb)
    rw [this, e]
  out := by
    obtain ⟨l, e⟩ := h.out
    obtain ⟨m, e'⟩ := h'.out
    exact ⟨l ++ m, by rw [e', e, List.append_assoc]⟩
theorem Kp.fin {s : St} (h : s.err = 0) (r : AR) : Kp s (finS r s).2 := by
  cases r with
  | val v => exact Kp.refl s
  | out p v => exact ⟨rfl, rfl, Nat.le_refl _, fun hb => absurd h hb, [p], rfl⟩
  | bad e => exact ⟨rfl, rfl, Nat.le_refl _, fun hb => absurd h hb, [], by rw [List.append_nil]; rfl⟩
theorem Kp.err {s : St} (h : s.err = 0) (e : Int) : Kp s { s with err := e } := ⟨rfl, rfl, Nat.le_refl _, fun hb => absurd h hb, [], by rw [List.append_nil]⟩
structure Kq (s s' : St) : Prop where
  it : s'.it = s.it
  left : s'.left ≤ s.left
  out : ∃ l, s'.out = s.out ++ l
  bad : s.err ≠ 0 → s' = s
theorem each_kq {f : St → Vl × St} (hf : ∀ s, Kp s (f s).2) (N : Int) : ∀ (c : Nat) (k : Int) (v : Vl) (s : St), Kq s (eachL f N c k v s).2
  | 0, k, v, s => ⟨rfl, Nat.le_refl _, ⟨[], by rw [List.append_nil]; rfl⟩, fun _ => rfl⟩
  | c + 1, k, v, s => by
    unfold eachL
    split
    · rename_i hc
      have h1 := hf { s with i := k }
      have h2 := each_kq hf N c (k + 1) (f { s with i := k }).1 (f { s with i := k }).2
      refine ⟨h2.it.trans h1.it, Nat.le_trans h2.left h1.left, ?_, fun hb => absurd hc.2 hb⟩
      obtain ⟨l, e⟩ := h1.out
      obtain ⟨m, e'⟩ := h2.out
      exact ⟨l ++ m, by rw [e', e, List.append_assoc]⟩
    · exact ⟨rfl, Nat.le_refl _, ⟨[], by rw [List.append_nil]⟩, fun _ => rfl⟩
theorem evT_kp {E : Env} {f : Ex → St → Vl × St} (hf : ∀ t s, Kp s (f t s).2) (g : Nat) (t : Ex) {s : St} (h : s.err = 0) : Kp s (evT E f g t s).2 := by
  cases t with
  | lit v => exact Kp.refl s
  | nam n => exact Kp.refl s
  | op1 op a =>
    have ha := hf a s
    unfold evT
    simp only
    split
    · exact ha
    · rename_i h1
      exact ha.trans (Kp.fin (by simpa using h1) _)
  | op2 op a b =>
    have ha := hf a s
    unfold evT
    simp only
    split
    · exact ha
    rename_i h1
    have h1 : (f a s).2.err = 0 := by simpa using h1
    split
    · have hb := hf b { (f a s).2 with it := (f a s).1 }
      refine ha.trans ⟨hb.i, rfl, hb.left, fun hx => absurd h1 hx, hb.out⟩
    split
    · split
      · exact ha.trans (Kp.err h1 _)
      split
      · exact ha.trans (Kp.err h1 _)
      · have hb := each_kq (fun s => hf b s) (f a s).1.n (g + 1) 0 (nV 0) (f a s).2
        exact ha.trans ⟨rfl, hb.it, hb.left, fun hx => absurd h1 hx, hb.out⟩
    · have hb := hf b (f a s).2
      split
      · exact ha.trans hb
      · rename_i h2
        exact (ha.trans hb).trans (Kp.fin (by simpa using h2) _)
  | op3 op a b c =>
    have ha := hf a s
    unfold evT
    simp only
    split
    · exact ha
    rename_i h1
    have h1 : (f a s).2.err = 0 := by simpa using h1
    split
    · split
      · exact ha.trans (Kp.err h1 _)
      split
      · exact ha.trans (hf b _)
      · exact ha.trans (hf c _)
    · have hb := hf b (f a s).2
      split
      · exact ha.trans hb
      have hc := hf c (f b (f a s).2).2
      split
      · exact (ha.trans hb).trans hc
      · rename_i h2
        exact ((ha.trans hb).trans hc).trans (Kp.fin (by simpa using h2) _)
theorem ev_kp {E : Env} : ∀ (g : Nat) (t : Ex) (s : St), Kp s (ev E g t s).2
  | 0, t, s => by
    show Kp s (failS 15 s)
    unfold failS
    split
    · rename_i h; exact Kp.err h _
    · exact Kp.refl s
  | g + 1, t, s => by
    by_cases h : s.err = 0
    · by_cases h0 : s.left = 0
      · rw [ev_zero h h0]; exact Kp.err h _
      · rw [ev_succ h h0]
        have := evT_kp (E := E) (f := ev E g) (ev_kp g) g t (s := { s with left := s.left - 1 }) h
        refine ⟨this.i, this.it, Nat.le_trans this.left (Nat.sub_le _ _), fun hb => absurd h hb, this.out⟩
    · rw [ev_err h]; exact Kp.refl s
theorem ev_less {E : Env} {g : Nat} {t : Ex} {s : St} (h : (ev E g t s).2.err = 0) : (ev E g t s).2.left < s.left := by
  by_cases he : s.err = 0
  · by_cases h0 : s.left = 0
    · rw [ev_zero he h0] at h; cases h
    · cases g with
      | zero =>
        replace h : (failS 15 s).err = 0 := h
        unfold failS at h
        rw [if_pos he] at h; cases h
      | succ g =>
        rw [ev_succ he h0]
        have := (evT_kp (E := E) (f := ev E g) (ev_kp g) g t (s := { s with left := s.left - 1 }) he).left
        simp only at this
        omega
  · rw [ev_err he] at h; exact absurd h he
def upS (d : Nat) (s : St) : St := { s with left := s.left + d }
def upR (d : Nat) (r : Vl × St) : Vl × St := (r.1, upS d r.2)
theorem fin_up (r : AR) (d : Nat) (s : St) : finS r (upS d s) = upR d (finS r s) := by cases r <;> rfl
theorem each_up {f f' : St → Vl × St} {g d : Nat} (hf : ∀ s, s.left ≤ g → (f s).2.err ≠ 15 → f' (upS d s) = upR d (f s)) (hk : ∀ s, Kp s (f s).2) (hl : ∀ s, (f s).2.err = 0 → (f s).2.left < s.left) (N : Int) :
    ∀ (c : Nat) (k : Int) (v : Vl) (s : St) (c' : Nat), s.left ≤ g → (s.err = 0 → s.left < c) → (s.err = 0 → s.left + d < c') → (eachL f N c k v s).2.err ≠ 15 → eachL f' N c' k v (upS d s) = upR d (eachL f N c k v s)
  | 0, k, v, s, c', hg, h1, h2, h15 => by
    have he : s.err ≠ 0 := fun h => by have := h1 h; omega
    cases c' with
    | zero => rfl
    | succ c' =>
      unfold eachL
      rw [if_neg (by intro h; exact he h.2)]
      rfl
  | c + 1, k, v, s, c', hg, h1, h2, h15 => by
    by_cases hc : k < N ∧ s.err = 0
    · have e1 : eachL f N (c + 1) k v s = eachL f N c (k + 1) (f { s with i := k }).1 (f { s with i := k }).2 := by
        conv => lhs; unfold eachL
        rw [if_pos hc]
      rw [e1] at h15 ⊢
      have h2' := h2 hc.2
      obtain ⟨c', rfl⟩ : ∃ c'', c' = c'' + 1 := ⟨c' - 1, by omega⟩
      have hkq := (each_kq hk N c (k + 1) (f { s with i := k }).1 (f { s with i := k }).2)
      have hne : (f { s with i := k }).2.err ≠ 15 := by
        intro hx
        have := hkq.bad (by rw [hx]; decide)
        rw [this] at h15
        exact h15 hx
      have e2 : eachL f' N (c' + 1) k v (upS d s) = eachL f' N c' (k + 1) (f' (upS d { s with i := k })).1 (f' (upS d { s with i := k })).2 := by
        conv => lhs; unfold eachL
        rw [if_pos (show k < N ∧ (upS d s).err = 0 from hc)]
        rfl
      rw [e2, hf { s with i := k } hg hne]
      have hkp := hk { s with i := k }
      have hkl : (f { s with i := k }).2.left ≤ s.left := hkp.left
      refine each_up hf hk hl N c (k + 1) _ _ c' (by omega) (fun h => ?_) (fun h => ?_) h15
      · have := hl { s with i := k } h
        have := h1 hc.2
        simp only at *
        omega
      · have := hl { s with i := k } h
        simp only at *
        omega
    · have e1 : eachL f N (c + 1) k v s = (v, s) := by
        conv => lhs; unfold eachL
        rw [if_neg hc]
      rw [e1]
      cases c' with
      | zero => rfl
      | succ c' =>
        conv => lhs; unfold eachL
        rw [if_neg (show ¬ (k < N ∧ (upS d s).err = 0) from hc)]
        rfl
theorem evT_up {E : Env} {f f' : Ex → St → Vl × St} {L g g' d : Nat} (hf : ∀ t s, s.left ≤ L → (f t s).2.err ≠ 15 → f' t (upS d s) = upR d (f t s)) (hk : ∀ t s, Kp s (f t s).2) (hl : ∀ t s, (f t s).2.err = 0 → (f t s).2.left < s.left) (t : Ex) {s : St}
    (hg : s.left ≤ L) (hLg : L ≤ g) (hg' : L + d ≤ g') (h15 : (evT E f g t s).2.err ≠ 15) : evT E f' g' t (upS d s) = upR d (evT E f g t s) := by
  cases t with
  | lit v => rfl
  | nam n => rfl
  | op1 op a =>
    unfold evT at h15 ⊢
    simp only at h15 ⊢
    by_cases h1 : (f a s).2.err ≠ 0
    · rw [if_pos h1] at h15
      rw [hf a s hg h15, if_pos h1, if_pos (show (upR d (f a s)).2.err ≠ 0 from h1)]
      rfl
    · have h1' : (f a s).2.err ≠ 15 := by intro h; exact h1 (by rw [h]; decide)
      rw [hf a s hg h1', if_neg h1, if_neg (show ¬ (upR d (f a s)).2.err ≠ 0 from h1)]
      exact fin_up _ _ _
  | op2 op a b =>
    unfold evT at h15 ⊢
    simp only at h15 ⊢
    by_cases h1 : (f a s).2.err ≠ 0
    · rw [if_pos h1] at h15
      rw [hf a s hg h15, if_pos h1, if_pos (show (upR d (f a s)).2.err ≠ 0 from h1)]
      rfl
    · have h1' : (f a s).2.err ≠ 15 := by intro h; exact h1 (by rw [h]; decide)
      have hal := (hk a s).left
      rw [if_neg h1] at h15
      rw [hf a s hg h1', if_neg h1, if_neg (show ¬ (upR d (f a s)).2.err ≠ 0 from h1)]
      by_cases h29 : op = 29
      · rw [if_pos h29] at h15
        rw [if_pos h29, if_pos h29]
        have := hf b { (f a s).2 with it := (f a s).1 } (by show (f a s).2.left ≤ L; omega) h15
        have e : ({ (upR d (f a s)).2 with it := (upR d (f a s)).1 } : St) = upS d { (f a s).2 with it := (f a s).1 } := rfl
        rw [e, this]
        rfl
      · rw [if_neg h29] at h15
        rw [if_neg h29, if_neg h29]
        by_cases h28 : op = 28
        · rw [if_pos h28] at h15
          rw [if_pos h28, if_pos h28]
          by_cases hk0 : (f a s).1.k ≠ 0
          · rw [if_pos hk0, if_pos (show (upR d (f a s)).1.k ≠ 0 from hk0)]; rfl
          · rw [if_neg hk0] at h15
            rw [if_neg hk0, if_neg (show ¬ (upR d (f a s)).1.k ≠ 0 from hk0)]
            by_cases hn0 : (f a s).1.n < 0
            · rw [if_pos hn0, if_pos (show (upR d (f a s)).1.n < 0 from hn0)]; rfl
            · rw [if_neg hn0] at h15
              rw [if_neg hn0, if_neg (show ¬ (upR d (f a s)).1.n < 0 from hn0)]
              have := each_up (f := f b) (f' := f' b) (g := L) (d := d) (fun s hs h => hf b s hs h) (fun s => hk b s) (fun s => hl b s) (f a s).1.n (g + 1) 0 (nV 0) (f a s).2 (g' + 1) (by omega) (fun _ => by omega) (fun _ => by omega) h15
              have e : eachL (f' b) (upR d (f a s)).1.n (g' + 1) 0 (nV 0) (upR d (f a s)).2 = upR d (eachL (f b) (f a s).1.n (g + 1) 0 (nV 0) (f a s).2) := this
              rw [e]
              rfl
        · rw [if_neg h28] at h15
          rw [if_neg h28, if_neg h28]
          have e : f' b (upR d (f a s)).2 = f' b (upS d (f a s).2) := rfl
          by_cases h2 : (f b (f a s).2).2.err ≠ 0
          · rw [if_pos h2] at h15
            rw [e, hf b (f a s).2 (by omega) h15, if_pos h2, if_pos (show (upR d (f b (f a s).2)).2.err ≠ 0 from h2)]
            rfl
          · have h2' : (f b (f a s).2).2.err ≠ 15 := by intro h; exact h2 (by rw [h]; decide)
            rw [e, hf b (f a s).2 (by omega) h2', if_neg h2, if_neg (show ¬ (upR d (f b (f a s).2)).2.err ≠ 0 from h2)]
            exact fin_up _ _ _
  | op3 op a b c =>
    unfold evT at h15 ⊢
    simp only at h15 ⊢
    by_cases h1 : (f a s).2.err ≠ 0
    · rw [if_pos h1] at h15
      rw [hf a s hg h15, if_pos h1, if_pos (show (upR d (f a s)).2.err ≠ 0 from h1)]
      rfl
    · have h1' : (f a s).2.err ≠ 15 := by intro h; exact h1 (by rw [h]; decide)
      have hal := (hk a s).left
      rw [if_neg h1] at h15
      rw [hf a s hg h1', if_neg h1, if_neg (show ¬ (upR d (f a s)).2.err ≠ 0 from h1)]
      by_cases h11 : op = 11
      · rw [if_pos h11] at h15
        rw [if_pos h11, if_pos h11]
        by_cases hk0 : (f a s).1.k ≠ 0
        · rw [if_pos hk0, if_pos (show (upR d (f a s)).1.k ≠ 0 from hk0)]; rfl
        · rw [if_neg hk0] at h15
          rw [if_neg hk0, if_neg (show ¬ (upR d (f a s)).1.k ≠ 0 from hk0)]
          by_cases hn0 : (f a s).1.n ≠ 0
          · rw [if_pos hn0] at h15
            rw [if_pos hn0, if_pos (show (upR d (f a s)).1.n ≠ 0 from hn0)]
            exact hf b (f a s).2 (by omega) h15
          · rw [if_neg hn0] at h15
            rw [if_neg hn0, if_neg (show ¬ (upR d (f a s)).1.n ≠ 0 from hn0)]
            exact hf c (f a s).2 (by omega) h15
      · rw [if_neg h11] at h15
        rw [if_neg h11, if_neg h11]
        have e : f' b (upR d (f a s)).2 = f' b (upS d (f a s).2) := rfl
        by_cases h2 : (f b (f a s).2).2.err ≠ 0
        · rw [if_pos h2] at h15
          rw [e, hf b (f a s).2 (by omega) h15, if_pos h2, if_pos (show (upR d (f b (f a s).2)).2.err ≠ 0 from h2)]
          rfl
        · have h2' : (f b (f a s).2).2.err ≠ 15 := by intro h; exact h2 (by rw [h]; decide)
          have hbl := (hk b (f a s).2).left
          rw [if_neg h2] at h15
          rw [e, hf b (f a s).2 (by omega) h2', if_neg h2, if_neg (show ¬ (upR d (f b (f a s).2)).2.err ≠ 0 from h2)]
          have e3 : f' c (upR d (f b (f a s).2)).2 = f' c (upS d (f b (f a s).2).2) := rfl
          by_cases h3 : (f c (f b (f a s).2).2).2.err ≠ 0
          · rw [if_pos h3] at h15
            rw [e3, hf c (f b (f a s).2).2 (by omega) h15, if_pos h3, if_pos (show (upR d (f c (f b (f a s).2).2)).2.err ≠ 0 from h3)]
            rfl
          · have h3' : (f c (f b (f a s).2).2).2.err ≠ 15 := by intro h; exact h3 (by rw [h]; decide)
            rw [e3, hf c (f b (f a s).2).2 (by omega) h3', if_neg h3, if_neg (show ¬ (upR d (f c (f b (f a s).2).2)).2.err ≠ 0 from h3)]
            exact fin_up _ _ _
theorem ev_up {E : Env} : ∀ (g : Nat) (t : Ex) (s : St) (d g' : Nat), s.left ≤ g → s.left + d ≤ g' → (ev E g t s).2.err ≠ 15 → ev E g' t (upS d s) = upR d (ev E g t s)
  | 0, t, s, d, g', hg, hg', h15 => by
    by_cases he : s.err = 0
    · rw [ev_zero he (by omega)] at h15; exact absurd rfl h15
    · rw [ev_err he, ev_err (show (upS d s).err ≠ 0 from he)]; rfl
  | g + 1, t, s, d, g', hg, hg', h15 => by
    by_cases he : s.err = 0
    · by_cases h0 : s.left = 0
      · rw [ev_zero he h0] at h15; exact absurd rfl h15
      · obtain ⟨g', rfl⟩ : ∃ g'', g' = g'' + 1 := ⟨g' - 1, by omega⟩
        rw [ev_succ he h0] at h15 ⊢
        rw [ev_succ (show (upS d s).err = 0 from he) (show s.left + d ≠ 0 by omega)]
        have e : ({ upS d s with left := (upS d s).left - 1 } : St) = upS d { s with left := s.left - 1 } := by
          unfold upS
          simp only [St.mk.injEq, true_and, and_true]
          omega
        rw [e]
        exact evT_up (L := s.left - 1) (fun t s hs h => ev_up g t s d g' (by omega) (by omega) h) (ev_kp g) (fun t s => ev_less) t (Nat.le_refl _) (by omega) (by omega) h15
    · rw [ev_err he, ev_err (show (upS d s).err ≠ 0 from he)]; rfl
end Go.Proofs.Ytckhmpcmlochpaa.G

namespace Go.Proofs.Ytckhmpcmlochpaa.G
open Go.BX
set_option linter.unusedSimpArgs false
set_option linter.unusedVariables false
structure Sk (s : St) : Prop where
  it : okV s.it = true
  i0 : 0 ≤ s.i
  i1 : s.i ≤ 9007199254740992
  out : s.out.length ≤ 64
  outs : ∀ p, p ∈ s.out → p.key.length ≤ 64 ∧ rightV p.k p.n p.s p.x p.y = true
structure Ek (E : Env) : Prop where
  key : E.key.length ≤ 4096
  val : okV E.val = true
  acc : okV E.acc = true
theorem ok_n {n : Int} (h : -9007199254740992 ≤ n ∧ n ≤ 9007199254740992) : okV (nV n) = true := by
  unfold okV rightV
  simp
  omega
theorem ok_t {s : Bytes} (h : s.length ≤ 4096) : okV (tV s) = true := by
  unfold okV rightV
  simp
  omega
theorem ok_p {x y : Int} (hx : inR x = true) (hy : inR y = true) : okV (pV x y) = true := by
  unfold okV rightV
  simp [hx, hy]
theorem ok_z : okV zV = true := rfl
theorem ok_tru (b : Bool) : okV (truV b) = true := by cases b <;> rfl
theorem kinds3 {v : Vl} (h : okV v = true) : (v.k = 0 ∧ (-9007199254740992 ≤ v.n ∧ v.n ≤ 9007199254740992) ∧ v = nV v.n) ∨ (v.k = 1 ∧ v.s.length ≤ 4096 ∧ v = tV v.s) ∨ (v.k = 2 ∧ (inR v.x = true ∧ inR v.y = true) ∧ v = pV v.x v.y) := by
  obtain ⟨k, n, s, x, y⟩ := v
  rcases right_cases (show rightV k n s x y = true from h) with ⟨h1, h2, h3, h4, h5⟩ | ⟨h1, h2, h3, h4, h5⟩ | ⟨h1, h2, h3, h4⟩
  · subst h1 h3 h4 h5; exact .inl ⟨rfl, h2, rfl⟩
  · subst h1 h3 h4 h5; exact .inr (.inl ⟨rfl, h2, rfl⟩)
  · subst h1 h3 h4; exact .inr (.inr ⟨rfl, h2, rfl⟩)
def ARk (n : Nat) : AR → Prop
  | .val v => okV v = true
  | .out p v => okV v = true ∧ (p.key.length ≤ 64 ∧ rightV p.k p.n p.s p.x p.y = true) ∧ n < 64
  | .bad e => e ≠ 0 ∧ e ≠ 15
theorem chkV_k (v : Vl) (n : Nat) : ARk n (chkV v) := by
  unfold chkV
  split
  · rename_i h; exact h
  · exact ⟨by decide, by decide⟩
theorem chkP_k (x y : Int) (n : Nat) : ARk n (chkP x y) := by
  unfold chkP
  split
  · rename_i h
    simp only [Bool.and_eq_true] at h
    exact ok_p h.1 h.2
  · exact ⟨by decide, by decide⟩
theorem downM_b {a b : Int} (hb0 : b ≠ 0) (hb : -9007199254740992 ≤ b ∧ b ≤ 9007199254740992) : -9007199254740992 ≤ (downM a b).2 ∧ (downM a b).2 ≤ 9007199254740992 := by
  have h1 : (a.tmod b).natAbs < b.natAbs := by
    rw [Int.natAbs_tmod]
    exact Nat.mod_lt _ (by omega)
  unfold downM
  split
  · rename_i h
    simp only [Bool.and_eq_true, bne_iff_ne, ne_eq, decide_eq_decide] at h
    show _ ≤ a.tmod b + b ∧ a.tmod b + b ≤ _
    omega
  · show _ ≤ a.tmod b ∧ a.tmod b ≤ _
    omega
theorem num2_k {op a b : Int} {n : Nat} (hb : -9007199254740992 ≤ b ∧ b ≤ 9007199254740992) : ARk n (num2 op a b) := by
  unfold num2
  split
  · exact chkV_k _ _
  split
  · exact chkV_k _ _
  split
  · exact chkV_k _ _
  split
  · exact ⟨by decide, by decide⟩
  rename_i hb0
  split
  · exact ok_n (downM_b hb0 hb)
  · exact chkV_k _ _
theorem pts2_k {op a b c d : Int} {n : Nat} : ARk n (pts2 op a b c d) := by
  unfold pts2
  split
  · exact chkP_k _ _ _
  split
  · exact chkP_k _ _ _
  split
  · exact chkP_k _ _ _
  split
  · exact ⟨by decide, by decide⟩
  split
  · rename_i h
    simp only [Bool.and_eq_true] at h
    split
    · exact ok_p h.2.1 h.2.2
    · exact ok_p h.1.1 h.1.2
  · exact ⟨by decide, by decide⟩
theorem wordsGo_b : ∀ (s cur : Bytes), (wordsGo s cur).length ≤ s.length + (if cur = [] then 0 else 1) ∧ ∀ w, w ∈ wordsGo s cur → w.length ≤ s.length + cur.length
  | [], cur => by
    unfold wordsGo
    by_cases h : cur = []
    · rw [if_pos h, if_pos h]; exact ⟨by simp, fun w hw => by cases hw⟩
    · rw [if_neg h, if_neg h]; exact ⟨by simp, fun w hw => by simp at hw; subst hw; simp⟩
  | c :: r, cur => by
    unfold wordsGo
    by_cases hc : c = 32
    · rw [if_pos hc]
      have ih := wordsGo_b r []
      simp only [if_true, List.length_nil, Nat.add_zero] at ih
      by_cases h : cur = []
      · rw [if_pos h, if_pos h]
        refine ⟨by rw [List.length_cons]; omega, fun w hw => ?_⟩
        have := ih.2 w hw
        rw [List.length_cons]; omega
      · rw [if_neg h, if_neg h]
        refine ⟨by rw [List.length_cons, List.length_cons]; omega, fun w hw => ?_⟩
        rcases List.mem_cons.mp hw with rfl | hw
        · rw [List.length_cons]; omega
        · have := ih.2 w hw
          rw [List.length_cons]; omega
    · rw [if_neg hc]
      have ih := wordsGo_b r (cur ++ [c])
      rw [if_neg (by simp)] at ih
      refine ⟨?_, fun w hw => ?_⟩
      · rw [List.length_cons]
        have := ih.1
        split <;> omega
      · have := ih.2 w hw
        rw [List.length_append, List.length_singleton] at this
        rw [List.length_cons]; omega
theorem words_b (s : Bytes) : (wordsM s).length ≤ s.length ∧ ∀ w, w ∈ wordsM s → w.length ≤ s.length := by
  have := wordsGo_b s []
  simp only [if_true, List.length_nil, Nat.add_zero] at this
  exact this
theorem write_len {v : Vl} (h : okV v = true) (h1 : v.k ≠ 1) : (writeV v.k v.n v.s v.x v.y).length ≤ 4096 := by
  unfold writeV
  rcases kinds3 h with ⟨k0, n0, _⟩ | ⟨k1, _⟩ | ⟨k2, ⟨x0, y0⟩, _⟩
  · rw [if_pos k0]
    have := decS_len v.n n0; omega
  · exact absurd k1 h1
  · rw [if_neg (by omega), if_neg (by omega)]
    rw [inR_iff] at x0 y0
    have l1 := decS_len v.x (by omega)
    have l2 := decS_len v.y (by omega)
    rw [List.length_append, List.length_append, List.length_singleton]; omega
theorem numP_k (s : Bytes) (n : Nat) : ARk n (numP s) := by
  unfold numP
  split
  · rename_i v m h
    split
    · exact (parseX_ok h).1
    · exact ⟨by decide, by decide⟩
  · exact ⟨by decide, by decide⟩
theorem sq_b {x : Int} (h : -16777216 ≤ x ∧ x ≤ 16777216) : 0 ≤ x * x ∧ x * x ≤ 281474976710656 := by
  have h1 := Int.mul_nonneg (a := 16777216 - x) (b := 16777216 + x) (by omega) (by omega)
  have e : (16777216 - x) * (16777216 + x) = 281474976710656 - x * x := by grind
  have h2 : 0 ≤ x * x := by
    rcases Int.lt_or_le x 0 with h | h
    · have := Int.mul_nonneg (a := -x) (b := -x) (by omega) (by omega)
      rw [Int.neg_mul_neg] at this; exact this
    · exact Int.mul_nonneg h h
  omega
theorem inR_neg {x : Int} (h : inR x = true) : inR (-x) = true := by rw [inR_iff] at *; omega
theorem kind_if {v : Vl} (h : okV v = true) : (v.k = 0 → -9007199254740992 ≤ v.n ∧ v.n ≤ 9007199254740992) ∧ (v.k = 1 → v.s.length ≤ 4096) ∧ (v.k = 2 → inR v.x = true ∧ inR v.y = true) := by
  rcases kinds3 h with ⟨k0, n0, _⟩ | ⟨k1, s1, _⟩ | ⟨k2, p, _⟩
  · exact ⟨fun _ => n0, fun h => absurd h (by omega), fun h => absurd h (by omega)⟩
  · exact ⟨fun h => absurd h (by omega), fun _ => s1, fun h => absurd h (by omega)⟩
  · exact ⟨fun h => absurd h (by omega), fun h => absurd h (by omega), fun _ => p⟩
theorem ap1_k {op : Int} {a : Vl} (ha : okV a = true) (n : Nat) : ARk n (ap1 op a) := by
  have hb : ∀ e : Int, e ≠ 0 ∧ e ≠ 15 → ARk n (.bad e) := fun e h => h
  obtain ⟨f0, f1, f2⟩ := kind_if ha
  unfold ap1
  by_cases h7 : op = 7
  · rw [if_pos h7]
    by_cases k2 : a.k = 2
    · rw [if_pos k2]; exact ok_p (inR_neg (f2 k2).1) (inR_neg (f2 k2).2)
    rw [if_neg k2]
    by_cases k0 : a.k = 0
    · rw [if_pos k0]; have := f0 k0; exact ok_n (by omega)
    · rw [if_neg k0]; exact hb _ (by decide)
  rw [if_neg h7]
  by_cases h10 : op = 10
  · rw [if_pos h10]
    by_cases k0 : a.k = 0
    · rw [if_pos k0]; exact ok_tru _
    · rw [if_neg k0]; exact hb _ (by decide)
  rw [if_neg h10]
  by_cases h15 : op = 15
  · rw [if_pos h15]
    by_cases k1 : a.k = 1
    · rw [if_pos k1]; have := f1 k1; exact ok_n (by omega)
    · rw [if_neg k1]; exact hb _ (by decide)
  rw [if_neg h15]
  by_cases h18 : op = 18
  · rw [if_pos h18]
    by_cases k1 : a.k = 1
    · rw [if_pos k1]; have := f1 k1; have := (words_b a.s).1; exact ok_n (by omega)
    · rw [if_neg k1]; exact hb _ (by decide)
  rw [if_neg h18]
  by_cases h19 : op = 19
  · rw [if_pos h19]
    by_cases k1 : a.k = 1
    · rw [if_pos k1]; exact numP_k _ _
    · rw [if_neg k1]; exact hb _ (by decide)
  rw [if_neg h19]
  by_cases h20 : op = 20
  · rw [if_pos h20]
    by_cases k1 : a.k = 1
    · rw [if_pos k1]; exact ha
    · rw [if_neg k1]; exact ok_t (write_len ha k1)
  rw [if_neg h20]
  by_cases k2 : a.k = 2
  · rw [if_pos k2]
    obtain ⟨x0, y0⟩ := f2 k2
    have hx := inR_iff.mp x0
    have hy := inR_iff.mp y0
    by_cases h22 : op = 22
    · rw [if_pos h22]; exact ok_n (by omega)
    rw [if_neg h22]
    by_cases h23 : op = 23
    · rw [if_pos h23]; exact ok_n (by omega)
    rw [if_neg h23]
    by_cases h24 : op = 24
    · rw [if_pos h24]
      have h1 := sq_b hx
      have h2 := sq_b hy
      exact ok_n (by omega)
    · rw [if_neg h24]; exact ok_p x0 (inR_neg y0)
  · rw [if_neg k2]; exact hb _ (by decide)
theorem ap2_k {op : Int} {a b : Vl} (ha : okV a = true) (hb : okV b = true) {n : Nat} (hn : n ≤ 64) : ARk n (ap2 op a b n) := by
  have hbad : ∀ e : Int, e ≠ 0 ∧ e ≠ 15 → ARk n (.bad e) := fun e h => h
  unfold ap2
  split
  · split
    · exact pts2_k
    split
    · rename_i h
      rcases kinds3 hb with ⟨k0, n0, _⟩ | ⟨k1, _⟩ | ⟨k2, _⟩
      · exact num2_k n0
      · omega
      · omega
    · exact hbad _ (by decide)
  split
  · exact ok_tru _
  split
  · split
    · split
      · exact ok_tru _
      split
      · split
        · exact ha
        · exact hb
      · split
        · exact ha
        · exact hb
    · exact hbad _ (by decide)
  split
  · split
    · split
      · exact ok_t (by rw [List.length_append]; assumption)
      · exact hbad _ (by decide)
    · exact hbad _ (by decide)
  split
  · split
    · rename_i h
      split
      · rename_i h2
        have h3 : b.n.toNat < (wordsM a.s).length := by omega
        have h4 := (words_b a.s).2 ((wordsM a.s).getD b.n.toNat []) (by
          simp [List.getD, List.getElem?_eq_getElem h3])
        rcases kinds3 ha with ⟨k0, _⟩ | ⟨k1, s1, _⟩ | ⟨k2, _⟩
        · omega
        · exact ok_t (by omega)
        · omega
      · exact hbad _ (by decide)
    · exact hbad _ (by decide)
  split
  · split
    · exact chkP_k _ _ _
    · exact hbad _ (by decide)
  split
  · split
    · split
      · split
        · exact hbad _ (by decide)
        · rename_i h1 h2 h3
          exact ⟨hb, ⟨h2, hb⟩, by omega⟩
      · exact hbad _ (by decide)
    · exact hbad _ (by decide)
  · exact hb
theorem ap3_k {a b c : Vl} (ha : okV a = true) {n : Nat} : ARk n (ap3 a b c) := by
  unfold ap3
  split
  · rename_i h
    split
    · rcases kinds3 ha with ⟨k0, _⟩ | ⟨k1, s1, _⟩ | ⟨k2, _⟩
      · omega
      · exact ok_t (by rw [List.length_drop, List.length_take]; omega)
      · omega
    · exact ⟨by decide, by decide⟩
  · exact ⟨by decide, by decide⟩
theorem fin_k {r : AR} {s : St} (hs : Sk s) (hr : ARk s.out.length r) : okV (finS r s).1 = true ∧ Sk (finS r s).2 := by
  cases r with
  | val v => exact ⟨hr, hs⟩
  | out p v =>
    obtain ⟨h1, h2, h3⟩ := hr
    refine ⟨h1, hs.it, hs.i0, hs.i1, ?_, fun q hq => ?_⟩
    · show (s.out ++ [p]).length ≤ 64
      rw [List.length_append, List.length_singleton]; omega
    · rcases List.mem_append.mp hq with h | h
      · exact hs.outs q h
      · simp only [List.mem_singleton] at h
        subst h; exact h2
  | bad e => exact ⟨ok_z, hs.it, hs.i0, hs.i1, hs.out, hs.outs⟩
theorem sk_err {s : St} (h : Sk s) (e : Int) : Sk { s with err := e } := ⟨h.it, h.i0, h.i1, h.out, h.outs⟩
theorem each_k {f : St → Vl × St} (hf : ∀ s, Sk s → okV (f s).1 = true ∧ Sk (f s).2) {N : Int} (hN : N ≤ 9007199254740992) : ∀ (c : Nat) (k : Int) (v : Vl) (s : St), 0 ≤ k → okV v = true → Sk s → okV (eachL f N c k v s).1 = true ∧ Sk (eachL f N c k v s).2
  | 0, k, v, s, h0, hv, hs => ⟨hv, hs⟩
  | c + 1, k, v, s, h0, hv, hs => by
    unfold eachL
    split
    · rename_i hc
      have := hf { s with i := k } ⟨hs.it, h0, by show k ≤ _; omega, hs.out, hs.outs⟩
      exact each_k hf hN c (k + 1) _ _ (by omega) this.1 this.2
    · exact ⟨hv, hs⟩
theorem evT_k {E : Env} (hE : Ek E) {f : Ex → St → Vl × St} (hf : ∀ t s, WF t → Sk s → okV (f t s).1 = true ∧ Sk (f t s).2) (g : Nat) {t : Ex} (ht : WF t) {s : St} (hs : Sk s) : okV (evT E f g t s).1 = true ∧ Sk (evT E f g t s).2 := by
  cases t with
  | lit v => exact ⟨ht, hs⟩
  | nam n =>
    refine ⟨?_, hs⟩
    show okV (nameE E n s) = true
    unfold nameE
    split
    · exact ok_t hE.key
    split
    · exact hE.val
    split
    · exact hE.acc
    split
    · exact ok_n ⟨by have := hs.i0; omega, hs.i1⟩
    · exact hs.it
  | op1 op a =>
    have ha := hf a s ht.2 hs
    unfold evT
    simp only
    split
    · exact ⟨ok_z, ha.2⟩
    · exact fin_k ha.2 (ap1_k ha.1 _)
  | op2 op a b =>
    have ha := hf a s ht.2.1 hs
    have hb := hf b (f a s).2 ht.2.2 ha.2
    unfold evT
    simp only
    split
    · exact ⟨ok_z, ha.2⟩
    split
    · have hb := hf b { (f a s).2 with it := (f a s).1 } ht.2.2 ⟨ha.1, ha.2.i0, ha.2.i1, ha.2.out, ha.2.outs⟩
      exact ⟨hb.1, ⟨ha.2.it, hb.2.i0, hb.2.i1, hb.2.out, hb.2.outs⟩⟩
    split
    · split
      · exact ⟨ok_z, sk_err ha.2 _⟩
      rename_i hk
      split
      · exact ⟨ok_z, sk_err ha.2 _⟩
      · have hN : (f a s).1.n ≤ 9007199254740992 := by
          rcases kinds3 ha.1 with ⟨k0, n0, _⟩ | ⟨k1, _⟩ | ⟨k2, _⟩
          · omega
          · omega
          · omega
        have := each_k (f := f b) (fun s hs => hf b s ht.2.2 hs) hN (g + 1) 0 (nV 0) (f a s).2 (Int.le_refl _) rfl ha.2
        exact ⟨this.1, ⟨this.2.it, ha.2.i0, ha.2.i1, this.2.out, this.2.outs⟩⟩
    split
    · exact ⟨ok_z, hb.2⟩
    · exact fin_k hb.2 (ap2_k ha.1 hb.1 hb.2.out)
  | op3 op a b c =>
    have ha := hf a s ht.2.1 hs
    have hb := hf b (f a s).2 ht.2.2.1 ha.2
    have hc := hf c (f b (f a s).2).2 ht.2.2.2 hb.2
    unfold evT
    simp only
    split
    · exact ⟨ok_z, ha.2⟩
    split
    · split
      · exact ⟨ok_z, sk_err ha.2 _⟩
      split
      · exact hb
      · exact hf c (f a s).2 ht.2.2.2 ha.2
    split
    · exact ⟨ok_z, hb.2⟩
    split
    · exact ⟨ok_z, hc.2⟩
    · exact fin_k hc.2 (ap3_k ha.1)
theorem ev_k {E : Env} (hE : Ek E) : ∀ (g : Nat) (t : Ex) (s : St), WF t → Sk s → okV (ev E g t s).1 = true ∧ Sk (ev E g t s).2
  | 0, t, s, ht, hs => by
    refine ⟨ok_z, ?_⟩
    show Sk (failS 15 s)
    unfold failS
    split
    · exact sk_err hs _
    · exact hs
  | g + 1, t, s, ht, hs => by
    by_cases h : s.err = 0
    · by_cases h0 : s.left = 0
      · rw [ev_zero h h0]; exact ⟨ok_z, sk_err hs _⟩
      · rw [ev_succ h h0]
        exact evT_k hE (ev_k hE g) g ht ⟨hs.it, hs.i0, hs.i1, hs.out, hs.outs⟩
    · rw [ev_err h]; exact ⟨ok_z, hs⟩
end Go.Proofs.Ytckhmpcmlochpaa.G

namespace Go.Proofs.Ytckhmpcmlochpaa.G
open Go.BX
set_option linter.unusedSimpArgs false
set_option linter.unusedVariables false
theorem upd2 (A : Nat → Blk) (g : Nat) (x y : Blk) : upd (upd A g x) g y = upd A g y := by
  funext c
  unfold upd
  split <;> rfl
def encK (x : Bytes × Nat) : List AV := [.str x.1, .int .i64 (x.2 : Int)]
theorem kinds_ok : PCall Cx 32 [] (.vec 2 (ops.map encK)) := ⟨200, by kernel_rfl⟩
theorem names_ok : PCall Cx 35 [] (.vec 1 [[.str [107, 101, 121]], [.str [118, 97, 108]], [.str [97, 99, 99]], [.str [105]], [.str [105, 116]]]) := ⟨100, by kernel_rfl⟩
theorem kinds_get {i : Nat} (h : i < ops.length) : (ops.map encK)[i]? = some [.str (ops[i]).1, .int .i64 ((ops[i]).2 : Int)] := by
  rw [List.getElem?_map, List.getElem?_eq_getElem h]
  rfl
theorem Parts_ok (op : Int) (h1 : -9223372036854775808 ≤ op) (h2 : op ≤ 9223372036854775807) : PCall Cx 21 [.int .i64 op] (.tuple [.str (wordM op), .int .i64 (partsM op : Int), .bool (isOp op)]) := by
  refine pcall_run (noext _) body21 ?_
  cases ho : isOp op with
  | false =>
    obtain ⟨e1, e2⟩ := parts_no ho
    rw [e1, e2]
    have ho' := ho
    unfold isOp at ho'
    by_cases c1 : op ≤ 1
    · simp only [c1, freeze2_str, Int.cast_ofNat_Int, r21_0, r21_1, res21, bb, bc, ↓bd, Nat.reduceEqDiff, ↓reduceIte, reduceCtorEq]
    · have c2 : 29 < op := by
        simp only [Bool.and_eq_false_iff, decide_eq_false_iff_not] at ho'
        omega
      simp only [c1, c2, freeze2_str, Int.cast_ofNat_Int, r21_0, r21_1, res21, bb, bc, ↓bd, Nat.reduceEqDiff, ↓reduceIte, reduceCtorEq]
  | true =>
    obtain ⟨hl, e⟩ := ops_get ho
    unfold wordM partsM
    rw [e]
    have ho' := ho
    unfold isOp at ho'
    simp only [Bool.and_eq_true, decide_eq_true_eq] at ho'
    have c1 : ¬ op ≤ 1 := by omega
    have c2 : ¬ 29 < op := by omega
    have w1 : IntKind.i64.wrap (op - 1) = op - 1 := wr64 (by omega) (by omega)
    have w2 : IntKind.i64.wrap (op - 1 - 1) = (((op - 2).toNat : Nat) : Int) := by rw [wr64 (by omega) (by omega)]; omega
    have p0 : (0 : Int) ≤ (((op - 2).toNat : Nat) : Int) := by omega
    have l0 : (((op - 2).toNat : Nat) : Int) < ((ops.map encK).length : Int) := by rw [List.length_map]; omega
    have g0 := kinds_get hl
    simp only [c1, c2, w1, w2, p0, l0, g0, freeze2_str, Int.toNat_natCast, call_pure pure32 rfl kinds_ok, r21_0, r21_1, res21, tt, bb, bc, ↓bd, Nat.reduceEqDiff, Nat.reduceAdd, ↓reduceIte, reduceCtorEq]
def numN (n : Nd) : Prop := (-9223372036854775808 ≤ n.op ∧ n.op ≤ 9223372036854775807)
theorem alone_okk (n : Nd) : PCall Cx 23 [ndA n] (.bool (aloneM n)) := by
  refine pcall_run (noext _) body23 ?_
  have r := Right_ok n.v.k n.v.n n.v.s n.v.x n.v.y
  have eo : rightV n.v.k n.v.n n.v.s n.v.x n.v.y = okV n.v := rfl
  rw [eo] at r
  unfold aloneM
  have w5 : IntKind.i64.wrap 5 = 5 := rfl
  by_cases h1 : n.op = 1
  · have e1 : (n.op == 1) = true := by simp [h1]
    rw [if_pos h1]
    cases hk : (n.v.k == 0) with
    | false => simp only [e1, hk, Bool.false_and, r23_0, r23_1, res23, tt, bb, bc, ↓bd, Nat.reduceEqDiff, Nat.reduceAdd, ↓reduceIte]
    | true =>
      cases hok : okV n.v with
      | false =>
        rw [hok] at r
        simp only [e1, hk, Bool.false_and, call_pure pure16 rfl r, r23_0, r23_1, res23, tt, bb, bc, ↓bd, Nat.reduceEqDiff, Nat.reduceAdd, ↓reduceIte]
      | true =>
        rw [hok] at r
        by_cases h0 : 0 ≤ n.v.n
        · simp only [e1, hk, h0, i64, Int.cast_ofNat_Int, Bool.true_and, call_pure pure16 rfl r, call_pure pure35 rfl names_ok, r23_0, r23_1, res23, tt, bb, bc, ↓bd, Nat.reduceEqDiff, Nat.reduceAdd, ↓reduceIte]
        · simp only [e1, hk, h0, Bool.false_and, call_pure pure16 rfl r, r23_0, r23_1, res23, tt, bb, bc, ↓bd, Nat.reduceEqDiff, Nat.reduceAdd, ↓reduceIte]
  · have e1 : (n.op == 1) = false := by simp [h1]
    rw [if_neg h1]
    cases h0 : (n.op == 0) with
    | false => simp only [e1, h0, Bool.false_and, r23_0, r23_1, res23, tt, bb, bc, ↓bd, Nat.reduceEqDiff, Nat.reduceAdd, ↓reduceIte]
    | true =>
      simp only [e1, h0, Bool.true_and, call_pure pure16 rfl r, r23_0, r23_1, res23, tt, bb, bc, ↓bd, Nat.reduceEqDiff, Nat.reduceAdd, ↓reduceIte]
theorem parts_ok (n : Nd) (hn : numN n) : PCall Cx 15 [ndA n] (.tuple [.int .i64 ((partsN n).1 : Int), .bool (partsN n).2]) := by
  refine pcall_run (noext _) body15 ?_
  have hp := Parts_ok n.op hn.1 hn.2
  unfold partsN
  cases ho : isOp n.op with
  | false =>
    rw [ho] at hp
    simp only [Bool.false_eq_true, if_false]
    simp only [Int.cast_ofNat_Int, call_pure pure21 rfl hp, call_pure pure23 rfl (alone_okk n), r15_0, r15_1, res15, tt, bb, bc, ↓bd, Nat.reduceEqDiff, Nat.reduceAdd, ↓reduceIte]
  | true =>
    rw [ho] at hp
    simp only [if_true]
    unfold zeroV
    simp only [call_pure pure21 rfl hp, r15_0, r15_1, res15, tt, bb, bc, ↓bd, Nat.reduceEqDiff, Nat.reduceAdd, ↓reduceIte]
def InN (v : AV) (l : List Nd) : Prop := (v = .nilS ∧ l = []) ∨ v = .vec 6 (l.map encN)
theorem InN.flat {v : AV} {l : List Nd} (h : InN v l) : v.flat = true := by
  rcases h with ⟨rfl, _⟩ | rfl <;> rfl
theorem InN.len {v : AV} {l : List Nd} (h : InN v l) : lenOf v = some l.length := by
  rcases h with ⟨rfl, rfl⟩ | rfl
  · rfl
  · show some _ = _
    rw [List.length_map]
theorem InN.vec {v : AV} {l : List Nd} (h : InN v l) (h0 : l ≠ []) : v = .vec 6 (l.map encN) := by
  rcases h with ⟨_, h⟩ | h
  · exact absurd h h0
  · exact h
theorem encN_get {l : List Nd} {i : Nat} (h : i < l.length) : (l.map encN)[i]? = some [.int .i64 (l[i]).op, .int .i64 (l[i]).v.k, .int .i64 (l[i]).v.n, .str (l[i]).v.s, .int .i64 (l[i]).v.x, .int .i64 (l[i]).v.y] := by
  rw [List.getElem?_map, List.getElem?_eq_getElem h]
  rfl
def numL (l : List Nd) : Prop := ∀ n, n ∈ l → numN n
def stR (st : List Nat) : List (List AV) := st.reverse.map fun (t : Nat) => [AV.int .i64 (t : Int)]
theorem stR_len (st : List Nat) : (stR st).length = st.length := by simp [stR]
theorem stR_top {t : Nat} {r : List Nat} : (stR (t :: r))[r.length]? = some [.int .i64 (t : Int)] := by
  unfold stR
  rw [List.reverse_cons, List.map_append, List.getElem?_append_right (by simp)]
  simp
theorem stR_set {t : Nat} {r : List Nat} (x : Nat) : (stR (t :: r)).set r.length [.int .i64 (x : Int)] = stR (x :: r) := by
  unfold stR
  rw [List.reverse_cons, List.map_append, List.set_append, if_neg (by simp)]
  simp
theorem stR_cons (t : Nat) (st : List Nat) : stR st ++ [[.int .i64 (t : Int)]] = stR (t :: st) := by
  unfold stR
  simp
def StB (h : Nat) (A : Nat → Blk) (v : AV) (st : List Nat) : Prop := ∃ g es, v = .slc g 1 0 st.length ∧ g < h ∧ A g = .cells 3 1 es ∧ es.take st.length = stR st ∧ st.length ≤ es.length
theorem StB.top {h : Nat} {A : Nat → Blk} {es : List (List AV)} {t : Nat} {r : List Nat} (h1 : es.take (t :: r).length = stR (t :: r)) : es[r.length]? = some [.int .i64 (t : Int)] := by
  have := stR_top (t := t) (r := r)
  rw [← h1, List.getElem?_take, if_pos (by simp)] at this
  exact this
theorem isl : isSl Cx 55 3 := ⟨_, TT_55, rfl⟩
theorem iti : ∃ ti, Cx.TT 3 = some ti ∧ ti.size = 1 ∧ ti.bytes = 8 := ⟨_, TT_3, rfl, rfl⟩
theorem er2_all {l : List Nd} {i : Nat} {h : Nat} {A : Nat → Blk} {Q : AV → AHeap → Prop} :
    ∀ (st : List Nat) (T : Nat → AV), T 17 = .vec 6 (l.map encN) → T 18 = .int .i64 (l.length : Int) → T 19 = .int .i64 (i : Int) → StB h A (T 3) st → st.length ≤ 1000 →
      (∀ T', T' 17 = .vec 6 (l.map encN) → T' 18 = .int .i64 (l.length : Int) → T' 19 = .int .i64 (i : Int) → StB h A (T' 3) (popZ st) → Run Cx 8 T' [] none [.inBlock 1, .code c8_51, .inLoop c8_17, .inBlock 0, .code c8_52] ⟨h, A⟩ Q) →
      Run Cx 8 T [] none [.inLoop c8_43, .inBlock 2, .inBlock 1, .code c8_51, .inLoop c8_17, .inBlock 0, .code c8_52] ⟨h, A⟩ Q := by
  intro st
  induction st with
  | nil =>
    intro T t17 t18 t19 hst hl hK
    rw [run_inLoop]
    obtain ⟨g, es, t3, hg, hA, ht, hle⟩ := hst
    simp only [List.length_nil] at t3
    simp only [t3, i64, Int.cast_ofNat_Int, exit_here, exit_code, exit_inLoop, r8_5, r8_6.1, tt, bb, bc, ↓bd, Nat.reduceEqDiff, ↓reduceIte, Int.reduceLT]
    refine hK _ ?_ ?_ ?_ ⟨g, es, ?_, hg, hA, ht, hle⟩
    all_goals simp only [upd_app, t3, t17, t18, t19, Nat.reduceEqDiff, ↓reduceIte]
    all_goals rfl
  | cons t r ih =>
    intro T t17 t18 t19 hst hl hK
    rw [run_inLoop]
    have hst' := hst
    obtain ⟨g, es, t3, hg, hA, ht, hle⟩ := hst
    rw [List.length_cons] at hl t3
    have c0 : (0 : Int) < ((r.length + 1 : Nat) : Int) := by omega
    have w1 : IntKind.i64.wrap (((r.length + 1 : Nat) : Int) - 1) = (r.length : Int) := by rw [wr64 (by omega) (by omega)]; omega
    have p0 : (0 : Int) ≤ (r.length : Int) := by omega
    have l0 : (r.length : Int) < ((r.length + 1 : Nat) : Int) := by omega
    have l1 : (r.length : Int) ≤ ((r.length + 1 : Nat) : Int) := by omega
    have g0 := StB.top (h := h) (A := A) ht
    cases t with
    | zero =>
      have e0 : (((0 : Nat) : Int) == 0) = true := rfl
      simp only [t3, c0, w1, p0, l0, l1, g0, hA, i64, sliceA, bnds, bound, evo, Int.toNat_natCast, Nat.sub_zero, xx, r8_5, r8_6.2.1, r8_6.2.2.1, tt, bb, bc, ↓bd, Nat.reduceEqDiff, ↓reduceIte]
      refine ih _ ?_ ?_ ?_ ⟨g, es, ?_, hg, hA, ?_, by rw [List.length_cons] at hle; omega⟩ (by omega) hK
      · simp only [upd_app, t17, Nat.reduceEqDiff, ↓reduceIte]
      · simp only [upd_app, t18, Nat.reduceEqDiff, ↓reduceIte]
      · simp only [upd_app, t19, Nat.reduceEqDiff, ↓reduceIte]
      · simp only [upd_app, ↓reduceIte]
      · have : es.take r.length = (es.take (0 :: r).length).take r.length := by rw [List.take_take, List.length_cons]; congr 1; omega
        rw [this, ht]
        unfold stR
        rw [List.reverse_cons, List.map_append, List.take_append_of_le_length (by simp)]
        exact List.take_of_length_le (by simp)
    | succ t =>
      have e0 : (((t + 1 : Nat) : Int) == 0) = false := by rw [beq_eq_false_iff_ne]; omega
      simp only [t3, c0, w1, p0, l0, g0, hA, e0, i64, Int.toNat_natCast, exit_here, exit_code, exit_inLoop, r8_5, r8_6.1, tt, bb, bc, ↓bd, Nat.reduceEqDiff, ↓reduceIte]
      refine hK _ ?_ ?_ ?_ ⟨g, es, ?_, hg, hA, ht, hle⟩
      all_goals simp only [upd_app, t3, t17, t18, t19, Nat.reduceEqDiff, ↓reduceIte]
      all_goals rfl
theorem er1_all {l : List Nd} {Q : AV → AHeap → Prop} (hl : l.length ≤ 400) (hn : numL l) (hQ : ∀ b h A, b = (runM [1] l == some []) → Q (.bool b) ⟨h, A⟩) :
    ∀ (j i : Nat) (T : Nat → AV) (h : Nat) (A : Nat → Blk) (st : List Nat), i + j = l.length → T 17 = .vec 6 (l.map encN) → T 18 = .int .i64 (l.length : Int) → T 19 = .int .i64 (i : Int) → StB h A (T 3) st → st.length ≤ i + 1 → (∀ t r, st = t :: r → 1 ≤ t) → (∀ t, t ∈ st → t ≤ 3) → runM st (l.drop i) = runM [1] l →
      Run Cx 8 T [] none [.inLoop c8_17, .inBlock 0, .code c8_52] ⟨h, A⟩ Q
  | 0, i, T, h, A, st, hij, t17, t18, t19, hst, hsl, htop, h3, hrun => by
    rw [run_inLoop]
    have c0 : ¬ (i : Int) < (l.length : Int) := by omega
    rw [List.drop_of_length_le (by omega)] at hrun
    obtain ⟨g, es, t3, hg, hA, ht, hle⟩ := hst
    have e1 : ((st.length : Int) == 0) = (runM [1] l == some []) := by
      rw [← hrun]
      show _ = (some st == some [])
      cases st with
      | nil => rfl
      | cons t r =>
        have : (((t :: r).length : Int) == 0) = false := by rw [beq_eq_false_iff_ne, List.length_cons]; omega
        rw [this]; rfl
    simp only [t3, t18, t19, c0, e1, i64, xx, r8_2, r8_6, res8, tt, bb, bc, ↓bd, Nat.reduceEqDiff, ↓reduceIte]
    exact hQ _ _ _ rfl
  | j + 1, i, T, h, A, st, hij, t17, t18, t19, hst, hsl, htop, h3, hrun => by
    rw [run_inLoop]
    have hi : i < l.length := by omega
    have c0 : (i : Int) < (l.length : Int) := by omega
    have p0 : (0 : Int) ≤ (i : Int) := by omega
    have l0 : (i : Int) < ((l.map encN).length : Int) := by rw [List.length_map]; omega
    have g0 := encN_get hi
    have w1 : IntKind.i64.wrap ((i : Int) + 1) = ((i + 1 : Nat) : Int) := by rw [wr64 (by omega) (by omega)]; omega
    have hpo := parts_ok l[i] (hn _ (List.getElem_mem hi))
    have hd : l.drop i = l[i] :: l.drop (i + 1) := List.drop_eq_getElem_cons hi
    rw [hd] at hrun
    replace hrun : (match stepM st l[i] with | some st' => runM st' (l.drop (i + 1)) | none => none) = runM [1] l := hrun
    obtain ⟨g, es, t3, hg, hA, ht, hle⟩ := hst
    cases hp2 : (partsN l[i]).2 with
    | false =>
      rw [hp2] at hpo
      have hno : runM [1] l = none := by
        rw [← hrun]
        unfold stepM
        rw [hp2]
        cases st <;> simp
      simp only [t17, t18, t19, c0, p0, l0, g0, upd2, Int.toNat_natCast, call_pure pure15 rfl hpo, r8_2, r8_3, r8_4, res8, tt, bb, bc, ↓bd, Nat.reduceEqDiff, Nat.reduceAdd, ↓reduceIte, reduceCtorEq]
      exact hQ false _ _ (by rw [hno]; rfl)
    | true =>
      rw [hp2] at hpo
      cases st with
      | nil =>
        have hno : runM [1] l = none := by rw [← hrun]; rfl
        simp only [List.length_nil] at t3
        simp only [t3, t17, t18, t19, c0, p0, l0, g0, upd2, i64, Int.cast_ofNat_Int, Int.toNat_natCast, call_pure pure15 rfl hpo, r8_2, r8_3, r8_4, res8, tt, bb, bc, ↓bd, Nat.reduceEqDiff, Nat.reduceAdd, ↓reduceIte, reduceCtorEq]
        exact hQ false _ _ (by rw [hno]; rfl)
      | cons t r =>
        have ht1 := htop t r rfl
        rw [List.length_cons] at t3
        have c1 : (((r.length + 1 : Nat) : Int) == 0) = false := by rw [beq_eq_false_iff_ne]; omega
        have hrl : r.length ≤ 400 := by rw [List.length_cons] at hsl; omega
        have w2 : IntKind.i64.wrap (((r.length + 1 : Nat) : Int) - 1) = (r.length : Int) := by rw [wr64 (by omega) (by omega)]; omega
        by_cases hdep : r.length ≤ 24
        · have c2 : ¬ (24 : Int) < (r.length : Int) := by omega
          have hst' : stepM (t :: r) l[i] = some (popZ ((partsN l[i]).1 :: (t - 1) :: r)) := by
            unfold stepM
            simp only
            rw [if_pos ⟨hp2, hdep⟩]
          rw [hst'] at hrun
          replace hrun : runM (popZ ((partsN l[i]).1 :: (t - 1) :: r)) (l.drop (i + 1)) = runM [1] l := hrun
          have p1 : (0 : Int) ≤ (r.length : Int) := by omega
          have l1 : (r.length : Int) < ((r.length + 1 : Nat) : Int) := by omega
          have g1 := StB.top (h := h) (A := A) ht
          have ht3 := h3 t (by simp)
          have w3 : IntKind.i64.wrap ((t : Int) - 1) = ((t - 1 : Nat) : Int) := by rw [wr64 (by omega) (by omega)]; omega
          have gh : (g = h) = False := eq_false (by omega)
          have hg' : (h = g) = False := eq_false (by omega)
          have hA2 : (upd (upd A h (.cells 56 6 [[.int .i64 (l[i]).op, .int .i64 (l[i]).v.k, .int .i64 (l[i]).v.n, .str (l[i]).v.s, .int .i64 (l[i]).v.x, .int .i64 (l[i]).v.y]])) g (.cells 3 1 (es.set r.length [.int .i64 ((t - 1 : Nat) : Int)]))) g = .cells 3 1 (es.set r.length [.int .i64 ((t - 1 : Nat) : Int)]) := by
            simp only [upd_app, ↓reduceIte]
          have happ := app_rowT (C := Cx) (g := g) (n := h + 1) (m := r.length + 1) (row := [.int .i64 ((partsN l[i]).1 : Int)]) isl iti hA2 (by omega) (by rw [List.length_set]; exact hle) (by unfold most; omega) (by unfold most; omega)
          have htk : (es.set r.length [.int .i64 ((t - 1 : Nat) : Int)]).take (r.length + 1) ++ [[AV.int .i64 ((partsN l[i]).1 : Int)]] = stR ((partsN l[i]).1 :: (t - 1) :: r) := by
            rw [List.take_set, show es.take (r.length + 1) = stR (t :: r) from ht, stR_set, stR_cons]
          rw [htk] at happ
          simp only [t3, t17, t18, t19, c0, c1, c2, p0, p1, l0, l1, g0, g1, gh, hA, w2, w3, happ, upd2, i64, runVH_some, Int.toNat_natCast, call_pure pure15 rfl hpo, r8_2, r8_3, r8_4, r8_5.1, r8_5.2.1, r8_5.2.2.1, tt, bb, bc, ↓bd, Nat.reduceEqDiff, Nat.reduceAdd, Nat.reduceMul, Nat.reduceLeDiff, ↓reduceIte, List.reduceReplicate]
          have hpl : (partsN l[i]).1 ≤ 3 := by
            unfold partsN
            split
            · rename_i ho
              exact (parts_pos ho).2
            · omega
          refine er2_all (l := l) (i := i) ((partsN l[i]).1 :: (t - 1) :: r) _ ?_ ?_ ?_ ⟨h + 1 + 1, stR ((partsN l[i]).1 :: (t - 1) :: r), ?_, ?_, ?_, ?_, ?_⟩ (by simp only [List.length_cons] at hsl ⊢; omega) ?_
          · simp only [upd_app, t17, Nat.reduceEqDiff, ↓reduceIte]
          · simp only [upd_app, t18, Nat.reduceEqDiff, ↓reduceIte]
          · simp only [upd_app, t19, Nat.reduceEqDiff, ↓reduceIte]
          · simp only [upd_app, ↓reduceIte]
            rfl
          · omega
          · simp only [upd_app, ↓reduceIte]
          · exact List.take_of_length_le (by rw [stR_len]; exact Nat.le_refl _)
          · rw [stR_len]; exact Nat.le_refl _
          · intro T' t17 t18 t19 hstB
            simp only [t19, w1, xx, r8_6.2.2.2.1, bb, ↓bd, ↓reduceIte]
            have popk : ∀ st : List Nat, (popZ st).length ≤ st.length ∧ (∀ t, t ∈ popZ st → t ∈ st) ∧ (∀ t r, popZ st = t :: r → 1 ≤ t) := by
              intro st
              induction st with
              | nil => exact ⟨Nat.le_refl _, fun t h => h, fun t r h => by cases h⟩
              | cons a st ih =>
                cases a with
                | zero =>
                  obtain ⟨i1, i2, i3⟩ := ih
                  exact ⟨by show (popZ st).length ≤ _; rw [List.length_cons]; omega, fun t h => List.mem_cons_of_mem _ (i2 t h), i3⟩
                | succ a => exact ⟨Nat.le_refl _, fun t h => h, fun t r h => by cases h; omega⟩
            obtain ⟨k1, k2, k3⟩ := popk ((partsN l[i]).1 :: (t - 1) :: r)
            refine er1_all hl hn hQ j (i + 1) _ _ _ (popZ ((partsN l[i]).1 :: (t - 1) :: r)) (by omega) ?_ ?_ ?_ ?_ (by simp only [List.length_cons] at hsl k1 ⊢; omega) k3 ?_ hrun
            · simp only [upd_app, t17, Nat.reduceEqDiff, ↓reduceIte]
            · simp only [upd_app, t18, Nat.reduceEqDiff, ↓reduceIte]
            · simp only [upd_app, ↓reduceIte]
            · simp only [upd_app, Nat.reduceEqDiff, ↓reduceIte]
              exact hstB
            · intro x hx
              have := k2 x hx
              simp only [List.mem_cons] at this
              rcases this with rfl | rfl | h
              · exact hpl
              · omega
              · exact h3 x (by simp [h])
        · have c2 : (24 : Int) < (r.length : Int) := by omega
          have hno : runM [1] l = none := by
            rw [← hrun]
            unfold stepM
            simp only
            rw [if_neg (by rintro ⟨_, h⟩; exact hdep h)]
          simp only [t3, t17, t18, t19, c0, c1, c2, p0, l0, g0, w2, upd2, i64, Int.toNat_natCast, call_pure pure15 rfl hpo, r8_2, r8_3, r8_4, res8, tt, bb, bc, ↓bd, Nat.reduceEqDiff, Nat.reduceAdd, ↓reduceIte]
          exact hQ false _ _ (by rw [hno]; rfl)
theorem ERight_ok {v : AV} {l : List Nd} (hv : InN v l) (hn : numL l) (hl : l.length ≤ 1000000) : PCall Cx 8 [v] (.bool (rightM l)) := by
  refine pcall_run (noext _) body8 ?_
  have hlen := hv.len
  simp only [lenOf] at hlen
  by_cases h0 : l = []
  · subst h0
    have e : rightM [] = false := rfl
    rw [e]
    simp only [List.length_nil] at hlen
    simp only [hlen, i64, Int.cast_ofNat_Int, r8_0, r8_1, res8, tt, bb, bc, ↓bd, Nat.reduceEqDiff, ↓reduceIte, reduceCtorEq]
  · have hpos := List.length_pos_iff.mpr h0
    have e1 : ((l.length : Int) == 0) = false := by rw [beq_eq_false_iff_ne]; omega
    have hemp : l.isEmpty = false := by cases l with
      | nil => exact absurd rfl h0
      | cons a b => rfl
    by_cases h400 : 400 < l.length
    · have e2 : (400 : Int) < (l.length : Int) := by omega
      have e : rightM l = false := by unfold rightM; simp [h400]
      rw [e]
      simp only [hlen, e1, e2, i64, r8_0, r8_1, res8, tt, bb, bc, ↓bd, Nat.reduceEqDiff, ↓reduceIte, reduceCtorEq]
    · have e2 : ¬ (400 : Int) < (l.length : Int) := by omega
      have e : rightM l = (runM [1] l == some []) := by unfold rightM; simp [h400, hemp]
      obtain rfl := hv.vec h0
      simp only [List.length_map, e1, e2, i64, r8_0, r8_1, r8_2.1, tt, bb, bc, ↓bd, Nat.reduceEqDiff, Nat.reduceMul, Nat.reduceLeDiff, ↓reduceIte, reduceCtorEq, List.reduceReplicate]
      refine er1_all (by omega) hn ?_ l.length 0 _ _ _ [1] (by omega) ?_ ?_ ?_ ⟨0, [[.int .i64 1]], ?_, by omega, ?_, ?_, by simp⟩ (by simp) (fun t r h => by cases h; exact Nat.le_refl _) (fun t h => by simp at h; omega) (by rw [List.drop_zero])
      · intro b h A hb
        rw [e, hb]
        rfl
      all_goals try simp only [upd_app, Nat.reduceEqDiff, ↓reduceIte]
      all_goals rfl
end Go.Proofs.Ytckhmpcmlochpaa.G

namespace Go.Proofs.Ytckhmpcmlochpaa.G
open Go.BX
set_option linter.unusedSimpArgs false
set_option linter.unusedVariables false
theorem nsl : isSl Cx 34 56 := ⟨_, TT_34, rfl⟩
theorem nti : ∃ ti, Cx.TT 56 = some ti ∧ ti.size = 6 ∧ ti.bytes = 56 := ⟨_, TT_56, rfl, rfl⟩
def BufN (te : Nat) (d : AV) (h : Nat) (A : Nat → Blk) (acc : List Nd) : Prop := (d = .nilS ∧ acc = []) ∨ ∃ g, d = .slc g 6 0 acc.length ∧ g < h ∧ A g = .cells te 6 (acc.map encN)
theorem BufN.freeze {te h : Nat} {d : AV} {A : Nat → Blk} {acc : List Nd} (hb : BufN te d h A acc) : ∃ w, InN w acc ∧ BX.freeze ⟨h, A⟩ d = some w := by
  rcases hb with ⟨rfl, rfl⟩ | ⟨g, rfl, hg, hA⟩
  · exact ⟨.nilS, .inl ⟨rfl, rfl⟩, rfl⟩
  · refine ⟨.vec 6 (acc.map encN), .inr rfl, ?_⟩
    have he : elems ⟨h, A⟩ 6 (.slc g 6 0 acc.length) = some (acc.map encN) := by
      unfold elems
      simp only [hA]
      rw [if_pos ⟨trivial, trivial, by simp⟩, List.drop_zero, List.take_of_length_le (by simp)]
    rw [freeze_slc, he, frzE_some]
    have : ∀ l : List Nd, mapO (mapO (freeze1 ⟨h, A⟩ 3)) (l.map encN) = some (l.map encN) := by
      intro l
      induction l with
      | nil => rfl
      | cons p l ih =>
        rw [List.map_cons, mapO_cons, ih]
        have : mapO (freeze1 ⟨h, A⟩ 3) (encN p) = some (encN p) := mapO_all (p := AV.flat1) (fun v hv => freeze1_flat hv) rfl
        rw [this]; rfl
    rw [this]; rfl
theorem of_all {l : List Nd} {Q : AV → AHeap → Prop} (hl : l.length ≤ 100000) (hQ : ∀ d h A, BufN 56 d h A l → Q d ⟨h, A⟩) :
    ∀ (j i : Nat) (T : Nat → AV) (h : Nat) (A : Nat → Blk), i + j = l.length → T 0 = .vec 6 (l.map encN) → T 4 = .int .i64 (i : Int) → BufN 56 (T 3) h A (l.take i) →
      Run Cx 9 T [] none [.inLoop c9_9, .inBlock 0, .code c9_19] ⟨h, A⟩ Q
  | 0, i, T, h, A, hij, t0, t4, hb => by
    rw [run_inLoop]
    have c0 : ¬ (i : Int) < ((l.map encN).length : Int) := by rw [List.length_map]; omega
    rw [List.take_of_length_le (by omega)] at hb
    simp only [t0, t4, c0, i64, xx, r9_1, r9_2, res9, tt, bb, bc, ↓bd, Nat.reduceEqDiff, ↓reduceIte, reduceCtorEq]
    exact hQ _ _ _ hb
  | j + 1, i, T, h, A, hij, t0, t4, hb => by
    rw [run_inLoop]
    have hi : i < l.length := by omega
    have c0 : (i : Int) < ((l.map encN).length : Int) := by rw [List.length_map]; omega
    have p0 : (0 : Int) ≤ (i : Int) := by omega
    have g0 := encN_get hi
    have w1 : IntKind.i64.wrap ((i : Int) + 1) = ((i + 1 : Nat) : Int) := by rw [wr64 (by omega) (by omega)]; omega
    have htk : (l.take i).map encN ++ [encN l[i]] = (l.take (i + 1)).map encN := by rw [List.take_succ_eq_append_getElem hi, List.map_append]; rfl
    have hle : (l.take i).length = i := by rw [List.length_take]; omega
    have hle2 : (l.take (i + 1)).length = i + 1 := by rw [List.length_take]; omega
    rcases hb with ⟨t3, hnil⟩ | ⟨g, t3, hg, hA⟩
    · have hi0 : i = 0 := by rw [hnil] at hle; simpa using hle.symm
      subst hi0
      have ha := app_nil (C := Cx) (n := h) (A := A) (row := encN l[0]) nsl nti (show 56 ≤ most by decide)
      replace t4 : T 4 = .int .i64 0 := t4
      simp only [Int.cast_ofNat_Int, Int.zero_add] at c0 p0 w1
      simp only [t0, t3, t4, c0, g0, ha, w1, Int.le_refl, i64, runVH_some, Int.toNat_zero, xx, r9_1, r9_2.1, r9_2.2.1, r9_2.2.2.1, tt, bb, bc, ↓bd, Nat.reduceEqDiff, Nat.reduceAdd, Nat.reduceMul, Nat.reduceLeDiff, ↓reduceIte, reduceCtorEq, Int.reduceAdd, List.reduceReplicate]
      refine of_all hl hQ j 1 _ _ _ (by omega) ?_ ?_ (.inr ⟨h + 1, ?_, ?_, ?_⟩)
      · simp only [upd_app, t0, Nat.reduceEqDiff, ↓reduceIte]
      · simp only [upd_app, ↓reduceIte] <;> rfl
      · rw [hle2]; simp only [upd_app, Nat.reduceEqDiff, ↓reduceIte]
      · omega
      · rw [← htk]; simp only [upd_app, ↓reduceIte]; rfl
    · rw [hle] at t3
      have hcl : ((l.take i).map encN).length = i := by rw [List.length_map, hle]
      have ha := app_row (C := Cx) (g := g) (n := h) (A := A) (es := (l.take i).map encN) (row := encN l[i]) nsl nti hA (by omega) (by rw [hcl]; unfold most; omega) (by rw [hcl]; unfold most; omega)
      rw [hcl, htk] at ha
      simp only [t0, t3, t4, c0, p0, g0, ha, w1, i64, runVH_some, Int.toNat_natCast, xx, r9_1, r9_2.1, r9_2.2.1, r9_2.2.2.1, tt, bb, bc, ↓bd, Nat.reduceEqDiff, Nat.reduceAdd, Nat.reduceMul, Nat.reduceLeDiff, ↓reduceIte, reduceCtorEq, List.reduceReplicate]
      refine of_all hl hQ j (i + 1) _ _ _ (by omega) ?_ ?_ (.inr ⟨h + 1, ?_, ?_, ?_⟩)
      · simp only [upd_app, t0, Nat.reduceEqDiff, ↓reduceIte]
      · simp only [upd_app, ↓reduceIte]
      · rw [hle2]; simp only [upd_app, Nat.reduceEqDiff, ↓reduceIte]
      · omega
      · simp only [upd_app, ↓reduceIte]
theorem pcall_ex {f : FuncId} {args : List AV} {body : AC} {P : AV → Prop} (hx : Cx.ext f = none) (hb : bodyOf Cx f = some body) (h : Run Cx f (enterT args) [] none [.code body] AHeap.empty (fun r0 H' => ∃ r, P r ∧ BX.freeze H' r0 = some r)) : ∃ r, P r ∧ PCall Cx f args r := by
  obtain ⟨n, r0, H', he, r, hP, hf⟩ := h
  exact ⟨r, hP, pcall_run hx hb ⟨n, r0, H', he, hf⟩⟩
theorem Of_ok {v : AV} {l : List Nd} (hv : InN v l) (hl : l.length ≤ 100000) : ∃ w, InN w l ∧ PCall Cx 9 [v] w := by
  by_cases h0 : l = []
  · subst h0
    refine ⟨.nilS, .inl ⟨rfl, rfl⟩, ?_⟩
    rcases hv with ⟨rfl, _⟩ | rfl
    · exact ⟨60, by kernel_rfl⟩
    · exact ⟨60, by kernel_rfl⟩
  · obtain rfl := hv.vec h0
    refine pcall_ex (noext _) body9 ?_
    simp only [r9_0, r9_1.1, bb, ↓bd]
    refine of_all hl (fun d h A hb => hb.freeze) l.length 0 _ AHeap.empty.next AHeap.empty.at_ (by omega) ?_ ?_ (.inl ⟨?_, rfl⟩)
    all_goals simp only [upd_app, enterT, List.getElem?_cons_zero, Option.getD_some, Nat.reduceEqDiff, ↓reduceIte]
    all_goals rfl
end Go.Proofs.Ytckhmpcmlochpaa.G
namespace Go.Proofs.Ytckhmpcmlochpaa.G
open Go.BX
set_option linter.unusedSimpArgs false
set_option linter.unusedVariables false
end Go.Proofs.Ytckhmpcmlochpaa.G
namespace Go.Proofs.Ytckhmpcmlochpaa.G
open Go.BX
set_option linter.unusedSimpArgs false
set_option linter.unusedVariables false
end Go.Proofs.Ytckhmpcmlochpaa.G

namespace Go.Proofs.Ytckhmpcmlochpaa.G
open Go.BX
set_option linter.unusedSimpArgs false
set_option linter.unusedVariables false
def Ow (d : AV) (n : Nat) (A : Nat → Blk) (l : List Pr) : Prop :=
  (d = .nilS ∧ l = []) ∨ ∃ g, d = .slc g 6 0 l.length ∧ g < n ∧ A g = .cells 54 6 (l.map encP)
structure Mch where
  L : AV
  F : AV
  E : Env
  b : Nat
def isPr : Blk → Prop
  | .cells t _ _ => t = 54
  | _ => False
structure MS (M : Mch) (n : Nat) (A : Nat → Blk) (s : St) : Prop where
  lt : M.b < n
  cell : ∃ o, A M.b = .cells 64 22 [[M.L, M.F, .str M.E.key, .int .i64 M.E.val.k, .int .i64 M.E.val.n, .str M.E.val.s, .int .i64 M.E.val.x, .int .i64 M.E.val.y, .int .i64 M.E.acc.k, .int .i64 M.E.acc.n, .str M.E.acc.s, .int .i64 M.E.acc.x, .int .i64 M.E.acc.y, .int .i64 s.i, .int .i64 s.it.k, .int .i64 s.it.n, .str s.it.s, .int .i64 s.it.x, .int .i64 s.it.y, o, .int .i64 (s.left : Int), .int .i64 s.err]] ∧ Ow o n A s.out
def Keep (b n : Nat) (A A' : Nat → Blk) : Prop := ∀ c, c < n → c ≠ b → ¬ isPr (A c) → A' c = A c
theorem Keep.refl (b n : Nat) (A : Nat → Blk) : Keep b n A A := fun _ _ _ _ => rfl
theorem Keep.trans {b n n' : Nat} {A A' A'' : Nat → Blk} (h : Keep b n A A') (hn : n ≤ n') (h' : Keep b n' A' A'') : Keep b n A A'' := fun c hc hb hp => by
  have e := h c hc hb hp
  rw [h' c (by omega) hb (by rw [e]; exact hp), e]
theorem Ow.keep {d : AV} {n n' : Nat} {A A' : Nat → Blk} {l : List Pr} (h : Ow d n A l) (hn : n ≤ n') (hk : ∀ g, g < n → isPr (A g) → A' g = A g) : Ow d n' A' l := by
  rcases h with h | ⟨g, h1, h2, h3⟩
  · exact .inl h
  · exact .inr ⟨g, h1, by omega, by rw [hk g h2 (by rw [h3]; rfl)]; exact h3⟩
theorem Ow.lenOf {d : AV} {n : Nat} {A : Nat → Blk} {l : List Pr} (h : Ow d n A l) : BX.lenOf d = some l.length := by
  rcases h with ⟨rfl, rfl⟩ | ⟨g, rfl, _⟩ <;> rfl
theorem Ow.plain {d : AV} {n : Nat} {A : Nat → Blk} {l : List Pr} (h : Ow d n A l) : d.plain = true := by
  rcases h with ⟨rfl, rfl⟩ | ⟨g, rfl, _⟩ <;> rfl
theorem Ow.cells {d : AV} {n : Nat} {A : Nat → Blk} {l : List Pr} (h : Ow d n A l) : d.cells = [d] := by
  rcases h with ⟨rfl, rfl⟩ | ⟨g, rfl, _⟩ <;> rfl
theorem MS.keep {M : Mch} {n n' : Nat} {A A' : Nat → Blk} {s : St} (h : MS M n A s) (hn : n ≤ n') (hk : ∀ g, g < n → (g = M.b ∨ isPr (A g)) → A' g = A g) : MS M n' A' s := by
  obtain ⟨h1, o, h2, h3⟩ := h
  exact ⟨by omega, o, by rw [hk _ h1 (.inl rfl)]; exact h2, h3.keep hn (fun g hg hp => hk g hg (.inr hp))⟩
theorem notPr_m {M : Mch} {n : Nat} {A : Nat → Blk} {s : St} (h : MS M n A s) : ¬ isPr (A M.b) := by
  obtain ⟨_, o, h2, _⟩ := h
  rw [h2]
  show ¬ (64 = 54)
  decide
theorem num_call (x : Int) : PCall Cx 39 [.int .i64 x] (valA (nV x)) := by
  refine pcall_run (noext _) body39 ?_
  simp only [r39_0, res39, tt, bb, bc, ↓bd, Nat.reduceEqDiff, Nat.reduceAdd, Nat.reduceLeDiff, ↓reduceIte, reduceCtorEq]
theorem text_call (s : Bytes) : PCall Cx 38 [.str s] (valA (tV s)) := by
  refine pcall_run (noext _) body38 ?_
  simp only [r38_0, res38, tt, bb, bc, ↓bd, Nat.reduceEqDiff, Nat.reduceAdd, Nat.reduceLeDiff, ↓reduceIte, reduceCtorEq]
theorem point_call (x y : Int) : PCall Cx 63 [.agg [.int .i64 x, .int .i64 y]] (valA (pV x y)) := by
  refine pcall_run (noext _) body63 ?_
  simp only [r63_0, res63, tt, bb, bc, ↓bd, Nat.reduceEqDiff, Nat.reduceAdd, Nat.reduceLeDiff, ↓reduceIte, reduceCtorEq]
theorem truth_call (b : Bool) : PCall Cx 56 [.bool b] (valA (truV b)) := by
  refine pcall_run (noext _) body56 ?_
  cases b with
  | true =>
    simp only [call_pure pure39 rfl (num_call 1), r56_0, r56_1, res56, tt, bb, bc, ↓bd, Nat.reduceEqDiff, Nat.reduceAdd, ↓reduceIte, reduceCtorEq]
    rfl
  | false =>
    simp only [call_pure pure39 rfl (num_call 0), Bool.false_eq_true, r56_0, r56_1, res56, tt, bb, bc, ↓bd, Nat.reduceEqDiff, Nat.reduceAdd, ↓reduceIte, reduceCtorEq]
    rfl
section
variable {fn : FuncId} {T : Nat → AV} {ds : List ADef} {ro : Option Nat} {k : List AItem} {Q : AV → AHeap → Prop} {dst : Option Nat} {os : List AO}
theorem fail_call {M : Mch} {n : Nat} {A : Nat → Blk} {s : St} {e : Int} (h : MS M n A s) (hk : ∀ n' A', MS M n' A' (failS e s) → Keep M.b n A A' → n ≤ n' → RunOps Cx fn (putA T dst (valA zV)) ds ro os k ⟨n', A'⟩ Q) :
    RunCall Cx fn T ds ro 25 [.ptr M.b 22 0 0, .int .i64 e] dst os k ⟨n, A⟩ Q := by
  have hp := notPr_m h
  have h' := h
  obtain ⟨hb, o, hA, ho⟩ := h
  refine call_body pure25 (noext _) body25 ?_
  have ne : (M.b = n) = False := eq_false (by omega)
  have ne' : (n = M.b) = False := eq_false (by omega)
  by_cases he : s.err = 0
  · have z : (s.err == 0) = true := by simp [he]
    simp only [hA, ne, ne', z, r25_0, r25_1, res25, tt, bb, bc, ↓bd, Nat.reduceEqDiff, Nat.reduceAdd, ↓reduceIte, reduceCtorEq]
    have hs : failS e s = { s with err := e } := by unfold failS; rw [if_pos he]
    rw [hs] at hk
    refine hk (n + 1) _ ⟨by omega, o, ?_, ho.keep (n' := n + 1) (by omega) fun g hg hpg => ?_⟩ (fun c hc hcb hcp => ?_) (by omega)
    · simp only [upd_app, ne, ↓reduceIte]
    · have : g ≠ M.b := fun e => hp (by rw [← e]; exact hpg)
      simp only [upd_app, eq_false this, eq_false (show g ≠ n by omega), ↓reduceIte]
    · simp only [upd_app, eq_false hcb, eq_false (show c ≠ n by omega), ↓reduceIte]
  · have z : (s.err == 0) = false := by simpa using he
    simp only [hA, ne, z, r25_0, r25_1, res25, tt, bb, bc, ↓bd, Nat.reduceEqDiff, Nat.reduceAdd, ↓reduceIte, reduceCtorEq]
    have hs : failS e s = s := by unfold failS; rw [if_neg he]
    rw [hs] at hk
    refine hk (n + 1) _ (h'.keep (n' := n + 1) (by omega) fun g hg _ => ?_) (fun c hc hcb hcp => ?_) (by omega)
    · simp only [upd_app, eq_false (show g ≠ n by omega), ↓reduceIte]
    · simp only [upd_app, eq_false (show c ≠ n by omega), ↓reduceIte]
end
end Go.Proofs.Ytckhmpcmlochpaa.G

namespace Go.Proofs.Ytckhmpcmlochpaa.G
open Go.BX
set_option linter.unusedSimpArgs false
set_option linter.unusedVariables false
theorem MS.up1 {M : Mch} {n : Nat} {A : Nat → Blk} {s : St} (h : MS M n A s) (X : Blk) : MS M (n + 1) (upd A n X) s :=
  h.keep (by omega) fun g hg _ => by rw [upd_app, if_neg (by omega)]
theorem MS.upo {M : Mch} {n : Nat} {A : Nat → Blk} {s : St} (h : MS M n A s) {c : Nat} (hc : c ≠ M.b) (hp : ¬ isPr (A c)) (X : Blk) : MS M n (upd A c X) s :=
  h.keep (Nat.le_refl _) fun g hg hgp => by
    rw [upd_app, if_neg]
    rintro rfl
    rcases hgp with h | h
    · exact hc h
    · exact hp h
theorem Keep.up1 {b n n' : Nat} {A A' : Nat → Blk} (h : Keep b n A A') (hn : n ≤ n') (X : Blk) : Keep b n A (upd A' n' X) := fun c hc hb hp => by
  rw [upd_app, if_neg (by omega)]
  exact h c hc hb hp
theorem Keep.at {b n : Nat} {A A' : Nat → Blk} (h : Keep b n A A') {c : Nat} {t kk : Nat} {es : List (List AV)} (hc : c < n) (hb : c ≠ b) (hA : A c = .cells t kk es) (ht : t ≠ 54) : A' c = .cells t kk es := by
  rw [h c hc hb (by rw [hA]; exact ht), hA]
def encV (v : Vl) : List AV := [.int .i64 v.k, .int .i64 v.n, .str v.s, .int .i64 v.x, .int .i64 v.y]
structure AS (M : Mch) (g n : Nat) (A : Nat → Blk) (vs : List Vl) : Prop where
  lt : g < n
  ne : g ≠ M.b
  cell : A g = .cells 26 5 (vs.map encV)
theorem AS.keep {M : Mch} {g n n' : Nat} {A A' : Nat → Blk} {vs : List Vl} (h : AS M g n A vs) (hn : n ≤ n') (hk : Keep M.b n A A') : AS M g n' A' vs :=
  ⟨by have := h.lt; omega, h.ne, hk.at h.lt h.ne h.cell (by decide)⟩
theorem AS.up1 {M : Mch} {g n : Nat} {A : Nat → Blk} {vs : List Vl} (h : AS M g n A vs) (X : Blk) : AS M g (n + 1) (upd A n X) vs :=
  ⟨by have := h.lt; omega, h.ne, by rw [upd_app, if_neg (by have := h.lt; omega)]; exact h.cell⟩
theorem encV_get {vs : List Vl} {i : Nat} {v : Vl} (h : vs[i]? = some v) : (vs.map encV)[i]? = some [.int .i64 v.k, .int .i64 v.n, .str v.s, .int .i64 v.x, .int .i64 v.y] := by
  rw [List.getElem?_map, h]; rfl
theorem not26 {es : List (List AV)} {k : Nat} : ¬ isPr (.cells 26 k es) := by
  show ¬ (26 = 54)
  decide
section
variable {fn : FuncId} {T : Nat → AV} {ds : List ADef} {ro : Option Nat} {k : List AItem} {Q : AV → AHeap → Prop} {dst : Option Nat} {os : List AO}
theorem checked_call {M : Mch} {n : Nat} {A : Nat → Blk} {s : St} {v : Vl} (h : MS M n A s) (he : s.err = 0) (hk : ∀ n' A', MS M n' A' (finS (chkV v) s).2 → Keep M.b n A A' → n ≤ n' → RunOps Cx fn (putA T dst (valA (finS (chkV v) s).1)) ds ro os k ⟨n', A'⟩ Q) :
    RunCall Cx fn T ds ro 52 [.ptr M.b 22 0 0, valA v] dst os k ⟨n, A⟩ Q := by
  refine call_body pure52 (noext _) body52 ?_
  have r := Right_ok v.k v.n v.s v.x v.y
  have eo : rightV v.k v.n v.s v.x v.y = okV v := rfl
  rw [eo] at r
  have h2 := (h.up1 (.cells 26 5 [[.int .i64 v.k, .int .i64 v.n, .str v.s, .int .i64 v.x, .int .i64 v.y]])).up1 (.cells 26 5 [[.int .i64 0, .int .i64 0, .str [], .int .i64 0, .int .i64 0]])
  have kp : Keep M.b n A (upd (upd A n (.cells 26 5 [[.int .i64 v.k, .int .i64 v.n, .str v.s, .int .i64 v.x, .int .i64 v.y]])) (n + 1) (.cells 26 5 [[.int .i64 0, .int .i64 0, .str [], .int .i64 0, .int .i64 0]])) := ((Keep.refl _ _ _).up1 (Nat.le_refl _) _).up1 (by omega) _
  have hb := h.lt
  have e1 : (n = n + 1) = False := eq_false (by omega)
  cases ho : okV v with
  | true =>
    rw [ho] at r
    have ec : finS (chkV v) s = (v, s) := by unfold chkV; rw [if_pos ho]; rfl
    rw [ec] at hk
    simp only [e1, call_pure pure16 rfl r, r52_0, r52_1, res52, tt, bb, bc, ↓bd, Nat.reduceEqDiff, Nat.reduceAdd, ↓reduceIte]
    exact hk (n + 1 + 1) _ (h2.upo (c := n + 1) (by omega) (by rw [upd_app, if_pos rfl]; exact not26) _) (kp.up1 (by omega) _) (by omega)
  | false =>
    rw [ho] at r
    have ec : finS (chkV v) s = (zV, failS 14 s) := by unfold chkV failS; rw [if_neg (by simp [ho]), if_pos he]; rfl
    rw [ec] at hk
    simp only [e1, call_pure pure16 rfl r, r52_0, tt, bb, bc, ↓bd, Nat.reduceEqDiff, Nat.reduceAdd, ↓reduceIte, reduceCtorEq]
    refine fail_call h2 ?_
    intro n' A' hm hkp hn
    have hc := hkp.at (c := n + 1) (by omega) (by omega) (by rw [upd_app, if_pos rfl]) (by decide)
    simp only [hc, r52_1, res52, tt, bb, bc, ↓bd, Nat.reduceEqDiff, Nat.reduceAdd, ↓reduceIte]
    exact hk n' _ (hm.upo (c := n + 1) (by omega) (by rw [hc]; exact not26) _) ((kp.trans (by omega) hkp).up1 (by omega) _) (by omega)
theorem spot_callE {M : Mch} {n : Nat} {A : Nat → Blk} {s : St} {x y e : Int} {r : AR} (h : MS M n A s) (he : s.err = 0) (hr : (e = 0 ∧ r = .val (pV x y)) ∨ (e ≠ 0 ∧ r = .bad e)) (hk : ∀ n' A', MS M n' A' (finS r s).2 → Keep M.b n A A' → n ≤ n' → RunOps Cx fn (putA T dst (valA (finS r s).1)) ds ro os k ⟨n', A'⟩ Q) :
    RunCall Cx fn T ds ro 59 [.ptr M.b 22 0 0, .agg [.int .i64 x, .int .i64 y], .int .i64 e] dst os k ⟨n, A⟩ Q := by
  refine call_body pure59 (noext _) body59 ?_
  have h2 := (h.up1 (.cells 24 2 [[.int .i64 x, .int .i64 y]])).up1 (.cells 26 5 [[.int .i64 0, .int .i64 0, .str [], .int .i64 0, .int .i64 0]])
  have kp : Keep M.b n A (upd (upd A n (.cells 24 2 [[.int .i64 x, .int .i64 y]])) (n + 1) (.cells 26 5 [[.int .i64 0, .int .i64 0, .str [], .int .i64 0, .int .i64 0]])) := ((Keep.refl _ _ _).up1 (Nat.le_refl _) _).up1 (by omega) _
  have hb := h.lt
  have e1 : (n = n + 1) = False := eq_false (by omega)
  rcases hr with ⟨rfl, rfl⟩ | ⟨h0, rfl⟩
  · have z : ((0 : Int) != 0) = false := rfl
    simp only [e1, z, call_pure pure63 rfl (point_call x y), r59_0, r59_1, res59, tt, bb, bc, ↓bd, Nat.reduceEqDiff, Nat.reduceAdd, ↓reduceIte]
    exact hk (n + 1 + 1) _ (h2.upo (c := n + 1) (by omega) (by rw [upd_app, if_pos rfl]; exact not26) _) (kp.up1 (by omega) _) (by omega)
  · have z : (e != 0) = true := by simpa using h0
    have ec : finS (.bad e) s = (zV, failS e s) := by unfold failS; rw [if_pos he]; rfl
    rw [ec] at hk
    simp only [z, r59_0, tt, bb, bc, ↓bd, Nat.reduceEqDiff, Nat.reduceAdd, ↓reduceIte, reduceCtorEq]
    refine fail_call h2 ?_
    intro n' A' hm hkp hn
    have hc := hkp.at (c := n + 1) (by omega) (by omega) (by rw [upd_app, if_pos rfl]) (by decide)
    simp only [hc, r59_1, res59, tt, bb, bc, ↓bd, Nat.reduceEqDiff, Nat.reduceAdd, ↓reduceIte]
    exact hk n' _ (hm.upo (c := n + 1) (by omega) (by rw [hc]; exact not26) _) ((kp.trans (by omega) hkp).up1 (by omega) _) (by omega)
def kc (k : Int) : UInt8 := if k = 0 then 110 else if k = 1 then 115 else 112
def kindsM (want : Bytes) (vs : List Vl) : Bool := (want.zip vs).all fun p => kc p.2.k == p.1
theorem kc_get {v : Vl} (h : okV v = true) : 0 ≤ v.k ∧ ([110, 115, 112] : Bytes)[v.k.toNat]? = some (kc v.k) := by
  rcases kinds3 h with ⟨e, _⟩ | ⟨e, _⟩ | ⟨e, _⟩ <;> rw [e] <;> exact ⟨by decide, rfl⟩
theorem u8_bne (a b : UInt8) : (((a.toNat : Nat) : Int) != ((b.toNat : Nat) : Int)) = !(a == b) := by
  cases h : (a == b) with
  | true => rw [beq_iff_eq] at h; subst h; simp
  | false =>
    rw [Bool.not_false, bne_iff_ne]
    intro e
    rw [beq_eq_false_iff_ne] at h
    exact h (UInt8.toNat_inj.mp (by omega))
theorem kd_all {M : Mch} {s : St} {g n0 : Nat} {A0 : Nat → Blk} {want : Bytes} {vs : List Vl} {Q : AV → AHeap → Prop} (hok : ∀ v, v ∈ vs → okV v = true) (hl : want.length = vs.length) (hvl : vs.length ≤ 3)
    (hQ : ∀ n A, MS M n A (if kindsM want vs then s else failS 13 s) → Keep M.b n0 A0 A → n0 ≤ n → Q (.bool (kindsM want vs)) ⟨n, A⟩) :
    ∀ (j i : Nat) (T : Nat → AV) (n : Nat) (A : Nat → Blk), i + j = vs.length → kindsM want vs = kindsM (want.drop i) (vs.drop i) → MS M n A s → AS M g n A vs → Keep M.b n0 A0 A → n0 ≤ n → T 0 = .ptr M.b 22 0 0 → T 1 = .str want → T 9 = .slc g 5 0 vs.length → T 10 = .int .i64 (vs.length : Int) → T 11 = .int .i64 (i : Int) →
      Run Cx 51 T [] none [.inLoop c51_7, .inBlock 0, .code c51_27] ⟨n, A⟩ Q
  | 0, i, T, n, A, hij, hkm, hm, ha, hkp, hn, t0, t1, t9, t10, t11 => by
    rw [run_inLoop]
    have c0 : ¬ (i : Int) < (vs.length : Int) := by omega
    have e : kindsM want vs = true := by rw [hkm, List.drop_of_length_le (by omega), List.drop_of_length_le (by omega)]; rfl
    rw [e, if_pos rfl] at hQ
    simp only [t10, t11, c0, xx, r51_0, r51_1, r51_3, res51, bb, bc, ↓bd, ↓reduceIte]
    exact hQ n A hm hkp hn
  | j + 1, i, T, n, A, hij, hkm, hm, ha, hkp, hn, t0, t1, t9, t10, t11 => by
    rw [run_inLoop]
    have hi : i < vs.length := by omega
    have hiw : i < want.length := by omega
    have c0 : (i : Int) < (vs.length : Int) := by omega
    have p0 : (0 : Int) ≤ (i : Int) := by omega
    have g0 := encV_get (List.getElem?_eq_getElem hi)
    have hg := ha.cell
    have hglt := ha.lt
    have hb := hm.lt
    have nb : (M.b = n) = False := eq_false (by omega)
    have gn : (g = n) = False := eq_false (by omega)
    obtain ⟨k0, kg⟩ := kc_get (hok _ (List.getElem_mem hi))
    have wg : want[i]? = some want[i] := List.getElem?_eq_getElem hiw
    have w1 : IntKind.i64.wrap ((i : Int) + 1) = ((i + 1 : Nat) : Int) := by rw [wr64 (by omega) (by omega)]; omega
    have hbn := u8_bne (kc (vs[i]).k) want[i]
    have hstep : kindsM (want.drop i) (vs.drop i) = ((kc (vs[i]).k == want[i]) && kindsM (want.drop (i + 1)) (vs.drop (i + 1))) := by
      rw [List.drop_eq_getElem_cons hi, List.drop_eq_getElem_cons hiw]; rfl
    have hm2 := hm.up1 (.cells 26 5 [[.int .i64 (vs[i]).k, .int .i64 (vs[i]).n, .str (vs[i]).s, .int .i64 (vs[i]).x, .int .i64 (vs[i]).y]])
    have ha2 := ha.up1 (.cells 26 5 [[.int .i64 (vs[i]).k, .int .i64 (vs[i]).n, .str (vs[i]).s, .int .i64 (vs[i]).x, .int .i64 (vs[i]).y]])
    have kp2 := hkp.up1 hn (.cells 26 5 [[.int .i64 (vs[i]).k, .int .i64 (vs[i]).n, .str (vs[i]).s, .int .i64 (vs[i]).x, .int .i64 (vs[i]).y]])
    have uu : ∀ (X Y : Blk), upd (upd A n X) n Y = upd A n Y := fun X Y => upd2 A n X Y
    cases hc : (kc (vs[i]).k == want[i]) with
    | true =>
      rw [hc, Bool.true_and] at hstep
      rw [hc, Bool.not_true] at hbn
      simp only [t1, t9, t10, t11, c0, p0, g0, hg, k0, kg, wg, w1, hbn, uu, indexA, Int.toNat_natCast, xx, r51_0, r51_1, r51_2, r51_3.2.1, r51_3.2.2.1, tt, bb, ↓bd, Nat.reduceEqDiff, Nat.reduceAdd, ↓reduceIte]
      refine kd_all hok hl hvl hQ j (i + 1) _ _ _ (by omega) (hkm.trans hstep) hm2 ha2 kp2 (by omega) ?_ ?_ ?_ ?_ ?_
      all_goals simp only [upd_app, t0, t1, t9, t10, Nat.reduceEqDiff, ↓reduceIte]
    | false =>
      rw [hc, Bool.false_and] at hstep
      rw [hc, Bool.not_false] at hbn
      rw [hkm.trans hstep] at hQ
      simp only [t0, t1, t9, t10, t11, c0, p0, g0, hg, k0, kg, wg, hbn, uu, indexA, Int.toNat_natCast, r51_0, r51_1, r51_2, tt, bb, bc, ↓bd, Nat.reduceEqDiff, Nat.reduceAdd, ↓reduceIte, reduceCtorEq]
      refine fail_call hm2 ?_
      intro n' A' hm' hkp' hn'
      simp only [r51_2, r51_3, res51, bb, bc, ↓bd, ↓reduceIte]
      exact hQ n' A' hm' (kp2.trans (by omega) hkp') (by omega)
theorem kinds_call {M : Mch} {n g : Nat} {A : Nat → Blk} {s : St} {want : Bytes} {vs : List Vl} (h : MS M n A s) (ha : AS M g n A vs) (hok : ∀ v, v ∈ vs → okV v = true) (hl : want.length = vs.length) (hvl : vs.length ≤ 3)
    (hk : ∀ n' A', MS M n' A' (if kindsM want vs then s else failS 13 s) → Keep M.b n A A' → n ≤ n' → RunOps Cx fn (putA T dst (.bool (kindsM want vs))) ds ro os k ⟨n', A'⟩ Q) :
    RunCall Cx fn T ds ro 51 [.ptr M.b 22 0 0, .str want, .slc g 5 0 vs.length] dst os k ⟨n, A⟩ Q := by
  refine call_body pure51 (noext _) body51 ?_
  simp only [i64, r51_0.1, r51_0.2.1, r51_0.2.2.1, r51_0.2.2.2.1, r51_0.2.2.2.2.1, r51_0.2.2.2.2.2.1, r51_0.2.2.2.2.2.2.1, tt, bb, bc, ↓bd, Nat.reduceEqDiff, ↓reduceIte]
  refine kd_all (M := M) (s := s) (g := g) (n0 := n) (A0 := A) hok hl hvl ?_ vs.length 0 _ n A (by omega) rfl h ha (Keep.refl _ _ _) (Nat.le_refl _) ?_ ?_ ?_ ?_ ?_
  · intro n' A' h1 h2 h3
    exact hk n' A' h1 h2 h3
  all_goals simp only [upd_app, enterT, List.getElem?_cons_zero, List.getElem?_cons_succ, Option.getD_some, Nat.reduceEqDiff, ↓reduceIte]
  all_goals rfl
theorem named_call {M : Mch} {n : Nat} {A : Nat → Blk} {s : St} {j : Int} (h : MS M n A s) (hj : 0 ≤ j ∧ j < 5)
    (hk : ∀ n' A', MS M n' A' s → Keep M.b n A A' → n ≤ n' → RunOps Cx fn (putA T dst (valA (nameE M.E j s))) ds ro os k ⟨n', A'⟩ Q) :
    RunCall Cx fn T ds ro 26 [.ptr M.b 22 0 0, .int .i64 j] dst os k ⟨n, A⟩ Q := by
  refine call_body pure26 (noext _) body26 ?_
  have h2 := h.up1 (.cells 26 5 [[.int .i64 0, .int .i64 0, .str [], .int .i64 0, .int .i64 0]])
  have kp := (Keep.refl M.b n A).up1 (Nat.le_refl _) (.cells 26 5 [[.int .i64 0, .int .i64 0, .str [], .int .i64 0, .int .i64 0]])
  have hfin : ∀ X, MS M (n + 1) (upd (upd A n (.cells 26 5 [[.int .i64 0, .int .i64 0, .str [], .int .i64 0, .int .i64 0]])) n X) s := fun X => h2.upo (c := n) (by have := h.lt; omega) (by rw [upd_app, if_pos rfl]; exact not26) _
  have h' := h
  obtain ⟨hb, o, hA, ho⟩ := h
  have nb : (M.b = n) = False := eq_false (by omega)
  have nb' : (n = M.b) = False := eq_false (by omega)
  have hcase : j = 0 ∨ j = 1 ∨ j = 2 ∨ j = 3 ∨ j = 4 := by omega
  have hk' : ∀ X v, v = valA (nameE M.E j s) → RunOps Cx fn (putA T dst v) ds ro os k ⟨n + 1, upd (upd A n (.cells 26 5 [[.int .i64 0, .int .i64 0, .str [], .int .i64 0, .int .i64 0]])) n X⟩ Q := by
    rintro X v rfl
    exact hk (n + 1) _ (hfin X) (kp.up1 (Nat.le_refl _) _) (by omega)
  rcases hcase with rfl | rfl | rfl | rfl | rfl <;>
  · simp only [hA, nb, indexA, call_pure pure38 rfl (text_call M.E.key), call_pure pure39 rfl (num_call s.i), r26_0, res26, tt, bb, bc, ↓bd, Nat.reduceEqDiff, Nat.reduceAdd, Nat.reduceMul, Nat.reduceLeDiff, ↓reduceIte, reduceCtorEq, Int.reduceLT, Int.reduceLE, Int.reduceToNat]
    exact hk' _ _ rfl
end
end Go.Proofs.Ytckhmpcmlochpaa.G

namespace Go.Proofs.Ytckhmpcmlochpaa.G.Gs
open Go.BX
set_option linter.unusedSimpArgs false
theorem Right_call {x y : Int} {fn : FuncId} {T : Nat → AV} {ds : List ADef} {ro : Option Nat} {dst : Option Nat} {os : List AO} {k : List AItem} {H : AHeap} {Q : AV → AHeap → Prop} :
    RunCall Cx fn T ds ro 24 [spot x y] dst os k H Q = RunOps Cx fn (putA T dst (.bool (inR x && inR y))) ds ro os k H Q := call_pure pure24 rfl (Right_ok x y)
def errT (n : Int) : AV := .tuple [spot 0 0, spot 0 0, .int .i64 n]
def DivR (a b c d : Int) : AV :=
  if (inR a && inR b) && (inR c && inR d) then
    if c = 0 ∧ d = 0 then errT 16
    else if (inR (qX a b c d) && inR (qY a b c d)) && (inR (rX a b c d) && inR (rY a b c d)) then .tuple [spot (qX a b c d) (qY a b c d), spot (rX a b c d) (rY a b c d), .int .i64 0]
    else errT 14
  else errT 14
theorem Norm_ok (x y : Int) : PCall Cx 58 [spot x y] (if inR x && inR y then .tuple [.int .i64 (nrm x y), .int .i64 0] else .tuple [.int .i64 0, .int .i64 14]) := by
  refine pcall_run (noext _) body58 ?_
  cases h : (inR x && inR y) with
  | false => simp only [h, Right_call, r58_0, r58_1, res58, tt, bb, bc, ↓bd, Nat.reduceEqDiff, Nat.reduceAdd, ↓reduceIte]
  | true =>
    simp only [Bool.and_eq_true] at h
    simp only [h.1, h.2, Right_call, call_pure pure76 rfl (norm_ok x y h.1 h.2), r58_0, r58_1, res58, tt, bb, bc, ↓bd, Nat.reduceEqDiff, Nat.reduceAdd, ↓reduceIte]
theorem Div_ok (a b c d : Int) : PCall Cx 70 [spot a b, spot c d] (DivR a b c d) := by
  refine pcall_run (noext _) body70 ?_
  unfold DivR errT
  cases h1 : (inR a && inR b) with
  | false => simp only [h1, Right_call, r70_0, r70_1, res70, tt, bb, bc, ↓bd, Nat.reduceEqDiff, Nat.reduceAdd, ↓reduceIte, reduceCtorEq]
  | true =>
    cases h2 : (inR c && inR d) with
    | false => simp only [h1, h2, Right_call, r70_0, r70_1, res70, tt, bb, bc, ↓bd, Nat.reduceEqDiff, Nat.reduceAdd, ↓reduceIte, reduceCtorEq]
    | true =>
      by_cases h3 : c = 0 ∧ d = 0
      · obtain ⟨rfl, rfl⟩ := h3
        simp only [h1, h2, Right_call, beq_self_eq_true, r70_0, r70_1, res70, tt, bb, bc, ↓bd, Nat.reduceEqDiff, Nat.reduceAdd, ↓reduceIte, reduceCtorEq]
      · have h4 : ((c == 0) && (d == 0)) = false := by
          cases hh : ((c == 0) && (d == 0)) with
          | false => rfl
          | true => simp only [Bool.and_eq_true, beq_iff_eq] at hh; exact absurd hh h3
        have hh1 := h1
        have hh2 := h2
        simp only [Bool.and_eq_true] at hh1 hh2
        have hd := div_ok a b c d hh1.1 hh1.2 hh2.1 hh2.2 h3
        cases h5 : (inR (qX a b c d) && inR (qY a b c d)) with
        | false => simp only [h1, h2, h3, h4, h5, Right_call, call_pure pure82 rfl hd, run_inBlock, r70_0, r70_1, r70_2, r70_3, res70, tt, bb, bc, ↓bd, Nat.reduceEqDiff, Nat.reduceAdd, ↓reduceIte, reduceCtorEq]
        | true =>
          cases h6 : (inR (rX a b c d) && inR (rY a b c d)) with
          | false => simp only [h1, h2, h3, h4, h5, h6, Right_call, call_pure pure82 rfl hd, run_inBlock, r70_0, r70_1, r70_2, r70_3, res70, tt, bb, bc, ↓bd, Nat.reduceEqDiff, Nat.reduceAdd, ↓reduceIte, reduceCtorEq]
          | true => simp only [h1, h2, h3, h4, h5, h6, Right_call, call_pure pure82 rfl hd, run_inBlock, r70_0, r70_1, r70_2, r70_3, res70, tt, bb, bc, ↓bd, Nat.reduceEqDiff, Nat.reduceAdd, ↓reduceIte, reduceCtorEq, Nat.reduceBneDiff]
end Go.Proofs.Ytckhmpcmlochpaa.G.Gs

namespace Go.Proofs.Ytckhmpcmlochpaa.G.Gs
open Go.BX
set_option linter.unusedSimpArgs false
end Go.Proofs.Ytckhmpcmlochpaa.G.Gs
namespace Go.Proofs.Ytckhmpcmlochpaa.G.Gs
open Go.BX
set_option linter.unusedSimpArgs false
def errS : AV := .tuple [spot 0 0, .int .i64 14]
def SpotR (x y : Int) : AV := if inR x && inR y then .tuple [spot x y, .int .i64 0] else errS
theorem spot_ok (x y : Int) (fx : -9007199254740992 ≤ x ∧ x ≤ 9007199254740992) (fy : -9007199254740992 ≤ y ∧ y ≤ 9007199254740992) : PCall Cx 80 [.cpx x y] (SpotR x y) := by
  refine pcall_run (noext _) body80 ?_
  unfold SpotR errS
  have hmin : IntKind.i64.min = -9223372036854775808 := rfl
  have hmax : IntKind.i64.max = 9223372036854775807 := rfl
  have v1 : (-9223372036854775808 ≤ x ∧ x ≤ 9223372036854775807) = True := eq_true (by omega)
  have v2 : (-9223372036854775808 ≤ y ∧ y ≤ 9223372036854775807) = True := eq_true (by omega)
  cases h : (inR x && inR y) with
  | false => simp only [h, hmin, hmax, v1, v2, Right_call, r80_0, r80_1, res80, tt, bb, bc, ↓bd, Nat.reduceEqDiff, Nat.reduceAdd, Nat.reduceLeDiff, ↓reduceIte, reduceCtorEq, Int.reduceNeg]
  | true => simp only [h, hmin, hmax, v1, v2, Right_call, r80_0, r80_1, res80, tt, bb, bc, ↓bd, Nat.reduceEqDiff, Nat.reduceAdd, Nat.reduceLeDiff, ↓reduceIte, reduceCtorEq, Int.reduceNeg]
def two (a b c d : Int) (r : AV) : AV := if (inR a && inR b) && (inR c && inR d) then r else errS
theorem Add_ok (a b c d : Int) : PCall Cx 67 [spot a b, spot c d] (two a b c d (SpotR (a + c) (b + d))) := by
  refine pcall_run (noext _) body67 ?_
  unfold two
  cases h1 : (inR a && inR b) with
  | false => simp only [errS, h1, Right_call, r67_0, r67_1, res67, tt, bb, bc, ↓bd, Nat.reduceEqDiff, Nat.reduceAdd, ↓reduceIte, reduceCtorEq]
  | true =>
    cases h2 : (inR c && inR d) with
    | false => simp only [errS, h1, h2, Right_call, r67_0, r67_1, res67, tt, bb, bc, ↓bd, Nat.reduceEqDiff, Nat.reduceAdd, ↓reduceIte, reduceCtorEq]
    | true =>
      have hh1 := h1
      have hh2 := h2
      simp only [Bool.and_eq_true] at hh1 hh2
      obtain ⟨ra, rb⟩ := hh1
      obtain ⟨rc, rd⟩ := hh2
      have ha' := inR_iff.mp ra
      have hb' := inR_iff.mp rb
      have hc' := inR_iff.mp rc
      have hd' := inR_iff.mp rd
      have f1 : fits (a + c) = true := fits_of (by omega)
      have f2 : fits (b + d) = true := fits_of (by omega)
      have hs := spot_ok (a + c) (b + d) (by omega) (by omega)
      unfold SpotR errS at *
      cases h3 : (inR (a + c) && inR (b + d)) with
      | false => 
        simp only [h3, Bool.false_eq_true, if_false] at hs
        simp only [h1, h2, f1, f2, cpxBin, Right_call, call_pure pure81 rfl (number_ok a b ra rb), call_pure pure81 rfl (number_ok c d rc rd), call_pure pure80 rfl hs, r67_0, r67_1, res67, tt, bb, bc, ↓bd, Nat.reduceEqDiff, Nat.reduceAdd, ↓reduceIte, reduceCtorEq]
      | true => 
        simp only [h3, if_true] at hs
        simp only [h1, h2, f1, f2, cpxBin, Right_call, call_pure pure81 rfl (number_ok a b ra rb), call_pure pure81 rfl (number_ok c d rc rd), call_pure pure80 rfl hs, r67_0, r67_1, res67, tt, bb, bc, ↓bd, Nat.reduceEqDiff, Nat.reduceAdd, ↓reduceIte, reduceCtorEq]
theorem Sub_ok (a b c d : Int) : PCall Cx 68 [spot a b, spot c d] (two a b c d (SpotR (a - c) (b - d))) := by
  refine pcall_run (noext _) body68 ?_
  unfold two
  cases h1 : (inR a && inR b) with
  | false => simp only [errS, h1, Right_call, r68_0, r68_1, res68, tt, bb, bc, ↓bd, Nat.reduceEqDiff, Nat.reduceAdd, ↓reduceIte, reduceCtorEq]
  | true =>
    cases h2 : (inR c && inR d) with
    | false => simp only [errS, h1, h2, Right_call, r68_0, r68_1, res68, tt, bb, bc, ↓bd, Nat.reduceEqDiff, Nat.reduceAdd, ↓reduceIte, reduceCtorEq]
    | true =>
      have hh1 := h1
      have hh2 := h2
      simp only [Bool.and_eq_true] at hh1 hh2
      obtain ⟨ra, rb⟩ := hh1
      obtain ⟨rc, rd⟩ := hh2
      have ha' := inR_iff.mp ra
      have hb' := inR_iff.mp rb
      have hc' := inR_iff.mp rc
      have hd' := inR_iff.mp rd
      have f1 : fits (a - c) = true := fits_of (by omega)
      have f2 : fits (b - d) = true := fits_of (by omega)
      have hs := spot_ok (a - c) (b - d) (by omega) (by omega)
      unfold SpotR errS at *
      cases h3 : (inR (a - c) && inR (b - d)) with
      | false => 
        simp only [h3, Bool.false_eq_true, if_false] at hs
        simp only [h1, h2, f1, f2, cpxBin, Right_call, call_pure pure81 rfl (number_ok a b ra rb), call_pure pure81 rfl (number_ok c d rc rd), call_pure pure80 rfl hs, r68_0, r68_1, res68, tt, bb, bc, ↓bd, Nat.reduceEqDiff, Nat.reduceAdd, ↓reduceIte, reduceCtorEq]
      | true => 
        simp only [h3, if_true] at hs
        simp only [h1, h2, f1, f2, cpxBin, Right_call, call_pure pure81 rfl (number_ok a b ra rb), call_pure pure81 rfl (number_ok c d rc rd), call_pure pure80 rfl hs, r68_0, r68_1, res68, tt, bb, bc, ↓bd, Nat.reduceEqDiff, Nat.reduceAdd, ↓reduceIte, reduceCtorEq]
theorem Mul_ok (a b c d : Int) : PCall Cx 69 [spot a b, spot c d] (two a b c d (SpotR (a * c - b * d) (a * d + b * c))) := by
  refine pcall_run (noext _) body69 ?_
  unfold two
  cases h1 : (inR a && inR b) with
  | false => simp only [errS, h1, Right_call, r69_0, r69_1, res69, tt, bb, bc, ↓bd, Nat.reduceEqDiff, Nat.reduceAdd, ↓reduceIte, reduceCtorEq]
  | true =>
    cases h2 : (inR c && inR d) with
    | false => simp only [errS, h1, h2, Right_call, r69_0, r69_1, res69, tt, bb, bc, ↓bd, Nat.reduceEqDiff, Nat.reduceAdd, ↓reduceIte, reduceCtorEq]
    | true =>
      have hh1 := h1
      have hh2 := h2
      simp only [Bool.and_eq_true] at hh1 hh2
      obtain ⟨ra, rb⟩ := hh1
      obtain ⟨rc, rd⟩ := hh2
      have ha' := inR_iff.mp ra
      have hb' := inR_iff.mp rb
      have hc' := inR_iff.mp rc
      have hd' := inR_iff.mp rd
      have m1 := mulB ha' hc'
      have m2 := mulB hb' hd'
      have m3 := mulB ha' hd'
      have m4 := mulB hb' hc'
      have f1 : fits (a * c) = true := fits_of (by omega)
      have f2 : fits (b * d) = true := fits_of (by omega)
      have f3 : fits (a * c - b * d) = true := fits_of (by omega)
      have f4 : fits (a * d) = true := fits_of (by omega)
      have f5 : fits (b * c) = true := fits_of (by omega)
      have f6 : fits (a * d + b * c) = true := fits_of (by omega)
      have hs := spot_ok (a * c - b * d) (a * d + b * c) (by omega) (by omega)
      unfold SpotR errS at *
      cases h3 : (inR (a * c - b * d) && inR (a * d + b * c)) with
      | false => 
        simp only [h3, Bool.false_eq_true, if_false] at hs
        simp only [h1, h2, f1, f2, f3, f4, f5, f6, cpxBin, Right_call, call_pure pure81 rfl (number_ok a b ra rb), call_pure pure81 rfl (number_ok c d rc rd), call_pure pure80 rfl hs, r69_0, r69_1, res69, tt, bb, bc, ↓bd, Nat.reduceEqDiff, Nat.reduceAdd, ↓reduceIte, reduceCtorEq]
      | true => 
        simp only [h3, if_true] at hs
        simp only [h1, h2, f1, f2, f3, f4, f5, f6, cpxBin, Right_call, call_pure pure81 rfl (number_ok a b ra rb), call_pure pure81 rfl (number_ok c d rc rd), call_pure pure80 rfl hs, r69_0, r69_1, res69, tt, bb, bc, ↓bd, Nat.reduceEqDiff, Nat.reduceAdd, ↓reduceIte, reduceCtorEq]
theorem Conj_ok (a b : Int) : PCall Cx 60 [spot a b] (if inR a && inR b then .tuple [spot a (0 - b), .int .i64 0] else errS) := by
  refine pcall_run (noext _) body60 ?_
  cases h1 : (inR a && inR b) with
  | false => simp only [errS, h1, Right_call, r60_0, r60_1, res60, tt, bb, bc, ↓bd, Nat.reduceEqDiff, Nat.reduceAdd, ↓reduceIte, reduceCtorEq]
  | true =>
    have hh1 := h1
    simp only [Bool.and_eq_true] at hh1
    obtain ⟨ra, rb⟩ := hh1
    have ha' := inR_iff.mp ra
    have hb' := inR_iff.mp rb
    have w : IntKind.i64.wrap (0 - b) = 0 - b := wr64 (by omega) (by omega)
    simp only [h1, w, Right_call, r60_0, r60_1, res60, tt, bb, bc, ↓bd, Nat.reduceEqDiff, Nat.reduceAdd, Nat.reduceLeDiff, ↓reduceIte, reduceCtorEq]
end Go.Proofs.Ytckhmpcmlochpaa.G.Gs

namespace Go.Proofs.Ytckhmpcmlochpaa.G
open Go.BX
set_option linter.unusedSimpArgs false
set_option linter.unusedVariables false
theorem pts_add (a b c d : Int) (h : ((inR a && inR b) && (inR c && inR d)) = true) : ∃ x y e, PCall Cx 67 [.agg [.int .i64 a, .int .i64 b], .agg [.int .i64 c, .int .i64 d]] (.tuple [.agg [.int .i64 x, .int .i64 y], .int .i64 e]) ∧ ((e = 0 ∧ pts2 2 a b c d = .val (pV x y)) ∨ (e ≠ 0 ∧ pts2 2 a b c d = .bad e)) := by
  have hc := Gs.Add_ok a b c d
  unfold Gs.two Gs.SpotR Gs.errS at hc
  have eR : Gs.inR = inR := rfl
  rw [eR] at hc
  rw [if_pos h] at hc
  have e0 : pts2 2 a b c d = chkP (a + c) (b + d) := rfl
  rw [e0]
  unfold chkP
  cases hi : (inR (a + c) && inR (b + d)) with
  | true => rw [if_pos hi] at hc; exact ⟨_, _, _, hc, .inl ⟨rfl, if_pos rfl⟩⟩
  | false => rw [if_neg (by rw [hi]; decide)] at hc; exact ⟨_, _, _, hc, .inr ⟨by decide, if_neg (by decide)⟩⟩
theorem pts_sub (a b c d : Int) (h : ((inR a && inR b) && (inR c && inR d)) = true) : ∃ x y e, PCall Cx 68 [.agg [.int .i64 a, .int .i64 b], .agg [.int .i64 c, .int .i64 d]] (.tuple [.agg [.int .i64 x, .int .i64 y], .int .i64 e]) ∧ ((e = 0 ∧ pts2 3 a b c d = .val (pV x y)) ∨ (e ≠ 0 ∧ pts2 3 a b c d = .bad e)) := by
  have hc := Gs.Sub_ok a b c d
  unfold Gs.two Gs.SpotR Gs.errS at hc
  have eR : Gs.inR = inR := rfl
  rw [eR] at hc
  rw [if_pos h] at hc
  have e0 : pts2 3 a b c d = chkP (a - c) (b - d) := rfl
  rw [e0]
  unfold chkP
  cases hi : (inR (a - c) && inR (b - d)) with
  | true => rw [if_pos hi] at hc; exact ⟨_, _, _, hc, .inl ⟨rfl, if_pos rfl⟩⟩
  | false => rw [if_neg (by rw [hi]; decide)] at hc; exact ⟨_, _, _, hc, .inr ⟨by decide, if_neg (by decide)⟩⟩
theorem pts_mul (a b c d : Int) (h : ((inR a && inR b) && (inR c && inR d)) = true) : ∃ x y e, PCall Cx 69 [.agg [.int .i64 a, .int .i64 b], .agg [.int .i64 c, .int .i64 d]] (.tuple [.agg [.int .i64 x, .int .i64 y], .int .i64 e]) ∧ ((e = 0 ∧ pts2 4 a b c d = .val (pV x y)) ∨ (e ≠ 0 ∧ pts2 4 a b c d = .bad e)) := by
  have hc := Gs.Mul_ok a b c d
  unfold Gs.two Gs.SpotR Gs.errS at hc
  have eR : Gs.inR = inR := rfl
  rw [eR] at hc
  rw [if_pos h] at hc
  have e0 : pts2 4 a b c d = chkP (a * c - b * d) (a * d + b * c) := rfl
  rw [e0]
  unfold chkP
  cases hi : (inR (a * c - b * d) && inR (a * d + b * c)) with
  | true => rw [if_pos hi] at hc; exact ⟨_, _, _, hc, .inl ⟨rfl, if_pos rfl⟩⟩
  | false => rw [if_neg (by rw [hi]; decide)] at hc; exact ⟨_, _, _, hc, .inr ⟨by decide, if_neg (by decide)⟩⟩
theorem pts_div (a b c d : Int) (h : ((inR a && inR b) && (inR c && inR d)) = true) : ∃ x y x' y' e, PCall Cx 70 [.agg [.int .i64 a, .int .i64 b], .agg [.int .i64 c, .int .i64 d]] (.tuple [.agg [.int .i64 x, .int .i64 y], .agg [.int .i64 x', .int .i64 y'], .int .i64 e]) ∧
    ((e = 0 ∧ pts2 5 a b c d = .val (pV x y)) ∨ (e ≠ 0 ∧ pts2 5 a b c d = .bad e)) ∧ ((e = 0 ∧ pts2 6 a b c d = .val (pV x' y')) ∨ (e ≠ 0 ∧ pts2 6 a b c d = .bad e)) := by
  have hc := Gs.Div_ok a b c d
  unfold Gs.DivR Gs.errT at hc
  have eR : Gs.inR = inR := rfl
  rw [eR] at hc
  rw [if_pos h] at hc
  unfold pts2
  by_cases h0 : c = 0 ∧ d = 0
  · rw [if_pos h0] at hc
    simp only [if_pos h0]
    exact ⟨_, _, _, _, _, hc, .inr ⟨by decide, rfl⟩, .inr ⟨by decide, rfl⟩⟩
  · rw [if_neg h0] at hc
    simp only [if_neg h0]
    cases hi : ((inR (Gs.qX a b c d) && inR (Gs.qY a b c d)) && (inR (Gs.rX a b c d) && inR (Gs.rY a b c d))) with
    | true => rw [if_pos hi] at hc; exact ⟨_, _, _, _, _, hc, .inl ⟨rfl, rfl⟩, .inl ⟨rfl, rfl⟩⟩
    | false => rw [if_neg (by rw [hi]; decide)] at hc; exact ⟨_, _, _, _, _, hc, .inr ⟨by decide, rfl⟩, .inr ⟨by decide, rfl⟩⟩
section
variable {fn : FuncId} {T : Nat → AV} {ds : List ADef} {ro : Option Nat} {k : List AItem} {Q : AV → AHeap → Prop} {dst : Option Nat} {os : List AO}
theorem points_call {M : Mch} {n : Nat} {A : Nat → Blk} {s : St} {op a b c d : Int} (h : MS M n A s) (he : s.err = 0) (hop : op = 2 ∨ op = 3 ∨ op = 4 ∨ op = 5 ∨ op = 6) (hi : ((inR a && inR b) && (inR c && inR d)) = true)
    (hk : ∀ n' A', MS M n' A' (finS (pts2 op a b c d) s).2 → Keep M.b n A A' → n ≤ n' → RunOps Cx fn (putA T dst (valA (finS (pts2 op a b c d) s).1)) ds ro os k ⟨n', A'⟩ Q) :
    RunCall Cx fn T ds ro 50 [.ptr M.b 22 0 0, .str (wordM op), .agg [.int .i64 a, .int .i64 b], .agg [.int .i64 c, .int .i64 d]] dst os k ⟨n, A⟩ Q := by
  refine call_body pure50 (noext _) body50 ?_
  have h2 := ((h.up1 (.cells 24 2 [[.int .i64 a, .int .i64 b]])).up1 (.cells 24 2 [[.int .i64 c, .int .i64 d]])).up1 (.cells 26 5 [[.int .i64 0, .int .i64 0, .str [], .int .i64 0, .int .i64 0]])
  have kp : Keep M.b n A (upd (upd (upd A n (.cells 24 2 [[.int .i64 a, .int .i64 b]])) (n + 1) (.cells 24 2 [[.int .i64 c, .int .i64 d]])) (n + 1 + 1) (.cells 26 5 [[.int .i64 0, .int .i64 0, .str [], .int .i64 0, .int .i64 0]])) := (((Keep.refl _ _ _).up1 (Nat.le_refl _) _).up1 (by omega) _).up1 (by omega) _
  have hb := h.lt
  have e1 : (n = n + 1) = False := eq_false (by omega)
  have e2 : (n = n + 1 + 1) = False := eq_false (by omega)
  have e3 : (n + 1 = n + 1 + 1) = False := eq_false (by omega)
  have fin : ∀ (n' : Nat) (A' : Nat → Blk) (r : AR) (X : Blk), r = pts2 op a b c d → MS M n' A' (finS r s).2 → Keep M.b (n + 1 + 1 + 1) (upd (upd (upd A n (.cells 24 2 [[.int .i64 a, .int .i64 b]])) (n + 1) (.cells 24 2 [[.int .i64 c, .int .i64 d]])) (n + 1 + 1) (.cells 26 5 [[.int .i64 0, .int .i64 0, .str [], .int .i64 0, .int .i64 0]])) A' → n + 1 + 1 + 1 ≤ n' → RunOps Cx fn (putA T dst (valA (finS r s).1)) ds ro os k ⟨n', upd A' (n + 1 + 1) X⟩ Q := by
    rintro n' A' r X rfl hm hkp hn
    have hc := hkp.at (c := n + 1 + 1) (by omega) (by omega) (by rw [upd_app, if_pos rfl]) (by decide)
    exact hk n' _ (hm.upo (c := n + 1 + 1) (by omega) (by rw [hc]; exact not26) _) ((kp.trans (by omega) hkp).up1 (by omega) _) (by omega)
  have cellr : ∀ (n' : Nat) (A' : Nat → Blk), Keep M.b (n + 1 + 1 + 1) (upd (upd (upd A n (.cells 24 2 [[.int .i64 a, .int .i64 b]])) (n + 1) (.cells 24 2 [[.int .i64 c, .int .i64 d]])) (n + 1 + 1) (.cells 26 5 [[.int .i64 0, .int .i64 0, .str [], .int .i64 0, .int .i64 0]])) A' → A' (n + 1 + 1) = .cells 26 5 [[.int .i64 0, .int .i64 0, .str [], .int .i64 0, .int .i64 0]] :=
    fun n' A' hkp => hkp.at (c := n + 1 + 1) (by omega) (by omega) (by rw [upd_app, if_pos rfl]) (by decide)
  rcases hop with rfl | rfl | rfl | rfl | rfl
  · obtain ⟨x, y, e, hp, hr⟩ := pts_add a b c d hi
    have q1 : (wordM 2 == [97, 100, 100]) = true := rfl
    simp only [q1, e1, e2, e3, call_pure pure67 rfl hp, r50_0, r50_1, tt, bb, bc, ↓bd, Nat.reduceEqDiff, Nat.reduceAdd, ↓reduceIte, reduceCtorEq]
    refine spot_callE h2 he hr ?_
    intro n' A' hm hkp hn
    have hc := cellr n' A' hkp
    simp only [hc, r50_1, res50, tt, bb, bc, ↓bd, Nat.reduceEqDiff, Nat.reduceAdd, ↓reduceIte]
    exact fin n' A' _ _ rfl hm hkp hn
  · obtain ⟨x, y, e, hp, hr⟩ := pts_sub a b c d hi
    have q1 : (wordM 3 == [97, 100, 100]) = false := rfl
    have q2 : (wordM 3 == [115, 117, 98]) = true := rfl
    simp only [q1, q2, e1, e2, e3, call_pure pure68 rfl hp, r50_0, r50_1, r50_2, tt, bb, bc, ↓bd, Nat.reduceEqDiff, Nat.reduceAdd, ↓reduceIte, reduceCtorEq]
    refine spot_callE h2 he hr ?_
    intro n' A' hm hkp hn
    have hc := cellr n' A' hkp
    simp only [hc, r50_2, res50, tt, bb, bc, ↓bd, Nat.reduceEqDiff, Nat.reduceAdd, ↓reduceIte]
    exact fin n' A' _ _ rfl hm hkp hn
  · obtain ⟨x, y, e, hp, hr⟩ := pts_mul a b c d hi
    have q1 : (wordM 4 == [97, 100, 100]) = false := rfl
    have q2 : (wordM 4 == [115, 117, 98]) = false := rfl
    have q3 : (wordM 4 == [109, 117, 108]) = true := rfl
    simp only [q1, q2, q3, e1, e2, e3, call_pure pure69 rfl hp, r50_0, r50_1, r50_2, tt, bb, bc, ↓bd, Nat.reduceEqDiff, Nat.reduceAdd, ↓reduceIte, reduceCtorEq]
    refine spot_callE h2 he hr ?_
    intro n' A' hm hkp hn
    have hc := cellr n' A' hkp
    simp only [hc, r50_2, res50, tt, bb, bc, ↓bd, Nat.reduceEqDiff, Nat.reduceAdd, ↓reduceIte]
    exact fin n' A' _ _ rfl hm hkp hn
  all_goals
    obtain ⟨x, y, x', y', e, hp, hr5, hr6⟩ := pts_div a b c d hi
    have e4 : (n + 1 + 1 + 1 = n + 1 + 1 + 1 + 1) = False := eq_false (by omega)
    have e5 : (n + 1 + 1 + 1 + 1 = n + 1 + 1 + 1) = False := eq_false (by omega)
    have h3 := (h2.up1 (.cells 24 2 [[.int .i64 x, .int .i64 y]])).up1 (.cells 24 2 [[.int .i64 x', .int .i64 y']])
    have kq : Keep M.b (n + 1 + 1 + 1) (upd (upd (upd A n (.cells 24 2 [[.int .i64 a, .int .i64 b]])) (n + 1) (.cells 24 2 [[.int .i64 c, .int .i64 d]])) (n + 1 + 1) (.cells 26 5 [[.int .i64 0, .int .i64 0, .str [], .int .i64 0, .int .i64 0]])) (upd (upd (upd (upd (upd A n (.cells 24 2 [[.int .i64 a, .int .i64 b]])) (n + 1) (.cells 24 2 [[.int .i64 c, .int .i64 d]])) (n + 1 + 1) (.cells 26 5 [[.int .i64 0, .int .i64 0, .str [], .int .i64 0, .int .i64 0]])) (n + 1 + 1 + 1) (.cells 24 2 [[.int .i64 x, .int .i64 y]])) (n + 1 + 1 + 1 + 1) (.cells 24 2 [[.int .i64 x', .int .i64 y']])) := ((Keep.refl _ _ _).up1 (Nat.le_refl _) _).up1 (by omega) _
    have hu : upd (upd (upd (upd (upd (upd (upd A n (.cells 24 2 [[.int .i64 a, .int .i64 b]])) (n + 1) (.cells 24 2 [[.int .i64 c, .int .i64 d]])) (n + 1 + 1) (.cells 26 5 [[.int .i64 0, .int .i64 0, .str [], .int .i64 0, .int .i64 0]])) (n + 1 + 1 + 1) (.cells 24 2 [[.int .i64 0, .int .i64 0]])) (n + 1 + 1 + 1 + 1) (.cells 24 2 [[.int .i64 0, .int .i64 0]])) (n + 1 + 1 + 1) (.cells 24 2 [[.int .i64 x, .int .i64 y]])) (n + 1 + 1 + 1 + 1) (.cells 24 2 [[.int .i64 x', .int .i64 y']]) =
        upd (upd (upd (upd (upd A n (.cells 24 2 [[.int .i64 a, .int .i64 b]])) (n + 1) (.cells 24 2 [[.int .i64 c, .int .i64 d]])) (n + 1 + 1) (.cells 26 5 [[.int .i64 0, .int .i64 0, .str [], .int .i64 0, .int .i64 0]])) (n + 1 + 1 + 1) (.cells 24 2 [[.int .i64 x, .int .i64 y]])) (n + 1 + 1 + 1 + 1) (.cells 24 2 [[.int .i64 x', .int .i64 y']]) := by
      funext z
      simp only [upd_app]
      by_cases z1 : z = n + 1 + 1 + 1 + 1
      · rw [if_pos z1, if_pos z1]
      · rw [if_neg z1, if_neg z1]
        by_cases z2 : z = n + 1 + 1 + 1
        · rw [if_pos z2, if_neg z1, if_pos z2]
        · rw [if_neg z2, if_neg z2, if_neg z1, if_neg z2]
  · have q1 : (wordM 5 == [97, 100, 100]) = false := rfl
    have q2 : (wordM 5 == [115, 117, 98]) = false := rfl
    have q3 : (wordM 5 == [109, 117, 108]) = false := rfl
    have q4 : (wordM 5 == [109, 111, 100]) = false := rfl
    simp only [q1, q2, q3, q4, e1, e2, e3, e4, e5, hu, call_pure pure70 rfl hp, xx, r50_0, r50_1, r50_2, r50_3, r50_4, tt, bb, bc, ↓bd, Nat.reduceEqDiff, Nat.reduceAdd, ↓reduceIte, reduceCtorEq]
    refine spot_callE h3 he hr5 ?_
    intro n' A' hm hkp hn
    have hkp' := kq.trans (by omega) hkp
    have hc := cellr n' A' hkp'
    simp only [hc, r50_4, res50, tt, bb, bc, ↓bd, Nat.reduceEqDiff, Nat.reduceAdd, ↓reduceIte]
    exact fin n' A' _ _ rfl hm hkp' (by omega)
  · have q1 : (wordM 6 == [97, 100, 100]) = false := rfl
    have q2 : (wordM 6 == [115, 117, 98]) = false := rfl
    have q3 : (wordM 6 == [109, 117, 108]) = false := rfl
    have q4 : (wordM 6 == [109, 111, 100]) = true := rfl
    simp only [q1, q2, q3, q4, e1, e2, e3, e4, e5, hu, call_pure pure70 rfl hp, xx, r50_0, r50_1, r50_2, r50_3, r50_4, tt, bb, bc, ↓bd, Nat.reduceEqDiff, Nat.reduceAdd, ↓reduceIte, reduceCtorEq]
    refine spot_callE h3 he hr6 ?_
    intro n' A' hm hkp hn
    have hkp' := kq.trans (by omega) hkp
    have hc := cellr n' A' hkp'
    simp only [hc, r50_4, res50, tt, bb, bc, ↓bd, Nat.reduceEqDiff, Nat.reduceAdd, ↓reduceIte]
    exact fin n' A' _ _ rfl hm hkp' (by omega)
end
end Go.Proofs.Ytckhmpcmlochpaa.G

namespace Go.Proofs.Ytckhmpcmlochpaa.G
open Go.BX
set_option linter.unusedSimpArgs false
set_option linter.unusedVariables false
theorem maxE (a b : Int) : maxA .i64 a [.int .i64 b] = some (max a b) := by
  simp only [maxA, ↓reduceIte, Option.some.injEq]
  split <;> omega
def ovM (a b : Int) : Bool := decide (9007199254740992 < b.natAbs * a.natAbs)
theorem over_ok (a b : Int) (ha : -9007199254740992 ≤ a ∧ a ≤ 9007199254740992) (hb : -9007199254740992 ≤ b ∧ b ≤ 9007199254740992) : PCall Cx 53 [.int .i64 a, .int .i64 b] (.bool (ovM a b)) := by
  refine pcall_run (noext _) body53 ?_
  by_cases h0 : a = 0
  · have z : (a != 0) = false := by simp [h0]
    have e : ovM a b = false := by unfold ovM; rw [h0]; simp
    rw [e]
    simp only [z, r53_0, res53, bb, bc, ↓bd, Nat.reduceEqDiff, ↓reduceIte, reduceCtorEq]
  · have z : (a != 0) = true := by simpa using h0
    have w1 : IntKind.i64.wrap (0 - b) = 0 - b := wr64 (by omega) (by omega)
    have w2 : IntKind.i64.wrap (0 - a) = 0 - a := wr64 (by omega) (by omega)
    have m1 : max b (0 - b) = (b.natAbs : Int) := by omega
    have m2 : max a (0 - a) = (a.natAbs : Int) := by omega
    have z0 : ((a.natAbs : Int) = 0) = False := eq_false (by omega)
    have t1 : (9007199254740992 : Int).tdiv (a.natAbs : Int) = ((9007199254740992 / a.natAbs : Nat) : Int) := by
      rw [Int.tdiv_eq_ediv_of_nonneg (by decide)]; rfl
    have le : 9007199254740992 / a.natAbs ≤ 9007199254740992 := Nat.div_le_self _ _
    have w3' : ∀ q : Nat, q ≤ 9007199254740992 → IntKind.i64.wrap (q : Int) = (q : Int) := fun q h => wr64 (by omega) (by omega)
    have w3 := w3' _ le
    have cmp : decide (((9007199254740992 / a.natAbs : Nat) : Int) < (b.natAbs : Int)) = ovM a b := by
      unfold ovM
      rw [decide_eq_decide]
      have := Nat.div_lt_iff_lt_mul (x := 9007199254740992) (y := b.natAbs) (k := a.natAbs) (by omega)
      rw [Int.ofNat_lt]
      exact this
    simp only [z, z0, w1, w2, w3, t1, maxE, m1, m2, cmp, Option.map_some, runVH_some, r53_0, res53, bb, bc, ↓bd, Nat.reduceEqDiff, ↓reduceIte, reduceCtorEq]
theorem tdiv_b {a b : Int} (ha : -9007199254740992 ≤ a ∧ a ≤ 9007199254740992) : -9007199254740992 ≤ a.tdiv b ∧ a.tdiv b ≤ 9007199254740992 := by
  have h : (a.tdiv b).natAbs ≤ a.natAbs := by rw [Int.natAbs_tdiv]; exact Nat.div_le_self _ _
  omega
theorem tmod_b {a b : Int} (hb0 : b ≠ 0) (hb : -9007199254740992 ≤ b ∧ b ≤ 9007199254740992) : -9007199254740992 ≤ a.tmod b ∧ a.tmod b ≤ 9007199254740992 := by
  have h1 : (a.tmod b).natAbs < b.natAbs := by
    rw [Int.natAbs_tmod]
    exact Nat.mod_lt _ (by omega)
  omega
theorem down_ok (a b : Int) (hb0 : b ≠ 0) (ha : -9007199254740992 ≤ a ∧ a ≤ 9007199254740992) (hb : -9007199254740992 ≤ b ∧ b ≤ 9007199254740992) : PCall Cx 54 [.int .i64 a, .int .i64 b] (.tuple [.int .i64 (downM a b).1, .int .i64 (downM a b).2]) := by
  refine pcall_run (noext _) body54 ?_
  have z : (b = 0) = False := eq_false hb0
  have d := tdiv_b (b := b) ha
  have m := tmod_b (a := a) hb0 hb
  have w1 : IntKind.i64.wrap (a.tdiv b) = a.tdiv b := wr64 (by omega) (by omega)
  have w2 : IntKind.i64.wrap (a.tmod b) = a.tmod b := wr64 (by omega) (by omega)
  have w3 : IntKind.i64.wrap (a.tdiv b - 1) = a.tdiv b - 1 := wr64 (by omega) (by omega)
  have w4 : IntKind.i64.wrap (a.tmod b + b) = a.tmod b + b := wr64 (by omega) (by omega)
  unfold downM
  cases h1 : (a.tmod b != 0) with
  | false => simp only [z, h1, w1, Bool.false_and, Bool.false_eq_true, r54_0, r54_1, res54, bb, bc, ↓bd, Nat.reduceEqDiff, ↓reduceIte, reduceCtorEq]
  | true =>
    have hq : ∀ x y : Bool, (!(x == y)) = (x != y) := fun _ _ => rfl
    cases h2 : (decide (a.tmod b < 0) != decide (b < 0)) with
    | false => simp only [z, h1, hq, h2, w1, Bool.false_eq_true, r54_0, r54_1, res54, tt, bb, bc, ↓bd, Nat.reduceEqDiff, ↓reduceIte, reduceCtorEq]
    | true => simp only [z, h1, hq, h2, w1, w3, w4, r54_0, r54_1, res54, tt, bb, bc, ↓bd, Nat.reduceEqDiff, ↓reduceIte, reduceCtorEq]
theorem mul_b {a b : Int} (h : ovM a b = false) : -9007199254740992 ≤ a * b ∧ a * b ≤ 9007199254740992 := by
  unfold ovM at h
  rw [decide_eq_false_iff_not] at h
  have := Int.natAbs_mul a b
  rw [Nat.mul_comm] at this
  omega
theorem mul_no {a b : Int} (h : ovM a b = true) : okV (nV (a * b)) = false := by
  unfold ovM at h
  rw [decide_eq_true_eq] at h
  have := Int.natAbs_mul a b
  rw [Nat.mul_comm] at this
  cases ho : okV (nV (a * b)) with
  | false => rfl
  | true =>
    rcases kinds3 ho with ⟨_, n0, _⟩ | ⟨k1, _⟩ | ⟨k2, _⟩
    · simp only at n0; omega
    · cases k1
    · cases k2
theorem kinds_nn {a b : Vl} (oa : okV a = true) (ob : okV b = true) : kindsM [110, 110] [a, b] = decide (a.k = 0 ∧ b.k = 0) := by
  have e : kindsM [110, 110] [a, b] = ((kc a.k == 110) && ((kc b.k == 110) && true)) := rfl
  rw [e]
  rcases kinds3 oa with ⟨h1, _⟩ | ⟨h1, _⟩ | ⟨h1, _⟩ <;> rcases kinds3 ob with ⟨h2, _⟩ | ⟨h2, _⟩ | ⟨h2, _⟩ <;> rw [h1, h2] <;> rfl
section
variable {fn : FuncId} {T : Nat → AV} {ds : List ADef} {ro : Option Nat} {k : List AItem} {Q : AV → AHeap → Prop} {dst : Option Nat} {os : List AO}
abbrev zB : Blk := .cells 26 5 [[.int .i64 0, .int .i64 0, .str [], .int .i64 0, .int .i64 0]]
theorem cell_at' {b n : Nat} {A A' : Nat → Blk} (hb : b < n) (h : Keep b (n + 1) (upd A n zB) A') : A' n = .cells 26 5 [[.int .i64 0, .int .i64 0, .str [], .int .i64 0, .int .i64 0]] :=
  h.at (c := n) (by omega) (by omega) (by rw [upd_app, if_pos rfl]) (by decide)
theorem end_call {M : Mch} {n n' : Nat} {A A' : Nat → Blk} {s' : St} {v : AV} {X : Blk} (hb : M.b < n) (hm : MS M n' A' s') (hkp : Keep M.b (n + 1) (upd A n zB) A') (hn : n + 1 ≤ n')
    (hk : ∀ n' A', MS M n' A' s' → Keep M.b n A A' → n ≤ n' → RunOps Cx fn (putA T dst v) ds ro os k ⟨n', A'⟩ Q) : RunOps Cx fn (putA T dst v) ds ro os k ⟨n', upd A' n X⟩ Q := by
  have hc := cell_at' hb hkp
  exact hk n' _ (hm.upo (c := n) (by omega) (by rw [hc]; exact not26) _) (((((Keep.refl M.b n A).up1 (Nat.le_refl _) zB).trans (by omega) hkp)).up1 (by omega) _) (by omega)
theorem sums_call {M : Mch} {n g : Nat} {A : Nat → Blk} {s : St} {op : Int} {a b : Vl} (h : MS M n A s) (he : s.err = 0) (ha : AS M g n A [a, b]) (oa : okV a = true) (ob : okV b = true) (hop : op = 2 ∨ op = 3 ∨ op = 4 ∨ op = 5 ∨ op = 6)
    (hk : ∀ n' A', MS M n' A' (finS (ap2 op a b s.out.length) s).2 → Keep M.b n A A' → n ≤ n' → RunOps Cx fn (putA T dst (valA (finS (ap2 op a b s.out.length) s).1)) ds ro os k ⟨n', A'⟩ Q) :
    RunCall Cx fn T ds ro 41 [.ptr M.b 22 0 0, .str (wordM op), .slc g 5 0 2] dst os k ⟨n, A⟩ Q := by
  refine call_body pure41 (noext _) body41 ?_
  have hb := h.lt
  have h2 := h.up1 zB
  have ha2 := ha.up1 zB
  have gl := ha.lt
  have gn : (g = n) = False := eq_false (by omega)
  have hg : A g = .cells 26 5 [[.int .i64 a.k, .int .i64 a.n, .str a.s, .int .i64 a.x, .int .i64 a.y], [.int .i64 b.k, .int .i64 b.n, .str b.s, .int .i64 b.x, .int .i64 b.y]] := ha.cell
  have eap : ap2 op a b s.out.length = (if a.k = 2 ∧ b.k = 2 then pts2 op a.x a.y b.x b.y else if a.k = 0 ∧ b.k = 0 then num2 op a.n b.n else .bad 13) := by
    unfold ap2
    rw [if_pos (by omega)]
  rw [eap] at hk
  by_cases hpp : a.k = 2 ∧ b.k = 2
  · rw [if_pos hpp] at hk
    have z1 : (a.k == 2) = true := by simp [hpp.1]
    have z2 : (b.k == 2) = true := by simp [hpp.2]
    have i1 := (kind_if oa).2.2 hpp.1
    have i2 := (kind_if ob).2.2 hpp.2
    simp only [hg, gn, z1, z2, Int.toNat_zero, Int.toNat_one, r41_0, tt, bb, bc, ↓bd, Nat.reduceEqDiff, Nat.reduceAdd, ↓reduceIte, reduceCtorEq, Int.reduceLT, Int.reduceLE]
    refine points_call h2 he hop (by rw [i1.1, i1.2, i2.1, i2.2]; rfl) ?_
    intro n' A' hm hkp hn
    have hc := cell_at' hb hkp
    simp only [hc, r41_1, res41, tt, bb, bc, ↓bd, Nat.reduceEqDiff, Nat.reduceAdd, ↓reduceIte]
    exact end_call hb hm hkp hn hk
  · rw [if_neg hpp] at hk
    have hkn := kinds_nn oa ob
    have go : ∀ {T' : Nat → AV} {k' : List AItem} {Q' : AV → AHeap → Prop}, (∀ n' A', MS M n' A' (if kindsM [110, 110] [a, b] then s else failS 13 s) → Keep M.b (n + 1) (upd A n zB) A' → n + 1 ≤ n' → RunOps Cx 41 (putA T' (some 36) (.bool (kindsM [110, 110] [a, b]))) [] none [oA 37 (.unOp .not 4 (tm 36)) 4] k' ⟨n', A'⟩ Q') → RunCall Cx 41 T' [] none 51 [.ptr M.b 22 0 0, .str [110, 110], .slc g 5 0 2] (some 36) [oA 37 (.unOp .not 4 (tm 36)) 4] k' ⟨n + 1, upd A n zB⟩ Q' :=
      fun hh => kinds_call (want := [110, 110]) (vs := [a, b]) h2 ha2 (fun v hv => by simp only [List.mem_cons, List.not_mem_nil, or_false] at hv; rcases hv with rfl | rfl <;> assumption) rfl (by simp) hh
    have hz : ((a.k == 2) = true ∧ (b.k == 2) = false) ∨ (a.k == 2) = false := by
      by_cases e1 : a.k = 2
      · left; exact ⟨by simp [e1], by simp; exact fun e => hpp ⟨e1, e⟩⟩
      · right; simp [e1]
    have rest : ∀ (n' : Nat) (A' : Nat → Blk) (T' : Nat → AV), MS M n' A' (if kindsM [110, 110] [a, b] then s else failS 13 s) → Keep M.b (n + 1) (upd A n zB) A' → n + 1 ≤ n' → T' 0 = .ptr M.b 22 0 0 → T' 1 = .str (wordM op) → T' 2 = .slc g 5 0 2 → T' 6 = .ptr n 5 0 0 →
        RunOps Cx 41 (putA T' (some 36) (.bool (kindsM [110, 110] [a, b]))) [] none [oA 37 (.unOp .not 4 (tm 36)) 4] [.code c41_13, .code c41_18] ⟨n', A'⟩ (fun r H1 => RunOps Cx fn (putA T dst r) ds ro os k H1 Q) := by
      intro n' A' T' hm hkp hn t0 t1 t2 t6
      have hc := cell_at' hb hkp
      have hg' : A' g = .cells 26 5 [[.int .i64 a.k, .int .i64 a.n, .str a.s, .int .i64 a.x, .int .i64 a.y], [.int .i64 b.k, .int .i64 b.n, .str b.s, .int .i64 b.x, .int .i64 b.y]] := (ha2.keep hn hkp).cell
      by_cases hnn : a.k = 0 ∧ b.k = 0
      · rw [if_pos hnn] at hk
        have ek : kindsM [110, 110] [a, b] = true := by rw [hkn]; simpa using hnn
        rw [ek, if_pos rfl] at hm
        have ra := (kind_if oa).1 hnn.1
        have rb := (kind_if ob).1 hnn.2
        have hnb : M.b ≠ n := by omega
        rcases hop with rfl | rfl | rfl | rfl | rfl
        · have q1 : (wordM 2 == [97, 100, 100]) = true := rfl
          have w1 : IntKind.i64.wrap (a.n + b.n) = a.n + b.n := wr64 (by omega) (by omega)
          simp only [t0, t1, t2, ek, hg', q1, w1, Int.toNat_zero, Int.toNat_one, call_pure pure39 rfl (num_call (a.n + b.n)), r41_1, r41_2, r41_3, tt, bb, bc, ↓bd, Nat.reduceEqDiff, ↓reduceIte, reduceCtorEq, Int.reduceLT, Int.reduceLE]
          refine checked_call hm he ?_
          intro n2 A2 hm2 hkp2 hn2
          have hkp3 := hkp.trans hn hkp2
          have hc2 := cell_at' hb hkp3
          simp only [t6, hc2, r41_3, res41, tt, bb, bc, ↓bd, Nat.reduceEqDiff, Nat.reduceAdd, ↓reduceIte]
          exact end_call hb hm2 hkp3 (by omega) hk
        · have q1 : (wordM 3 == [97, 100, 100]) = false := rfl
          have q2 : (wordM 3 == [115, 117, 98]) = true := rfl
          have w1 : IntKind.i64.wrap (a.n - b.n) = a.n - b.n := wr64 (by omega) (by omega)
          simp only [t0, t1, t2, ek, hg', q1, q2, w1, Int.toNat_zero, Int.toNat_one, call_pure pure39 rfl (num_call (a.n - b.n)), r41_1, r41_2, r41_3, r41_4, tt, bb, bc, ↓bd, Nat.reduceEqDiff, ↓reduceIte, reduceCtorEq, Int.reduceLT, Int.reduceLE]
          refine checked_call hm he ?_
          intro n2 A2 hm2 hkp2 hn2
          have hkp3 := hkp.trans hn hkp2
          have hc2 := cell_at' hb hkp3
          simp only [t6, hc2, r41_4, res41, tt, bb, bc, ↓bd, Nat.reduceEqDiff, Nat.reduceAdd, ↓reduceIte]
          exact end_call hb hm2 hkp3 (by omega) hk
        · have q1 : (wordM 4 == [97, 100, 100]) = false := rfl
          have q2 : (wordM 4 == [115, 117, 98]) = false := rfl
          have q3 : (wordM 4 == [109, 117, 108]) = true := rfl
          have hov := over_ok a.n b.n ra rb
          cases ho : ovM a.n b.n with
          | true =>
            rw [ho] at hov
            simp only [t0, t1, t2, ek, hg', q1, q2, q3, Int.toNat_zero, Int.toNat_one, call_pure pure53 rfl hov, r41_1, r41_2, r41_3, r41_4, r41_5, tt, bb, bc, ↓bd, Nat.reduceEqDiff, ↓reduceIte, reduceCtorEq, Int.reduceLT, Int.reduceLE]
            refine fail_call hm ?_
            intro n2 A2 hm2 hkp2 hn2
            have hkp3 := hkp.trans hn hkp2
            have hc2 := cell_at' hb hkp3
            simp only [t6, hc2, r41_5, res41, tt, bb, bc, ↓bd, Nat.reduceEqDiff, Nat.reduceAdd, ↓reduceIte]
            have ef : finS (num2 4 a.n b.n) s = (zV, failS 14 s) := by
              have e1 : num2 4 a.n b.n = chkV (nV (a.n * b.n)) := rfl
              rw [e1]
              unfold chkV failS
              rw [if_neg (by rw [mul_no ho]; decide), if_pos he]; rfl
            rw [ef] at hk
            exact end_call hb hm2 hkp3 (by omega) hk
          | false =>
            rw [ho] at hov
            have mb := mul_b ho
            have w1 : IntKind.i64.wrap (a.n * b.n) = a.n * b.n := wr64 (by omega) (by omega)
            simp only [t0, t1, t2, ek, hg', q1, q2, q3, w1, Int.toNat_zero, Int.toNat_one, call_pure pure53 rfl hov, call_pure pure39 rfl (num_call (a.n * b.n)), r41_1, r41_2, r41_3, r41_4, r41_5, r41_6, tt, bb, bc, ↓bd, Nat.reduceEqDiff, ↓reduceIte, reduceCtorEq, Int.reduceLT, Int.reduceLE]
            refine checked_call hm he ?_
            intro n2 A2 hm2 hkp2 hn2
            have hkp3 := hkp.trans hn hkp2
            have hc2 := cell_at' hb hkp3
            simp only [t6, hc2, r41_6, res41, tt, bb, bc, ↓bd, Nat.reduceEqDiff, Nat.reduceAdd, ↓reduceIte]
            exact end_call hb hm2 hkp3 (by omega) hk
        · have q1 : (wordM 5 == [97, 100, 100]) = false := rfl
          have q2 : (wordM 5 == [115, 117, 98]) = false := rfl
          have q3 : (wordM 5 == [109, 117, 108]) = false := rfl
          have q4 : (wordM 5 == [109, 111, 100]) = false := rfl
          by_cases hb0 : b.n = 0
          · have z0 : (b.n == 0) = true := by simp [hb0]
            simp only [t0, t1, t2, ek, hg', q1, q2, q3, z0, Int.toNat_zero, Int.toNat_one, xx, r41_1, r41_2, r41_3, r41_4, r41_6, r41_7, tt, bb, bc, ↓bd, Nat.reduceEqDiff, ↓reduceIte, reduceCtorEq, Int.reduceLT, Int.reduceLE]
            refine fail_call hm ?_
            intro n2 A2 hm2 hkp2 hn2
            have hkp3 := hkp.trans hn hkp2
            have hc2 := cell_at' hb hkp3
            simp only [t6, hc2, r41_7, res41, tt, bb, bc, ↓bd, Nat.reduceEqDiff, Nat.reduceAdd, ↓reduceIte]
            have ef : finS (num2 5 a.n b.n) s = (zV, failS 16 s) := by
              have e1 : num2 5 a.n b.n = if b.n = 0 then .bad 16 else chkV (nV (downM a.n b.n).1) := rfl
              rw [e1, if_pos hb0]
              unfold failS
              rw [if_pos he]; rfl
            rw [ef] at hk
            exact end_call hb hm2 hkp3 (by omega) hk
          · have z0 : (b.n == 0) = false := by simp [hb0]
            simp only [t0, t1, t2, ek, hg', q1, q2, q3, q4, z0, Int.toNat_zero, Int.toNat_one, call_pure pure54 rfl (down_ok a.n b.n hb0 ra rb), call_pure pure39 rfl (num_call (downM a.n b.n).1), xx, r41_1, r41_2, r41_3, r41_4, r41_6, r41_7, r41_8, tt, bb, bc, ↓bd, Nat.reduceEqDiff, ↓reduceIte, reduceCtorEq, Int.reduceLT, Int.reduceLE]
            refine checked_call hm he ?_
            intro n2 A2 hm2 hkp2 hn2
            have hkp3 := hkp.trans hn hkp2
            have hc2 := cell_at' hb hkp3
            simp only [t6, hc2, r41_8, res41, tt, bb, bc, ↓bd, Nat.reduceEqDiff, Nat.reduceAdd, ↓reduceIte]
            have e1 : num2 5 a.n b.n = chkV (nV (downM a.n b.n).1) := by
              have e1 : num2 5 a.n b.n = if b.n = 0 then .bad 16 else chkV (nV (downM a.n b.n).1) := rfl
              rw [e1, if_neg hb0]
            rw [e1] at hk
            exact end_call hb hm2 hkp3 (by omega) hk
        · have q1 : (wordM 6 == [97, 100, 100]) = false := rfl
          have q2 : (wordM 6 == [115, 117, 98]) = false := rfl
          have q3 : (wordM 6 == [109, 117, 108]) = false := rfl
          have q4 : (wordM 6 == [109, 111, 100]) = true := rfl
          by_cases hb0 : b.n = 0
          · have z0 : (b.n == 0) = true := by simp [hb0]
            simp only [t0, t1, t2, ek, hg', q1, q2, q3, z0, Int.toNat_zero, Int.toNat_one, xx, r41_1, r41_2, r41_3, r41_4, r41_6, r41_7, tt, bb, bc, ↓bd, Nat.reduceEqDiff, ↓reduceIte, reduceCtorEq, Int.reduceLT, Int.reduceLE]
            refine fail_call hm ?_
            intro n2 A2 hm2 hkp2 hn2
            have hkp3 := hkp.trans hn hkp2
            have hc2 := cell_at' hb hkp3
            simp only [t6, hc2, r41_7, res41, tt, bb, bc, ↓bd, Nat.reduceEqDiff, Nat.reduceAdd, ↓reduceIte]
            have ef : finS (num2 6 a.n b.n) s = (zV, failS 16 s) := by
              have e1 : num2 6 a.n b.n = if b.n = 0 then .bad 16 else .val (nV (downM a.n b.n).2) := rfl
              rw [e1, if_pos hb0]
              unfold failS
              rw [if_pos he]; rfl
            rw [ef] at hk
            exact end_call hb hm2 hkp3 (by omega) hk
          · have z0 : (b.n == 0) = false := by simp [hb0]
            simp only [t1, t2, t6, ek, hg', hc, q1, q2, q3, q4, z0, Int.toNat_zero, Int.toNat_one, call_pure pure54 rfl (down_ok a.n b.n hb0 ra rb), call_pure pure39 rfl (num_call (downM a.n b.n).2), xx, r41_1, r41_2, r41_3, r41_4, r41_6, r41_7, r41_8, res41, tt, bb, bc, ↓bd, Nat.reduceEqDiff, Nat.reduceAdd, ↓reduceIte, Int.reduceLT, Int.reduceLE]
            have e1 : num2 6 a.n b.n = .val (nV (downM a.n b.n).2) := by
              have e1 : num2 6 a.n b.n = if b.n = 0 then .bad 16 else .val (nV (downM a.n b.n).2) := rfl
              rw [e1, if_neg hb0]
            rw [e1] at hk
            exact end_call hb hm hkp hn hk
      · rw [if_neg hnn] at hk
        have ek : kindsM [110, 110] [a, b] = false := by rw [hkn]; simpa using hnn
        rw [ek, if_neg (by decide)] at hm
        simp only [t6, ek, hc, r41_1, r41_2, res41, tt, bb, bc, ↓bd, Nat.reduceEqDiff, Nat.reduceAdd, ↓reduceIte]
        have ef : finS (.bad 13) s = (zV, failS 13 s) := by unfold failS; rw [if_pos he]; rfl
        rw [ef] at hk
        exact end_call hb hm hkp hn hk
    rcases hz with ⟨z1, z2⟩ | z1
    · simp only [hg, gn, z1, z2, Int.toNat_zero, Int.toNat_one, r41_0, r41_1.2.1, r41_1.2.2.1, r41_1.2.2.2.1, r41_1.2.2.2.2.1, tt, bb, bc, ↓bd, Nat.reduceEqDiff, ↓reduceIte, reduceCtorEq, Int.reduceLT, Int.reduceLE]
      refine go ?_
      intro n' A' hm hkp hn
      refine rest n' A' _ hm hkp hn ?_ ?_ ?_ ?_
      all_goals simp only [upd_app, enterT, List.getElem?_cons_zero, List.getElem?_cons_succ, Option.getD_some, Nat.reduceEqDiff, ↓reduceIte]
    · simp only [hg, gn, z1, Int.toNat_zero, r41_0, r41_1.2.1, r41_1.2.2.1, r41_1.2.2.2.1, r41_1.2.2.2.2.1, tt, bb, bc, ↓bd, Nat.reduceEqDiff, ↓reduceIte, reduceCtorEq, Int.reduceLT, Int.reduceLE]
      refine go ?_
      intro n' A' hm hkp hn
      refine rest n' A' _ hm hkp hn ?_ ?_ ?_ ?_
      all_goals simp only [upd_app, enterT, List.getElem?_cons_zero, List.getElem?_cons_succ, Option.getD_some, Nat.reduceEqDiff, ↓reduceIte]
end
end Go.Proofs.Ytckhmpcmlochpaa.G

namespace Go.Proofs.Ytckhmpcmlochpaa.G
open Go.BX
set_option linter.unusedSimpArgs false
set_option linter.unusedVariables false
section
variable {fn : FuncId} {T : Nat → AV} {ds : List ADef} {ro : Option Nat} {k : List AItem} {Q : AV → AHeap → Prop} {dst : Option Nat} {os : List AO}
theorem end_val {M : Mch} {n : Nat} {A : Nat → Blk} {s : St} {v : AV} {X : Blk} (h : MS M n A s)
    (hk : ∀ n' A', MS M n' A' s → Keep M.b n A A' → n ≤ n' → RunOps Cx fn (putA T dst v) ds ro os k ⟨n', A'⟩ Q) : RunOps Cx fn (putA T dst v) ds ro os k ⟨n + 1, upd (upd A n zB) n X⟩ Q :=
  end_call h.lt (h.up1 zB) (Keep.refl _ _ _) (Nat.le_refl _) hk
theorem orders_call {M : Mch} {n g : Nat} {A : Nat → Blk} {s : St} {op : Int} {a b : Vl} (h : MS M n A s) (he : s.err = 0) (ha : AS M g n A [a, b]) (hop : op = 8 ∨ op = 12 ∨ op = 13)
    (hk : ∀ n' A', MS M n' A' (finS (ap2 op a b s.out.length) s).2 → Keep M.b n A A' → n ≤ n' → RunOps Cx fn (putA T dst (valA (finS (ap2 op a b s.out.length) s).1)) ds ro os k ⟨n', A'⟩ Q) :
    RunCall Cx fn T ds ro 42 [.ptr M.b 22 0 0, .str (wordM op), .slc g 5 0 2] dst os k ⟨n, A⟩ Q := by
  refine call_body pure42 (noext _) body42 ?_
  have hb := h.lt
  have h2 := h.up1 zB
  have gl := ha.lt
  have gn : (g = n) = False := eq_false (by omega)
  have hg : A g = .cells 26 5 [[.int .i64 a.k, .int .i64 a.n, .str a.s, .int .i64 a.x, .int .i64 a.y], [.int .i64 b.k, .int .i64 b.n, .str b.s, .int .i64 b.x, .int .i64 b.y]] := ha.cell
  have eap : ap2 op a b s.out.length = (if a.k = b.k then (if op = 8 then .val (truV (decide (ordE a b < 0))) else if op = 12 then .val (if 0 < ordE a b then a else b) else .val (if ordE a b ≤ 0 then a else b)) else .bad 13) := by
    unfold ap2
    rw [if_neg (by omega), if_neg (by omega), if_pos (by omega)]
  rw [eap] at hk
  by_cases hkk : a.k = b.k
  · rw [if_pos hkk] at hk
    have z : (a.k != b.k) = false := by simp [hkk]
    have ho : PCall Cx 55 [.agg [.int .i64 a.k, .int .i64 a.n, .str a.s, .int .i64 a.x, .int .i64 a.y], .agg [.int .i64 b.k, .int .i64 b.n, .str b.s, .int .i64 b.x, .int .i64 b.y]] (.int .i64 (ordE a b)) := Order_ok a.k a.n a.s a.x a.y b.k b.n b.s b.x b.y
    rcases hop with rfl | rfl | rfl
    · have q1 : (wordM 8 == [108, 101, 115, 115]) = true := rfl
      have ht : ∀ c : Prop, ∀ _ : Decidable c, PCall Cx 56 [.bool (decide c)] (valA (truV (decide c))) := fun c _ => truth_call _
      simp only [hg, gn, z, q1, Int.toNat_zero, Int.toNat_one, call_pure pure55 rfl ho, call_pure pure56 rfl (truth_call (decide (ordE a b < 0))), r42_0, r42_1, r42_2, res42, tt, bb, bc, ↓bd, Nat.reduceEqDiff, Nat.reduceAdd, ↓reduceIte, Int.reduceLT, Int.reduceLE]
      exact end_val h hk
    · have q1 : (wordM 12 == [108, 101, 115, 115]) = false := rfl
      have q2 : (wordM 12 == [109, 97, 120]) = true := rfl
      have q3 : (wordM 12 == [109, 105, 110]) = false := rfl
      have e12 : (12 : Int) ≠ 8 := by decide
      rw [if_neg e12, if_pos rfl] at hk
      by_cases hc : 0 < ordE a b
      · rw [if_pos hc] at hk
        simp only [hg, gn, z, q1, q2, hc, Int.toNat_zero, Int.toNat_one, call_pure pure55 rfl ho, r42_0, r42_1, r42_2, r42_3, res42, tt, bb, bc, ↓bd, Nat.reduceEqDiff, Nat.reduceAdd, ↓reduceIte, Int.reduceLT, Int.reduceLE]
        exact end_val h hk
      · rw [if_neg hc] at hk
        simp only [hg, gn, z, q1, q2, q3, hc, Int.toNat_zero, Int.toNat_one, call_pure pure55 rfl ho, xx, r42_0, r42_1, r42_2, r42_3, r42_4, res42, tt, bb, bc, ↓bd, Nat.reduceEqDiff, Nat.reduceAdd, ↓reduceIte, Int.reduceLT, Int.reduceLE]
        exact end_val h hk
    · have q1 : (wordM 13 == [108, 101, 115, 115]) = false := rfl
      have q2 : (wordM 13 == [109, 97, 120]) = false := rfl
      have q3 : (wordM 13 == [109, 105, 110]) = true := rfl
      have e13 : (13 : Int) ≠ 8 := by decide
      have e13' : (13 : Int) ≠ 12 := by decide
      rw [if_neg e13, if_neg e13'] at hk
      by_cases hc : ordE a b ≤ 0
      · rw [if_pos hc] at hk
        simp only [hg, gn, z, q1, q2, q3, hc, Int.toNat_zero, Int.toNat_one, call_pure pure55 rfl ho, r42_0, r42_1, r42_2, r42_3, res42, tt, bb, bc, ↓bd, Nat.reduceEqDiff, Nat.reduceAdd, ↓reduceIte, Int.reduceLT, Int.reduceLE]
        exact end_val h hk
      · rw [if_neg hc] at hk
        simp only [hg, gn, z, q1, q2, q3, hc, Int.toNat_zero, Int.toNat_one, call_pure pure55 rfl ho, xx, r42_0, r42_1, r42_2, r42_3, r42_4, res42, tt, bb, bc, ↓bd, Nat.reduceEqDiff, Nat.reduceAdd, ↓reduceIte, Int.reduceLT, Int.reduceLE]
        exact end_val h hk
  · rw [if_neg hkk] at hk
    have z : (a.k != b.k) = true := by simpa using hkk
    simp only [hg, gn, z, Int.toNat_zero, Int.toNat_one, r42_0, tt, bb, bc, ↓bd, Nat.reduceEqDiff, ↓reduceIte, reduceCtorEq, Int.reduceLT, Int.reduceLE]
    refine fail_call h2 ?_
    intro n' A' hm hkp hn
    have hc := cell_at' hb hkp
    simp only [hc, r42_1, res42, tt, bb, bc, ↓bd, Nat.reduceEqDiff, Nat.reduceAdd, ↓reduceIte]
    have ef : finS (.bad 13) s = (zV, failS 13 s) := by unfold failS; rw [if_pos he]; rfl
    rw [ef] at hk
    exact end_call hb hm hkp hn hk
theorem kinds_p {a : Vl} (oa : okV a = true) : kindsM [112] [a] = decide (a.k = 2) := by
  have e : kindsM [112] [a] = ((kc a.k == 112) && true) := rfl
  rw [e]
  rcases kinds3 oa with ⟨h1, _⟩ | ⟨h1, _⟩ | ⟨h1, _⟩ <;> rw [h1] <;> rfl
theorem kinds_n {a : Vl} (oa : okV a = true) : kindsM [110] [a] = decide (a.k = 0) := by
  have e : kindsM [110] [a] = ((kc a.k == 110) && true) := rfl
  rw [e]
  rcases kinds3 oa with ⟨h1, _⟩ | ⟨h1, _⟩ | ⟨h1, _⟩ <;> rw [h1] <;> rfl
theorem one_ok {a : Vl} (oa : okV a = true) : ∀ v, v ∈ [a] → okV v = true := by
  intro v hv
  simp only [List.mem_singleton] at hv
  rw [hv]; exact oa
theorem two_ok {a b : Vl} (oa : okV a = true) (ob : okV b = true) : ∀ v, v ∈ [a, b] → okV v = true := by
  intro v hv
  simp only [List.mem_cons, List.not_mem_nil, or_false] at hv
  rcases hv with rfl | rfl <;> assumption
theorem three_ok {a b c : Vl} (oa : okV a = true) (ob : okV b = true) (oc : okV c = true) : ∀ v, v ∈ [a, b, c] → okV v = true := by
  intro v hv
  simp only [List.mem_cons, List.not_mem_nil, or_false] at hv
  rcases hv with rfl | rfl | rfl <;> assumption
theorem end_call2 {M : Mch} {n n' c : Nat} {A A' : Nat → Blk} {s' : St} {v : AV} {X Y : Blk} (hb : M.b < n) (hm : MS M n' A' s') (hkp : Keep M.b (n + 1) (upd A n zB) A') (hn : n + 1 ≤ n') (hc : n' ≤ c)
    (hk : ∀ n' A', MS M n' A' s' → Keep M.b n A A' → n ≤ n' → RunOps Cx fn (putA T dst v) ds ro os k ⟨n', A'⟩ Q) : RunOps Cx fn (putA T dst v) ds ro os k ⟨n' + 1, upd (upd A' n' Y) n X⟩ Q :=
  end_call hb (hm.up1 Y) (hkp.up1 (by omega) Y) (by omega) hk
theorem spots_call {M : Mch} {n g : Nat} {A : Nat → Blk} {s : St} {op : Int} {a : Vl} (h : MS M n A s) (he : s.err = 0) (ha : AS M g n A [a]) (oa : okV a = true) (hop : op = 22 ∨ op = 23 ∨ op = 24 ∨ op = 25)
    (hk : ∀ n' A', MS M n' A' (finS (ap1 op a) s).2 → Keep M.b n A A' → n ≤ n' → RunOps Cx fn (putA T dst (valA (finS (ap1 op a) s).1)) ds ro os k ⟨n', A'⟩ Q) :
    RunCall Cx fn T ds ro 44 [.ptr M.b 22 0 0, .str (wordM op), .slc g 5 0 1] dst os k ⟨n, A⟩ Q := by
  refine call_body pure44 (noext _) body44 ?_
  have hb := h.lt
  have h2 := h.up1 zB
  have ha2 := ha.up1 zB
  have eap : ap1 op a = (if a.k = 2 then (if op = 22 then .val (nV a.x) else if op = 23 then .val (nV a.y) else if op = 24 then .val (nV (a.x * a.x + a.y * a.y)) else .val (pV a.x (-a.y))) else .bad 13) := by
    unfold ap1
    rw [if_neg (by omega), if_neg (by omega), if_neg (by omega), if_neg (by omega), if_neg (by omega), if_neg (by omega)]
  rw [eap] at hk
  simp only [r44_0, tt, bb, bc, ↓bd, Nat.reduceEqDiff, ↓reduceIte, reduceCtorEq]
  refine kinds_call (want := [112]) (vs := [a]) h2 ha2 (one_ok oa) rfl (by simp) ?_
  intro n' A' hm hkp hn
  have hc := cell_at' hb hkp
  have hg' : A' g = .cells 26 5 [[.int .i64 a.k, .int .i64 a.n, .str a.s, .int .i64 a.x, .int .i64 a.y]] := (ha2.keep hn hkp).cell
  have gl := ha.lt
  have g1 : (g = n') = False := eq_false (by omega)
  have g2 : (n = n') = False := eq_false (by omega)
  rw [kinds_p oa] at hm
  rw [kinds_p oa]
  by_cases k2 : a.k = 2
  · rw [if_pos k2] at hk
    have ed : decide (a.k = 2) = true := by simp [k2]
    rw [ed, if_pos rfl] at hm
    rw [ed]
    obtain ⟨x0, y0⟩ := (kind_if oa).2.2 k2
    have hx := inR_iff.mp x0
    have hy := inR_iff.mp y0
    have uu : ∀ (X Y : Blk), upd (upd A' n' X) n' Y = upd A' n' Y := fun X Y => upd2 A' n' X Y
    rcases hop with rfl | rfl | rfl | rfl
    · have q1 : (wordM 22 == [114, 101]) = true := rfl
      simp only [hc, hg', g2, uu, q1, Int.toNat_zero, call_pure pure39 rfl (num_call a.x), r44_0, r44_1, r44_2, res44, tt, bb, bc, ↓bd, Nat.reduceEqDiff, Nat.reduceAdd, ↓reduceIte, Int.reduceLT, Int.reduceLE]
      exact end_call2 hb hm hkp hn (Nat.le_refl _) hk
    · have q1 : (wordM 23 == [114, 101]) = false := rfl
      have q2 : (wordM 23 == [105, 109]) = true := rfl
      simp only [hc, hg', g2, uu, q1, q2, Int.toNat_zero, call_pure pure39 rfl (num_call a.y), r44_0, r44_1, r44_2, r44_3, res44, tt, bb, bc, ↓bd, Nat.reduceEqDiff, Nat.reduceAdd, ↓reduceIte, Int.reduceLT, Int.reduceLE]
      exact end_call2 hb hm hkp hn (Nat.le_refl _) hk
    · have q1 : (wordM 24 == [114, 101]) = false := rfl
      have q2 : (wordM 24 == [105, 109]) = false := rfl
      have q3 : (wordM 24 == [110, 111, 114, 109]) = true := rfl
      have hN := Gs.Norm_ok a.x a.y
      rw [if_pos (show (Gs.inR a.x && Gs.inR a.y) = true by rw [show Gs.inR a.x = true from x0, show Gs.inR a.y = true from y0]; rfl)] at hN
      replace hN : PCall Cx 58 [.agg [.int .i64 a.x, .int .i64 a.y]] (.tuple [.int .i64 (a.x * a.x + a.y * a.y), .int .i64 0]) := hN
      simp only [hc, hg', g2, uu, q1, q2, q3, Int.toNat_zero, call_pure pure58 rfl hN, call_pure pure39 rfl (num_call (a.x * a.x + a.y * a.y)), r44_0, r44_1, r44_2, r44_3, r44_4, res44, tt, bb, bc, ↓bd, Nat.reduceEqDiff, Nat.reduceAdd, ↓reduceIte, Int.reduceLT, Int.reduceLE]
      exact end_call2 hb hm hkp hn (Nat.le_refl _) hk
    · have q1 : (wordM 25 == [114, 101]) = false := rfl
      have q2 : (wordM 25 == [105, 109]) = false := rfl
      have q3 : (wordM 25 == [110, 111, 114, 109]) = false := rfl
      have hN := Gs.Conj_ok a.x a.y
      rw [if_pos (show (Gs.inR a.x && Gs.inR a.y) = true by rw [show Gs.inR a.x = true from x0, show Gs.inR a.y = true from y0]; rfl)] at hN
      replace hN : PCall Cx 60 [.agg [.int .i64 a.x, .int .i64 a.y]] (.tuple [.agg [.int .i64 a.x, .int .i64 (0 - a.y)], .int .i64 0]) := hN
      rw [Int.zero_sub] at hN
      simp only [hg', uu, q1, q2, q3, Int.toNat_zero, call_pure pure60 rfl hN, xx, r44_0, r44_1, r44_2, r44_3, r44_4, tt, bb, bc, ↓bd, Nat.reduceEqDiff, Nat.reduceAdd, ↓reduceIte, reduceCtorEq, Int.reduceLT, Int.reduceLE]
      refine spot_callE (r := .val (pV a.x (-a.y))) (hm.up1 _) he (.inl ⟨rfl, rfl⟩) ?_
      intro n2 A2 hm2 hkp2 hn2
      have hkp3 := (hkp.up1 hn (.cells 24 2 [[.int .i64 a.x, .int .i64 a.y]])).trans (by omega) hkp2
      have hc2 := cell_at' hb hkp3
      simp only [hc2, r44_4, res44, tt, bb, bc, ↓bd, Nat.reduceEqDiff, Nat.reduceAdd, ↓reduceIte]
      exact end_call hb hm2 hkp3 (by omega) hk
  · rw [if_neg k2] at hk
    have ed : decide (a.k = 2) = false := by simp [k2]
    rw [ed, if_neg (by decide)] at hm
    rw [ed]
    simp only [hc, r44_0, r44_1, res44, tt, bb, bc, ↓bd, Nat.reduceEqDiff, Nat.reduceAdd, ↓reduceIte]
    have ef : finS (.bad 13) s = (zV, failS 13 s) := by unfold failS; rw [if_pos he]; rfl
    rw [ef] at hk
    exact end_call hb hm hkp hn hk
end
end Go.Proofs.Ytckhmpcmlochpaa.G

namespace Go.Proofs.Ytckhmpcmlochpaa.G
open Go.BX
set_option linter.unusedSimpArgs false
set_option linter.unusedVariables false
theorem psl' : isSl Cx 36 54 := ⟨_, TT_36, rfl⟩
theorem pti' : ∃ ti, Cx.TT 54 = some ti ∧ ti.size = 6 ∧ ti.bytes = 64 := ⟨_, TT_54, rfl, rfl⟩
theorem Ow.app1 {d : AV} {n : Nat} {A : Nat → Blk} {l : List Pr} (h : Ow d n A l) (p : Pr) (hl : l.length ≤ 64) :
    ∃ A', builtinM Cx ⟨n + 1, upd A n (.cells 54 6 [[.str p.key, .int .i64 p.k, .int .i64 p.n, .str p.s, .int .i64 p.x, .int .i64 p.y]])⟩ .append [36, 36] [d, .slc n 6 0 1] = some (.slc (n + 1) 6 0 (l.length + 1), ⟨n + 1 + 1, A'⟩) ∧
      Ow (.slc (n + 1) 6 0 (l.length + 1)) (n + 1 + 1) A' (l ++ [p]) ∧ (∀ c, c < n → ¬ isPr (A c) → A' c = A c) := by
  rcases h with ⟨rfl, rfl⟩ | ⟨g, rfl, g1, g2⟩
  · refine ⟨_, app_nil psl' pti' (by decide), .inr ⟨n + 1, by simp, by omega, by rw [upd_app, if_pos rfl]; rfl⟩, fun c hc _ => ?_⟩
    rw [upd_app, if_neg (by omega), upd_app, if_neg (by omega)]
  · have e := app_row (C := Cx) (g := g) (n := n) (A := A) (es := l.map encP) (row := [.str p.key, .int .i64 p.k, .int .i64 p.n, .str p.s, .int .i64 p.x, .int .i64 p.y]) psl' pti' g2 (by omega) (by rw [List.length_map]; unfold most; omega) (by rw [List.length_map]; unfold most; omega)
    rw [List.length_map] at e
    refine ⟨_, e, .inr ⟨n + 1, by simp, by omega, by rw [upd_app, if_pos rfl, List.map_append]; rfl⟩, fun c hc hp => ?_⟩
    have : c ≠ g := by rintro rfl; rw [g2] at hp; exact hp rfl
    rw [upd_app, if_neg (by omega), upd_app, if_neg this, upd_app, if_neg (by omega)]
section
variable {fn : FuncId} {T : Nat → AV} {ds : List ADef} {ro : Option Nat} {k : List AItem} {Q : AV → AHeap → Prop} {dst : Option Nat} {os : List AO}
theorem fin_bad {e : Int} {s : St} (he : s.err = 0) : finS (.bad e) s = (zV, failS e s) := by unfold failS; rw [if_pos he]; rfl
theorem emit_call {M : Mch} {n g : Nat} {A : Nat → Blk} {s : St} {a b : Vl} (h : MS M n A s) (he : s.err = 0) (ha : AS M g n A [a, b]) (ho : s.out.length ≤ 64)
    (hk : ∀ n' A', MS M n' A' (finS (ap2 26 a b s.out.length) s).2 → Keep M.b n A A' → n ≤ n' → RunOps Cx fn (putA T dst (valA (finS (ap2 26 a b s.out.length) s).1)) ds ro os k ⟨n', A'⟩ Q) :
    RunCall Cx fn T ds ro 62 [.ptr M.b 22 0 0, .slc g 5 0 2] dst os k ⟨n, A⟩ Q := by
  refine call_body pure62 (noext _) body62 ?_
  have hb := h.lt
  have h2 := h.up1 zB
  have ha2 := ha.up1 zB
  have gl := ha.lt
  have gn : (g = n) = False := eq_false (by omega)
  have bn : (M.b = n) = False := eq_false (by omega)
  have nb : (n = M.b) = False := eq_false (by omega)
  have hg : A g = .cells 26 5 [[.int .i64 a.k, .int .i64 a.n, .str a.s, .int .i64 a.x, .int .i64 a.y], [.int .i64 b.k, .int .i64 b.n, .str b.s, .int .i64 b.x, .int .i64 b.y]] := ha.cell
  have eap : ap2 26 a b s.out.length = (if a.k = 1 then (if a.s.length ≤ 64 then (if s.out.length = 64 then .bad 22 else .out (pairV a.s b) b) else .bad 3) else .bad 13) := rfl
  rw [eap] at hk
  have fail : ∀ (e : Int) (hk : ∀ n' A', MS M n' A' (failS e s) → Keep M.b n A A' → n ≤ n' → RunOps Cx fn (putA T dst (valA zV)) ds ro os k ⟨n', A'⟩ Q), ∀ n' A', MS M n' A' (failS e s) → Keep M.b (n + 1) (upd A n zB) A' → n + 1 ≤ n' → ∀ X, RunOps Cx fn (putA T dst (valA zV)) ds ro os k ⟨n', upd A' n X⟩ Q :=
    fun e hk n' A' hm hkp hn X => end_call hb hm hkp hn hk
  by_cases k1 : a.k = 1
  · rw [if_pos k1] at hk
    have z1 : (a.k != 1) = false := by simp [k1]
    by_cases hl : a.s.length ≤ 64
    · rw [if_pos hl] at hk
      have z2 : ¬ (64 : Int) < (a.s.length : Int) := by omega
      have h2' := h2
      obtain ⟨hb2, o, hA, how⟩ := h2
      have hA' : A M.b = .cells 64 22 [[M.L, M.F, .str M.E.key, .int .i64 M.E.val.k, .int .i64 M.E.val.n, .str M.E.val.s, .int .i64 M.E.val.x, .int .i64 M.E.val.y, .int .i64 M.E.acc.k, .int .i64 M.E.acc.n, .str M.E.acc.s, .int .i64 M.E.acc.x, .int .i64 M.E.acc.y, .int .i64 s.i, .int .i64 s.it.k, .int .i64 s.it.n, .str s.it.s, .int .i64 s.it.x, .int .i64 s.it.y, o, .int .i64 (s.left : Int), .int .i64 s.err]] := by
        rw [upd_app, if_neg (by omega)] at hA; exact hA
      have hlo := how.lenOf
      simp only [BX.lenOf] at hlo
      by_cases hm64 : s.out.length = 64
      · rw [if_pos hm64, fin_bad he] at hk
        have z3 : ((s.out.length : Int) == 64) = true := by simp; omega
        simp only [hA', hg, gn, bn, z1, z2, z3, hlo, i64, Int.toNat_zero, r62_0, r62_1, r62_2, tt, bb, bc, ↓bd, Nat.reduceEqDiff, ↓reduceIte, reduceCtorEq, Int.reduceLT, Int.reduceLE]
        refine fail_call h2' ?_
        intro n' A' hm hkp hn
        have hc := cell_at' hb hkp
        simp only [hc, r62_2, res62, tt, bb, bc, ↓bd, Nat.reduceEqDiff, Nat.reduceAdd, ↓reduceIte]
        exact fail _ hk n' A' hm hkp hn _
      · rw [if_neg hm64] at hk
        have z3 : ((s.out.length : Int) == 64) = false := by simp; omega
        obtain ⟨A3, happ, how3, hkeep⟩ := how.app1 (pairV a.s b) ho
        have hA3 : A3 M.b = .cells 64 22 [[M.L, M.F, .str M.E.key, .int .i64 M.E.val.k, .int .i64 M.E.val.n, .str M.E.val.s, .int .i64 M.E.val.x, .int .i64 M.E.val.y, .int .i64 M.E.acc.k, .int .i64 M.E.acc.n, .str M.E.acc.s, .int .i64 M.E.acc.x, .int .i64 M.E.acc.y, .int .i64 s.i, .int .i64 s.it.k, .int .i64 s.it.n, .str s.it.s, .int .i64 s.it.x, .int .i64 s.it.y, o, .int .i64 (s.left : Int), .int .i64 s.err]] := by
          rw [hkeep M.b (by omega) (notPr_m h2')]; exact hA
        have hg3 : A3 g = .cells 26 5 [[.int .i64 a.k, .int .i64 a.n, .str a.s, .int .i64 a.x, .int .i64 a.y], [.int .i64 b.k, .int .i64 b.n, .str b.s, .int .i64 b.x, .int .i64 b.y]] := by
          rw [hkeep g (by omega) (by rw [ha2.cell]; exact not26)]; exact ha2.cell
        have hc3 : A3 n = .cells 26 5 [[.int .i64 0, .int .i64 0, .str [], .int .i64 0, .int .i64 0]] := by
          rw [hkeep n (by omega) (by rw [upd_app, if_pos rfl]; exact not26), upd_app, if_pos rfl]
        have gb : (g = M.b) = False := eq_false ha.ne
        simp only [hA', hg, gn, gb, bn, nb, z1, z2, z3, hlo, happ, hA3, hg3, hc3, i64, runVH_some, Int.toNat_zero, Int.toNat_one, xx, r62_0, r62_1, r62_2, r62_3, res62, tt, bb, bc, ↓bd, Nat.reduceEqDiff, Nat.reduceAdd, Nat.reduceMul, Nat.reduceLeDiff, ↓reduceIte, reduceCtorEq, Int.reduceLT, Int.reduceLE, List.reduceReplicate]
        have hpl := how3.plain
        simp only [AV.plain] at hpl
        refine hk (n + 1 + 1 + 1) _ ⟨by omega, .slc (n + 1 + 1) 6 0 (s.out.length + 1), ?_, ?_⟩ (fun c hc hcb hcp => ?_) (by omega)
        · simp only [upd_app, bn, ↓reduceIte]
          rfl
        · refine how3.keep (Nat.le_refl _) fun z hz hzp => ?_
          have z1 : z ≠ M.b := by rintro rfl; rw [hA3] at hzp; cases hzp
          have z2 : z ≠ n := by rintro rfl; rw [hc3] at hzp; cases hzp
          rw [upd_app, if_neg z2, upd_app, if_neg z1]
        · have cn : c ≠ n := by omega
          rw [upd_app, if_neg cn, upd_app, if_neg hcb, hkeep c (by omega) (by rw [upd_app, if_neg cn]; exact hcp), upd_app, if_neg cn]
    · rw [if_neg hl, fin_bad he] at hk
      have z2 : (64 : Int) < (a.s.length : Int) := by omega
      simp only [hg, gn, z1, z2, i64, Int.toNat_zero, r62_0, r62_1, tt, bb, bc, ↓bd, Nat.reduceEqDiff, ↓reduceIte, reduceCtorEq, Int.reduceLT, Int.reduceLE]
      refine fail_call h2 ?_
      intro n' A' hm hkp hn
      have hc := cell_at' hb hkp
      simp only [hc, r62_1, res62, tt, bb, bc, ↓bd, Nat.reduceEqDiff, Nat.reduceAdd, ↓reduceIte]
      exact fail _ hk n' A' hm hkp hn _
  · rw [if_neg k1, fin_bad he] at hk
    have z1 : (a.k != 1) = true := by simpa using k1
    simp only [hg, gn, z1, Int.toNat_zero, r62_0, r62_1, tt, bb, bc, ↓bd, Nat.reduceEqDiff, ↓reduceIte, reduceCtorEq, Int.reduceLT, Int.reduceLE]
    refine fail_call h2 ?_
    intro n' A' hm hkp hn
    have hc := cell_at' hb hkp
    simp only [hc, r62_1, res62, tt, bb, bc, ↓bd, Nat.reduceEqDiff, Nat.reduceAdd, ↓reduceIte]
    exact fail _ hk n' A' hm hkp hn _
theorem okP_iff (x y : Int) : okV (pV x y) = (inR x && inR y) := by
  unfold okV rightV
  simp
theorem chkP_V (x y : Int) : chkV (pV x y) = chkP x y := by
  unfold chkV chkP
  rw [okP_iff]
theorem same_ord (a b : Vl) : ((a.k == b.k) && ((a.n == b.n) && ((a.s == b.s) && ((a.x == b.x) && (a.y == b.y))))) = (ordE a b == 0) := ord_same a.k a.n a.s a.x a.y b.k b.n b.s b.x b.y
theorem others2_call {M : Mch} {n g : Nat} {A : Nat → Blk} {s : St} {op : Int} {a b : Vl} (h : MS M n A s) (he : s.err = 0) (ha : AS M g n A [a, b]) (oa : okV a = true) (ob : okV b = true) (ho : s.out.length ≤ 64) (hop : op = 9 ∨ op = 21 ∨ op = 26 ∨ op = 27)
    (hk : ∀ n' A', MS M n' A' (finS (ap2 op a b s.out.length) s).2 → Keep M.b n A A' → n ≤ n' → RunOps Cx fn (putA T dst (valA (finS (ap2 op a b s.out.length) s).1)) ds ro os k ⟨n', A'⟩ Q) :
    RunCall Cx fn T ds ro 45 [.ptr M.b 22 0 0, .str (wordM op), .slc g 5 0 2] dst os k ⟨n, A⟩ Q := by
  refine call_body pure45 (noext _) body45 ?_
  have hb := h.lt
  have h2 := h.up1 zB
  have ha2 := ha.up1 zB
  have gl := ha.lt
  have gn : (g = n) = False := eq_false (by omega)
  have hg : A g = .cells 26 5 [[.int .i64 a.k, .int .i64 a.n, .str a.s, .int .i64 a.x, .int .i64 a.y], [.int .i64 b.k, .int .i64 b.n, .str b.s, .int .i64 b.x, .int .i64 b.y]] := ha.cell
  rcases hop with rfl | rfl | rfl | rfl
  · have eap : ap2 9 a b s.out.length = .val (truV (ordE a b == 0)) := rfl
    rw [eap] at hk
    have q1 : (wordM 9 == [115, 97, 109, 101]) = true := rfl
    simp only [hg, gn, q1, same_ord, Int.toNat_zero, Int.toNat_one, call_pure pure56 rfl (truth_call (ordE a b == 0)), r45_0, r45_1, res45, tt, bb, bc, ↓bd, Nat.reduceEqDiff, Nat.reduceAdd, ↓reduceIte, Int.reduceLT, Int.reduceLE]
    exact end_val h hk
  · have eap : ap2 21 a b s.out.length = if a.k = 0 ∧ b.k = 0 then chkP a.n b.n else .bad 13 := rfl
    rw [eap] at hk
    have q1 : (wordM 21 == [115, 97, 109, 101]) = false := rfl
    have q2 : (wordM 21 == [116, 104, 101, 110]) = false := rfl
    have q3 : (wordM 21 == [116, 101, 120, 116]) = false := rfl
    have q4 : (wordM 21 == [101, 109, 105, 116]) = false := rfl
    have q5 : (wordM 21 == [110, 111, 116]) = false := rfl
    have q6 : (wordM 21 == [97, 116]) = true := rfl
    simp only [q1, q2, q3, q4, q5, q6, r45_0, r45_1, r45_2, r45_4, r45_5, r45_6, r45_7, tt, bb, bc, ↓bd, Nat.reduceEqDiff, ↓reduceIte, reduceCtorEq]
    refine kinds_call (want := [110, 110]) (vs := [a, b]) h2 ha2 (two_ok oa ob) rfl (by simp) ?_
    intro n' A' hm hkp hn
    have hc := cell_at' hb hkp
    have hg' : A' g = .cells 26 5 [[.int .i64 a.k, .int .i64 a.n, .str a.s, .int .i64 a.x, .int .i64 a.y], [.int .i64 b.k, .int .i64 b.n, .str b.s, .int .i64 b.x, .int .i64 b.y]] := (ha2.keep hn hkp).cell
    rw [kinds_nn oa ob] at hm
    rw [kinds_nn oa ob]
    by_cases hnn : a.k = 0 ∧ b.k = 0
    · rw [if_pos hnn] at hk
      have ed : decide (a.k = 0 ∧ b.k = 0) = true := by simpa using hnn
      rw [ed, if_pos rfl] at hm
      rw [ed]
      simp only [hg', Int.toNat_zero, Int.toNat_one, call_pure pure63 rfl (point_call a.n b.n), r45_7, r45_8, tt, bb, bc, ↓bd, Nat.reduceEqDiff, Nat.reduceAdd, Nat.reduceLeDiff, ↓reduceIte, reduceCtorEq, Int.reduceLT, Int.reduceLE]
      refine checked_call hm he ?_
      intro n2 A2 hm2 hkp2 hn2
      rw [chkP_V] at hm2
      rw [chkP_V]
      have hkp3 := hkp.trans hn hkp2
      have hc2 := cell_at' hb hkp3
      simp only [hc2, r45_8, res45, tt, bb, bc, ↓bd, Nat.reduceEqDiff, Nat.reduceAdd, ↓reduceIte]
      exact end_call hb hm2 hkp3 (by omega) hk
    · rw [if_neg hnn, fin_bad he] at hk
      have ed : decide (a.k = 0 ∧ b.k = 0) = false := by simpa using hnn
      rw [ed, if_neg (by decide)] at hm
      rw [ed]
      simp only [hc, r45_7, res45, tt, bb, bc, ↓bd, Nat.reduceEqDiff, Nat.reduceAdd, ↓reduceIte]
      exact end_call hb hm hkp hn hk
  · have q1 : (wordM 26 == [115, 97, 109, 101]) = false := rfl
    have q2 : (wordM 26 == [116, 104, 101, 110]) = false := rfl
    have q3 : (wordM 26 == [116, 101, 120, 116]) = false := rfl
    have q4 : (wordM 26 == [101, 109, 105, 116]) = true := rfl
    simp only [q1, q2, q3, q4, r45_0, r45_1, r45_2, r45_4, tt, bb, bc, ↓bd, Nat.reduceEqDiff, ↓reduceIte, reduceCtorEq]
    refine emit_call h2 he ha2 ho ?_
    intro n' A' hm hkp hn
    have hc := cell_at' hb hkp
    simp only [hc, r45_4, res45, tt, bb, bc, ↓bd, Nat.reduceEqDiff, Nat.reduceAdd, ↓reduceIte]
    exact end_call hb hm hkp hn hk
  · have eap : ap2 27 a b s.out.length = .val b := rfl
    rw [eap] at hk
    have q1 : (wordM 27 == [115, 97, 109, 101]) = false := rfl
    have q2 : (wordM 27 == [116, 104, 101, 110]) = true := rfl
    simp only [hg, gn, q1, q2, Int.toNat_one, r45_0, r45_1, r45_2, res45, tt, bb, bc, ↓bd, Nat.reduceEqDiff, Nat.reduceAdd, ↓reduceIte, Int.reduceLT, Int.reduceLE]
    exact end_val h hk
theorem others1_call {M : Mch} {n g : Nat} {A : Nat → Blk} {s : St} {op : Int} {a : Vl} (h : MS M n A s) (he : s.err = 0) (ha : AS M g n A [a]) (oa : okV a = true) (hop : op = 7 ∨ op = 10 ∨ op = 20)
    (hk : ∀ n' A', MS M n' A' (finS (ap1 op a) s).2 → Keep M.b n A A' → n ≤ n' → RunOps Cx fn (putA T dst (valA (finS (ap1 op a) s).1)) ds ro os k ⟨n', A'⟩ Q) :
    RunCall Cx fn T ds ro 45 [.ptr M.b 22 0 0, .str (wordM op), .slc g 5 0 1] dst os k ⟨n, A⟩ Q := by
  refine call_body pure45 (noext _) body45 ?_
  have hb := h.lt
  have h2 := h.up1 zB
  have ha2 := ha.up1 zB
  have gl := ha.lt
  have gn : (g = n) = False := eq_false (by omega)
  have hg : A g = .cells 26 5 [[.int .i64 a.k, .int .i64 a.n, .str a.s, .int .i64 a.x, .int .i64 a.y]] := ha.cell
  rcases hop with rfl | rfl | rfl
  · have eap : ap1 7 a = (if a.k = 2 then .val (pV (-a.x) (-a.y)) else if a.k = 0 then .val (nV (-a.n)) else .bad 13) := rfl
    rw [eap] at hk
    have q1 : (wordM 7 == [115, 97, 109, 101]) = false := rfl
    have q2 : (wordM 7 == [116, 104, 101, 110]) = false := rfl
    have q3 : (wordM 7 == [116, 101, 120, 116]) = false := rfl
    have q4 : (wordM 7 == [101, 109, 105, 116]) = false := rfl
    have q5 : (wordM 7 == [110, 111, 116]) = false := rfl
    have q6 : (wordM 7 == [97, 116]) = false := rfl
    by_cases k2 : a.k = 2
    · rw [if_pos k2] at hk
      have z : (a.k == 2) = true := by simp [k2]
      obtain ⟨x0, y0⟩ := (kind_if oa).2.2 k2
      have hx := inR_iff.mp x0
      have hy := inR_iff.mp y0
      have w1 : IntKind.i64.wrap (0 - a.x) = -a.x := by rw [wr64 (by omega) (by omega)]; omega
      have w2 : IntKind.i64.wrap (0 - a.y) = -a.y := by rw [wr64 (by omega) (by omega)]; omega
      simp only [hg, gn, q1, q2, q3, q4, q5, q6, z, w1, w2, Int.toNat_zero, call_pure pure63 rfl (point_call (-a.x) (-a.y)), xx, r45_0, r45_1, r45_2, r45_4, r45_5, r45_6, r45_8, r45_9, res45, tt, bb, bc, ↓bd, Nat.reduceEqDiff, Nat.reduceAdd, Nat.reduceLeDiff, ↓reduceIte, Int.reduceLT, Int.reduceLE]
      exact end_val h hk
    · rw [if_neg k2] at hk
      have z : (a.k == 2) = false := by simp [k2]
      simp only [hg, gn, q1, q2, q3, q4, q5, q6, z, Int.toNat_zero, xx, r45_0, r45_1, r45_2, r45_4, r45_5, r45_6, r45_8, r45_9, tt, bb, bc, ↓bd, Nat.reduceEqDiff, ↓reduceIte, reduceCtorEq, Int.reduceLT, Int.reduceLE]
      refine kinds_call (want := [110]) (vs := [a]) h2 ha2 (one_ok oa) rfl (by simp) ?_
      intro n' A' hm hkp hn
      have hc := cell_at' hb hkp
      have hg' : A' g = .cells 26 5 [[.int .i64 a.k, .int .i64 a.n, .str a.s, .int .i64 a.x, .int .i64 a.y]] := (ha2.keep hn hkp).cell
      rw [kinds_n oa] at hm
      rw [kinds_n oa]
      by_cases k0 : a.k = 0
      · rw [if_pos k0] at hk
        have ed : decide (a.k = 0) = true := by simpa using k0
        rw [ed, if_pos rfl] at hm
        rw [ed]
        have r0 := (kind_if oa).1 k0
        have w1 : IntKind.i64.wrap (0 - a.n) = -a.n := by rw [wr64 (by omega) (by omega)]; omega
        simp only [hc, hg', w1, Int.toNat_zero, call_pure pure39 rfl (num_call (-a.n)), r45_9, r45_10, res45, tt, bb, bc, ↓bd, Nat.reduceEqDiff, Nat.reduceAdd, ↓reduceIte, Int.reduceLT, Int.reduceLE]
        exact end_call hb hm hkp hn hk
      · rw [if_neg k0, fin_bad he] at hk
        have ed : decide (a.k = 0) = false := by simpa using k0
        rw [ed, if_neg (by decide)] at hm
        rw [ed]
        simp only [hc, r45_9, r45_10, res45, tt, bb, bc, ↓bd, Nat.reduceEqDiff, Nat.reduceAdd, ↓reduceIte]
        exact end_call hb hm hkp hn hk
  · have eap : ap1 10 a = (if a.k = 0 then .val (truV (a.n == 0)) else .bad 13) := rfl
    rw [eap] at hk
    have q1 : (wordM 10 == [115, 97, 109, 101]) = false := rfl
    have q2 : (wordM 10 == [116, 104, 101, 110]) = false := rfl
    have q3 : (wordM 10 == [116, 101, 120, 116]) = false := rfl
    have q4 : (wordM 10 == [101, 109, 105, 116]) = false := rfl
    have q5 : (wordM 10 == [110, 111, 116]) = true := rfl
    simp only [q1, q2, q3, q4, q5, r45_0, r45_1, r45_2, r45_4, r45_5, tt, bb, bc, ↓bd, Nat.reduceEqDiff, ↓reduceIte, reduceCtorEq]
    refine kinds_call (want := [110]) (vs := [a]) h2 ha2 (one_ok oa) rfl (by simp) ?_
    intro n' A' hm hkp hn
    have hc := cell_at' hb hkp
    have hg' : A' g = .cells 26 5 [[.int .i64 a.k, .int .i64 a.n, .str a.s, .int .i64 a.x, .int .i64 a.y]] := (ha2.keep hn hkp).cell
    rw [kinds_n oa] at hm
    rw [kinds_n oa]
    by_cases k0 : a.k = 0
    · rw [if_pos k0] at hk
      have ed : decide (a.k = 0) = true := by simpa using k0
      rw [ed, if_pos rfl] at hm
      rw [ed]
      simp only [hc, hg', Int.toNat_zero, call_pure pure56 rfl (truth_call (a.n == 0)), r45_5, r45_6, res45, tt, bb, bc, ↓bd, Nat.reduceEqDiff, Nat.reduceAdd, ↓reduceIte, Int.reduceLT, Int.reduceLE]
      exact end_call hb hm hkp hn hk
    · rw [if_neg k0, fin_bad he] at hk
      have ed : decide (a.k = 0) = false := by simpa using k0
      rw [ed, if_neg (by decide)] at hm
      rw [ed]
      simp only [hc, r45_5, res45, tt, bb, bc, ↓bd, Nat.reduceEqDiff, Nat.reduceAdd, ↓reduceIte]
      exact end_call hb hm hkp hn hk
  · have eap : ap1 20 a = (if a.k = 1 then .val a else .val (tV (writeV a.k a.n a.s a.x a.y))) := rfl
    rw [eap] at hk
    have q1 : (wordM 20 == [115, 97, 109, 101]) = false := rfl
    have q2 : (wordM 20 == [116, 104, 101, 110]) = false := rfl
    have q3 : (wordM 20 == [116, 101, 120, 116]) = true := rfl
    by_cases k1 : a.k = 1
    · rw [if_pos k1] at hk
      have z : (a.k == 1) = true := by simp [k1]
      simp only [hg, gn, q1, q2, q3, z, Int.toNat_zero, r45_0, r45_1, r45_2, r45_3, res45, tt, bb, bc, ↓bd, Nat.reduceEqDiff, Nat.reduceAdd, ↓reduceIte, Int.reduceLT, Int.reduceLE]
      exact end_val h hk
    · rw [if_neg k1] at hk
      have z : (a.k == 1) = false := by simp [k1]
      have hw := Write_ok (show rightV a.k a.n a.s a.x a.y = true from oa)
      simp only [hg, gn, q1, q2, q3, z, Int.toNat_zero, call_pure pure61 rfl hw, call_pure pure38 rfl (text_call (writeV a.k a.n a.s a.x a.y)), r45_0, r45_1, r45_2, r45_3, res45, tt, bb, bc, ↓bd, Nat.reduceEqDiff, Nat.reduceAdd, ↓reduceIte, Int.reduceLT, Int.reduceLE]
      exact end_val h hk
end
end Go.Proofs.Ytckhmpcmlochpaa.G

namespace Go.Proofs.Ytckhmpcmlochpaa.G
open Go.BX
set_option linter.unusedSimpArgs false
set_option linter.unusedVariables false
theorem get_at {s : Bytes} {p : Nat} {c : UInt8} (h : s[p]? = some c) : (⟨s.toArray⟩ : ByteArray).get! p = c := by
  show s.toArray[p]! = c
  obtain ⟨h1, h2⟩ := List.getElem?_eq_some_iff.mp h
  simp [h1, h2]
theorem dec_ascii {s : Bytes} {p : Nat} {c : UInt8} (h : s[p]? = some c) (hc : c.toNat < 128) : Utf8.decode ⟨s.toArray⟩ p = (c.toNat, 1) := by
  unfold Utf8.decode
  simp only [Nat.add_zero, get_at h]
  rw [if_pos hc]
theorem dec_high {s : Bytes} {p : Nat} {c : UInt8} (h : s[p]? = some c) (hc : 128 ≤ c.toNat) : 128 ≤ (Utf8.decode ⟨s.toArray⟩ p).1 := by
  unfold Utf8.decode
  simp only [Nat.add_zero, get_at h]
  rw [if_neg (by omega)]
  split
  · split
    · rename_i h; exact h
    · decide
  · split
    · split
      · rename_i h; simp only [ge_iff_le, Bool.and_eq_true, decide_eq_true_eq] at h; omega
      · decide
    · split
      · split
        · rename_i h; simp only [ge_iff_le, Bool.and_eq_true, decide_eq_true_eq] at h; omega
        · decide
      · decide
def lt (c : UInt8) : Bool := decide (97 ≤ (c.toNat : Int)) && decide ((c.toNat : Int) ≤ 122)
def sp (c : UInt8) : Bool := c == 32
end Go.Proofs.Ytckhmpcmlochpaa.G

namespace Go.Proofs.Ytckhmpcmlochpaa.G
open Go.BX
set_option linter.unusedSimpArgs false
set_option linter.unusedVariables false
theorem cont_is {s : Bytes} {p k : Nat} (h : (decide (p + k < (⟨s.toArray⟩ : ByteArray).size) && (((⟨s.toArray⟩ : ByteArray).get! (p + k)).toNat / 64 == 2)) = true) : ∃ x, s[p + k]? = some x ∧ x ≠ 32 ∧ p + k < s.length := by
  rw [Bool.and_eq_true, decide_eq_true_eq, beq_iff_eq] at h
  obtain ⟨h1, h2⟩ := h
  have hl : p + k < s.length := h1
  have hg : s[p + k]? = some s[p + k] := List.getElem?_eq_getElem hl
  refine ⟨_, hg, ?_, hl⟩
  rw [get_at hg] at h2
  intro e
  rw [e] at h2
  cases h2
theorem dec_w {s : Bytes} {p : Nat} {c : UInt8} (h : s[p]? = some c) (hc : 128 ≤ c.toNat) : 1 ≤ (Utf8.decode ⟨s.toArray⟩ p).2 ∧ p + (Utf8.decode ⟨s.toArray⟩ p).2 ≤ s.length ∧ ∀ j, 1 ≤ j → j < (Utf8.decode ⟨s.toArray⟩ p).2 → ∃ x, s[p + j]? = some x ∧ x ≠ 32 := by
  have hp : p < s.length := (List.getElem?_eq_some_iff.mp h).1
  have one : 1 ≤ 1 ∧ p + 1 ≤ s.length ∧ ∀ j, 1 ≤ j → j < 1 → ∃ x, s[p + j]? = some x ∧ x ≠ 32 := ⟨Nat.le_refl _, by omega, fun j h1 h2 => by omega⟩
  unfold Utf8.decode
  simp only [Nat.add_zero, get_at h]
  rw [if_neg (by omega)]
  split
  · rename_i h1
    rw [Bool.and_eq_true] at h1
    obtain ⟨x1, e1, n1, l1⟩ := cont_is h1.2
    split
    · refine ⟨by omega, by show p + 2 ≤ _; omega, fun j a b => ?_⟩
      have b' : j < 2 := b
      have : j = 1 := by omega
      subst this
      exact ⟨x1, e1, n1⟩
    · exact one
  · split
    · rename_i h1
      rw [Bool.and_eq_true, Bool.and_eq_true] at h1
      obtain ⟨x1, e1, n1, l1⟩ := cont_is h1.1.2
      obtain ⟨x2, e2, n2, l2⟩ := cont_is h1.2
      split
      · refine ⟨by omega, by show p + 3 ≤ _; omega, fun j a b => ?_⟩
        have b' : j < 3 := b
        have : j = 1 ∨ j = 2 := by omega
        rcases this with rfl | rfl
        · exact ⟨x1, e1, n1⟩
        · exact ⟨x2, e2, n2⟩
      · exact one
    · split
      · rename_i h1
        rw [Bool.and_eq_true, Bool.and_eq_true, Bool.and_eq_true] at h1
        obtain ⟨x1, e1, n1, l1⟩ := cont_is h1.1.1.2
        obtain ⟨x2, e2, n2, l2⟩ := cont_is h1.1.2
        obtain ⟨x3, e3, n3, l3⟩ := cont_is h1.2
        split
        · refine ⟨by omega, by show p + 4 ≤ _; omega, fun j a b => ?_⟩
          have b' : j < 4 := b
          have : j = 1 ∨ j = 2 ∨ j = 3 := by omega
          rcases this with rfl | rfl | rfl
          · exact ⟨x1, e1, n1⟩
          · exact ⟨x2, e2, n2⟩
          · exact ⟨x3, e3, n3⟩
        · exact one
      · exact one
def spF : Bytes → Nat → Option Nat → List (Nat × Nat)
  | [], _, none => []
  | [], p, some b => [(b, p)]
  | c :: r, p, none => if c = 32 then spF r (p + 1) none else spF r (p + 1) (some p)
  | c :: r, p, some b => if c = 32 then (b, p) :: spF r (p + 1) none else spF r (p + 1) (some b)
theorem spF_skip {b : Nat} : ∀ (l r : Bytes) (p : Nat), (∀ x, x ∈ l → x ≠ 32) → spF (l ++ r) p (some b) = spF r (p + l.length) (some b)
  | [], r, p, h => rfl
  | c :: l, r, p, h => by
    have hc := h c (by simp)
    show (if c = 32 then (b, p) :: spF (l ++ r) (p + 1) none else spF (l ++ r) (p + 1) (some b)) = _
    rw [if_neg hc, spF_skip l r (p + 1) (fun x hx => h x (by simp [hx])), List.length_cons]
    congr 1
    omega
theorem spF_b : ∀ (r : Bytes) (p : Nat) (st : Option Nat), (∀ b, st = some b → b < p) → ∀ q, q ∈ spF r p st → q.1 < q.2 ∧ q.2 ≤ p + r.length
  | [], p, none, hb, q, hq => by cases hq
  | [], p, some b, hb, q, hq => by
    have : q = (b, p) := by simpa [spF] using hq
    subst this
    exact ⟨hb b rfl, by simp⟩
  | c :: r, p, none, hb, q, hq => by
    unfold spF at hq
    rw [List.length_cons]
    split at hq
    · have := spF_b r (p + 1) none (fun b h => by cases h) q hq
      omega
    · have := spF_b r (p + 1) (some p) (fun b h => by cases h; omega) q hq
      omega
  | c :: r, p, some b, hb, q, hq => by
    have hbp := hb b rfl
    unfold spF at hq
    rw [List.length_cons]
    split at hq
    · rcases List.mem_cons.mp hq with rfl | hq
      · exact ⟨hbp, by show p ≤ _; omega⟩
      · have := spF_b r (p + 1) none (fun b h => by cases h) q hq
        omega
    · have := spF_b r (p + 1) (some b) (fun b h => by cases h; omega) q hq
      omega
theorem spF_len : ∀ (r : Bytes) (p : Nat) (st : Option Nat), (spF r p st).length ≤ r.length + 1
  | [], p, none => by simp [spF]
  | [], p, some b => by simp [spF]
  | c :: r, p, none => by
    unfold spF
    rw [List.length_cons]
    split
    · have := spF_len r (p + 1) none; omega
    · have := spF_len r (p + 1) (some p); omega
  | c :: r, p, some b => by
    unfold spF
    rw [List.length_cons]
    split
    · have := spF_len r (p + 1) none; rw [List.length_cons]; omega
    · have := spF_len r (p + 1) (some b); omega
def subS (s : Bytes) (q : Nat × Nat) : Bytes := (s.take q.2).drop q.1
theorem spF_words {s : Bytes} : ∀ (r : Bytes) (p : Nat), s.drop p = r → p ≤ s.length → (wordsGo r [] = (spF r p none).map (subS s)) ∧ ∀ b, b < p → wordsGo r ((s.take p).drop b) = (spF r p (some b)).map (subS s)
  | [], p, hd, hp => by
    refine ⟨rfl, fun b hb => ?_⟩
    have hne : (s.take p).drop b ≠ [] := by
      intro e
      have := congrArg List.length e
      rw [List.length_drop, List.length_take, List.length_nil] at this
      omega
    unfold wordsGo
    rw [if_neg hne]
    rfl
  | c :: r, p, hd, hp => by
    obtain ⟨hc, hd2, hlt⟩ := drop_get hd
    have hc' : s[p] = c := by rw [List.getElem?_eq_getElem hlt] at hc; exact Option.some.inj hc
    have ih := spF_words r (p + 1) hd2 (by omega)
    have htk : s.take (p + 1) = s.take p ++ [c] := by rw [List.take_succ_eq_append_getElem hlt, hc']
    constructor
    · unfold wordsGo spF
      by_cases h32 : c = 32
      · rw [if_pos h32, if_pos h32, if_pos rfl]; exact ih.1
      · rw [if_neg h32, if_neg h32, List.nil_append]
        have := ih.2 p (by omega)
        rw [htk, List.drop_append, List.length_take, List.drop_of_length_le (by rw [List.length_take]; omega)] at this
        rw [show p - min p s.length = 0 by omega, List.drop_zero, List.nil_append] at this
        exact this
    · intro b hb
      have hne : (s.take p).drop b ≠ [] := by
        intro e
        have := congrArg List.length e
        rw [List.length_drop, List.length_take, List.length_nil] at this
        omega
      unfold wordsGo spF
      by_cases h32 : c = 32
      · rw [if_pos h32, if_pos h32, if_neg hne, List.map_cons, ih.1]
        rfl
      · rw [if_neg h32, if_neg h32]
        have := ih.2 b (by omega)
        rw [htk, List.drop_append_of_le_length (by rw [List.length_take]; omega)] at this
        exact this
theorem words_sp (s : Bytes) : wordsM s = (spF s 0 none).map (subS s) := (spF_words s 0 rfl (Nat.zero_le _)).1
theorem xor_neg {b : Nat} (h : b ≤ 1000000) : bitsM .xor .i64 (if IntKind.i64.signed = true then -1 else IntKind.i64.max) (b : Int) = -1 - (b : Int) := by
  unfold bitsM
  simp only
  have e1 : (if IntKind.i64.signed = true then (-1 : Int) else IntKind.i64.max) = -1 := rfl
  rw [e1]
  have e2 : (BitVec.ofInt IntKind.i64.bits (-1) ^^^ BitVec.ofInt IntKind.i64.bits (b : Int)).toNat = 18446744073709551615 - b := by
    show (BitVec.ofInt 64 (-1) ^^^ BitVec.ofInt 64 (b : Int)).toNat = _
    have e3 : BitVec.ofInt 64 (-1) = BitVec.allOnes 64 := by decide
    rw [e3, BitVec.allOnes_xor, BitVec.toNat_not]
    have e4 : (BitVec.ofInt 64 (b : Int)).toNat = b := by
      rw [BitVec.ofInt_natCast, BitVec.toNat_ofNat]
      omega
    rw [e4]
  rw [e2, IntKind.wrap_i64]
  omega
end Go.Proofs.Ytckhmpcmlochpaa.G

namespace Go.Proofs.Ytckhmpcmlochpaa.G
open Go.BX
set_option linter.unusedSimpArgs false
set_option linter.unusedVariables false
theorem spl : isSl Cx 136 138 := ⟨_, TT_136, rfl⟩
theorem spt : ∃ ti, Cx.TT 138 = some ti ∧ ti.size = 2 ∧ ti.bytes = 16 := ⟨_, TT_138, rfl, rfl⟩
def encS (q : Nat × Nat) : List AV := [.int .i64 (q.1 : Int), .int .i64 (q.2 : Int)]
theorem blank_ok (r : Int) : PCall Cx 75 [.int .i32 r] (.bool (r == 32)) := by
  refine pcall_run (noext _) body75 ?_
  simp only [r75_0, res75, bb, bc, ↓bd, ↓reduceIte, reduceCtorEq]
def stA (st : Option Nat) (v : AV) : Prop := match st with | some b => v = .int .i64 (b : Int) | none => ∃ x : Int, x < 0 ∧ -2000000 ≤ x ∧ v = .int .i64 x
def FP2 (s : Bytes) (Q : AV → AHeap → Prop) : Prop := ∀ (T : Nat → AV) (n g : Nat) (A : Nat → Blk) (acc : List (Nat × Nat)), T 0 = .str s → T 5 = .slc g 2 0 acc.length → g < n → A g = .cells 138 2 (acc.map encS) → acc = spF s 0 none →
  Run Cx 74 T [] none [.code c74_41] ⟨n, A⟩ Q
theorem ff_end {s : Bytes} {Q : AV → AHeap → Prop} (hs : s.length ≤ 1000000) (hQ : FP2 s Q) (T : Nat → AV) (n g : Nat) (A : Nat → Blk) (acc : List (Nat × Nat)) (st : Option Nat) (t0 : T 0 = .str s) (t5 : T 5 = .slc g 2 0 acc.length) (t6 : stA st (T 6)) (hg : g < n) (hA : A g = .cells 138 2 (acc.map encS)) (hl : acc.length ≤ 1000000) (he : acc ++ spF [] s.length st = spF s 0 none) :
    Run Cx 74 T [] none [.code c74_35] ⟨n, A⟩ Q := by
  cases st with
  | none =>
    obtain ⟨x, x1, x2, t6⟩ := t6
    have c0 : ¬ (0 : Int) ≤ x := by omega
    simp only [t6, c0, r74_4, r74_5.1, bb, ↓bd, ↓reduceIte]
    have e : acc = spF s 0 none := by rw [← he]; simp [spF]
    refine hQ _ n g A acc ?_ ?_ hg hA e
    all_goals simp only [upd_app, t0, t5, Nat.reduceEqDiff, ↓reduceIte]
  | some b =>
    replace t6 : T 6 = .int .i64 (b : Int) := t6
    have c0 : (0 : Int) ≤ (b : Int) := by omega
    have ha := app_row (C := Cx) (g := g) (n := n) (A := A) (es := acc.map encS) (row := [.int .i64 (b : Int), .int .i64 (s.length : Int)]) spl spt hA (by omega) (by rw [List.length_map]; unfold most; omega) (by rw [List.length_map]; unfold most; omega)
    rw [List.length_map] at ha
    simp only [t0, t5, t6, c0, ha, i64, runVH_some, r74_4, tt, bb, bc, ↓bd, Nat.reduceEqDiff, Nat.reduceAdd, Nat.reduceMul, Nat.reduceLeDiff, ↓reduceIte, reduceCtorEq, List.reduceReplicate]
    have e : acc ++ [(b, s.length)] = spF s 0 none := by rw [← he]; rfl
    have el : (acc ++ [(b, s.length)]).length = acc.length + 1 := by simp
    refine hQ _ (n + 1 + 1) (n + 1) _ (acc ++ [(b, s.length)]) ?_ ?_ (by omega) ?_ e
    · simp only [upd_app, t0, Nat.reduceEqDiff, ↓reduceIte]
    · rw [el]; simp only [upd_app, ↓reduceIte]
    · simp only [upd_app, ↓reduceIte]
      rw [List.map_append]; rfl
theorem ff_all {s : Bytes} {Q : AV → AHeap → Prop} (hs : s.length ≤ 1000000) (hQ : FP2 s Q) : ∀ (m p : Nat) (T : Nat → AV) (n g it : Nat) (A : Nat → Blk) (acc : List (Nat × Nat)) (st : Option Nat), s.length - p ≤ m → p ≤ s.length → T 0 = .str s → T 1 = .fn 75 [] [] → T 5 = .slc g 2 0 acc.length → stA st (T 6) → T 14 = .ptr it 0 0 0 → g < n → it < n → A g = .cells 138 2 (acc.map encS) → A it = .iter s p → acc.length ≤ p → (∀ b, st = some b → b ≤ 1000000) → acc ++ spF (s.drop p) p st = spF s 0 none →
    Run Cx 74 T [] none [.inLoop c74_11, .inBlock 0, .code c74_35] ⟨n, A⟩ Q := by
  intro m
  induction m with
  | zero =>
    intro p T n g it A acc st hm hp t0 t1 t5 t6 t14 hgn hin hA hI hl hb he
    rw [run_inLoop]
    have hpe : p = s.length := by omega
    have c0 : ¬ p < s.length := by omega
    simp only [t14, hI, c0, xx, rop_next, r74_1, r74_2, bb, ↓bd, ↓reduceIte]
    rw [List.drop_of_length_le (by omega), hpe] at he
    refine ff_end hs hQ _ n g A acc st ?_ ?_ ?_ hgn hA (by omega) he
    all_goals simp only [upd_app, t0, t5, Nat.reduceEqDiff, ↓reduceIte]
    exact t6
  | succ m ih =>
    intro p T n g it A acc st hm hp t0 t1 t5 t6 t14 hgn hin hA hI hl hb he
    by_cases hlt : p < s.length
    · rw [run_inLoop]
      have hd : s.drop p = s[p] :: s.drop (p + 1) := List.drop_eq_getElem_cons hlt
      have hg : s[p]? = some s[p] := List.getElem?_eq_getElem hlt
      generalize s[p] = c at hd hg
      rw [hd] at he
      have gi : (g = it) = False := eq_false (by rintro rfl; rw [hA] at hI; cases hI)
      have ig : (it = g) = False := eq_false (by rintro rfl; rw [hA] at hI; cases hI)
      by_cases h32 : c = 32
      · -- a blank
        subst h32
        have hdec := dec_ascii hg (by decide)
        have e32 : (((32 : UInt8).toNat : Nat) : Int) = 32 := rfl
        have z : ((32 : Int) == 32) = true := rfl
        have hbl := blank_ok 32
        rw [z] at hbl
        cases st with
        | none =>
          obtain ⟨x, x1, x2, t6⟩ := t6
          have c0 : ¬ (0 : Int) ≤ x := by omega
          simp only [t1, t6, t14, hI, hlt, hdec, e32, c0, call_pure pure75 rfl hbl, i64, xx, rop_next, r74_1, r74_2, r74_3, bb, bc, ↓bd, Nat.reduceEqDiff, ↓reduceIte]
          refine ih (p + 1) _ n g it _ acc none (by omega) (by omega) ?_ ?_ ?_ ?_ ?_ hgn hin ?_ ?_ (by omega) (fun b h => by cases h) he
          · simp only [upd_app, t0, Nat.reduceEqDiff, ↓reduceIte]
          · simp only [upd_app, t1, Nat.reduceEqDiff, ↓reduceIte]
          · simp only [upd_app, t5, Nat.reduceEqDiff, ↓reduceIte]
          · exact ⟨x, x1, x2, by simp only [upd_app, t6, Nat.reduceEqDiff, ↓reduceIte]⟩
          · simp only [upd_app, t14, Nat.reduceEqDiff, ↓reduceIte]
          · simp only [upd_app, gi, ↓reduceIte]; exact hA
          · simp only [upd_app, ↓reduceIte]
        | some b =>
          replace t6 : T 6 = .int .i64 (b : Int) := t6
          have hb' := hb b rfl
          have c0 : (0 : Int) ≤ (b : Int) := by omega
          have hx := xor_neg hb'
          have hA1 : (upd A it (.iter s (p + 1))) g = .cells 138 2 (acc.map encS) := by rw [upd_app, if_neg (by rw [gi]; exact id)]; exact hA
          have ha := app_row (C := Cx) (g := g) (n := n) (A := upd A it (.iter s (p + 1))) (es := acc.map encS) (row := [.int .i64 (b : Int), .int .i64 (p : Int)]) spl spt hA1 (by omega) (by rw [List.length_map]; unfold most; omega) (by rw [List.length_map]; unfold most; omega)
          rw [List.length_map] at ha
          simp only [t1, t5, t6, t14, hI, hlt, hdec, e32, c0, hx, ha, call_pure pure75 rfl hbl, i64, runVH_some, xx, rop_next, r74_1, r74_2, r74_3, tt, bb, bc, ↓bd, Nat.reduceEqDiff, Nat.reduceAdd, Nat.reduceMul, Nat.reduceLeDiff, ↓reduceIte, Int.reduceNeg, List.reduceReplicate]
          have el : (acc ++ [(b, p)]).length = acc.length + 1 := by simp
          refine ih (p + 1) _ (n + 1 + 1) (n + 1) it _ (acc ++ [(b, p)]) none (by omega) (by omega) ?_ ?_ ?_ ?_ ?_ (by omega) (by omega) ?_ ?_ (by omega) (fun b h => by cases h) ?_
          · simp only [upd_app, t0, Nat.reduceEqDiff, ↓reduceIte]
          · simp only [upd_app, t1, Nat.reduceEqDiff, ↓reduceIte]
          · rw [el]; simp only [upd_app, Nat.reduceEqDiff, ↓reduceIte]
          · exact ⟨-1 - (b : Int), by omega, by omega, by simp only [upd_app, ↓reduceIte]⟩
          · simp only [upd_app, t14, Nat.reduceEqDiff, ↓reduceIte]
          · simp only [upd_app, ↓reduceIte]
            rw [List.map_append]; rfl
          · have i1 : (it = n + 1) = False := eq_false (by omega)
            have i2 : (it = n) = False := eq_false (by omega)
            simp only [upd_app, i1, i2, ig, ↓reduceIte]
          · rw [List.append_assoc]; exact he
      · -- a letter: the stretch goes on behind it
        have key : ∃ w, (Utf8.decode ⟨s.toArray⟩ p).2 = w ∧ 1 ≤ w ∧ p + w ≤ s.length ∧ (((Utf8.decode ⟨s.toArray⟩ p).1 : Nat) : Int) ≠ 32 ∧ ∃ l, s.drop (p + 1) = l ++ s.drop (p + w) ∧ l.length = w - 1 ∧ ∀ x, x ∈ l → x ≠ 32 := by
          by_cases h128 : c.toNat < 128
          · have hdec := dec_ascii hg h128
            rw [hdec]
            refine ⟨1, rfl, Nat.le_refl _, by omega, ?_, [], by simp, by simp, fun x hx => by cases hx⟩
            show (c.toNat : Int) ≠ 32
            intro e
            exact h32 (UInt8.toNat_inj.mp (by show c.toNat = 32; omega))
          · obtain ⟨w1, w2, w3⟩ := dec_w hg (by omega)
            have h1 := dec_high hg (by omega)
            refine ⟨_, rfl, w1, w2, by omega, (s.drop (p + 1)).take ((Utf8.decode ⟨s.toArray⟩ p).2 - 1), ?_, ?_, ?_⟩
            · have : s.drop (p + (Utf8.decode ⟨s.toArray⟩ p).2) = (s.drop (p + 1)).drop ((Utf8.decode ⟨s.toArray⟩ p).2 - 1) := by rw [List.drop_drop]; congr 1; omega
              rw [this, List.take_append_drop]
            · rw [List.length_take, List.length_drop]; omega
            · intro x hx
              obtain ⟨j, hj, e⟩ := List.getElem_of_mem hx
              rw [List.length_take, List.length_drop] at hj
              obtain ⟨y, hy, ny⟩ := w3 (j + 1) (by omega) (by omega)
              rw [List.getElem_take, List.getElem_drop] at e
              rw [show p + (j + 1) = p + 1 + j by omega, List.getElem?_eq_getElem (by omega)] at hy
              have := Option.some.inj hy
              rw [← e, this]; exact ny
        obtain ⟨w, hw, hw1, hw2, hr, l, hl1, hl2, hl3⟩ := key
        have z : ((((Utf8.decode ⟨s.toArray⟩ p).1 : Nat) : Int) == 32) = false := by simpa using hr
        have hbl := blank_ok (((Utf8.decode ⟨s.toArray⟩ p).1 : Nat) : Int)
        rw [z] at hbl
        generalize hru : (Utf8.decode ⟨s.toArray⟩ p).1 = ru at hbl z hr
        cases st with
        | none =>
          obtain ⟨x, x1, x2, t6⟩ := t6
          have c0 : x < 0 := x1
          simp only [t1, t6, t14, hI, hlt, hw, hru, c0, call_pure pure75 rfl hbl, i64, xx, rop_next, r74_1, r74_2, r74_3, r74_4.1, r74_4.2.1, bb, bc, ↓bd, Nat.reduceEqDiff, ↓reduceIte]
          refine ih (p + w) _ n g it _ acc (some p) (by omega) hw2 ?_ ?_ ?_ ?_ ?_ hgn hin ?_ ?_ (by omega) (fun b h => by cases h; omega) ?_
          · simp only [upd_app, t0, Nat.reduceEqDiff, ↓reduceIte]
          · simp only [upd_app, t1, Nat.reduceEqDiff, ↓reduceIte]
          · simp only [upd_app, t5, Nat.reduceEqDiff, ↓reduceIte]
          · show _ = _
            simp only [upd_app, ↓reduceIte]
          · simp only [upd_app, t14, Nat.reduceEqDiff, ↓reduceIte]
          · simp only [upd_app, gi, ↓reduceIte]; exact hA
          · simp only [upd_app, ↓reduceIte]
          · have e1 : spF (c :: s.drop (p + 1)) p none = spF (s.drop (p + 1)) (p + 1) (some p) := by
              show (if c = 32 then _ else _) = _
              rw [if_neg h32]
            rw [e1, hl1, spF_skip l _ _ hl3, hl2, show p + 1 + (w - 1) = p + w by omega] at he
            exact he
        | some b =>
          replace t6 : T 6 = .int .i64 (b : Int) := t6
          have c0 : ¬ (b : Int) < 0 := by omega
          simp only [t1, t6, t14, hI, hlt, hw, hru, c0, call_pure pure75 rfl hbl, i64, xx, rop_next, r74_1, r74_2, r74_3, r74_4.1, r74_4.2.2.1, bb, bc, ↓bd, Nat.reduceEqDiff, ↓reduceIte]
          refine ih (p + w) _ n g it _ acc (some b) (by omega) hw2 ?_ ?_ ?_ ?_ ?_ hgn hin ?_ ?_ (by omega) hb ?_
          · simp only [upd_app, t0, Nat.reduceEqDiff, ↓reduceIte]
          · simp only [upd_app, t1, Nat.reduceEqDiff, ↓reduceIte]
          · simp only [upd_app, t5, Nat.reduceEqDiff, ↓reduceIte]
          · show _ = _
            simp only [upd_app, t6, Nat.reduceEqDiff, ↓reduceIte]
          · simp only [upd_app, t14, Nat.reduceEqDiff, ↓reduceIte]
          · simp only [upd_app, gi, ↓reduceIte]; exact hA
          · simp only [upd_app, ↓reduceIte]
          · have e1 : spF (c :: s.drop (p + 1)) p (some b) = spF (s.drop (p + 1)) (p + 1) (some b) := by
              show (if c = 32 then _ else _) = _
              rw [if_neg h32]
            rw [e1, hl1, spF_skip l _ _ hl3, hl2, show p + 1 + (w - 1) = p + w by omega] at he
            exact he
    · have hpe : p = s.length := by omega
      have c0 : ¬ p < s.length := by omega
      rw [run_inLoop]
      simp only [t14, hI, c0, xx, rop_next, r74_1, r74_2, bb, ↓bd, ↓reduceIte]
      rw [List.drop_of_length_le (by omega), hpe] at he
      refine ff_end hs hQ _ n g A acc st ?_ ?_ ?_ hgn hA (by omega) he
      all_goals simp only [upd_app, t0, t5, Nat.reduceEqDiff, ↓reduceIte]
      exact t6
theorem sub_ok {s : Bytes} {q : Nat × Nat} (h : q.1 < q.2 ∧ q.2 ≤ s.length) : sliceA Cx 9 (.str s) (some (.int .i64 (q.1 : Int))) (some (.int .i64 (q.2 : Int))) none = some (.str (subS s q)) := by
  unfold sliceA
  rw [TT_9]
  simp only [bnds, bound]
  rw [if_pos (by omega)]
  simp only
  rw [if_pos (by omega)]
  rfl
theorem fg_all {s : Bytes} {Q : AV → AHeap → Prop} {sp : List (Nat × Nat)} {g : Nat} (hl : sp.length ≤ 1000001) (hsp : ∀ q, q ∈ sp → q.1 < q.2 ∧ q.2 ≤ s.length) (hQ : ∀ n A h, h < n → A h = .cells 9 1 (sp.map fun q => [.str (subS s q)]) → Q (.slc h 1 0 sp.length) ⟨n, A⟩) :
    ∀ (j i : Nat) (T : Nat → AV) (n h : Nat) (A : Nat → Blk), i + j = sp.length → T 0 = .str s → T 9 = .slc h 1 0 sp.length → T 47 = .slc g 2 0 sp.length → T 48 = .int .i64 (sp.length : Int) → T 49 = .int .i64 (i : Int) → g < n → h < n → A g = .cells 138 2 (sp.map encS) → A h = .cells 9 1 ((sp.take i).map (fun q => [AV.str (subS s q)]) ++ List.replicate j [.str []]) →
      Run Cx 74 T [] none [.inLoop c74_48, .inBlock 2, .code c74_60] ⟨n, A⟩ Q
  | 0, i, T, n, h, A, hij, t0, t9, t47, t48, t49, hgn, hhn, hA, hh => by
    rw [run_inLoop]
    have c0 : ¬ (i : Int) < (sp.length : Int) := by omega
    simp only [t9, t48, t49, c0, xx, r74_6, r74_7, res74, bb, bc, ↓bd, Nat.reduceEqDiff, ↓reduceIte]
    refine hQ n A h hhn ?_
    rw [hh, List.take_of_length_le (by omega)]
    simp
  | j + 1, i, T, n, h, A, hij, t0, t9, t47, t48, t49, hgn, hhn, hA, hh => by
    rw [run_inLoop]
    have hi : i < sp.length := by omega
    have c0 : (i : Int) < (sp.length : Int) := by omega
    have p0 : (0 : Int) ≤ (i : Int) := by omega
    have g0 : (sp.map encS)[i]? = some [.int .i64 ((sp[i]).1 : Int), .int .i64 ((sp[i]).2 : Int)] := by rw [List.getElem?_map, List.getElem?_eq_getElem hi]; rfl
    have hsl := sub_ok (s := s) (hsp _ (List.getElem_mem hi))
    have w1 : IntKind.i64.wrap ((i : Int) + 1) = ((i + 1 : Nat) : Int) := by rw [wr64 (by omega) (by omega)]; omega
    have hlen : ((sp.take i).map (fun q => [AV.str (subS s q)])).length = i := by rw [List.length_map, List.length_take]; omega
    have gh : ((sp.take i).map (fun q => [AV.str (subS s q)]) ++ List.replicate (j + 1) [AV.str []])[i]? = some [.str []] := by
      rw [List.getElem?_append_right (by omega), hlen, Nat.sub_self]; rfl
    have hset : ((sp.take i).map (fun q => [AV.str (subS s q)]) ++ List.replicate (j + 1) [AV.str []]).set i [.str (subS s sp[i])] = (sp.take (i + 1)).map (fun q => [AV.str (subS s q)]) ++ List.replicate j [.str []] := by
      rw [List.set_append_right _ _ (by omega), hlen, Nat.sub_self, List.replicate_succ, List.set_cons_zero, List.take_succ_eq_append_getElem hi, List.map_append, List.append_assoc]
      rfl
    have gn : (g = n) = False := eq_false (by omega)
    have hn : (h = n) = False := eq_false (by omega)
    have nh : (n = h) = False := eq_false (by omega)
    have gh' : (g = h) = False := eq_false (by rintro rfl; rw [hA] at hh; simp at hh)
    have uu : ∀ (X Y : Blk), upd (upd A n X) n Y = upd A n Y := fun X Y => upd2 A n X Y
    simp only [t0, t9, t47, t48, t49, c0, p0, g0, hA, hh, hsl, w1, gh, hset, hn, uu, evo, Int.toNat_natCast, xx, r74_6, r74_7.1, r74_7.2.1, r74_7.2.2.1, r74_7.2.2.2.1, tt, bb, ↓bd, Nat.reduceEqDiff, Nat.reduceAdd, ↓reduceIte, reduceCtorEq]
    refine fg_all (g := g) hl hsp hQ j (i + 1) _ (n + 1) h _ (by omega) ?_ ?_ ?_ ?_ ?_ (by omega) (by omega) ?_ ?_
    · simp only [upd_app, t0, Nat.reduceEqDiff, ↓reduceIte]
    · simp only [upd_app, t9, Nat.reduceEqDiff, ↓reduceIte]
    · simp only [upd_app, t47, Nat.reduceEqDiff, ↓reduceIte]
    · simp only [upd_app, t48, Nat.reduceEqDiff, ↓reduceIte]
    · simp only [upd_app, ↓reduceIte]
    · simp only [upd_app, gh', gn, ↓reduceIte]; exact hA
    · simp only [upd_app, ↓reduceIte]
theorem words_ok {s : Bytes} (hs : s.length ≤ 100000) : PCall Cx 57 [.str s] (.vec 1 ((wordsM s).map fun w => [.str w])) := by
  refine pcall_run (noext _) body57 ?_
  simp only [r57_0, bb, bc, ↓bd, ↓reduceIte, reduceCtorEq]
  refine call_body pure74 (noext _) body74 ?_
  simp only [r57_0, res57, r74_0, tt, bb, bc, ↓bd, ↓reduceIte, Int.reduceLE, Int.reduceMul, List.reduceReplicate]
  have hm : (512 : Int) ≤ (most : Int) := by decide
  have hm2 : (32 : Int) ≤ (most : Int) := by decide
  simp only [hm, hm2, runVH_some, ↓reduceIte, rop_range, r74_0, r74_1.1, r74_1.2.1, r74_1.2.2.1, tt, bb, ↓bd, Nat.reduceAdd, ↓reduceIte, reduceCtorEq, Int.reduceNeg]
  refine ff_all (s := s) (by omega) ?_ s.length 0 _ 2 0 1 _ [] none (by omega) (Nat.zero_le _) ?_ ?_ ?_ ?_ ?_ (by omega) (by omega) ?_ ?_ (Nat.zero_le _) (fun b h => by cases h) rfl
  · intro T n g A acc t0 t5 hg hA he
    have hl : acc.length ≤ 100001 := by rw [he]; have := spF_len s 0 none; omega
    have hsp : ∀ q, q ∈ acc → q.1 < q.2 ∧ q.2 ≤ s.length := by
      intro q hq
      rw [he] at hq
      have := spF_b s 0 none (fun b h => by cases h) q hq
      omega
    have p0 : (0 : Int) ≤ (acc.length : Int) := by omega
    have m1 : (acc.length : Int) * 16 ≤ (most : Int) := by unfold most; omega
    have m2 : (acc.length : Int) ≤ (most : Int) := by unfold most; omega
    simp only [t5, p0, m1, m2, Int.le_refl, i64, Int.toNat_natCast, r74_5, tt, bb, bc, ↓bd, Nat.reduceEqDiff, ↓reduceIte]
    have gn : g ≠ n := by omega
    refine fg_all (s := s) (sp := acc) (g := g) (by omega) hsp ?_ acc.length 0 _ (n + 1) n _ (by omega) ?_ ?_ ?_ ?_ ?_ (by omega) (by omega) ?_ ?_
    · intro n' A' h hh hA'
      simp only [bb, ↓bd]
      have hw : (wordsM s).map (fun w => [AV.str w]) = acc.map fun q => [.str (subS s q)] := by rw [words_sp, ← he, List.map_map]; rfl
      rw [hw]
      have hfz : ∀ l : List (Nat × Nat), mapO (mapO (freeze1 ⟨n', A'⟩ 3)) (l.map fun q => [.str (subS s q)]) = some (l.map fun q => [.str (subS s q)]) := by
        intro l
        induction l with
        | nil => rfl
        | cons q l ih =>
          rw [List.map_cons, mapO_cons, ih]
          have : mapO (freeze1 ⟨n', A'⟩ 3) [AV.str (subS s q)] = some [.str (subS s q)] := mapO_all (p := AV.flat1) (fun v hv => freeze1_flat hv) rfl
          rw [this]; rfl
      rw [hA']
      show frzE _ 3 1 (if 1 = 1 ∧ acc.length ≤ (acc.map fun q => [AV.str (subS s q)]).length then some ((acc.map fun q => [AV.str (subS s q)]).take acc.length) else none) = _
      rw [if_pos ⟨rfl, by simp⟩, List.take_of_length_le (by simp), frzE_some, hfz]
      rfl
    all_goals try simp only [upd_app, t0, Nat.reduceEqDiff, ↓reduceIte]
    · rfl
    · rw [if_neg gn]; exact hA
    · simp
  all_goals simp only [upd_app, enterT, List.getElem?_cons_zero, List.getElem?_cons_succ, Option.getD_some, Nat.reduceEqDiff, ↓reduceIte]
  all_goals first | rfl | (exact ⟨-1, by decide, by decide, rfl⟩)
end Go.Proofs.Ytckhmpcmlochpaa.G

