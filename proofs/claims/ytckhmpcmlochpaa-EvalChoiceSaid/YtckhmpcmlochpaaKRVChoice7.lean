import Derived.Test.YtckhmpcmlochpaaKRVChoice6
import Derived.Test.YtckhmpcmlochpaaKRVChoice5
import Derived.Test.YtckhmpcmlochpaaKRVChoice2
import Derived.WalkKit
import Derived.ProofKit
import Derived.OpenShut
import Derived.ShutString
import Derived.ChangeOld
import Derived.Below
import Derived.DataReads
import Derived.ChangeArms
import Derived.Test.YtckhmpcmlochpaaKRVChoice3
namespace Go.Proofs.Ytckhmpcmlochpaa.G
open Go.BX
set_option linter.unusedSimpArgs false
set_option linter.unusedVariables false
theorem sm_t : strMap Cx.P 105 = true := by kernel_rfl
abbrev tabT : List (Bytes × Bytes) := [([99, 97, 116], [115, 115]), ([108, 101, 110], [115]), ([99, 117, 116], [115, 110, 110]), ([119, 111, 114, 100, 115], [115]), ([119, 111, 114, 100], [115, 110]), ([110, 117, 109], [115])]
section
variable {fn : FuncId} {T : Nat → AV} {ds : List ADef} {ro : Option Nat} {k : List AItem} {Q : AV → AHeap → Prop} {dst : Option Nat} {os : List AO}
theorem kinds_call' {M : Mch} {n g m : Nat} {A : Nat → Blk} {s : St} {want : Bytes} {vs : List Vl} (hm : m = vs.length) (h : MS M n A s) (ha : AS M g n A vs) (hok : ∀ v, v ∈ vs → okV v = true) (hl : want.length = vs.length) (hvl : vs.length ≤ 3)
    (hk : ∀ n' A', MS M n' A' (if kindsM want vs then s else failS 13 s) → Keep M.b n A A' → n ≤ n' → RunOps Cx fn (putA T dst (.bool (kindsM want vs))) ds ro os k ⟨n', A'⟩ Q) :
    RunCall Cx fn T ds ro 51 [.ptr M.b 22 0 0, .str want, .slc g 5 0 m] dst os k ⟨n, A⟩ Q := by
  subst hm
  exact kinds_call h ha hok hl hvl hk
theorem texts_go {M : Mch} {n g : Nat} {A : Nat → Blk} {s : St} {w want : Bytes} {a : Vl} {r : List Vl} (h : MS M n A s) (ha : AS M g n A (a :: r)) (hok : ∀ v, v ∈ a :: r → okV v = true) (hg : getK tabT w = some want) (hl : want.length = (a :: r).length) (hvl : (a :: r).length ≤ 3)
    (hbad : kindsM want (a :: r) = false → ∀ n' A', MS M n' A' (failS 13 s) → Keep M.b n A A' → n ≤ n' → RunOps Cx fn (putA T dst (valA zV)) ds ro os k ⟨n', A'⟩ Q)
    (hgood : kindsM want (a :: r) = true → ∀ n' A' T', MS M n' A' s → AS M g n' A' (a :: r) → Keep M.b (n + 1) (upd A n zB) A' → n + 1 ≤ n' → T' 0 = .ptr M.b 22 0 0 → T' 1 = .str w → T' 2 = .slc g 5 0 (a :: r).length → T' 6 = .ptr n 5 0 0 → T' 8 = .str a.s → Run Cx 43 T' [] none [.code c43_14] ⟨n', A'⟩ (fun r H1 => RunOps Cx fn (putA T dst r) ds ro os k H1 Q)) :
    RunCall Cx fn T ds ro 43 [.ptr M.b 22 0 0, .str w, .slc g 5 0 (a :: r).length] dst os k ⟨n, A⟩ Q := by
  refine call_body pure43 (noext _) body43 ?_
  have hst := sm_t
  have hb := h.lt
  have g0 : getK [] [99, 97, 116] = none := rfl
  have g1 : getK [(([99, 97, 116] : Bytes), ([115, 115] : Bytes))] [108, 101, 110] = none := rfl
  have g2 : getK [(([99, 97, 116] : Bytes), ([115, 115] : Bytes)), ([108, 101, 110], [115])] [99, 117, 116] = none := rfl
  have g3 : getK [(([99, 97, 116] : Bytes), ([115, 115] : Bytes)), ([108, 101, 110], [115]), ([99, 117, 116], [115, 110, 110])] [119, 111, 114, 100, 115] = none := rfl
  have g4 : getK [(([99, 97, 116] : Bytes), ([115, 115] : Bytes)), ([108, 101, 110], [115]), ([99, 117, 116], [115, 110, 110]), ([119, 111, 114, 100, 115], [115])] [119, 111, 114, 100] = none := rfl
  have g5 : getK [(([99, 97, 116] : Bytes), ([115, 115] : Bytes)), ([108, 101, 110], [115]), ([99, 117, 116], [115, 110, 110]), ([119, 111, 114, 100, 115], [115]), ([119, 111, 114, 100], [115, 110])] [110, 117, 109] = none := rfl
  have nn : (n + 1 = n) = False := eq_false (by omega)
  have uu : ∀ (X Y : Blk), upd (upd (upd A n zB) (n + 1) X) (n + 1) Y = upd (upd A n zB) (n + 1) Y := fun X Y => upd2 (upd A n zB) (n + 1) X Y
  unfold tabT at hg
  simp only [hst, hg, g0, g1, g2, g3, g4, g5, uu, Option.map_some, runVH_some, List.cons_append, List.nil_append, r43_0, tt, bb, bc, ↓bd, Nat.reduceEqDiff, ↓reduceIte, reduceCtorEq]
  have kp1 : ∀ X, Keep M.b (n + 1) (upd A n zB) (upd (upd A n zB) (n + 1) X) := fun X => (Keep.refl _ _ _).up1 (Nat.le_refl _) X
  refine kinds_call' (vs := a :: r) rfl ((h.up1 _).up1 _) ((ha.up1 _).up1 _) hok hl hvl ?_
  intro n' A' hm hkp hn
  have hkp1 := (kp1 _).trans (by omega) hkp
  have hc := cell_at' hb hkp1
  have ha' := ((ha.up1 _).up1 _).keep hn hkp
  have hg' : A' g = .cells 26 5 (encV a :: r.map encV) := ha'.cell
  cases hkm : kindsM want (a :: r) with
  | false =>
    rw [hkm, if_neg (by decide)] at hm
    simp only [hc, r43_0, r43_1.1, r43_1.2.1, r43_1.2.2.1, res43, tt, bb, bc, ↓bd, Nat.reduceEqDiff, Nat.reduceAdd, ↓reduceIte]
    exact end_call hb hm hkp1 (by omega) (hbad hkm)
  | true =>
    rw [hkm, if_pos rfl] at hm
    have hp : (0 : Int) < ((r.length + 1 : Nat) : Int) := by omega
    simp only [hg', encV, hp, Int.toNat_zero, r43_0, r43_1.2.2.2.1, r43_1.2.2.2.2.1, r43_1.2.2.2.2.2.1, tt, bb, ↓bd, Nat.reduceEqDiff, ↓reduceIte, Int.reduceLE]
    refine hgood hkm n' A' _ hm ha' hkp1 (by omega) ?_ ?_ ?_ ?_ ?_
    all_goals simp only [upd_app, enterT, List.getElem?_cons_zero, List.getElem?_cons_succ, Option.getD_some, Nat.reduceEqDiff, ↓reduceIte]
    all_goals rfl
theorem kinds_s {a : Vl} (oa : okV a = true) : kindsM [115] [a] = decide (a.k = 1) := by
  have e : kindsM [115] [a] = ((kc a.k == 115) && true) := rfl
  rw [e]
  rcases kinds3 oa with ⟨h1, _⟩ | ⟨h1, _⟩ | ⟨h1, _⟩ <;> rw [h1] <;> rfl
theorem kinds_ss {a b : Vl} (oa : okV a = true) (ob : okV b = true) : kindsM [115, 115] [a, b] = decide (a.k = 1 ∧ b.k = 1) := by
  have e : kindsM [115, 115] [a, b] = ((kc a.k == 115) && ((kc b.k == 115) && true)) := rfl
  rw [e]
  rcases kinds3 oa with ⟨h1, _⟩ | ⟨h1, _⟩ | ⟨h1, _⟩ <;> rcases kinds3 ob with ⟨h2, _⟩ | ⟨h2, _⟩ | ⟨h2, _⟩ <;> rw [h1, h2] <;> rfl
theorem kinds_sn {a b : Vl} (oa : okV a = true) (ob : okV b = true) : kindsM [115, 110] [a, b] = decide (a.k = 1 ∧ b.k = 0) := by
  have e : kindsM [115, 110] [a, b] = ((kc a.k == 115) && ((kc b.k == 110) && true)) := rfl
  rw [e]
  rcases kinds3 oa with ⟨h1, _⟩ | ⟨h1, _⟩ | ⟨h1, _⟩ <;> rcases kinds3 ob with ⟨h2, _⟩ | ⟨h2, _⟩ | ⟨h2, _⟩ <;> rw [h1, h2] <;> rfl
theorem kinds_snn {a b c : Vl} (oa : okV a = true) (ob : okV b = true) (oc : okV c = true) : kindsM [115, 110, 110] [a, b, c] = decide (a.k = 1 ∧ b.k = 0 ∧ c.k = 0) := by
  have e : kindsM [115, 110, 110] [a, b, c] = ((kc a.k == 115) && ((kc b.k == 110) && ((kc c.k == 110) && true))) := rfl
  rw [e]
  rcases kinds3 oa with ⟨h1, _⟩ | ⟨h1, _⟩ | ⟨h1, _⟩ <;> rcases kinds3 ob with ⟨h2, _⟩ | ⟨h2, _⟩ | ⟨h2, _⟩ <;> rcases kinds3 oc with ⟨h3, _⟩ | ⟨h3, _⟩ | ⟨h3, _⟩ <;> rw [h1, h2, h3] <;> rfl
theorem s_len {a : Vl} (oa : okV a = true) (h1 : a.k = 1) : a.s.length ≤ 4096 := (kind_if oa).2.1 h1
theorem t_len {M : Mch} {n g : Nat} {A : Nat → Blk} {s : St} {a : Vl} (h : MS M n A s) (he : s.err = 0) (ha : AS M g n A [a]) (oa : okV a = true)
    (hk : ∀ n' A', MS M n' A' (finS (ap1 15 a) s).2 → Keep M.b n A A' → n ≤ n' → RunOps Cx fn (putA T dst (valA (finS (ap1 15 a) s).1)) ds ro os k ⟨n', A'⟩ Q) :
    RunCall Cx fn T ds ro 43 [.ptr M.b 22 0 0, .str (wordM 15), .slc g 5 0 1] dst os k ⟨n, A⟩ Q := by
  have eap : ap1 15 a = if a.k = 1 then .val (nV a.s.length) else .bad 13 := rfl
  have hb := h.lt
  refine texts_go (a := a) (r := []) h ha (one_ok oa) (w := wordM 15) (want := [115]) rfl rfl (by simp) ?_ ?_
  · intro hkk n' A' hm hkp hn
    rw [kinds_s oa] at hkk
    rw [eap, if_neg (by simpa using hkk), fin_bad he] at hk
    exact hk n' A' hm hkp hn
  · intro hkk n' A' T' hm ha' hkp hn t0 t1 t2 t6 t8
    rw [kinds_s oa] at hkk
    rw [eap, if_pos (by simpa using hkk)] at hk
    have hc := cell_at' hb hkp
    have q1 : (wordM 15 == [99, 97, 116]) = false := rfl
    have q2 : (wordM 15 == [108, 101, 110]) = true := rfl
    simp only [t1, t6, t8, hc, q1, q2, i64, call_pure pure39 rfl (num_call (a.s.length : Int)), r43_1, r43_2, r43_4, res43, tt, bb, bc, ↓bd, Nat.reduceEqDiff, Nat.reduceAdd, ↓reduceIte]
    exact end_call hb hm hkp hn hk
theorem t_words {M : Mch} {n g : Nat} {A : Nat → Blk} {s : St} {a : Vl} (h : MS M n A s) (he : s.err = 0) (ha : AS M g n A [a]) (oa : okV a = true)
    (hk : ∀ n' A', MS M n' A' (finS (ap1 18 a) s).2 → Keep M.b n A A' → n ≤ n' → RunOps Cx fn (putA T dst (valA (finS (ap1 18 a) s).1)) ds ro os k ⟨n', A'⟩ Q) :
    RunCall Cx fn T ds ro 43 [.ptr M.b 22 0 0, .str (wordM 18), .slc g 5 0 1] dst os k ⟨n, A⟩ Q := by
  have eap : ap1 18 a = if a.k = 1 then .val (nV (wordsM a.s).length) else .bad 13 := rfl
  have hb := h.lt
  refine texts_go (a := a) (r := []) h ha (one_ok oa) (w := wordM 18) (want := [115]) rfl rfl (by simp) ?_ ?_
  · intro hkk n' A' hm hkp hn
    rw [kinds_s oa] at hkk
    rw [eap, if_neg (by simpa using hkk), fin_bad he] at hk
    exact hk n' A' hm hkp hn
  · intro hkk n' A' T' hm ha' hkp hn t0 t1 t2 t6 t8
    rw [kinds_s oa] at hkk
    have k1 : a.k = 1 := by simpa using hkk
    rw [eap, if_pos k1] at hk
    have hc := cell_at' hb hkp
    have q1 : (wordM 18 == [99, 97, 116]) = false := rfl
    have q2 : (wordM 18 == [108, 101, 110]) = false := rfl
    have q3 : (wordM 18 == [99, 117, 116]) = false := rfl
    have q4 : (wordM 18 == [119, 111, 114, 100, 115]) = true := rfl
    have hw := words_ok (s := a.s) (by have := s_len oa k1; omega)
    simp only [t1, t6, t8, hc, q1, q2, q3, q4, i64, List.length_map, call_pure pure57 rfl hw, call_pure pure39 rfl (num_call ((wordsM a.s).length : Int)), r43_1, r43_2, r43_4, r43_5, r43_6, r43_7, res43, tt, bb, bc, ↓bd, Nat.reduceEqDiff, Nat.reduceAdd, ↓reduceIte]
    exact end_call hb hm hkp hn hk
theorem t_cat {M : Mch} {n g : Nat} {A : Nat → Blk} {s : St} {a b : Vl} (h : MS M n A s) (he : s.err = 0) (ha : AS M g n A [a, b]) (oa : okV a = true) (ob : okV b = true)
    (hk : ∀ n' A', MS M n' A' (finS (ap2 14 a b s.out.length) s).2 → Keep M.b n A A' → n ≤ n' → RunOps Cx fn (putA T dst (valA (finS (ap2 14 a b s.out.length) s).1)) ds ro os k ⟨n', A'⟩ Q) :
    RunCall Cx fn T ds ro 43 [.ptr M.b 22 0 0, .str (wordM 14), .slc g 5 0 2] dst os k ⟨n, A⟩ Q := by
  have eap : ap2 14 a b s.out.length = if a.k = 1 ∧ b.k = 1 then (if a.s.length + b.s.length ≤ 4096 then .val (tV (a.s ++ b.s)) else .bad 3) else .bad 13 := rfl
  have hb := h.lt
  refine texts_go (a := a) (r := [b]) h ha (two_ok oa ob) (w := wordM 14) (want := [115, 115]) rfl rfl (by simp) ?_ ?_
  · intro hkk n' A' hm hkp hn
    rw [kinds_ss oa ob] at hkk
    rw [eap, if_neg (by simpa using hkk), fin_bad he] at hk
    exact hk n' A' hm hkp hn
  · intro hkk n' A' T' hm ha' hkp hn t0 t1 t2 t6 t8
    rw [kinds_ss oa ob] at hkk
    have k1 : a.k = 1 ∧ b.k = 1 := by simpa using hkk
    rw [eap, if_pos k1] at hk
    have hc := cell_at' hb hkp
    have hg' : A' g = .cells 26 5 [[.int .i64 a.k, .int .i64 a.n, .str a.s, .int .i64 a.x, .int .i64 a.y], [.int .i64 b.k, .int .i64 b.n, .str b.s, .int .i64 b.x, .int .i64 b.y]] := ha'.cell
    have q1 : (wordM 14 == [99, 97, 116]) = true := rfl
    have la := s_len oa k1.1
    have lb := s_len ob k1.2
    have w1 : IntKind.i64.wrap ((a.s.length : Int) + (b.s.length : Int)) = (a.s.length : Int) + (b.s.length : Int) := wr64 (by omega) (by omega)
    replace t2 : T' 2 = .slc g 5 0 2 := t2
    have c9 : a.s.length + b.s.length ≤ 9223372036854775807 := by omega
    by_cases hl : a.s.length + b.s.length ≤ 4096
    · rw [if_pos hl] at hk
      have c1 : ¬ (4096 : Int) < (a.s.length : Int) + (b.s.length : Int) := by omega
      simp only [t1, t2, t6, t8, hc, hg', q1, w1, c1, c9, runVH_some, runV_some, i64, Int.toNat_one, call_pure pure38 rfl (text_call (a.s ++ b.s)), r43_1, r43_2, r43_3, res43, tt, bb, bc, ↓bd, Nat.reduceEqDiff, Nat.reduceAdd, ↓reduceIte, Int.reduceLT, Int.reduceLE]
      exact end_call hb hm hkp hn hk
    · rw [if_neg hl, fin_bad he] at hk
      have c1 : (4096 : Int) < (a.s.length : Int) + (b.s.length : Int) := by omega
      simp only [t0, t1, t2, t8, hg', q1, w1, c1, runVH_some, runV_some, i64, Int.toNat_one, r43_1, r43_2, r43_3, tt, bb, bc, ↓bd, Nat.reduceEqDiff, ↓reduceIte, reduceCtorEq, Int.reduceLT, Int.reduceLE]
      refine fail_call hm ?_
      intro n2 A2 hm2 hkp2 hn2
      have hkp3 := hkp.trans hn hkp2
      have hc2 := cell_at' hb hkp3
      simp only [t6, hc2, r43_3, res43, tt, bb, bc, ↓bd, Nat.reduceEqDiff, Nat.reduceAdd, ↓reduceIte]
      exact end_call hb hm2 hkp3 (by omega) hk
set_option maxRecDepth 20000 in
theorem t_cut {M : Mch} {n g : Nat} {A : Nat → Blk} {s : St} {a b c : Vl} (h : MS M n A s) (he : s.err = 0) (ha : AS M g n A [a, b, c]) (oa : okV a = true) (ob : okV b = true) (oc : okV c = true)
    (hk : ∀ n' A', MS M n' A' (finS (ap3 a b c) s).2 → Keep M.b n A A' → n ≤ n' → RunOps Cx fn (putA T dst (valA (finS (ap3 a b c) s).1)) ds ro os k ⟨n', A'⟩ Q) :
    RunCall Cx fn T ds ro 43 [.ptr M.b 22 0 0, .str (wordM 16), .slc g 5 0 3] dst os k ⟨n, A⟩ Q := by
  have eap : ap3 a b c = if a.k = 1 ∧ b.k = 0 ∧ c.k = 0 then (if (0 ≤ b.n ∧ b.n ≤ c.n) ∧ c.n ≤ a.s.length then .val (tV ((a.s.take c.n.toNat).drop b.n.toNat)) else .bad 14) else .bad 13 := rfl
  have hb := h.lt
  refine texts_go (a := a) (r := [b, c]) h ha (three_ok oa ob oc) (w := wordM 16) (want := [115, 110, 110]) rfl rfl (by simp) ?_ ?_
  · intro hkk n' A' hm hkp hn
    rw [kinds_snn oa ob oc] at hkk
    rw [eap, if_neg (by simpa using hkk), fin_bad he] at hk
    exact hk n' A' hm hkp hn
  · intro hkk n' A' T' hm ha' hkp hn t0 t1 t2 t6 t8
    rw [kinds_snn oa ob oc] at hkk
    have k1 : a.k = 1 ∧ b.k = 0 ∧ c.k = 0 := by simpa using hkk
    rw [eap, if_pos k1] at hk
    have hc := cell_at' hb hkp
    have hg' : A' g = .cells 26 5 [[.int .i64 a.k, .int .i64 a.n, .str a.s, .int .i64 a.x, .int .i64 a.y], [.int .i64 b.k, .int .i64 b.n, .str b.s, .int .i64 b.x, .int .i64 b.y], [.int .i64 c.k, .int .i64 c.n, .str c.s, .int .i64 c.x, .int .i64 c.y]] := ha'.cell
    have q1 : (wordM 16 == [99, 97, 116]) = false := rfl
    have q2 : (wordM 16 == [108, 101, 110]) = false := rfl
    have q3 : (wordM 16 == [99, 117, 116]) = true := rfl
    have i2 : (2 : Int).toNat = 2 := rfl
    replace t2 : T' 2 = .slc g 5 0 3 := t2
    have bad : ∀ (hk : ∀ n' A', MS M n' A' (failS 14 s) → Keep M.b n A A' → n ≤ n' → RunOps Cx fn (putA T dst (valA zV)) ds ro os k ⟨n', A'⟩ Q), ∀ n2 A2, MS M n2 A2 (failS 14 s) → Keep M.b n' A' A2 → n' ≤ n2 → ∀ X, RunOps Cx fn (putA T dst (valA zV)) ds ro os k ⟨n2, upd A2 n X⟩ Q := by
      intro hk n2 A2 hm2 hkp2 hn2 X
      exact end_call hb hm2 (hkp.trans hn hkp2) (by omega) hk
    by_cases c1 : b.n < 0
    · rw [if_neg (by omega), fin_bad he] at hk
      simp only [t0, t1, t2, hg', q1, q2, q3, c1, Int.toNat_one, r43_1, r43_2, r43_4, r43_5, tt, bb, bc, ↓bd, Nat.reduceEqDiff, ↓reduceIte, reduceCtorEq, Int.reduceLT, Int.reduceLE]
      refine fail_call hm ?_
      intro n2 A2 hm2 hkp2 hn2
      have hc2 := cell_at' hb (hkp.trans hn hkp2)
      simp only [t6, hc2, r43_5, res43, tt, bb, bc, ↓bd, Nat.reduceEqDiff, Nat.reduceAdd, ↓reduceIte]
      exact bad hk n2 A2 hm2 hkp2 hn2 _
    · by_cases c2 : c.n < b.n
      · rw [if_neg (by omega), fin_bad he] at hk
        simp only [t0, t1, t2, hg', q1, q2, q3, c1, c2, i2, Int.toNat_one, r43_1, r43_2, r43_4, r43_5, tt, bb, bc, ↓bd, Nat.reduceEqDiff, ↓reduceIte, reduceCtorEq, Int.reduceLT, Int.reduceLE]
        refine fail_call hm ?_
        intro n2 A2 hm2 hkp2 hn2
        have hc2 := cell_at' hb (hkp.trans hn hkp2)
        simp only [t6, hc2, r43_5, res43, tt, bb, bc, ↓bd, Nat.reduceEqDiff, Nat.reduceAdd, ↓reduceIte]
        exact bad hk n2 A2 hm2 hkp2 hn2 _
      · by_cases c3 : (a.s.length : Int) < c.n
        · rw [if_neg (by omega), fin_bad he] at hk
          simp only [t0, t1, t2, t8, hg', q1, q2, q3, c1, c2, c3, i2, i64, Int.toNat_one, r43_1, r43_2, r43_4, r43_5, tt, bb, bc, ↓bd, Nat.reduceEqDiff, ↓reduceIte, reduceCtorEq, Int.reduceLT, Int.reduceLE]
          refine fail_call hm ?_
          intro n2 A2 hm2 hkp2 hn2
          have hc2 := cell_at' hb (hkp.trans hn hkp2)
          simp only [t6, hc2, r43_5, res43, tt, bb, bc, ↓bd, Nat.reduceEqDiff, Nat.reduceAdd, ↓reduceIte]
          exact bad hk n2 A2 hm2 hkp2 hn2 _
        · rw [if_pos (by omega)] at hk
          have hsl : sliceA Cx 9 (.str a.s) (some (.int .i64 b.n)) (some (.int .i64 c.n)) none = some (.str ((a.s.take c.n.toNat).drop b.n.toNat)) := by
            unfold sliceA
            rw [TT_9]
            simp only [bnds, bound]
            rw [if_pos (by omega)]
            simp only
            rw [if_pos (by omega)]
            rfl
          simp only [t1, t2, t6, t8, hc, hg', q1, q2, q3, c1, c2, c3, i2, hsl, evo, i64, Int.toNat_one, call_pure pure38 rfl (text_call ((a.s.take c.n.toNat).drop b.n.toNat)), r43_1, r43_2, r43_4, r43_5, r43_6, res43, tt, bb, bc, ↓bd, Nat.reduceEqDiff, Nat.reduceAdd, ↓reduceIte, Int.reduceLT, Int.reduceLE]
          exact end_call hb hm hkp hn hk
theorem t_word {M : Mch} {n g : Nat} {A : Nat → Blk} {s : St} {a b : Vl} (h : MS M n A s) (he : s.err = 0) (ha : AS M g n A [a, b]) (oa : okV a = true) (ob : okV b = true)
    (hk : ∀ n' A', MS M n' A' (finS (ap2 17 a b s.out.length) s).2 → Keep M.b n A A' → n ≤ n' → RunOps Cx fn (putA T dst (valA (finS (ap2 17 a b s.out.length) s).1)) ds ro os k ⟨n', A'⟩ Q) :
    RunCall Cx fn T ds ro 43 [.ptr M.b 22 0 0, .str (wordM 17), .slc g 5 0 2] dst os k ⟨n, A⟩ Q := by
  have eap : ap2 17 a b s.out.length = if a.k = 1 ∧ b.k = 0 then (if 0 ≤ b.n ∧ b.n < (wordsM a.s).length then .val (tV ((wordsM a.s).getD b.n.toNat [])) else .bad 14) else .bad 13 := rfl
  have hb := h.lt
  refine texts_go (a := a) (r := [b]) h ha (two_ok oa ob) (w := wordM 17) (want := [115, 110]) rfl rfl (by simp) ?_ ?_
  · intro hkk n' A' hm hkp hn
    rw [kinds_sn oa ob] at hkk
    rw [eap, if_neg (by simpa using hkk), fin_bad he] at hk
    exact hk n' A' hm hkp hn
  · intro hkk n' A' T' hm ha' hkp hn t0 t1 t2 t6 t8
    rw [kinds_sn oa ob] at hkk
    have k1 : a.k = 1 ∧ b.k = 0 := by simpa using hkk
    rw [eap, if_pos k1] at hk
    have hc := cell_at' hb hkp
    have hg' : A' g = .cells 26 5 [[.int .i64 a.k, .int .i64 a.n, .str a.s, .int .i64 a.x, .int .i64 a.y], [.int .i64 b.k, .int .i64 b.n, .str b.s, .int .i64 b.x, .int .i64 b.y]] := ha'.cell
    have q1 : (wordM 17 == [99, 97, 116]) = false := rfl
    have q2 : (wordM 17 == [108, 101, 110]) = false := rfl
    have q3 : (wordM 17 == [99, 117, 116]) = false := rfl
    have q4 : (wordM 17 == [119, 111, 114, 100, 115]) = false := rfl
    have q5 : (wordM 17 == [119, 111, 114, 100]) = true := rfl
    have hw := words_ok (s := a.s) (by have := s_len oa k1.1; omega)
    replace t2 : T' 2 = .slc g 5 0 2 := t2
    have bad : ∀ (hk : ∀ n' A', MS M n' A' (failS 14 s) → Keep M.b n A A' → n ≤ n' → RunOps Cx fn (putA T dst (valA zV)) ds ro os k ⟨n', A'⟩ Q), ∀ n2 A2, MS M n2 A2 (failS 14 s) → Keep M.b n' A' A2 → n' ≤ n2 → ∀ X, RunOps Cx fn (putA T dst (valA zV)) ds ro os k ⟨n2, upd A2 n X⟩ Q := by
      intro hk n2 A2 hm2 hkp2 hn2 X
      exact end_call hb hm2 (hkp.trans hn hkp2) (by omega) hk
    by_cases c1 : b.n < 0
    · rw [if_neg (by omega), fin_bad he] at hk
      simp only [t0, t1, t2, t8, hg', q1, q2, q3, q4, q5, c1, Int.toNat_one, call_pure pure57 rfl hw, r43_1, r43_2, r43_4, r43_5, r43_6, r43_7, r43_8, tt, bb, bc, ↓bd, Nat.reduceEqDiff, ↓reduceIte, reduceCtorEq, Int.reduceLT, Int.reduceLE]
      refine fail_call hm ?_
      intro n2 A2 hm2 hkp2 hn2
      have hc2 := cell_at' hb (hkp.trans hn hkp2)
      simp only [t6, hc2, r43_8, res43, tt, bb, bc, ↓bd, Nat.reduceEqDiff, Nat.reduceAdd, ↓reduceIte]
      exact bad hk n2 A2 hm2 hkp2 hn2 _
    · by_cases c2 : ((wordsM a.s).length : Int) ≤ b.n
      · rw [if_neg (by omega), fin_bad he] at hk
        simp only [t0, t1, t2, t8, hg', q1, q2, q3, q4, q5, c1, c2, i64, Int.toNat_one, List.length_map, call_pure pure57 rfl hw, r43_1, r43_2, r43_4, r43_5, r43_6, r43_7, r43_8, tt, bb, bc, ↓bd, Nat.reduceEqDiff, ↓reduceIte, reduceCtorEq, Int.reduceLT, Int.reduceLE]
        refine fail_call hm ?_
        intro n2 A2 hm2 hkp2 hn2
        have hc2 := cell_at' hb (hkp.trans hn hkp2)
        simp only [t6, hc2, r43_8, res43, tt, bb, bc, ↓bd, Nat.reduceEqDiff, Nat.reduceAdd, ↓reduceIte]
        exact bad hk n2 A2 hm2 hkp2 hn2 _
      · rw [if_pos (by omega)] at hk
        have hlt : b.n.toNat < (wordsM a.s).length := by omega
        have gg : ((wordsM a.s).map fun w => [AV.str w])[b.n.toNat]? = some [.str ((wordsM a.s).getD b.n.toNat [])] := by
          rw [List.getElem?_map, List.getElem?_eq_getElem hlt, List.getD_eq_getElem?_getD, List.getElem?_eq_getElem hlt]; rfl
        have p0 : 0 ≤ b.n := by omega
        have p1 : b.n < ((wordsM a.s).length : Int) := by omega
        simp only [t1, t2, t6, t8, hc, hg', q1, q2, q3, q4, q5, c1, c2, p0, p1, gg, i64, Int.toNat_one, List.length_map, call_pure pure57 rfl hw, call_pure pure38 rfl (text_call ((wordsM a.s).getD b.n.toNat [])), r43_1, r43_2, r43_4, r43_5, r43_6, r43_7, r43_8, r43_9, res43, tt, bb, bc, ↓bd, Nat.reduceEqDiff, Nat.reduceAdd, ↓reduceIte, Int.reduceLT, Int.reduceLE]
        exact end_call hb hm hkp hn hk
theorem t_num {M : Mch} {n g : Nat} {A : Nat → Blk} {s : St} {a : Vl} (h : MS M n A s) (he : s.err = 0) (ha : AS M g n A [a]) (oa : okV a = true)
    (hk : ∀ n' A', MS M n' A' (finS (ap1 19 a) s).2 → Keep M.b n A A' → n ≤ n' → RunOps Cx fn (putA T dst (valA (finS (ap1 19 a) s).1)) ds ro os k ⟨n', A'⟩ Q) :
    RunCall Cx fn T ds ro 43 [.ptr M.b 22 0 0, .str (wordM 19), .slc g 5 0 1] dst os k ⟨n, A⟩ Q := by
  have eap : ap1 19 a = if a.k = 1 then numP a.s else .bad 13 := rfl
  have hb := h.lt
  refine texts_go (a := a) (r := []) h ha (one_ok oa) (w := wordM 19) (want := [115]) rfl rfl (by simp) ?_ ?_
  · intro hkk n' A' hm hkp hn
    rw [kinds_s oa] at hkk
    rw [eap, if_neg (by simpa using hkk), fin_bad he] at hk
    exact hk n' A' hm hkp hn
  · intro hkk n' A' T' hm ha' hkp hn t0 t1 t2 t6 t8
    rw [kinds_s oa] at hkk
    have k1 : a.k = 1 := by simpa using hkk
    rw [eap, if_pos k1] at hk
    have hc := cell_at' hb hkp
    have nn : (n = n') = False := eq_false (by omega)
    have uu : ∀ (X Y : Blk), upd (upd A' n' X) n' Y = upd A' n' Y := fun X Y => upd2 A' n' X Y
    have q1 : (wordM 19 == [99, 97, 116]) = false := rfl
    have q2 : (wordM 19 == [108, 101, 110]) = false := rfl
    have q3 : (wordM 19 == [99, 117, 116]) = false := rfl
    have q4 : (wordM 19 == [119, 111, 114, 100, 115]) = false := rfl
    have q5 : (wordM 19 == [119, 111, 114, 100]) = false := rfl
    have hp := Parse_gen (s := a.s) (by have := s_len oa k1; omega)
    have fail : ∀ (hk : ∀ n' A', MS M n' A' (failS 6 s) → Keep M.b n A A' → n ≤ n' → RunOps Cx fn (putA T dst (valA zV)) ds ro os k ⟨n', A'⟩ Q), ∀ X n2 A2, MS M n2 A2 (failS 6 s) → Keep M.b (n' + 1) (upd A' n' X) A2 → n' + 1 ≤ n2 → ∀ X, RunOps Cx fn (putA T dst (valA zV)) ds ro os k ⟨n2, upd A2 n X⟩ Q := by
      intro hk X n2 A2 hm2 hkp2 hn2 Y
      exact end_call hb hm2 ((hkp.up1 hn X).trans (by omega) hkp2) (by omega) hk
    have cellz : ∀ X A2, Keep M.b (n' + 1) (upd A' n' X) A2 → A2 n = .cells 26 5 [[.int .i64 0, .int .i64 0, .str [], .int .i64 0, .int .i64 0]] := fun X A2 hkp2 => cell_at' hb ((hkp.up1 hn X).trans (by omega) hkp2)
    cases hpx : parseX a.s with
    | error e =>
      have en : numP a.s = .bad 6 := by unfold numP; rw [hpx]
      rw [en, fin_bad he] at hk
      rw [hpx] at hp
      have e0 : (e != 0) = true := by
        have := parseX_err hpx
        rcases this with rfl | rfl | rfl | rfl | rfl <;> rfl
      have hp' : PCall Cx 36 [.str a.s] (.tuple [val 0 0 [] 0 0, .int .i64 0, .int .i64 e]) := hp
      simp only [t0, t1, t8, uu, q1, q2, q3, q4, q5, e0, call_pure pure36 rfl hp', xx, r43_1, r43_2, r43_4, r43_5, r43_6, r43_7, r43_9, r43_10, tt, bb, bc, ↓bd, Nat.reduceEqDiff, Nat.reduceAdd, ↓reduceIte, reduceCtorEq]
      refine fail_call (hm.up1 _) ?_
      intro n2 A2 hm2 hkp2 hn2
      have hc2 := cellz _ A2 hkp2
      simp only [t6, hc2, r43_10, res43, tt, bb, bc, ↓bd, Nat.reduceEqDiff, Nat.reduceAdd, ↓reduceIte]
      exact fail hk _ n2 A2 hm2 hkp2 hn2 _
    | ok p =>
      obtain ⟨v, i⟩ := p
      have en : numP a.s = if i = a.s.length ∧ v.k = 0 then .val v else .bad 6 := by unfold numP; rw [hpx]
      rw [en] at hk
      rw [hpx] at hp
      have hp' : PCall Cx 36 [.str a.s] (.tuple [.agg [.int .i64 v.k, .int .i64 v.n, .str v.s, .int .i64 v.x, .int .i64 v.y], .int .i64 (i : Int), .int .i64 0]) := hp
      have z0 : ((0 : Int) != 0) = false := rfl
      by_cases hi : i = a.s.length
      · have z1 : ((i : Int) != (a.s.length : Int)) = false := by simp [hi]
        by_cases hvk : v.k = 0
        · rw [if_pos ⟨hi, hvk⟩] at hk
          have z2 : (v.k != 0) = false := by simp [hvk]
          simp only [t1, t6, t8, hc, nn, uu, q1, q2, q3, q4, q5, z0, z1, z2, i64, call_pure pure36 rfl hp', xx, r43_1, r43_2, r43_4, r43_5, r43_6, r43_7, r43_9, r43_10, res43, tt, bb, bc, ↓bd, Nat.reduceEqDiff, Nat.reduceAdd, ↓reduceIte]
          exact end_call hb (hm.up1 _) (hkp.up1 hn _) (by omega) hk
        · rw [if_neg (by simp [hvk]), fin_bad he] at hk
          have z2 : (v.k != 0) = true := by simpa using hvk
          simp only [t0, t1, t8, uu, q1, q2, q3, q4, q5, z0, z1, z2, i64, call_pure pure36 rfl hp', xx, r43_1, r43_2, r43_4, r43_5, r43_6, r43_7, r43_9, r43_10, tt, bb, bc, ↓bd, Nat.reduceEqDiff, Nat.reduceAdd, ↓reduceIte, reduceCtorEq]
          refine fail_call (hm.up1 _) ?_
          intro n2 A2 hm2 hkp2 hn2
          have hc2 := cellz _ A2 hkp2
          simp only [t6, hc2, r43_10, res43, tt, bb, bc, ↓bd, Nat.reduceEqDiff, Nat.reduceAdd, ↓reduceIte]
          exact fail hk _ n2 A2 hm2 hkp2 hn2 _
      · rw [if_neg (by simp [hi]), fin_bad he] at hk
        have z1 : ((i : Int) != (a.s.length : Int)) = true := by simp; omega
        simp only [t0, t1, t8, uu, q1, q2, q3, q4, q5, z0, z1, i64, call_pure pure36 rfl hp', xx, r43_1, r43_2, r43_4, r43_5, r43_6, r43_7, r43_9, r43_10, tt, bb, bc, ↓bd, Nat.reduceEqDiff, Nat.reduceAdd, ↓reduceIte, reduceCtorEq]
        refine fail_call (hm.up1 _) ?_
        intro n2 A2 hm2 hkp2 hn2
        have hc2 := cellz _ A2 hkp2
        simp only [t6, hc2, r43_10, res43, tt, bb, bc, ↓bd, Nat.reduceEqDiff, Nat.reduceAdd, ↓reduceIte]
        exact fail hk _ n2 A2 hm2 hkp2 hn2 _
end
end Go.Proofs.Ytckhmpcmlochpaa.G

namespace Go.Proofs.Ytckhmpcmlochpaa.G
open Go.BX
set_option linter.unusedSimpArgs false
set_option linter.unusedVariables false
def handler (op : Int) : FuncId := if op ≤ 6 then 41 else if op = 8 ∨ op = 12 ∨ op = 13 then 42 else if 14 ≤ op ∧ op ≤ 19 then 43 else if 22 ≤ op ∧ op ≤ 25 then 44 else 45
theorem does_run {op : Int} (h : isOp op = true) (h1 : op ≠ 11 ∧ op ≠ 28 ∧ op ≠ 29) (b : Nat) (H : AHeap) : ∃ n, exec Cx n { fn := 29, T := enterT [.ptr b 22 0 0, .str (wordM op)], defers := [], round := none } [.code c29_0] H = some (.fn (handler op) [.ptr b 22 0 0] [], H) := by
  have hc : op = 2 ∨ op = 3 ∨ op = 4 ∨ op = 5 ∨ op = 6 ∨ op = 7 ∨ op = 8 ∨ op = 9 ∨ op = 10 ∨ op = 12 ∨ op = 13 ∨ op = 14 ∨ op = 15 ∨ op = 16 ∨ op = 17 ∨ op = 18 ∨ op = 19 ∨ op = 20 ∨ op = 21 ∨ op = 22 ∨ op = 23 ∨ op = 24 ∨ op = 25 ∨ op = 26 ∨ op = 27 := by
    unfold isOp at h
    simp only [Bool.and_eq_true, decide_eq_true_eq] at h
    omega
  rcases hc with rfl | rfl | rfl | rfl | rfl | rfl | rfl | rfl | rfl | rfl | rfl | rfl | rfl | rfl | rfl | rfl | rfl | rfl | rfl | rfl | rfl | rfl | rfl | rfl | rfl
  · exact ⟨200, by kernel_rfl⟩
  · exact ⟨200, by kernel_rfl⟩
  · exact ⟨200, by kernel_rfl⟩
  · exact ⟨200, by kernel_rfl⟩
  · exact ⟨200, by kernel_rfl⟩
  · exact ⟨200, by kernel_rfl⟩
  · exact ⟨200, by kernel_rfl⟩
  · exact ⟨200, by kernel_rfl⟩
  · exact ⟨200, by kernel_rfl⟩
  · exact ⟨200, by kernel_rfl⟩
  · exact ⟨200, by kernel_rfl⟩
  · exact ⟨200, by kernel_rfl⟩
  · exact ⟨200, by kernel_rfl⟩
  · exact ⟨200, by kernel_rfl⟩
  · exact ⟨200, by kernel_rfl⟩
  · exact ⟨200, by kernel_rfl⟩
  · exact ⟨200, by kernel_rfl⟩
  · exact ⟨200, by kernel_rfl⟩
  · exact ⟨200, by kernel_rfl⟩
  · exact ⟨200, by kernel_rfl⟩
  · exact ⟨200, by kernel_rfl⟩
  · exact ⟨200, by kernel_rfl⟩
  · exact ⟨200, by kernel_rfl⟩
  · exact ⟨200, by kernel_rfl⟩
  · exact ⟨200, by kernel_rfl⟩
section
variable {fn : FuncId} {T : Nat → AV} {ds : List ADef} {ro : Option Nat} {k : List AItem} {Q : AV → AHeap → Prop} {dst : Option Nat} {os : List AO}
theorem does_call {op : Int} (h : isOp op = true) (h1 : op ≠ 11 ∧ op ≠ 28 ∧ op ≠ 29) {b : Nat} {H : AHeap} (hk : RunOps Cx fn (putA T dst (.fn (handler op) [.ptr b 22 0 0] [])) ds ro os k H Q) :
    RunCall Cx fn T ds ro 29 [.ptr b 22 0 0, .str (wordM op)] dst os k H Q := by
  refine call_body pure29 (noext _) body29 ?_
  obtain ⟨m, hm⟩ := does_run h h1 b H
  exact ⟨m, _, _, hm, hk⟩
def apR (op : Int) (vs : List Vl) (n : Nat) : AR := match vs with
  | [a] => ap1 op a
  | [a, b] => ap2 op a b n
  | [a, b, c] => ap3 a b c
  | _ => .bad 0
theorem apply_call {M : Mch} {n g : Nat} {A : Nat → Blk} {s : St} {op : Int} {vs : List Vl} (h : MS M n A s) (he : s.err = 0) (ha : AS M g n A vs) (hok : ∀ v, v ∈ vs → okV v = true) (ho : s.out.length ≤ 64) (hop : isOp op = true) (h1 : op ≠ 11 ∧ op ≠ 28 ∧ op ≠ 29) (hp : partsM op = vs.length)
    (hk : ∀ n' A', MS M n' A' (finS (apR op vs s.out.length) s).2 → Keep M.b n A A' → n ≤ n' → RunOps Cx fn (putA T dst (valA (finS (apR op vs s.out.length) s).1)) ds ro os k ⟨n', A'⟩ Q) :
    RunCall Cx fn T ds ro (handler op) [.ptr M.b 22 0 0, .str (wordM op), .slc g 5 0 vs.length] dst os k ⟨n, A⟩ Q := by
  have hc : op = 2 ∨ op = 3 ∨ op = 4 ∨ op = 5 ∨ op = 6 ∨ op = 7 ∨ op = 8 ∨ op = 9 ∨ op = 10 ∨ op = 12 ∨ op = 13 ∨ op = 14 ∨ op = 15 ∨ op = 16 ∨ op = 17 ∨ op = 18 ∨ op = 19 ∨ op = 20 ∨ op = 21 ∨ op = 22 ∨ op = 23 ∨ op = 24 ∨ op = 25 ∨ op = 26 ∨ op = 27 := by
    unfold isOp at hop
    simp only [Bool.and_eq_true, decide_eq_true_eq] at hop
    omega
  match vs, hp, ha, hok, hk with
  | [], hp, _, _, _ => have := parts_pos hop; simp at hp; omega
  | [a], hp, ha, hok, hk =>
    have oa := hok a (by simp)
    rcases hc with rfl | rfl | rfl | rfl | rfl | rfl | rfl | rfl | rfl | rfl | rfl | rfl | rfl | rfl | rfl | rfl | rfl | rfl | rfl | rfl | rfl | rfl | rfl | rfl | rfl
    · cases hp
    · cases hp
    · cases hp
    · cases hp
    · cases hp
    · exact others1_call h he ha oa (by decide) hk
    · cases hp
    · cases hp
    · exact others1_call h he ha oa (by decide) hk
    · cases hp
    · cases hp
    · cases hp
    · exact t_len h he ha oa hk
    · cases hp
    · cases hp
    · exact t_words h he ha oa hk
    · exact t_num h he ha oa hk
    · exact others1_call h he ha oa (by decide) hk
    · cases hp
    · exact spots_call h he ha oa (by decide) hk
    · exact spots_call h he ha oa (by decide) hk
    · exact spots_call h he ha oa (by decide) hk
    · exact spots_call h he ha oa (by decide) hk
    · cases hp
    · cases hp
  | [a, b], hp, ha, hok, hk =>
    have oa := hok a (by simp)
    have ob := hok b (by simp)
    rcases hc with rfl | rfl | rfl | rfl | rfl | rfl | rfl | rfl | rfl | rfl | rfl | rfl | rfl | rfl | rfl | rfl | rfl | rfl | rfl | rfl | rfl | rfl | rfl | rfl | rfl
    · exact sums_call h he ha oa ob (by decide) hk
    · exact sums_call h he ha oa ob (by decide) hk
    · exact sums_call h he ha oa ob (by decide) hk
    · exact sums_call h he ha oa ob (by decide) hk
    · exact sums_call h he ha oa ob (by decide) hk
    · cases hp
    · exact orders_call h he ha (by decide) hk
    · exact others2_call h he ha oa ob ho (by decide) hk
    · cases hp
    · exact orders_call h he ha (by decide) hk
    · exact orders_call h he ha (by decide) hk
    · exact t_cat h he ha oa ob hk
    · cases hp
    · cases hp
    · exact t_word h he ha oa ob hk
    · cases hp
    · cases hp
    · cases hp
    · exact others2_call h he ha oa ob ho (by decide) hk
    · cases hp
    · cases hp
    · cases hp
    · cases hp
    · exact others2_call h he ha oa ob ho (by decide) hk
    · exact others2_call h he ha oa ob ho (by decide) hk
  | [a, b, c], hp, ha, hok, hk =>
    have oa := hok a (by simp)
    have ob := hok b (by simp)
    have oc := hok c (by simp)
    rcases hc with rfl | rfl | rfl | rfl | rfl | rfl | rfl | rfl | rfl | rfl | rfl | rfl | rfl | rfl | rfl | rfl | rfl | rfl | rfl | rfl | rfl | rfl | rfl | rfl | rfl
    · cases hp
    · cases hp
    · cases hp
    · cases hp
    · cases hp
    · cases hp
    · cases hp
    · cases hp
    · cases hp
    · cases hp
    · cases hp
    · cases hp
    · cases hp
    · exact t_cut h he ha oa ob oc hk
    · cases hp
    · cases hp
    · cases hp
    · cases hp
    · cases hp
    · cases hp
    · cases hp
    · cases hp
    · cases hp
    · cases hp
    · cases hp
  | a :: b :: c :: e :: r, hp, _, _, _ => have := parts_pos hop; simp at hp; omega
end
end Go.Proofs.Ytckhmpcmlochpaa.G

namespace Go.Proofs.Ytckhmpcmlochpaa.G
open Go.BX
set_option linter.unusedSimpArgs false
set_option linter.unusedVariables false
def opE : Ex → Int
  | .lit _ => 0
  | .nam _ => 1
  | .op1 op _ => op
  | .op2 op _ _ => op
  | .op3 op _ _ _ => op
def valE : Ex → Vl
  | .lit v => v
  | .nam n => nV n
  | _ => zV
def kidsE : Ex → List Ex
  | .lit _ => []
  | .nam _ => []
  | .op1 _ a => [a]
  | .op2 _ a b => [a, b]
  | .op3 _ a b c => [a, b, c]
theorem flat_kids (t : Ex) : flatE t = ⟨opE t, valE t⟩ :: (kidsE t).flatMap flatE := by
  cases t <;> simp [flatE, opE, valE, kidsE]
theorem kids_len {t : Ex} (h : WF t) : partsM (opE t) = (kidsE t).length ∧ ∀ c, c ∈ kidsE t → WF c := by
  cases t with
  | lit v => exact ⟨rfl, fun c hc => by cases hc⟩
  | nam n => exact ⟨rfl, fun c hc => by cases hc⟩
  | op1 op a => exact ⟨h.1.2, fun c hc => by simp [kidsE] at hc; rw [hc]; exact h.2⟩
  | op2 op a b => exact ⟨h.1.2, fun c hc => by simp [kidsE] at hc; rcases hc with rfl | rfl; exact h.2.1; exact h.2.2⟩
  | op3 op a b c => exact ⟨h.1.2, fun c hc => by simp [kidsE] at hc; rcases hc with rfl | rfl | rfl; exact h.2.1; exact h.2.2.1; exact h.2.2.2⟩
theorem op2_le {op : Int} (h : isOp op = true) : 2 ≤ op ∧ op ≤ 29 := by
  unfold isOp at h
  simpa using h
theorem flat_inj : ∀ (t t' : Ex) (r r' : List Nd), WF t → WF t' → flatE t ++ r = flatE t' ++ r' → t = t' ∧ r = r' := by
  intro t
  induction t with
  | lit v =>
    intro t' r r' h h' e
    cases t' with
    | lit v' => simp [flatE] at e; obtain ⟨rfl, rfl⟩ := e; exact ⟨rfl, rfl⟩
    | nam n => simp [flatE] at e
    | op1 op a => have := op2_le h'.1.1; simp [flatE] at e; omega
    | op2 op a b => have := op2_le h'.1.1; simp [flatE] at e; omega
    | op3 op a b c => have := op2_le h'.1.1; simp [flatE] at e; omega
  | nam n =>
    intro t' r r' h h' e
    cases t' with
    | lit v' => simp [flatE] at e
    | nam n => simp [flatE] at e; obtain ⟨rfl, rfl⟩ := e; exact ⟨rfl, rfl⟩
    | op1 op a => have := op2_le h'.1.1; simp [flatE] at e; omega
    | op2 op a b => have := op2_le h'.1.1; simp [flatE] at e; omega
    | op3 op a b c => have := op2_le h'.1.1; simp [flatE] at e; omega
  | op1 op a iha =>
    intro t' r r' h h' e
    have h2 := op2_le h.1.1
    cases t' with
    | lit v' => simp [flatE] at e; omega
    | nam n => simp [flatE] at e; omega
    | op1 op' a' =>
      simp only [flatE, List.cons_append, List.cons.injEq, Nd.mk.injEq, and_true] at e
      obtain ⟨rfl, e⟩ := e
      obtain ⟨rfl, rfl⟩ := iha a' r r' h.2 h'.2 e
      exact ⟨rfl, rfl⟩
    | op2 op' a' b' =>
      simp only [flatE, List.cons_append, List.cons.injEq, Nd.mk.injEq, and_true] at e
      obtain ⟨rfl, e⟩ := e
      have := h.1.2; rw [h'.1.2] at this; cases this
    | op3 op' a' b' c' =>
      simp only [flatE, List.cons_append, List.cons.injEq, Nd.mk.injEq, and_true] at e
      obtain ⟨rfl, e⟩ := e
      have := h.1.2; rw [h'.1.2] at this; cases this
  | op2 op a b iha ihb =>
    intro t' r r' h h' e
    have h2 := op2_le h.1.1
    cases t' with
    | lit v' => simp [flatE] at e; omega
    | nam n => simp [flatE] at e; omega
    | op1 op' a' =>
      simp only [flatE, List.cons_append, List.cons.injEq, Nd.mk.injEq, and_true] at e
      obtain ⟨rfl, e⟩ := e
      have := h.1.2; rw [h'.1.2] at this; cases this
    | op2 op' a' b' =>
      simp only [flatE, List.cons_append, List.cons.injEq, Nd.mk.injEq, and_true, List.append_assoc] at e
      obtain ⟨rfl, e⟩ := e
      obtain ⟨rfl, e1⟩ := iha a' _ _ h.2.1 h'.2.1 e
      obtain ⟨rfl, rfl⟩ := ihb b' _ _ h.2.2 h'.2.2 e1
      exact ⟨rfl, rfl⟩
    | op3 op' a' b' c' =>
      simp only [flatE, List.cons_append, List.cons.injEq, Nd.mk.injEq, and_true] at e
      obtain ⟨rfl, e⟩ := e
      have := h.1.2; rw [h'.1.2] at this; cases this
  | op3 op a b c iha ihb ihc =>
    intro t' r r' h h' e
    have h2 := op2_le h.1.1
    cases t' with
    | lit v' => simp [flatE] at e; omega
    | nam n => simp [flatE] at e; omega
    | op1 op' a' =>
      simp only [flatE, List.cons_append, List.cons.injEq, Nd.mk.injEq, and_true] at e
      obtain ⟨rfl, e⟩ := e
      have := h.1.2; rw [h'.1.2] at this; cases this
    | op2 op' a' b' =>
      simp only [flatE, List.cons_append, List.cons.injEq, Nd.mk.injEq, and_true] at e
      obtain ⟨rfl, e⟩ := e
      have := h.1.2; rw [h'.1.2] at this; cases this
    | op3 op' a' b' c' =>
      simp only [flatE, List.cons_append, List.cons.injEq, Nd.mk.injEq, and_true, List.append_assoc] at e
      obtain ⟨rfl, e⟩ := e
      obtain ⟨rfl, e1⟩ := iha a' _ _ h.2.1 h'.2.1 e
      obtain ⟨rfl, e2⟩ := ihb b' _ _ h.2.2.1 h'.2.2.1 e1
      obtain ⟨rfl, rfl⟩ := ihc c' _ _ h.2.2.2 h'.2.2.2 e2
      exact ⟨rfl, rfl⟩
def Tree (l : List Nd) (p : Nat) (t : Ex) : Prop := WF t ∧ ∃ rest, l.drop p = flatE t ++ rest
theorem Tree.uniq {l : List Nd} {p : Nat} {t t' : Ex} (h : Tree l p t) (h' : Tree l p t') : t = t' := by
  obtain ⟨h1, r, e⟩ := h
  obtain ⟨h2, r', e'⟩ := h'
  exact (flat_inj t t' r r' h1 h2 (e.symm.trans e')).1
theorem drop_app2 {l r : List Nd} {i : Nat} (h : l.length ≤ i) : (l ++ r).drop i = r.drop (i - l.length) := by
  rw [List.drop_append]
  rw [List.drop_of_length_le h]; rfl
theorem tree_at : ∀ (t : Ex), WF t → ∀ (rest : List Nd) (i : Nat), i < (flatE t).length → ∃ t', Tree (flatE t ++ rest) i t' := by
  intro t
  induction t with
  | lit v => intro h rest i hi; simp [flatE] at hi; subst hi; exact ⟨.lit v, h, rest, rfl⟩
  | nam n => intro h rest i hi; simp [flatE] at hi; subst hi; exact ⟨.nam n, h, rest, rfl⟩
  | op1 op a iha =>
    intro h rest i hi
    cases i with
    | zero => exact ⟨.op1 op a, h, rest, rfl⟩
    | succ i =>
      simp [flatE] at hi
      obtain ⟨t', h1, r', e⟩ := iha h.2 rest i hi
      exact ⟨t', h1, r', e⟩
  | op2 op a b iha ihb =>
    intro h rest i hi
    cases i with
    | zero => exact ⟨.op2 op a b, h, rest, rfl⟩
    | succ i =>
      simp [flatE] at hi
      by_cases hl : i < (flatE a).length
      · obtain ⟨t', h1, r', e⟩ := iha h.2.1 (flatE b ++ rest) i hl
        exact ⟨t', h1, r', by rw [← e]; simp [flatE]⟩
      · obtain ⟨t', h1, r', e⟩ := ihb h.2.2 rest (i - (flatE a).length) (by omega)
        exact ⟨t', h1, r', by rw [← e]; simp only [flatE, List.cons_append, List.drop_succ_cons, List.append_assoc]; rw [drop_app2 (by omega)]⟩
  | op3 op a b c iha ihb ihc =>
    intro h rest i hi
    cases i with
    | zero => exact ⟨.op3 op a b c, h, rest, rfl⟩
    | succ i =>
      simp [flatE] at hi
      by_cases hl : i < (flatE a).length
      · obtain ⟨t', h1, r', e⟩ := iha h.2.1 (flatE b ++ (flatE c ++ rest)) i hl
        exact ⟨t', h1, r', by rw [← e]; simp [flatE]⟩
      · by_cases hl2 : i - (flatE a).length < (flatE b).length
        · obtain ⟨t', h1, r', e⟩ := ihb h.2.2.1 (flatE c ++ rest) (i - (flatE a).length) hl2
          exact ⟨t', h1, r', by rw [← e]; simp only [flatE, List.cons_append, List.drop_succ_cons, List.append_assoc]; rw [drop_app2 (by omega)]⟩
        · obtain ⟨t', h1, r', e⟩ := ihc h.2.2.2 rest (i - (flatE a).length - (flatE b).length) (by omega)
          exact ⟨t', h1, r', by rw [← e]; simp only [flatE, List.cons_append, List.drop_succ_cons, List.append_assoc]; rw [drop_app2 (by omega), drop_app2 (by omega)]⟩
inductive Kids (l : List Nd) : Nat → List Ex → Nat → Prop where
  | nil (p : Nat) : Kids l p [] p
  | cons {p q : Nat} {t : Ex} {ts : List Ex} (h : Tree l p t) (hs : Kids l (p + (flatE t).length) ts q) : Kids l p (t :: ts) q
theorem kids_of {l : List Nd} : ∀ (ts : List Ex) (p : Nat) (rest : List Nd), (∀ t, t ∈ ts → WF t) → l.drop p = ts.flatMap flatE ++ rest → Kids l p ts (p + (ts.flatMap flatE).length)
  | [], p, rest, _, _ => .nil p
  | t :: ts, p, rest, hw, e => by
    have e' : l.drop p = flatE t ++ (ts.flatMap flatE ++ rest) := by rw [e]; simp
    have h := kids_of ts (p + (flatE t).length) rest (fun c hc => hw c (by simp [hc])) (by rw [← List.drop_drop, e']; simp)
    rw [show p + (List.flatMap flatE (t :: ts)).length = p + (flatE t).length + (ts.flatMap flatE).length by simp; omega]
    exact .cons ⟨hw t (by simp), _, e'⟩ h
theorem Tree.kids {l : List Nd} {p : Nat} {t : Ex} (h : Tree l p t) : Kids l (p + 1) (kidsE t) (p + (flatE t).length) ∧ l[p]? = some ⟨opE t, valE t⟩ := by
  obtain ⟨hw, rest, e⟩ := h
  rw [flat_kids t] at e
  have e2 : l.drop (p + 1) = (kidsE t).flatMap flatE ++ rest := by rw [← List.drop_drop, e]; rfl
  have hk := kids_of (kidsE t) (p + 1) rest (kids_len hw).2 e2
  refine ⟨?_, ?_⟩
  · rw [flat_kids t, show p + (({ op := opE t, v := valE t } : Nd) :: (kidsE t).flatMap flatE).length = p + 1 + ((kidsE t).flatMap flatE).length by simp; omega]
    exact hk
  · have : (l.drop p)[0]? = some ⟨opE t, valE t⟩ := by rw [e]; rfl
    rw [List.getElem?_drop] at this
    exact this
theorem Tree.lt {l : List Nd} {p : Nat} {t : Ex} (h : Tree l p t) : p + (flatE t).length ≤ l.length ∧ 1 ≤ (flatE t).length := by
  obtain ⟨hw, rest, e⟩ := h
  have := congrArg List.length e
  rw [List.length_drop, List.length_append] at this
  have h1 : 1 ≤ (flatE t).length := by rw [flat_kids t]; simp
  omega
def row3 (p : Nat) (t : Ex) : List AV := [.str (wordM (opE t)), .int .i64 (partsM (opE t) : Int), .int .i64 ((p + (flatE t).length : Nat) : Int)]
open Classical in
noncomputable def rowF (l : List Nd) (p : Nat) : List AV := if h : ∃ t, Tree l p t then row3 p h.choose else []
noncomputable def rowsF (l : List Nd) : List (List AV) := (List.range l.length).map (rowF l)
theorem rowF_is {l : List Nd} {p : Nat} {t : Ex} (h : Tree l p t) : rowF l p = row3 p t := by
  unfold rowF
  rw [dif_pos ⟨t, h⟩]
  have := Exists.choose_spec (⟨t, h⟩ : ∃ t, Tree l p t)
  rw [this.uniq h]
theorem rowsF_get {l : List Nd} {p : Nat} {t : Ex} (h : Tree l p t) : (rowsF l)[p]? = some (row3 p t) := by
  have hl := h.lt
  unfold rowsF
  rw [List.getElem?_map, List.getElem?_range (by omega), Option.map_some, rowF_is h]
theorem rowsF_len (l : List Nd) : (rowsF l).length = l.length := by unfold rowsF; simp
end Go.Proofs.Ytckhmpcmlochpaa.G

namespace Go.Proofs.Ytckhmpcmlochpaa.G
open Go.BX
set_option linter.unusedSimpArgs false
set_option linter.unusedVariables false
theorem fk_all {l : List Nd} {Q : AV → AHeap → Prop} {n g i : Nat} {A : Nat → Blk} {es : List (List AV)} {K : List AItem} {q : Nat} (hl : l.length ≤ 400) (hA : A g = .cells 74 3 es) (hlen : es.length = l.length) (hes : ∀ p, i < p → p < l.length → es[p]? = (rowsF l)[p]?) :
    ∀ (ts : List Ex) (p k m : Nat) (T : Nat → AV), m = k + ts.length → Kids l p ts q → i < p → m ≤ 10 → T 3 = .slc g 3 0 l.length → T 8 = .int .i64 (p : Int) → T 32 = .int .i64 (k : Int) → T 31 = .int .i64 (m : Int) →
      (∀ T' : Nat → AV, T' 8 = .int .i64 (q : Int) → T' 0 = T 0 → T' 3 = T 3 → T' 4 = T 4 → T' 5 = T 5 → T' 6 = T 6 → Run Cx 17 T' [] none K ⟨n, A⟩ Q) →
      Run Cx 17 T [] none (.inLoop c17_26 :: .inBlock 2 :: K) ⟨n, A⟩ Q
  | [], p, k, m, T, hm, hk, hi, hb, t3, t8, t32, t31, hQ => by
    rw [run_inLoop]
    cases hk
    rw [List.length_nil] at hm
    have c0 : ¬ (k : Int) < (m : Int) := by omega
    simp only [t31, t32, c0, xx, r17_3, bb, ↓bd, ↓reduceIte]
    refine hQ _ ?_ ?_ ?_ ?_ ?_ ?_
    all_goals simp only [upd_app, t8, Nat.reduceEqDiff, ↓reduceIte]
  | t :: ts, p, k, m, T, hm, hk, hi, hb, t3, t8, t32, t31, hQ => by
    rw [run_inLoop]
    cases hk with
    | cons h hs =>
      have hlt := h.lt
      have hp := hes p hi (by omega)
      rw [rowsF_get h] at hp
      have hp' : es[p]? = some [.str (wordM (opE t)), .int .i64 (partsM (opE t) : Int), .int .i64 ((p + (flatE t).length : Nat) : Int)] := hp
      rw [List.length_cons] at hm
      have c0 : (k : Int) < (m : Int) := by omega
      have p1 : (0 : Int) ≤ (p : Int) := by omega
      have p2 : (p : Int) < (l.length : Int) := by omega
      have p3 : p < l.length := by omega
      have w1 : IntKind.i64.wrap ((k : Int) + 1) = ((k + 1 : Nat) : Int) := by rw [wr64 (by omega) (by omega)]; omega
      simp only [t3, t8, t31, t32, c0, p1, p2, hp', hA, w1, Int.toNat_natCast, xx, r17_3, r17_4, tt, bb, ↓bd, Nat.reduceEqDiff, ↓reduceIte]
      refine fk_all hl hA hlen hes ts (p + (flatE t).length) (k + 1) m _ (by omega) hs (by omega) hb ?_ ?_ ?_ ?_ ?_
      · simp only [upd_app, t3, Nat.reduceEqDiff, ↓reduceIte]
      · simp only [upd_app, Nat.reduceEqDiff, ↓reduceIte]
      · simp only [upd_app, ↓reduceIte]
      · simp only [upd_app, t31, Nat.reduceEqDiff, ↓reduceIte]
      · intro T' h8 h0 h3 h4 h5 h6
        refine hQ T' h8 ?_ ?_ ?_ ?_ ?_
        · rw [h0]; simp only [upd_app, Nat.reduceEqDiff, ↓reduceIte]
        · rw [h3]; simp only [upd_app, Nat.reduceEqDiff, ↓reduceIte]
        · rw [h4]; simp only [upd_app, Nat.reduceEqDiff, ↓reduceIte]
        · rw [h5]; simp only [upd_app, Nat.reduceEqDiff, ↓reduceIte]
        · rw [h6]; simp only [upd_app, Nat.reduceEqDiff, ↓reduceIte]
theorem fo_all {l : List Nd} {Q : AV → AHeap → Prop} {n g : Nat} (hl : l.length ≤ 400) (hn : g < n) (ht : ∀ p, p < l.length → ∃ t, Tree l p t) (hop : ∀ p t, Tree l p t → 0 ≤ opE t ∧ opE t ≤ 100)
    (hQ : ∀ A', A' g = .cells 74 3 (rowsF l) → Q (.slc g 3 0 l.length) ⟨n, A'⟩) : ∀ (j : Nat) (T : Nat → AV) (A : Nat → Blk), j ≤ l.length →
     T 0 = .vec 6 (l.map encN) → T 3 = .slc g 3 0 l.length → T 4 = .int .i64 ((j : Int) - 1) → A g = .cells 74 3 (List.replicate j [.str [], .int .i64 0, .int .i64 0] ++ (rowsF l).drop j) →
    Run Cx 17 T [] none [.inLoop c17_9, .inBlock 0, .code c17_38] ⟨n, A⟩ Q
  | 0, T, A, hj, t0, t3, t4, hA => by
    rw [run_inLoop]
    simp only [t3, t4, xx, r17_1, r17_4, r17_5, res17, bb, bc, ↓bd, Nat.reduceEqDiff, ↓reduceIte, Int.reduceLE, Int.reduceSub, Int.reduceNeg]
    exact hQ A hA
  | j + 1, T, A, hj, t0, t3, t4, hA => by
    rw [run_inLoop]
    obtain ⟨t, h⟩ := ht j (by omega)
    obtain ⟨hk, hg⟩ := h.kids
    have e1 : ((j + 1 : Nat) : Int) - 1 = (j : Int) := by omega
    rw [e1] at t4
    have p1 : (0 : Int) ≤ (j : Int) := by omega
    have c1 : (j : Int) < (l.length : Int) := by omega
    have c2 : j < l.length := by omega
    have w1 : IntKind.i64.wrap ((j : Int) + 1) = ((j + 1 : Nat) : Int) := by rw [wr64 (by omega) (by omega)]; omega
    have w2 : IntKind.i64.wrap ((j : Int) - 1) = (j : Int) - 1 := wr64 (by omega) (by omega)
    have g0 : (l.map encN)[j]? = some [.int .i64 (opE t), .int .i64 (valE t).k, .int .i64 (valE t).n, .str (valE t).s, .int .i64 (valE t).x, .int .i64 (valE t).y] := by rw [List.getElem?_map, hg]; rfl
    have hob := hop j t h
    have hpt := Parts_ok (opE t) (by omega) (by omega)
    simp only [t0, t4, p1, c1, w1, g0, Int.toNat_natCast, List.length_map, call_pure pure21 rfl hpt, r17_1, r17_2, r17_3, tt, bb, bc, ↓bd, Nat.reduceEqDiff, ↓reduceIte, reduceCtorEq]
    have hkl := kids_len h.1
    have hlen : (List.replicate (j + 1) [AV.str [], .int .i64 0, .int .i64 0] ++ (rowsF l).drop (j + 1)).length = l.length := by rw [List.length_append, List.length_replicate, List.length_drop, rowsF_len]; omega
    refine fk_all (g := g) (i := j) hl hA hlen ?_ (kidsE t) (j + 1) 0 (partsM (opE t)) _ (by rw [hkl.1]; omega) hk (by omega) ?_ ?_ ?_ ?_ ?_ ?_
    · intro p h1 h2
      rw [List.getElem?_append_right (by rw [List.length_replicate]; omega), List.length_replicate, List.getElem?_drop, show j + 1 + (p - (j + 1)) = p by omega]
    · cases hio : isOp (opE t) with
      | false => rw [(parts_no hio).1]; omega
      | true => have := parts_pos hio; omega
    · simp only [upd_app, t3, Nat.reduceEqDiff, ↓reduceIte]
    · simp only [upd_app, Nat.reduceEqDiff, ↓reduceIte]
    · simp only [upd_app, ↓reduceIte]; rfl
    · simp only [upd_app, Nat.reduceEqDiff, ↓reduceIte]
    · intro T' h8 h0 h3 h4 h5 h6
      simp only [upd_app, t0, t3, t4, Nat.reduceEqDiff, ↓reduceIte] at h0 h3 h4 h5 h6
      have hset : (List.replicate (j + 1) [AV.str [], .int .i64 0, .int .i64 0] ++ (rowsF l).drop (j + 1)).set j [.str (wordM (opE t)), .int .i64 (partsM (opE t) : Int), .int .i64 ((j + (flatE t).length : Nat) : Int)] = List.replicate j [AV.str [], .int .i64 0, .int .i64 0] ++ (rowsF l).drop j := by
        have e2 : (rowsF l).drop j = row3 j t :: (rowsF l).drop (j + 1) := by
          have hlt : j < (rowsF l).length := by rw [rowsF_len]; omega
          rw [List.drop_eq_getElem_cons hlt]
          have := rowsF_get h
          rw [List.getElem?_eq_getElem hlt] at this
          rw [Option.some.inj this]
        rw [e2, List.set_append_left _ _ (by simp), List.replicate_succ', List.set_append_right _ _ (by simp), List.length_replicate, Nat.sub_self, List.set_cons_zero, List.append_assoc]
        rfl
      have gz : (List.replicate (j + 1) [AV.str [], .int .i64 0, .int .i64 0] ++ (rowsF l).drop (j + 1))[j]? = some [.str [], .int .i64 0, .int .i64 0] := by
        rw [List.getElem?_append_left (by simp)]; simp
      simp only [h8, h3, h4, h5, h6, p1, c1, hA, gz, hset, w2, Int.toNat_natCast, xx, r17_4.2.2.2.2.1, r17_4.2.2.2.2.2.1, tt, bb, bc, ↓bd, Nat.reduceEqDiff, Nat.reduceAdd, Nat.reduceLeDiff, ↓reduceIte]
      refine fo_all hl hn ht hop hQ j _ _ (by omega) ?_ ?_ ?_ ?_
      · simp only [upd_app, h0, Nat.reduceEqDiff, ↓reduceIte]
      · simp only [upd_app, h3, Nat.reduceEqDiff, ↓reduceIte]
      · simp only [upd_app, ↓reduceIte]
      · simp only [upd_app, ↓reduceIte]
theorem forms_ok {l : List Nd} {t0 : Ex} (hl : l.length ≤ 400) (hw : WF t0) (e : l = flatE t0) : PCall Cx 17 [.vec 6 (l.map encN)] (.vec 3 (rowsF l)) := by
  have ht : ∀ p, p < l.length → ∃ t, Tree l p t := by
    intro p hp
    rw [e] at hp
    have := tree_at t0 hw [] p hp
    rw [List.append_nil, ← e] at this
    exact this
  have hop : ∀ p t, Tree l p t → 0 ≤ opE t ∧ opE t ≤ 100 := by
    intro p t h
    cases t with
    | lit v => exact ⟨Int.le_refl 0, by show (0 : Int) ≤ 100; omega⟩
    | nam v => exact ⟨by show (0 : Int) ≤ 1; omega, by show (1 : Int) ≤ 100; omega⟩
    | op1 op a => have := op2_le h.1.1.1; exact ⟨by show 0 ≤ op; omega, by show op ≤ 100; omega⟩
    | op2 op a b => have := op2_le h.1.1.1; exact ⟨by show 0 ≤ op; omega, by show op ≤ 100; omega⟩
    | op3 op a b c => have := op2_le h.1.1.1; exact ⟨by show 0 ≤ op; omega, by show op ≤ 100; omega⟩
  refine pcall_run (noext _) body17 ?_
  have p0 : (0 : Int) ≤ (l.length : Int) := by omega
  have m1 : (l.length : Int) * 32 ≤ (most : Int) := by unfold most; omega
  have m2 : (l.length : Int) ≤ (most : Int) := by unfold most; omega
  have w1 : IntKind.i64.wrap ((l.length : Int) - 1) = (l.length : Int) - 1 := wr64 (by omega) (by omega)
  simp only [p0, m1, m2, w1, Int.le_refl, i64, Int.toNat_natCast, List.length_map, runVH_some, r17_0, r17_1, tt, bb, bc, ↓bd, ↓reduceIte, reduceCtorEq]
  refine fo_all (l := l) (g := 0) hl (by omega) ht hop ?_ l.length _ _ (Nat.le_refl _) ?_ ?_ ?_ ?_
  · intro A' hA'
    have hfl : ∀ p, p < l.length → mapO (freeze1 ⟨1, A'⟩ 3) (rowF l p) = some (rowF l p) := by
      intro p hp
      obtain ⟨t, h⟩ := ht p hp
      rw [rowF_is h]
      exact mapO_all (p := AV.flat1) (fun v hv => freeze1_flat hv) rfl
    have hfz : mapO (mapO (freeze1 ⟨1, A'⟩ 3)) (rowsF l) = some (rowsF l) := by
      have key : ∀ ps : List Nat, (∀ p, p ∈ ps → p < l.length) → mapO (mapO (freeze1 ⟨1, A'⟩ 3)) (ps.map (rowF l)) = some (ps.map (rowF l)) := by
        intro ps
        induction ps with
        | nil => intro _; rfl
        | cons p ps ih =>
          intro h
          rw [List.map_cons, mapO_cons, ih (fun q hq => h q (by simp [hq])), hfl p (h p (by simp))]
          rfl
      exact key _ (fun p hp => List.mem_range.mp hp)
    have he : elems ⟨1, A'⟩ 3 (.slc 0 3 0 l.length) = some (rowsF l) := by
      unfold elems
      simp only [hA']
      rw [if_pos ⟨trivial, trivial, by rw [rowsF_len]; omega⟩, List.drop_zero, List.take_of_length_le (by rw [rowsF_len]; exact Nat.le_refl _)]
    rw [freeze_slc, he, frzE_some, hfz]
    rfl
  all_goals simp only [upd_app, enterT, List.getElem?_cons_zero, Option.getD_some, Nat.reduceEqDiff, ↓reduceIte]
  rw [List.drop_of_length_le (by rw [rowsF_len]; exact Nat.le_refl _), List.append_nil]
end Go.Proofs.Ytckhmpcmlochpaa.G

namespace Go.Proofs.Ytckhmpcmlochpaa.G
open Go.BX
set_option linter.unusedSimpArgs false
set_option linter.unusedVariables false
structure ML (M : Mch) (l : List Nd) : Prop where
  L : M.L = .vec 6 (l.map encN)
  F : M.F = .vec 3 (rowsF l)
  len : l.length ≤ 400
  env : Ek M.E
section
variable {fn : FuncId} {T : Nat → AV} {ds : List ADef} {ro : Option Nat} {k : List AItem} {Q : AV → AHeap → Prop} {dst : Option Nat} {os : List AO}
theorem behind_call {M : Mch} {l : List Nd} (hM : ML M l) {n p : Nat} {A : Nat → Blk} {s : St} {t : Ex} (h : MS M n A s) (ht : Tree l p t)
    (hk : RunOps Cx fn (putA T dst (.int .i64 ((p + (flatE t).length : Nat) : Int))) ds ro os k ⟨n, A⟩ Q) :
    RunCall Cx fn T ds ro 28 [.ptr M.b 22 0 0, .int .i64 (p : Int)] dst os k ⟨n, A⟩ Q := by
  refine call_body pure28 (noext _) body28 ?_
  obtain ⟨hb, o, hA, ho⟩ := h
  have hF := hM.F
  have hlt := ht.lt
  have p0 : (0 : Int) ≤ (p : Int) := by omega
  have p1 : (p : Int) < ((rowsF l).length : Int) := by rw [rowsF_len]; omega
  have hg : (rowsF l)[p]? = some [.str (wordM (opE t)), .int .i64 (partsM (opE t) : Int), .int .i64 ((p + (flatE t).length : Nat) : Int)] := rowsF_get ht
  simp only [hA, hF, p0, p1, hg, Int.toNat_natCast, r28_0, res28, tt, bb, bc, ↓bd, Nat.reduceEqDiff, ↓reduceIte, reduceCtorEq]
  exact hk
def DoC (M : Mch) (l : List Nd) (g : Nat) : Prop :=
  ∀ {fn : FuncId} {T : Nat → AV} {ds : List ADef} {ro : Option Nat} {k : List AItem} {Q : AV → AHeap → Prop} {dst : Option Nat} {os : List AO} {n p : Nat} {A : Nat → Blk} {s : St} {t : Ex}, MS M n A s → Sk s → Tree l p t → s.left ≤ g →
    (∀ n' A', MS M n' A' (ev M.E g t s).2 → Keep M.b n A A' → n ≤ n' → RunOps Cx fn (putA T dst (valA (ev M.E g t s).1)) ds ro os k ⟨n', A'⟩ Q) →
    RunCall Cx fn T ds ro 18 [.ptr M.b 22 0 0, .int .i64 (p : Int)] dst os k ⟨n, A⟩ Q
theorem MS.errCell {M : Mch} {n : Nat} {A : Nat → Blk} {s : St} (h : MS M n A s) : ∃ o, A M.b = .cells 64 22 [[M.L, M.F, .str M.E.key, .int .i64 M.E.val.k, .int .i64 M.E.val.n, .str M.E.val.s, .int .i64 M.E.val.x, .int .i64 M.E.val.y, .int .i64 M.E.acc.k, .int .i64 M.E.acc.n, .str M.E.acc.s, .int .i64 M.E.acc.x, .int .i64 M.E.acc.y, .int .i64 s.i, .int .i64 s.it.k, .int .i64 s.it.n, .str s.it.s, .int .i64 s.it.x, .int .i64 s.it.y, o, .int .i64 (s.left : Int), .int .i64 s.err]] := ⟨_, h.cell.choose_spec.1⟩
theorem MS.setI {M : Mch} {n : Nat} {A : Nat → Blk} {s : St} {o : AV} (h : MS M n A s) (ho : A M.b = .cells 64 22 [[M.L, M.F, .str M.E.key, .int .i64 M.E.val.k, .int .i64 M.E.val.n, .str M.E.val.s, .int .i64 M.E.val.x, .int .i64 M.E.val.y, .int .i64 M.E.acc.k, .int .i64 M.E.acc.n, .str M.E.acc.s, .int .i64 M.E.acc.x, .int .i64 M.E.acc.y, .int .i64 s.i, .int .i64 s.it.k, .int .i64 s.it.n, .str s.it.s, .int .i64 s.it.x, .int .i64 s.it.y, o, .int .i64 (s.left : Int), .int .i64 s.err]]) (s' : St) (hl : s'.out = s.out) :
    MS M n (upd A M.b (.cells 64 22 [[M.L, M.F, .str M.E.key, .int .i64 M.E.val.k, .int .i64 M.E.val.n, .str M.E.val.s, .int .i64 M.E.val.x, .int .i64 M.E.val.y, .int .i64 M.E.acc.k, .int .i64 M.E.acc.n, .str M.E.acc.s, .int .i64 M.E.acc.x, .int .i64 M.E.acc.y, .int .i64 s'.i, .int .i64 s'.it.k, .int .i64 s'.it.n, .str s'.it.s, .int .i64 s'.it.x, .int .i64 s'.it.y, o, .int .i64 (s'.left : Int), .int .i64 s'.err]])) s' := by
  obtain ⟨hb, o', hA, hw⟩ := h
  have e := hA.symm.trans ho
  simp only [Blk.cells.injEq, List.cons.injEq, and_true, true_and] at e
  subst e
  refine ⟨hb, o', by rw [upd_app, if_pos rfl], ?_⟩
  rw [hl]
  refine hw.keep (Nat.le_refl _) fun z hz hp => ?_
  have : z ≠ M.b := by rintro rfl; rw [hA] at hp; cases hp
  rw [upd_app, if_neg this]
theorem Keep.set {b n : Nat} {A A' : Nat → Blk} (h : Keep b n A A') (X : Blk) : Keep b n A (upd A' b X) := fun c hc hb hp => by
  rw [upd_app, if_neg hb]
  exact h c hc hb hp
end
end Go.Proofs.Ytckhmpcmlochpaa.G

namespace Go.Proofs.Ytckhmpcmlochpaa.G
open Go.BX
set_option linter.unusedSimpArgs false
set_option linter.unusedVariables false
abbrev encB (v : Vl) : Blk := .cells 26 5 [[.int .i64 v.k, .int .i64 v.n, .str v.s, .int .i64 v.x, .int .i64 v.y]]
theorem each_stop {f : St → Vl × St} {N : Int} {c : Nat} {k : Int} {v : Vl} {s : St} (h : ¬ (k < N ∧ s.err = 0)) : eachL f N c k v s = (v, s) := by
  cases c with
  | zero => rfl
  | succ c =>
    conv => lhs; unfold eachL
    rw [if_neg h]
theorem each_go {f : St → Vl × St} {N : Int} {c : Nat} {k : Int} {v : Vl} {s : St} (h : k < N ∧ s.err = 0) : eachL f N (c + 1) k v s = eachL f N c (k + 1) (f { s with i := k }).1 (f { s with i := k }).2 := by
  conv => lhs; unfold eachL
  rw [if_pos h]
theorem cellP {b n : Nat} {A A' : Nat → Blk} (h : Keep b n A A') {c : Nat} {t kk : Nat} {es : List (List AV)} (hA : A c = .cells t kk es) (hc : c < n) (hb : c ≠ b) (ht : t ≠ 54) : A' c = .cells t kk es := h.at hc hb hA ht
set_option maxRecDepth 20000 in
theorem ea_end {M : Mch} {n0 a : Nat} {A0 : Nat → Blk} {i0 : Int} {Q : AV → AHeap → Prop} (ha : n0 ≤ a) (hab : M.b < a) (hb0 : M.b < n0) {j : Int} {v : Vl} {s : St} {T : Nat → AV} {n b8 : Nat} {A : Nat → Blk} (hm : MS M n A { s with i := j }) (hkp : Keep M.b n0 A0 A) (hn : n0 ≤ n)
    (t6 : T 6 = .ptr (a + 2) 5 0 0) (t8 : T 8 = .ptr b8 5 0 0) (hb8 : a + 3 < b8) (hbn : b8 < n)
    (hA0 : A a = .cells 60 1 [[.ptr M.b 22 0 0]]) (hA2 : A (a + 2) = zB) (hA3 : A (a + 3) = .cells 3 1 [[.int .i64 i0]]) (hA8 : A b8 = encB v)
    (hQ : ∀ n' A', MS M n' A' { s with i := i0 } → Keep M.b n0 A0 A' → n0 ≤ n' → Q (valA v) ⟨n', A'⟩) :
    Run Cx 40 T [.call (.fn 49 [] [.ptr (a + 3) 1 0 0, .ptr a 1 0 0]) []] none [.code c40_40, .inScope c40_3] ⟨n, A⟩ Q := by
  have hb := hm.lt
  have hA8' : A b8 = .cells 26 5 [[.int .i64 v.k, .int .i64 v.n, .str v.s, .int .i64 v.x, .int .i64 v.y]] := hA8
  have hA2' : A (a + 2) = .cells 26 5 [[.int .i64 0, .int .i64 0, .str [], .int .i64 0, .int .i64 0]] := hA2
  simp only [t6, t8, hA2', hA8', r40_4, r40_5.1, tt, bb, ↓bd, Nat.reduceEqDiff, Nat.reduceAdd, ↓reduceIte]
  refine leave_defs (.inr ⟨_, rfl⟩) ?_
  refine ⟨noext _, _, body49, ?_⟩
  have hm2 := hm.upo (c := a + 2) (by omega) (by rw [hA2]; exact not26) (encB v)
  obtain ⟨o, hcell⟩ := hm2.errCell
  have e1 : (a = a + 2) = False := eq_false (by omega)
  have e2 : (a + 3 = a + 2) = False := eq_false (by omega)
  have e3 : (M.b = a + 2) = False := eq_false (by omega)
  have e4 : (a + 2 = M.b) = False := eq_false (by omega)
  have e5 : (a = M.b) = False := eq_false (by omega)
  have e6 : (a + 3 = M.b) = False := eq_false (by omega)
  rw [upd_app, if_neg (by omega)] at hcell
  have hm3 := hm2.setI (o := o) (by rw [upd_app, if_neg (by omega)]; exact hcell) { s with i := i0 } rfl
  simp only [hA0, hA3, hcell, e1, e2, e3, r49_0, tt, bb, ↓bd, Nat.reduceEqDiff, Nat.reduceAdd, Nat.reduceLeDiff, ↓reduceIte, reduceCtorEq]
  have hkp3 := (hkp.up1 (n' := a + 2) (by omega) (encB v)).set (.cells 64 22 [[M.L, M.F, .str M.E.key, .int .i64 M.E.val.k, .int .i64 M.E.val.n, .str M.E.val.s, .int .i64 M.E.val.x, .int .i64 M.E.val.y, .int .i64 M.E.acc.k, .int .i64 M.E.acc.n, .str M.E.acc.s, .int .i64 M.E.acc.x, .int .i64 M.E.acc.y, .int .i64 i0, .int .i64 s.it.k, .int .i64 s.it.n, .str s.it.s, .int .i64 s.it.x, .int .i64 s.it.y, o, .int .i64 (s.left : Int), .int .i64 s.err]])
  rw [run_nil, res49]
  show RunRes Cx _ _ Q (resOf Cx 40)
  rw [res40]
  have e7 : (a + 2 = M.b) = False := eq_false (by omega)
  simp only [t6, e7, tt, bb, bc, ↓bd, Nat.reduceEqDiff, Nat.reduceAdd, ↓reduceIte]
  exact hQ n _ hm3 hkp3 hn
theorem ea_all {M : Mch} {l : List Nd} {g : Nat} (hM : ML M l) (hD : DoC M l g) {p n0 a : Nat} {A0 : Nat → Blk} {t : Ex} (ht : Tree l p t) {i0 : Int} {nv : Vl} (hN0 : 0 ≤ nv.n) (hN1 : nv.n ≤ 9007199254740992) {Q : AV → AHeap → Prop} (ha : n0 ≤ a) (hab : M.b < a) (hb0 : M.b < n0) :
    ∀ (c : Nat) (j : Int) (v : Vl) (s : St) (T : Nat → AV) (n b8 : Nat) (A : Nat → Blk), MS M n A { s with i := j } → Sk s → 0 ≤ j → j ≤ nv.n → s.left ≤ g → (s.err = 0 → s.left < c) → Keep M.b n0 A0 A → n0 ≤ n →
      T 2 = .int .i64 (p : Int) → T 3 = .ptr a 1 0 0 → T 4 = .ptr (a + 1) 5 0 0 → T 6 = .ptr (a + 2) 5 0 0 → T 8 = .ptr b8 5 0 0 → a + 3 < b8 → b8 < n →
      A a = .cells 60 1 [[.ptr M.b 22 0 0]] → A (a + 1) = encB nv → A (a + 2) = zB → A (a + 3) = .cells 3 1 [[.int .i64 i0]] → A b8 = encB v →
      (∀ n' A', MS M n' A' { (eachL (ev M.E g t) nv.n c j v s).2 with i := i0 } → Keep M.b n0 A0 A' → n0 ≤ n' → Q (valA (eachL (ev M.E g t) nv.n c j v s).1) ⟨n', A'⟩) →
      Run Cx 40 T [.call (.fn 49 [] [.ptr (a + 3) 1 0 0, .ptr a 1 0 0]) []] none [.code c40_28, .inScope c40_3] ⟨n, A⟩ Q := by
  intro c
  induction c with
  | zero =>
    intro j v s T n b8 A hm hs hj0 hj1 hg hc hkp hn t2 t3 t4 t6 t8 hb8 hbn hA0 hA1 hA2 hA3 hA8 hQ
    obtain ⟨o, hcell⟩ := hm.errCell
    have hne : s.err ≠ 0 := fun h => by have := hc h; omega
    have z1 : (s.err == 0) = false := by simp [hne]
    by_cases h1 : j < nv.n
    · simp only [t3, t4, hA0, hA1, hcell, h1, z1, r40_3, r40_4.2.2.2.2.2.2.1, tt, bb, ↓bd, Nat.reduceEqDiff, ↓reduceIte]
      refine ea_end ha hab hb0 (v := v) (s := s) hm hkp hn ?_ ?_ hb8 hbn hA0 hA2 hA3 hA8 hQ
      all_goals simp only [upd_app, t6, t8, Nat.reduceEqDiff, ↓reduceIte]
    · simp only [t3, t4, hA0, hA1, hcell, h1, r40_3, r40_4.2.2.2.2.2.2.1, tt, bb, ↓bd, Nat.reduceEqDiff, ↓reduceIte]
      refine ea_end ha hab hb0 (v := v) (s := s) hm hkp hn ?_ ?_ hb8 hbn hA0 hA2 hA3 hA8 hQ
      all_goals simp only [upd_app, t6, t8, Nat.reduceEqDiff, ↓reduceIte]
  | succ c ih =>
    intro j v s T n b8 A hm hs hj0 hj1 hg hc hkp hn t2 t3 t4 t6 t8 hb8 hbn hA0 hA1 hA2 hA3 hA8 hQ
    obtain ⟨o, hcell⟩ := hm.errCell
    have hb := hm.lt
    by_cases hgo : j < nv.n ∧ s.err = 0
    · rw [each_go hgo] at hQ
      have c1 : (j < nv.n) = True := eq_true hgo.1
      have z1 : (s.err == 0) = true := by simp [hgo.2]
      have w1 : IntKind.i64.wrap (j + 1) = j + 1 := wr64 (by omega) (by omega)
      simp only [t2, t3, t4, hA0, hA1, hcell, c1, z1, r40_3, r40_4, tt, bb, bc, ↓bd, Nat.reduceEqDiff, ↓reduceIte]
      have hsj : Sk { s with i := j } := ⟨hs.it, hj0, by show j ≤ _; omega, hs.out, hs.outs⟩
      refine hD hm hsj ht hg ?_
      intro n' A' hm' hkp' hn'
      have q0 := cellP hkp' hA0 (by omega) (by omega) (by decide)
      have q1 := cellP hkp' hA1 (by omega) (by omega) (by decide)
      have q2 := cellP hkp' hA2 (by omega) (by omega) (by decide)
      have q3 := cellP hkp' hA3 (by omega) (by omega) (by decide)
      have q8 := cellP hkp' hA8 (by omega) (by omega) (by decide)
      have hk2 := ev_k hM.env g t { s with i := j } ht.1 hsj
      have hkp1 := ev_kp (E := M.E) g t { s with i := j }
      generalize hr : ev M.E g t { s with i := j } = r at hm' hQ hk2 hkp1
      have hm2 := hm'.upo (c := b8) (by omega) (by rw [q8]; exact not26) (encB r.1)
      obtain ⟨o2, hcell2⟩ := hm2.errCell
      have hm3 := hm2.setI hcell2 { r.2 with i := j + 1 } rfl
      have e1 : (a = b8) = False := eq_false (by omega)
      have e2 : (M.b = b8) = False := eq_false (by omega)
      have e3 : (b8 = M.b) = False := eq_false (by omega)
      have hcell3 := hcell2
      rw [upd_app, if_neg (by omega)] at hcell3
      simp only [t3, t8, q0, q8, hcell3, w1, e1, e2, r40_4, tt, bb, ↓bd, Nat.reduceEqDiff, Nat.reduceAdd, Nat.reduceLeDiff, ↓reduceIte]
      have hgt : gotoA 0 [.code c40_40, .inScope c40_3] = some [.code (.seq .skip c40_28), .inScope c40_3] := rfl
      show Run Cx 40 _ _ none (.code (.goto 0) :: _) _ _
      rw [run_goto hgt, run_seq, run_skip]
      have hkp3 := (((hkp.trans hn hkp').up1 (n' := b8) (by omega) (encB r.1))).set (.cells 64 22 [[M.L, M.F, .str M.E.key, .int .i64 M.E.val.k, .int .i64 M.E.val.n, .str M.E.val.s, .int .i64 M.E.val.x, .int .i64 M.E.val.y, .int .i64 M.E.acc.k, .int .i64 M.E.acc.n, .str M.E.acc.s, .int .i64 M.E.acc.x, .int .i64 M.E.acc.y, .int .i64 (j + 1), .int .i64 r.2.it.k, .int .i64 r.2.it.n, .str r.2.it.s, .int .i64 r.2.it.x, .int .i64 r.2.it.y, o2, .int .i64 (r.2.left : Int), .int .i64 r.2.err]])
      refine ih (j + 1) r.1 r.2 _ n' b8 _ hm3 hk2.2 (by omega) (by omega) (Nat.le_trans hkp1.left hg) ?_ hkp3 (by omega) ?_ ?_ ?_ ?_ ?_ hb8 (by omega) ?_ ?_ ?_ ?_ ?_ hQ
      · intro h
        have := ev_less (E := M.E) (g := g) (t := t) (s := { s with i := j }) (by rw [hr]; exact h)
        rw [hr] at this
        have h3 := hc hgo.2
        have h4 : r.2.left < s.left := this
        omega
      · simp only [upd_app, t2, Nat.reduceEqDiff, ↓reduceIte]
      · simp only [upd_app, t3, Nat.reduceEqDiff, ↓reduceIte]
      · simp only [upd_app, t4, Nat.reduceEqDiff, ↓reduceIte]
      · simp only [upd_app, t6, Nat.reduceEqDiff, ↓reduceIte]
      · simp only [upd_app, t8, Nat.reduceEqDiff, ↓reduceIte]
      · rw [upd_app, if_neg (by omega), upd_app, if_neg (by omega)]; exact q0
      · rw [upd_app, if_neg (by omega), upd_app, if_neg (by omega)]; exact q1
      · rw [upd_app, if_neg (by omega), upd_app, if_neg (by omega)]; exact q2
      · rw [upd_app, if_neg (by omega), upd_app, if_neg (by omega)]; exact q3
      · rw [upd_app, if_neg (by omega), upd_app, if_pos rfl]
    · rw [each_stop hgo] at hQ
      by_cases h1 : j < nv.n
      · have z1 : (s.err == 0) = false := by
          have : s.err ≠ 0 := fun h => hgo ⟨h1, h⟩
          simp [this]
        simp only [t3, t4, hA0, hA1, hcell, h1, z1, r40_3, r40_4.2.2.2.2.2.2.1, tt, bb, ↓bd, Nat.reduceEqDiff, ↓reduceIte]
        refine ea_end ha hab hb0 (v := v) (s := s) hm hkp hn ?_ ?_ hb8 hbn hA0 hA2 hA3 hA8 hQ
        all_goals simp only [upd_app, t6, t8, Nat.reduceEqDiff, ↓reduceIte]
      · simp only [t3, t4, hA0, hA1, hcell, h1, r40_3, r40_4.2.2.2.2.2.2.1, tt, bb, ↓bd, Nat.reduceEqDiff, ↓reduceIte]
        refine ea_end ha hab hb0 (v := v) (s := s) hm hkp hn ?_ ?_ hb8 hbn hA0 hA2 hA3 hA8 hQ
        all_goals simp only [upd_app, t6, t8, Nat.reduceEqDiff, ↓reduceIte]
end Go.Proofs.Ytckhmpcmlochpaa.G

namespace Go.Proofs.Ytckhmpcmlochpaa.G
open Go.BX
set_option linter.unusedSimpArgs false
set_option linter.unusedVariables false
section
variable {fn : FuncId} {T : Nat → AV} {ds : List ADef} {ro : Option Nat} {k : List AItem} {Q : AV → AHeap → Prop} {dst : Option Nat} {os : List AO}
def eachR (f : St → Vl × St) (c : Nat) (v : Vl) (s : St) : Vl × St :=
  if v.k ≠ 0 then (zV, { s with err := 13 }) else if v.n < 0 then (zV, { s with err := 14 }) else ((eachL f v.n c 0 (nV 0) s).1, { (eachL f v.n c 0 (nV 0) s).2 with i := s.i })
theorem failS_z {e : Int} {s : St} (he : s.err = 0) : failS e s = { s with err := e } := by unfold failS; rw [if_pos he]
theorem each_call {M : Mch} {l : List Nd} {g : Nat} (hM : ML M l) (hD : DoC M l g) {n p : Nat} {A : Nat → Blk} {s : St} {t : Ex} {v : Vl} (h : MS M n A s) (hs : Sk s) (hv : okV v = true) (ht : Tree l p t) (hg : s.left ≤ g) (he : s.err = 0)
    (hk : ∀ n' A', MS M n' A' (eachR (ev M.E g t) (g + 1) v s).2 → Keep M.b n A A' → n ≤ n' → RunOps Cx fn (putA T dst (valA (eachR (ev M.E g t) (g + 1) v s).1)) ds ro os k ⟨n', A'⟩ Q) :
    RunCall Cx fn T ds ro 40 [.ptr M.b 22 0 0, valA v, .int .i64 (p : Int)] dst os k ⟨n, A⟩ Q := by
  refine call_body pure40 (noext _) body40 ?_
  have hb := h.lt
  have hm3 := ((h.up1 (.cells 60 1 [[.ptr M.b 22 0 0]])).up1 (encB v)).up1 zB
  have hkp3 := (((Keep.refl M.b n A).up1 (Nat.le_refl _) (.cells 60 1 [[.ptr M.b 22 0 0]])).up1 (n' := n + 1) (by omega) (encB v)).up1 (n' := n + 1 + 1) (by omega) zB
  have e1 : (n = n + 1) = False := eq_false (by omega)
  have e2 : (n = n + 1 + 1) = False := eq_false (by omega)
  have e3 : (n + 1 = n + 1 + 1) = False := eq_false (by omega)
  have e4 : (M.b = n) = False := eq_false (by omega)
  have e5 : (M.b = n + 1) = False := eq_false (by omega)
  have e6 : (M.b = n + 1 + 1) = False := eq_false (by omega)
  have bad : ∀ (e : Int) (hk : ∀ n' A', MS M n' A' { s with err := e } → Keep M.b n A A' → n ≤ n' → RunOps Cx fn (putA T dst (valA zV)) ds ro os k ⟨n', A'⟩ Q), ∀ n' A', MS M n' A' (failS e s) → Keep M.b (n + 1 + 1 + 1) (upd (upd (upd A n (.cells 60 1 [[.ptr M.b 22 0 0]])) (n + 1) (encB v)) (n + 1 + 1) zB) A' → n + 1 + 1 + 1 ≤ n' → A' (n + 1 + 1) = zB ∧ ∀ X, RunOps Cx fn (putA T dst (valA zV)) ds ro os k ⟨n', upd A' (n + 1 + 1) X⟩ Q := by
    intro e hk n' A' hm hkp hn
    have hc := hkp.at (c := n + 1 + 1) (by omega) (by omega) (by rw [upd_app, if_pos rfl]) (by decide)
    refine ⟨hc, fun X => ?_⟩
    rw [failS_z he] at hm
    exact hk n' _ (hm.upo (c := n + 1 + 1) (by omega) (by rw [hc]; exact not26) X) ((hkp3.trans (by omega) hkp).up1 (by omega) X) (by omega)
  by_cases k0 : v.k = 0
  · have z0 : (v.k != 0) = false := by simp [k0]
    by_cases n0 : v.n < 0
    · have er : eachR (ev M.E g t) (g + 1) v s = (zV, { s with err := 14 }) := by unfold eachR; rw [if_neg (by simp [k0]), if_pos n0]
      rw [er] at hk
      simp only [z0, n0, e1, e2, e3, r40_0, r40_1, tt, bb, bc, ↓bd, Nat.reduceEqDiff, Nat.reduceAdd, ↓reduceIte]
      refine fail_call hm3 ?_
      intro n' A' hm hkp hn
      obtain ⟨hc, hx⟩ := bad 14 hk n' A' hm hkp hn
      have hc' : A' (n + 1 + 1) = .cells 26 5 [[.int .i64 0, .int .i64 0, .str [], .int .i64 0, .int .i64 0]] := hc
      simp only [hc', r40_2, res40, tt, bb, bc, ↓bd, Nat.reduceEqDiff, Nat.reduceAdd, ↓reduceIte]
      exact hx _
    · have er : eachR (ev M.E g t) (g + 1) v s = ((eachL (ev M.E g t) v.n (g + 1) 0 (nV 0) s).1, { (eachL (ev M.E g t) v.n (g + 1) 0 (nV 0) s).2 with i := s.i }) := by unfold eachR; rw [if_neg (by simp [k0]), if_neg n0]
      rw [er] at hk
      obtain ⟨o, hcell⟩ := h.errCell
      have hcz : upd (upd (upd A n (.cells 60 1 [[.ptr M.b 22 0 0]])) (n + 1) (encB v)) (n + 1 + 1) zB M.b = A M.b := by rw [upd_app, if_neg (by omega), upd_app, if_neg (by omega), upd_app, if_neg (by omega)]
      have f1 : (n = n + 1 + 1 + 1) = False := eq_false (by omega)
      have f2 : (n = n + 1 + 1 + 1 + 1) = False := eq_false (by omega)
      have f3 : (M.b = n + 1 + 1 + 1) = False := eq_false (by omega)
      have f4 : (M.b = n + 1 + 1 + 1 + 1) = False := eq_false (by omega)
      have f5 : (n = M.b) = False := eq_false (by omega)
      have uu : ∀ (A : Nat → Blk) (c : Nat) (X Y : Blk), upd (upd A c X) c Y = upd A c Y := fun A c X Y => upd2 A c X Y
      simp only [z0, n0, e1, e2, e3, e4, e5, e6, uu, hcell, run_inBlock, r40_0, r40_1, r40_2, tt, bb, bc, ↓bd, Nat.reduceEqDiff, Nat.reduceAdd, ↓reduceIte]
      rw [rop_defer (vs := []) (first := []) (caps := [AV.ptr (n + 1 + 1 + 1) 1 0 0, AV.ptr n 1 0 0]) (f := 49) rfl rfl]
      simp only [e1, e2, e4, e5, e6, f1, f2, f3, f4, uu, hcell, call_pure pure39 rfl (num_call 0), r40_2, r40_3.1, r40_3.2.1, r40_3.2.2.1, r40_3.2.2.2.1, tt, bb, bc, ↓bd, Nat.reduceEqDiff, Nat.reduceAdd, Nat.reduceLeDiff, ↓reduceIte]
      have hm5 := (hm3.up1 (.cells 3 1 [[.int .i64 s.i]])).up1 (encB (nV 0))
      have hkp5 := (hkp3.up1 (n' := n + 1 + 1 + 1) (by omega) (.cells 3 1 [[.int .i64 s.i]])).up1 (n' := n + 1 + 1 + 1 + 1) (by omega) (encB (nV 0))
      have hcell5 : upd (upd (upd (upd (upd A n (.cells 60 1 [[.ptr M.b 22 0 0]])) (n + 1) (encB v)) (n + 1 + 1) zB) (n + 1 + 1 + 1) (.cells 3 1 [[.int .i64 s.i]])) (n + 1 + 1 + 1 + 1) (encB (nV 0)) M.b = A M.b := by
        rw [upd_app, if_neg (by omega), upd_app, if_neg (by omega), hcz]
      rw [hcell] at hcell5
      have hm6 := hm5.setI hcell5 { s with i := 0 } rfl
      have hn := kinds3 hv
      have hvn : 0 ≤ v.n ∧ v.n ≤ 9007199254740992 := by have := (kind_if hv).1 k0; omega
      have lt1 : n + 1 < n + 1 + 1 + 1 + 1 + 1 := by omega
      refine ea_all (n0 := n) (a := n) (A0 := A) (nv := v) (i0 := s.i) hM hD ht hvn.1 hvn.2 (Nat.le_refl _) hb hb (g + 1) 0 (nV 0) s _ (n + 1 + 1 + 1 + 1 + 1) (n + 1 + 1 + 1 + 1) _ hm6 hs (Int.le_refl _) hvn.1 hg (fun _ => by omega) (hkp5.set _) (by omega) ?_ ?_ ?_ ?_ ?_ (by omega) (by omega) ?_ ?_ ?_ ?_ ?_ hk
      all_goals simp only [upd_app, enterT, List.getElem?_cons_zero, List.getElem?_cons_succ, Option.getD_some, Nat.reduceEqDiff, ↓reduceIte]
      · simp only [e1, e2, f1, f2, f5, ↓reduceIte]
      · rw [if_neg (by omega), if_neg (by omega), if_neg (by omega), if_neg (by omega)]
      · rw [if_neg (by omega), if_neg (by omega), if_neg (by omega)]
      · rw [if_neg (by omega), if_neg (by omega)]
      · rw [if_neg (by omega)]
  · have er : eachR (ev M.E g t) (g + 1) v s = (zV, { s with err := 13 }) := by unfold eachR; rw [if_pos k0]
    rw [er] at hk
    have z0 : (v.k != 0) = true := by simpa using k0
    simp only [z0, e1, e2, e3, r40_0, r40_1, tt, bb, bc, ↓bd, Nat.reduceEqDiff, Nat.reduceAdd, ↓reduceIte]
    refine fail_call hm3 ?_
    intro n' A' hm hkp hn
    obtain ⟨hc, hx⟩ := bad 13 hk n' A' hm hkp hn
    have hc' : A' (n + 1 + 1) = .cells 26 5 [[.int .i64 0, .int .i64 0, .str [], .int .i64 0, .int .i64 0]] := hc
    simp only [hc', r40_1, res40, tt, bb, bc, ↓bd, Nat.reduceEqDiff, Nat.reduceAdd, ↓reduceIte]
    exact hx _
end
end Go.Proofs.Ytckhmpcmlochpaa.G

namespace Go.Proofs.Ytckhmpcmlochpaa.G
open Go.BX
set_option linter.unusedSimpArgs false
set_option linter.unusedVariables false
theorem tree2 {l : List Nd} {p : Nat} {op : Int} {a b : Ex} (h : Tree l p (.op2 op a b)) : Tree l (p + 1) a ∧ Tree l (p + 1 + (flatE a).length) b := by
  obtain ⟨hk, _⟩ := h.kids
  cases hk with
  | cons h1 hs => cases hs with
    | cons h2 _ => exact ⟨h1, h2⟩
theorem tree3 {l : List Nd} {p : Nat} {op : Int} {a b c : Ex} (h : Tree l p (.op3 op a b c)) : Tree l (p + 1) a ∧ Tree l (p + 1 + (flatE a).length) b ∧ Tree l (p + 1 + (flatE a).length + (flatE b).length) c := by
  obtain ⟨hk, _⟩ := h.kids
  cases hk with
  | cons h1 hs => cases hs with
    | cons h2 hs => cases hs with
      | cons h3 _ => exact ⟨h1, h2, h3⟩
section
variable {fn : FuncId} {T : Nat → AV} {ds : List ADef} {ro : Option Nat} {k : List AItem} {Q : AV → AHeap → Prop} {dst : Option Nat} {os : List AO}
theorem sc_head {M : Mch} {l : List Nd} {g : Nat} (hM : ML M l) (hD : DoC M l g) {n p : Nat} {A : Nat → Blk} {s : St} {a : Ex} {w : Bytes} (h : MS M n A s) (hs : Sk s) (ht : Tree l (p + 1) a) (hg : s.left ≤ g)
    (hbad : (ev M.E g a s).2.err ≠ 0 → ∀ n' A', MS M n' A' (ev M.E g a s).2 → Keep M.b n A A' → n ≤ n' → RunOps Cx fn (putA T dst (valA zV)) ds ro os k ⟨n', A'⟩ Q)
    (hgood : (ev M.E g a s).2.err = 0 → ∀ n1 A1 T', MS M (n1 + 1) A1 (ev M.E g a s).2 → Keep M.b (n + 1) (upd A n zB) A1 → n + 1 ≤ n1 → A1 n1 = encB (ev M.E g a s).1 → T' 0 = .ptr M.b 22 0 0 → T' 1 = .str w → T' 6 = .ptr n 5 0 0 → T' 7 = .ptr n1 5 0 0 → T' 8 = .int .i64 ((p + 1 + (flatE a).length : Nat) : Int) →
      Run Cx 27 T' [] none [.code c27_14] ⟨n1 + 1, A1⟩ (fun r H1 => RunOps Cx fn (putA T dst r) ds ro os k H1 Q)) :
    RunCall Cx fn T ds ro 27 [.ptr M.b 22 0 0, .str w, .int .i64 (p : Int)] dst os k ⟨n, A⟩ Q := by
  refine call_body pure27 (noext _) body27 ?_
  have hb := h.lt
  have hll := hM.len
  have hlt := ht.lt
  have w1 : IntKind.i64.wrap ((p : Int) + 1) = ((p + 1 : Nat) : Int) := by rw [wr64 (by omega) (by omega)]; omega
  simp only [w1, r27_0, tt, bb, bc, ↓bd, Nat.reduceEqDiff, ↓reduceIte, reduceCtorEq]
  refine hD (h.up1 zB) hs ht hg ?_
  intro n1 A1 hm1 hkp1 hn1
  generalize hr : ev M.E g a s = r at *
  have hm2 := hm1.up1 (encB r.1)
  have hkp2 := hkp1.up1 (n' := n1) (by omega) (encB r.1)
  obtain ⟨o, hcell⟩ := hm1.errCell
  have e1 : (M.b = n1) = False := eq_false (by omega)
  have e2 : (n = n1) = False := eq_false (by omega)
  have hc := cell_at' hb hkp1
  have uu : ∀ (A : Nat → Blk) (c : Nat) (X Y : Blk), upd (upd A c X) c Y = upd A c Y := fun A c X Y => upd2 A c X Y
  by_cases he : r.2.err = 0
  · have z1 : (r.2.err != 0) = false := by simp [he]
    simp only [w1, e1, uu, hcell, z1, r27_0, r27_1.2.2.2.1, r27_1.2.2.2.2.1, r27_1.2.2.2.2.2.1, tt, bb, bc, ↓bd, Nat.reduceEqDiff, Nat.reduceAdd, ↓reduceIte, reduceCtorEq]
    refine behind_call hM hm2 ht ?_
    simp only [bb, ↓bd, ↓reduceIte]
    refine hgood he n1 _ _ hm2 hkp2 hn1 (by rw [upd_app, if_pos rfl]) ?_ ?_ ?_ ?_ ?_
    all_goals simp only [upd_app, enterT, List.getElem?_cons_zero, List.getElem?_cons_succ, Option.getD_some, Nat.reduceEqDiff, ↓reduceIte]
  · have z1 : (r.2.err != 0) = true := by simpa using he
    simp only [e1, e2, uu, hcell, hc, z1, r27_0, r27_1, res27, tt, bb, bc, ↓bd, Nat.reduceEqDiff, Nat.reduceAdd, ↓reduceIte, reduceCtorEq]
    exact end_call hb hm2 hkp2 (by omega) (hbad he)
theorem sc_let {M : Mch} {l : List Nd} {g : Nat} (hM : ML M l) (hD : DoC M l g) {n p : Nat} {A : Nat → Blk} {s : St} {a b : Ex} (h : MS M n A s) (hs : Sk s) (ht : Tree l p (.op2 29 a b)) (hg : s.left ≤ g)
    (hk : ∀ n' A', MS M n' A' (evT M.E (ev M.E g) g (.op2 29 a b) s).2 → Keep M.b n A A' → n ≤ n' → RunOps Cx fn (putA T dst (valA (evT M.E (ev M.E g) g (.op2 29 a b) s).1)) ds ro os k ⟨n', A'⟩ Q) :
    RunCall Cx fn T ds ro 27 [.ptr M.b 22 0 0, .str (wordM 29), .int .i64 (p : Int)] dst os k ⟨n, A⟩ Q := by
  obtain ⟨ta, tb⟩ := tree2 ht
  have hb := h.lt
  have ek : evT M.E (ev M.E g) g (.op2 29 a b) s = if (ev M.E g a s).2.err ≠ 0 then (zV, (ev M.E g a s).2) else ((ev M.E g b { (ev M.E g a s).2 with it := (ev M.E g a s).1 }).1, { (ev M.E g b { (ev M.E g a s).2 with it := (ev M.E g a s).1 }).2 with it := (ev M.E g a s).2.it }) := rfl
  rw [ek] at hk
  have hk1 := ev_k hM.env g a s ta.1 hs
  have hkp0 := ev_kp (E := M.E) g a s
  refine sc_head hM hD h hs ta hg ?_ ?_
  · intro he n' A' hm hkp hn
    rw [if_pos he] at hk
    exact hk n' A' hm hkp hn
  · intro he n1 A1 T' hm hkp hn hc1 t0 t1 t6 t7 t8
    rw [if_neg (by simpa using he)] at hk
    generalize hr : ev M.E g a s = r at *
    obtain ⟨o, hcell⟩ := hm.errCell
    have hc1' : A1 n1 = .cells 26 5 [[.int .i64 r.1.k, .int .i64 r.1.n, .str r.1.s, .int .i64 r.1.x, .int .i64 r.1.y]] := hc1
    have e1 : (n1 = n1 + 1) = False := eq_false (by omega)
    have e2 : (M.b = n1 + 1) = False := eq_false (by omega)
    have uu : ∀ (A : Nat → Blk) (c : Nat) (X Y : Blk), upd (upd A c X) c Y = upd A c Y := fun A c X Y => upd2 A c X Y
    have q1 : (wordM 29 == [105, 102]) = false := rfl
    have q2 : (wordM 29 == [101, 97, 99, 104]) = false := rfl
    have hm2 := hm.up1 (encB r.2.it)
    have hm3 := hm2.setI (o := o) (by rw [upd_app, if_neg (by omega)]; exact hcell) { r.2 with it := r.1 } rfl
    simp only [t0, t1, t7, t8, hcell, hc1', q1, q2, e1, e2, uu, xx, r27_1, r27_2, r27_5, r27_6, tt, bb, bc, ↓bd, Nat.reduceEqDiff, Nat.reduceAdd, Nat.reduceLeDiff, ↓reduceIte, reduceCtorEq]
    have hs3 : Sk { r.2 with it := r.1 } := ⟨hk1.1, hk1.2.i0, hk1.2.i1, hk1.2.out, hk1.2.outs⟩
    refine hD hm3 hs3 tb (Nat.le_trans hkp0.left hg) ?_
    intro n2 A2 hm4 hkp4 hn2
    generalize hr2 : ev M.E g b { r.2 with it := r.1 } = r2 at *
    have hkp2 := (hkp.up1 (n' := n1 + 1) (by omega) (encB r.2.it)).set (.cells 64 22 [[M.L, M.F, .str M.E.key, .int .i64 M.E.val.k, .int .i64 M.E.val.n, .str M.E.val.s, .int .i64 M.E.val.x, .int .i64 M.E.val.y, .int .i64 M.E.acc.k, .int .i64 M.E.acc.n, .str M.E.acc.s, .int .i64 M.E.acc.x, .int .i64 M.E.acc.y, .int .i64 r.2.i, .int .i64 r.1.k, .int .i64 r.1.n, .str r.1.s, .int .i64 r.1.x, .int .i64 r.1.y, o, .int .i64 (r.2.left : Int), .int .i64 r.2.err]])
    have hkp5 := hkp2.trans (by omega) hkp4
    have hc9 : A2 (n1 + 1) = .cells 26 5 [[.int .i64 r.2.it.k, .int .i64 r.2.it.n, .str r.2.it.s, .int .i64 r.2.it.x, .int .i64 r.2.it.y]] := cellP hkp4 (by rw [upd_app, if_neg (by omega), upd_app, if_pos rfl]) (by omega) (by omega) (by decide)
    obtain ⟨o2, hcell2⟩ := hm4.errCell
    have hcz := cell_at' hb hkp5
    have e3 : (n1 + 1 = n2) = False := eq_false (by omega)
    have e4 : (M.b = n2) = False := eq_false (by omega)
    have e5 : (n = n2) = False := eq_false (by omega)
    have e6 : (n2 = M.b) = False := eq_false (by omega)
    have e7 : (n = M.b) = False := eq_false (by omega)
    have hm5 := hm4.up1 (encB r2.1)
    have hm6 := hm5.setI (o := o2) (by rw [upd_app, if_neg (by omega)]; exact hcell2) { r2.2 with it := r.2.it } rfl
    simp only [t0, t6, hcell2, hc9, hcz, e3, e4, e5, e6, e7, uu, r27_6, r27_7, res27, tt, bb, bc, ↓bd, Nat.reduceEqDiff, Nat.reduceAdd, Nat.reduceLeDiff, ↓reduceIte, reduceCtorEq]
    have hkp6 := (hkp5.up1 (n' := n2) (by omega) (encB r2.1)).set (.cells 64 22 [[M.L, M.F, .str M.E.key, .int .i64 M.E.val.k, .int .i64 M.E.val.n, .str M.E.val.s, .int .i64 M.E.val.x, .int .i64 M.E.val.y, .int .i64 M.E.acc.k, .int .i64 M.E.acc.n, .str M.E.acc.s, .int .i64 M.E.acc.x, .int .i64 M.E.acc.y, .int .i64 r2.2.i, .int .i64 r.2.it.k, .int .i64 r.2.it.n, .str r.2.it.s, .int .i64 r.2.it.x, .int .i64 r.2.it.y, o2, .int .i64 (r2.2.left : Int), .int .i64 r2.2.err]])
    exact end_call hb hm6 hkp6 (by omega) hk
theorem sc_each {M : Mch} {l : List Nd} {g : Nat} (hM : ML M l) (hD : DoC M l g) {n p : Nat} {A : Nat → Blk} {s : St} {a b : Ex} (h : MS M n A s) (hs : Sk s) (ht : Tree l p (.op2 28 a b)) (hg : s.left ≤ g)
    (hk : ∀ n' A', MS M n' A' (evT M.E (ev M.E g) g (.op2 28 a b) s).2 → Keep M.b n A A' → n ≤ n' → RunOps Cx fn (putA T dst (valA (evT M.E (ev M.E g) g (.op2 28 a b) s).1)) ds ro os k ⟨n', A'⟩ Q) :
    RunCall Cx fn T ds ro 27 [.ptr M.b 22 0 0, .str (wordM 28), .int .i64 (p : Int)] dst os k ⟨n, A⟩ Q := by
  obtain ⟨ta, tb⟩ := tree2 ht
  have hb := h.lt
  have ek : evT M.E (ev M.E g) g (.op2 28 a b) s = if (ev M.E g a s).2.err ≠ 0 then (zV, (ev M.E g a s).2) else eachR (ev M.E g b) (g + 1) (ev M.E g a s).1 (ev M.E g a s).2 := rfl
  rw [ek] at hk
  have hk1 := ev_k hM.env g a s ta.1 hs
  have hkp0 := ev_kp (E := M.E) g a s
  refine sc_head hM hD h hs ta hg ?_ ?_
  · intro he n' A' hm hkp hn
    rw [if_pos he] at hk
    exact hk n' A' hm hkp hn
  · intro he n1 A1 T' hm hkp hn hc1 t0 t1 t6 t7 t8
    rw [if_neg (by simpa using he)] at hk
    generalize hr : ev M.E g a s = r at *
    have hc1' : A1 n1 = .cells 26 5 [[.int .i64 r.1.k, .int .i64 r.1.n, .str r.1.s, .int .i64 r.1.x, .int .i64 r.1.y]] := hc1
    have q1 : (wordM 28 == [105, 102]) = false := rfl
    have q2 : (wordM 28 == [101, 97, 99, 104]) = true := rfl
    simp only [t0, t1, t7, t8, hc1', q1, q2, r27_1, r27_2, r27_5, tt, bb, bc, ↓bd, Nat.reduceEqDiff, Nat.reduceAdd, ↓reduceIte, reduceCtorEq]
    refine each_call hM hD hm hk1.2 hk1.1 tb (Nat.le_trans hkp0.left hg) he ?_
    intro n2 A2 hm4 hkp4 hn2
    have hkp5 := hkp.trans (by omega) hkp4
    have hcz := cell_at' hb hkp5
    simp only [t6, hcz, r27_5, res27, tt, bb, bc, ↓bd, Nat.reduceEqDiff, Nat.reduceAdd, ↓reduceIte]
    exact end_call hb hm4 hkp5 (by omega) hk
theorem sc_if {M : Mch} {l : List Nd} {g : Nat} (hM : ML M l) (hD : DoC M l g) {n p : Nat} {A : Nat → Blk} {s : St} {a b c : Ex} (h : MS M n A s) (hs : Sk s) (ht : Tree l p (.op3 11 a b c)) (hg : s.left ≤ g)
    (hk : ∀ n' A', MS M n' A' (evT M.E (ev M.E g) g (.op3 11 a b c) s).2 → Keep M.b n A A' → n ≤ n' → RunOps Cx fn (putA T dst (valA (evT M.E (ev M.E g) g (.op3 11 a b c) s).1)) ds ro os k ⟨n', A'⟩ Q) :
    RunCall Cx fn T ds ro 27 [.ptr M.b 22 0 0, .str (wordM 11), .int .i64 (p : Int)] dst os k ⟨n, A⟩ Q := by
  obtain ⟨ta, tb, tc⟩ := tree3 ht
  have hb := h.lt
  have ek : evT M.E (ev M.E g) g (.op3 11 a b c) s = if (ev M.E g a s).2.err ≠ 0 then (zV, (ev M.E g a s).2) else if (ev M.E g a s).1.k ≠ 0 then (zV, { (ev M.E g a s).2 with err := 13 }) else if (ev M.E g a s).1.n ≠ 0 then ev M.E g b (ev M.E g a s).2 else ev M.E g c (ev M.E g a s).2 := rfl
  rw [ek] at hk
  have hk1 := ev_k hM.env g a s ta.1 hs
  have hkp0 := ev_kp (E := M.E) g a s
  refine sc_head hM hD h hs ta hg ?_ ?_
  · intro he n' A' hm hkp hn
    rw [if_pos he] at hk
    exact hk n' A' hm hkp hn
  · intro he n1 A1 T' hm hkp hn hc1 t0 t1 t6 t7 t8
    rw [if_neg (by simpa using he)] at hk
    generalize hr : ev M.E g a s = r at *
    have hc1' : A1 n1 = .cells 26 5 [[.int .i64 r.1.k, .int .i64 r.1.n, .str r.1.s, .int .i64 r.1.x, .int .i64 r.1.y]] := hc1
    have q1 : (wordM 11 == [105, 102]) = true := rfl
    have fin : ∀ {v : Vl} {s' : St} (hk : ∀ n' A', MS M n' A' s' → Keep M.b n A A' → n ≤ n' → RunOps Cx fn (putA T dst (valA v)) ds ro os k ⟨n', A'⟩ Q), ∀ n2 A2, MS M n2 A2 s' → Keep M.b (n1 + 1) A1 A2 → n1 + 1 ≤ n2 → A2 n = .cells 26 5 [[.int .i64 0, .int .i64 0, .str [], .int .i64 0, .int .i64 0]] ∧ ∀ X, RunOps Cx fn (putA T dst (valA v)) ds ro os k ⟨n2, upd A2 n X⟩ Q := by
      intro v s' hk n2 A2 hm4 hkp4 hn2
      have hkp5 := hkp.trans (by omega) hkp4
      exact ⟨cell_at' hb hkp5, fun X => end_call hb hm4 hkp5 (by omega) hk⟩
    by_cases k0 : r.1.k = 0
    · have z1 : (r.1.k != 0) = false := by simp [k0]
      rw [if_neg (by simp [k0])] at hk
      by_cases n0 : r.1.n = 0
      · have z2 : (r.1.n != 0) = false := by simp [n0]
        rw [if_neg (by simp [n0])] at hk
        simp only [t0, t1, t7, t8, hc1', q1, z1, z2, r27_1, r27_2, r27_3, r27_4, tt, bb, bc, ↓bd, Nat.reduceEqDiff, ↓reduceIte, reduceCtorEq]
        refine behind_call hM hm tb ?_
        simp only [bb, bc, ↓bd, Nat.reduceEqDiff, ↓reduceIte]
        refine hD hm hk1.2 tc (Nat.le_trans hkp0.left hg) ?_
        intro n2 A2 hm4 hkp4 hn2
        obtain ⟨hcz, hx⟩ := fin hk n2 A2 hm4 hkp4 hn2
        simp only [t6, hcz, r27_4, res27, tt, bb, bc, ↓bd, Nat.reduceEqDiff, Nat.reduceAdd, ↓reduceIte]
        exact hx _
      · have z2 : (r.1.n != 0) = true := by simpa using n0
        rw [if_pos n0] at hk
        simp only [t0, t1, t7, t8, hc1', q1, z1, z2, r27_1, r27_2, r27_3, r27_4, tt, bb, bc, ↓bd, Nat.reduceEqDiff, ↓reduceIte, reduceCtorEq]
        refine hD hm hk1.2 tb (Nat.le_trans hkp0.left hg) ?_
        intro n2 A2 hm4 hkp4 hn2
        obtain ⟨hcz, hx⟩ := fin hk n2 A2 hm4 hkp4 hn2
        simp only [t6, hcz, r27_4, res27, tt, bb, bc, ↓bd, Nat.reduceEqDiff, Nat.reduceAdd, ↓reduceIte]
        exact hx _
    · have z1 : (r.1.k != 0) = true := by simpa using k0
      rw [if_pos k0] at hk
      simp only [t0, t1, t7, hc1', q1, z1, r27_1, r27_2, r27_3, tt, bb, bc, ↓bd, Nat.reduceEqDiff, ↓reduceIte, reduceCtorEq]
      refine fail_call hm ?_
      intro n2 A2 hm4 hkp4 hn2
      rw [failS_z he] at hm4
      obtain ⟨hcz, hx⟩ := fin hk n2 A2 hm4 hkp4 hn2
      simp only [t6, hcz, r27_3, res27, tt, bb, bc, ↓bd, Nat.reduceEqDiff, Nat.reduceAdd, ↓reduceIte]
      exact hx _
end
end Go.Proofs.Ytckhmpcmlochpaa.G

namespace Go.Proofs.Ytckhmpcmlochpaa.G
open Go.BX
set_option linter.unusedSimpArgs false
set_option linter.unusedVariables false
def seqR (f : Ex → St → Vl × St) (op : Int) : List Ex → List Vl → St → Vl × St
  | [], vs, s => finS (apR op vs s.out.length) s
  | t :: ts, vs, s => if (f t s).2.err ≠ 0 then (zV, (f t s).2) else seqR f op ts (vs ++ [(f t s).1]) (f t s).2
theorem evT_seq {E : Env} {f : Ex → St → Vl × St} {g : Nat} {t : Ex} {s : St} (hw : WF t) (h0 : isOp (opE t) = true) (h : opE t ≠ 11 ∧ opE t ≠ 28 ∧ opE t ≠ 29) : evT E f g t s = seqR f (opE t) (kidsE t) [] s := by
  cases t with
  | lit v => cases h0
  | nam n => cases h0
  | op1 op a => rfl
  | op2 op a b =>
    have h' : op ≠ 11 ∧ op ≠ 28 ∧ op ≠ 29 := h
    show (if (f a s).2.err ≠ 0 then _ else if op = 29 then _ else if op = 28 then _ else _) = if (f a s).2.err ≠ 0 then _ else _
    rw [if_neg h'.2.2, if_neg h'.2.1]
    rfl
  | op3 op a b c =>
    have h' : op ≠ 11 ∧ op ≠ 28 ∧ op ≠ 29 := h
    show (if (f a s).2.err ≠ 0 then _ else if op = 11 then _ else _) = if (f a s).2.err ≠ 0 then _ else _
    rw [if_neg h'.1]
    rfl
theorem word_cmp {op : Int} (h : isOp op = true) : (wordM op == []) = false ∧ (wordM op == [105, 102]) = decide (op = 11) ∧ (wordM op == [101, 97, 99, 104]) = decide (op = 28) ∧ (wordM op == [108, 101, 116]) = decide (op = 29) ∧ (op == 0) = false := by
  have hb := op2_le h
  have key : ∀ i : Fin 28, (wordM ((i.val : Int) + 2) == []) = false ∧ (wordM ((i.val : Int) + 2) == [105, 102]) = decide (((i.val : Int) + 2) = 11) ∧ (wordM ((i.val : Int) + 2) == [101, 97, 99, 104]) = decide (((i.val : Int) + 2) = 28) ∧ (wordM ((i.val : Int) + 2) == [108, 101, 116]) = decide (((i.val : Int) + 2) = 29) ∧ (((i.val : Int) + 2) == 0) = false := by decide
  have := key ⟨(op - 2).toNat, by omega⟩
  simp only at this
  rw [show (((op - 2).toNat : Nat) : Int) + 2 = op by omega] at this
  exact this
theorem vsl : isSl Cx 77 26 := ⟨_, TT_77, rfl⟩
theorem vti : ∃ ti, Cx.TT 26 = some ti ∧ ti.size = 5 ∧ ti.bytes = 48 := ⟨_, TT_26, rfl, rfl⟩
def AL (M : Mch) (m : Nat) (d : AV) (n : Nat) (A : Nat → Blk) (vs : List Vl) : Prop := (d = .nilS ∧ vs = []) ∨ ∃ g, d = .slc g 5 0 vs.length ∧ m ≤ g ∧ AS M g n A vs
theorem AL.keep {M : Mch} {m : Nat} {d : AV} {n n' : Nat} {A A' : Nat → Blk} {vs : List Vl} (h : AL M m d n A vs) (hn : n ≤ n') (hk : Keep M.b n A A') : AL M m d n' A' vs := by
  rcases h with h | ⟨g, h1, h2, h3⟩
  · exact .inl h
  · exact .inr ⟨g, h1, h2, h3.keep hn hk⟩
theorem AL.app1 {M : Mch} {m : Nat} {d : AV} {n : Nat} {A : Nat → Blk} {vs : List Vl} (h : AL M m d n A vs) (hmn : m ≤ n) (hbm : M.b < m) (v : Vl) (hl : vs.length ≤ 3) :
    ∃ A', builtinM Cx ⟨n + 1, upd A n (encB v)⟩ .append [77, 77] [d, .slc n 5 0 1] = some (.slc (n + 1) 5 0 (vs.length + 1), ⟨n + 1 + 1, A'⟩) ∧
      AL M m (.slc (n + 1) 5 0 (vs.length + 1)) (n + 1 + 1) A' (vs ++ [v]) ∧ (∀ c, c < n → (c < m ∨ isPr (A c)) → A' c = A c) := by
  rcases h with ⟨rfl, rfl⟩ | ⟨g, rfl, hg, h3⟩
  · refine ⟨_, app_nil vsl vti (by decide), .inr ⟨n + 1, by simp, by omega, by omega, by omega, by rw [upd_app, if_pos rfl]; rfl⟩, fun c hc _ => ?_⟩
    rw [upd_app, if_neg (by omega), upd_app, if_neg (by omega)]
  · have g1 := h3.lt
    have g2 := h3.cell
    have e := app_row (C := Cx) (g := g) (n := n) (A := A) (es := vs.map encV) (row := [.int .i64 v.k, .int .i64 v.n, .str v.s, .int .i64 v.x, .int .i64 v.y]) vsl vti g2 (by omega) (by rw [List.length_map]; unfold most; omega) (by rw [List.length_map]; unfold most; omega)
    rw [List.length_map] at e
    refine ⟨_, e, .inr ⟨n + 1, by simp, by omega, by omega, by omega, by rw [upd_app, if_pos rfl, List.map_append]; rfl⟩, fun c hc hp => ?_⟩
    have : c ≠ g := by
      rintro rfl
      rcases hp with hp | hp
      · omega
      · rw [g2] at hp; exact not26 hp
    rw [upd_app, if_neg (by omega), upd_app, if_neg this, upd_app, if_neg (by omega)]
section
variable {fn : FuncId} {T : Nat → AV} {ds : List ADef} {ro : Option Nat} {k : List AItem} {Q : AV → AHeap → Prop} {dst : Option Nat} {os : List AO}
theorem dk_all {M : Mch} {l : List Nd} {g : Nat} (hM : ML M l) (hD : DoC M l g) {n : Nat} {A : Nat → Blk} (hb : M.b < n) {op : Int} (hop : isOp op = true) (hop2 : op ≠ 11 ∧ op ≠ 28 ∧ op ≠ 29) {q : Nat} :
    ∀ (ts : List Ex) (p : Nat) (vs : List Vl) (s : St) (T' : Nat → AV) (n' : Nat) (A' : Nat → Blk) (d : AV), Kids l p ts q → MS M n' A' s → Sk s → s.err = 0 → s.left ≤ g → AL M (n + 1) d n' A' vs → (∀ v, v ∈ vs → okV v = true) → vs.length + ts.length = partsM op → Keep M.b (n + 1) (upd A n zB) A' → n + 1 ≤ n' →
      T' 0 = .ptr M.b 22 0 0 → T' 4 = .ptr n 5 0 0 → T' 6 = .str (wordM op) → T' 7 = d → T' 8 = .int .i64 (p : Int) → T' 83 = .int .i64 (partsM op : Int) → T' 84 = .int .i64 (vs.length : Int) →
      (∀ n' A', MS M n' A' (seqR (ev M.E g) op ts vs s).2 → Keep M.b n A A' → n ≤ n' → RunOps Cx fn (putA T dst (valA (seqR (ev M.E g) op ts vs s).1)) ds ro os k ⟨n', A'⟩ Q) →
      Run Cx 18 T' [] none [.inLoop c18_44, .inBlock 1, .code c18_64] ⟨n', A'⟩ (fun r H1 => RunOps Cx fn (putA T dst r) ds ro os k H1 Q)
  | [], p, vs, s, T', n', A', d, hK, hm, hs, he, hg, ho, hok, hl, hkp, hn, t0, t4, t6, t7, t8, t83, t84, hk => by
    rw [run_inLoop]
    rw [List.length_nil, Nat.add_zero] at hl
    have c0 : ¬ (vs.length : Int) < (partsM op : Int) := by omega
    have hpp := parts_pos hop
    rcases ho with ⟨h1, h2⟩ | ⟨g', h1, h2, h3⟩
    · subst h2; simp at hl; omega
    · subst h1
      simp only [t0, t6, t83, t84, c0, xx, r18_5, r18_6, r18_8, bb, bc, ↓bd, Nat.reduceEqDiff, ↓reduceIte, reduceCtorEq]
      refine does_call hop hop2 ?_
      simp only [t6, t7, List.cons_append, List.nil_append, List.append_nil, bb, bc, ↓bd, Nat.reduceEqDiff, ↓reduceIte]
      refine apply_call hm he h3 hok hs.out hop hop2 hl.symm ?_
      intro n2 A2 hm2 hkp2 hn2
      have hkp3 := hkp.trans hn hkp2
      have hcz := cell_at' hb hkp3
      simp only [t4, hcz, r18_8, res18, tt, bb, bc, ↓bd, Nat.reduceEqDiff, Nat.reduceAdd, ↓reduceIte]
      exact end_call hb hm2 hkp3 (by omega) hk
  | t :: ts, p, vs, s, T', n', A', d, hK, hm, hs, he, hg, ho, hok, hl, hkp, hn, t0, t4, t6, t7, t8, t83, t84, hk => by
    rw [run_inLoop]
    rw [List.length_cons] at hl
    cases hK with
    | cons ht hK =>
      have hpp := parts_pos hop
      have c0 : (vs.length : Int) < (partsM op : Int) := by omega
      simp only [t0, t7, t8, t83, t84, c0, r18_5, r18_6, bb, bc, ↓bd, Nat.reduceEqDiff, ↓reduceIte, reduceCtorEq]
      refine hD hm hs ht hg ?_
      intro n2 A2 hm2 hkp2 hn2
      have hk2 := ev_k hM.env g t s ht.1 hs
      have hkp0 := ev_kp (E := M.E) g t s
      have ek : seqR (ev M.E g) op (t :: ts) vs s = if (ev M.E g t s).2.err ≠ 0 then (zV, (ev M.E g t s).2) else seqR (ev M.E g) op ts (vs ++ [(ev M.E g t s).1]) (ev M.E g t s).2 := rfl
      rw [ek] at hk
      generalize hr : ev M.E g t s = r at *
      obtain ⟨A3, happ, ho3, hkeep⟩ := (ho.keep hn2 hkp2).app1 (by omega) (by omega) r.1 (by omega)
      have hm3 : MS M (n2 + 1 + 1) A3 r.2 := hm2.keep (by omega) fun c hc hp => hkeep c hc (by
        rcases hp with rfl | hp
        · left; omega
        · right; exact hp)
      have hkp3 : Keep M.b (n + 1) (upd A n zB) A3 := by
        intro c hc hcb hcp
        have := hkp.trans hn hkp2
        rw [← this c hc hcb hcp]
        exact hkeep c (by omega) (.inl hc)
      obtain ⟨o, hcell⟩ := hm3.errCell
      have hcz := cell_at' hb hkp3
      by_cases hre : r.2.err = 0
      · rw [if_neg (by simpa using hre)] at hk
        have z1 : (r.2.err != 0) = false := by simp [hre]
        have w1 : IntKind.i64.wrap ((vs.length : Int) + 1) = ((vs.length + 1 : Nat) : Int) := by rw [wr64 (by omega) (by omega)]; omega
        simp only [t0, t8, happ, hcell, z1, runVH_some, r18_6, r18_7, tt, bb, bc, ↓bd, Nat.reduceEqDiff, Nat.reduceAdd, Nat.reduceMul, Nat.reduceLeDiff, ↓reduceIte, reduceCtorEq, List.reduceReplicate]
        refine behind_call hM hm3 ht ?_
        simp only [t84, w1, xx, r18_7, bb, ↓bd, Nat.reduceEqDiff, ↓reduceIte]
        have el : (vs ++ [r.1]).length = vs.length + 1 := by simp
        refine dk_all hM hD hb hop hop2 ts (p + (flatE t).length) (vs ++ [r.1]) r.2 _ _ A3 (.slc (n2 + 1) 5 0 (vs.length + 1)) hK hm3 hk2.2 hre (Nat.le_trans hkp0.left hg) ho3 ?_ (by rw [el]; omega) hkp3 (by omega) ?_ ?_ ?_ ?_ ?_ ?_ ?_ hk
        · intro v hv
          rcases List.mem_append.mp hv with hv | hv
          · exact hok v hv
          · rw [List.mem_singleton.mp hv]; exact hk2.1
        all_goals simp only [upd_app, t0, t4, t6, t83, el, Nat.reduceEqDiff, ↓reduceIte]
      · rw [if_pos hre] at hk
        have z1 : (r.2.err != 0) = true := by simpa using hre
        simp only [t0, t4, happ, hcell, hcz, z1, runVH_some, r18_6, r18_7, res18, tt, bb, bc, ↓bd, Nat.reduceEqDiff, Nat.reduceAdd, Nat.reduceMul, Nat.reduceLeDiff, ↓reduceIte, reduceCtorEq, List.reduceReplicate]
        exact end_call hb hm3 hkp3 (by omega) hk
end
end Go.Proofs.Ytckhmpcmlochpaa.G

namespace Go.Proofs.Ytckhmpcmlochpaa.G
open Go.BX
set_option linter.unusedSimpArgs false
set_option linter.unusedVariables false
section
variable {fn : FuncId} {T : Nat → AV} {ds : List ADef} {ro : Option Nat} {k : List AItem} {Q : AV → AHeap → Prop} {dst : Option Nat} {os : List AO}
theorem do_rest {M : Mch} {l : List Nd} {g : Nat} (hM : ML M l) (hD : DoC M l g) {n p : Nat} {A A2 : Nat → Blk} {s : St} {t : Ex} {T' : Nat → AV} (hb : M.b < n) (hm : MS M (n + 1 + 1) A2 s) (hs : Sk s) (he : s.err = 0) (hg : s.left ≤ g) (ht : Tree l p t) (hkp : Keep M.b (n + 1) (upd A n zB) A2)
    (hnd : A2 (n + 1) = .cells 56 6 [[.int .i64 (opE t), .int .i64 (valE t).k, .int .i64 (valE t).n, .str (valE t).s, .int .i64 (valE t).x, .int .i64 (valE t).y]])
    (t0 : T' 0 = .ptr M.b 22 0 0) (t1 : T' 1 = .int .i64 (p : Int)) (t4 : T' 4 = .ptr n 5 0 0) (t5 : T' 5 = .ptr (n + 1) 6 0 0) (t6 : T' 6 = .str (wordM (opE t)))
    (hk : ∀ n' A', MS M n' A' (evT M.E (ev M.E g) g t s).2 → Keep M.b n A A' → n ≤ n' → RunOps Cx fn (putA T dst (valA (evT M.E (ev M.E g) g t s).1)) ds ro os k ⟨n', A'⟩ Q) :
    Run Cx 18 T' [] none [.code c18_14] ⟨n + 1 + 1, A2⟩ (fun r H1 => RunOps Cx fn (putA T dst r) ds ro os k H1 Q) := by
  have hcz := cell_at' hb hkp
  have hll := hM.len
  have hlt := ht.lt
  have fin : ∀ {v : Vl} {s' : St} (hk : ∀ n' A', MS M n' A' s' → Keep M.b n A A' → n ≤ n' → RunOps Cx fn (putA T dst (valA v)) ds ro os k ⟨n', A'⟩ Q), ∀ n2 A3, MS M n2 A3 s' → Keep M.b (n + 1 + 1) A2 A3 → n + 1 + 1 ≤ n2 → A3 n = .cells 26 5 [[.int .i64 0, .int .i64 0, .str [], .int .i64 0, .int .i64 0]] ∧ ∀ X, RunOps Cx fn (putA T dst (valA v)) ds ro os k ⟨n2, upd A3 n X⟩ Q := by
    intro v s' hk n2 A3 hm4 hkp4 hn2
    have hkp5 := hkp.trans (by omega) hkp4
    exact ⟨cell_at' hb hkp5, fun X => end_call hb hm4 hkp5 (by omega) hk⟩
  have scopd : ∀ (hio : isOp (opE t) = true) (h : opE t = 11 ∨ opE t = 28 ∨ opE t = 29), (∀ {fn : FuncId} {T1 : Nat → AV} {k : List AItem} {Q : AV → AHeap → Prop} {dst : Option Nat} {os : List AO}, (∀ n' A', MS M n' A' (evT M.E (ev M.E g) g t s).2 → Keep M.b (n + 1 + 1) A2 A' → n + 1 + 1 ≤ n' → RunOps Cx fn (putA T1 dst (valA (evT M.E (ev M.E g) g t s).1)) [] none os k ⟨n', A'⟩ Q) → RunCall Cx fn T1 [] none 27 [.ptr M.b 22 0 0, .str (wordM (opE t)), .int .i64 (p : Int)] dst os k ⟨n + 1 + 1, A2⟩ Q) → Run Cx 18 T' [] none [.code c18_14] ⟨n + 1 + 1, A2⟩ (fun r H1 => RunOps Cx fn (putA T dst r) ds ro os k H1 Q) := by
    intro hio h hsc
    obtain ⟨q1, q2, q3, q4, q5⟩ := word_cmp hio
    rcases h with h | h | h
    · have d1 : decide (opE t = 11) = true := by simp [h]
      rw [d1] at q2
      simp only [t0, t1, t5, t6, hnd, q1, q2, q5, r18_1, r18_2, r18_3, r18_4, tt, bb, bc, ↓bd, Nat.reduceEqDiff, ↓reduceIte, reduceCtorEq]
      refine hsc ?_
      intro n2 A3 hm4 hkp4 hn2
      obtain ⟨hc, hx⟩ := fin hk n2 A3 hm4 hkp4 hn2
      simp only [t4, hc, r18_4, res18, tt, bb, bc, ↓bd, Nat.reduceEqDiff, Nat.reduceAdd, ↓reduceIte]
      exact hx _
    · have d1 : decide (opE t = 11) = false := by simp [h]
      have d2 : decide (opE t = 28) = true := by simp [h]
      rw [d1] at q2
      rw [d2] at q3
      simp only [t0, t1, t5, t6, hnd, q1, q2, q3, q5, r18_1, r18_2, r18_3, r18_4, tt, bb, bc, ↓bd, Nat.reduceEqDiff, ↓reduceIte, reduceCtorEq]
      refine hsc ?_
      intro n2 A3 hm4 hkp4 hn2
      obtain ⟨hc, hx⟩ := fin hk n2 A3 hm4 hkp4 hn2
      simp only [t4, hc, r18_4, res18, tt, bb, bc, ↓bd, Nat.reduceEqDiff, Nat.reduceAdd, ↓reduceIte]
      exact hx _
    · have d1 : decide (opE t = 11) = false := by simp [h]
      have d2 : decide (opE t = 28) = false := by simp [h]
      have d3 : decide (opE t = 29) = true := by simp [h]
      rw [d1] at q2
      rw [d2] at q3
      rw [d3] at q4
      simp only [t0, t1, t5, t6, hnd, q1, q2, q3, q4, q5, r18_1, r18_2, r18_3, r18_4, tt, bb, bc, ↓bd, Nat.reduceEqDiff, ↓reduceIte, reduceCtorEq]
      refine hsc ?_
      intro n2 A3 hm4 hkp4 hn2
      obtain ⟨hc, hx⟩ := fin hk n2 A3 hm4 hkp4 hn2
      simp only [t4, hc, r18_4, res18, tt, bb, bc, ↓bd, Nat.reduceEqDiff, Nat.reduceAdd, ↓reduceIte]
      exact hx _
  have plain : ∀ (hio : isOp (opE t) = true) (h : opE t ≠ 11 ∧ opE t ≠ 28 ∧ opE t ≠ 29), Run Cx 18 T' [] none [.code c18_14] ⟨n + 1 + 1, A2⟩ (fun r H1 => RunOps Cx fn (putA T dst r) ds ro os k H1 Q) := by
    intro hio h
    obtain ⟨q1, q2, q3, q4, q5⟩ := word_cmp hio
    rw [evT_seq ht.1 hio h] at hk
    have d1 : decide (opE t = 11) = false := by simp [h.1]
    have d2 : decide (opE t = 28) = false := by simp [h.2.1]
    have d3 : decide (opE t = 29) = false := by simp [h.2.2]
    rw [d1] at q2
    rw [d2] at q3
    rw [d3] at q4
    have w1 : IntKind.i64.wrap ((p : Int) + 1) = ((p + 1 : Nat) : Int) := by rw [wr64 (by omega) (by omega)]; omega
    have p0 : (0 : Int) ≤ (p : Int) := by omega
    have p2 : (p : Int) < ((rowsF l).length : Int) := by rw [rowsF_len]; omega
    have hrow : (rowsF l)[p]? = some [.str (wordM (opE t)), .int .i64 (partsM (opE t) : Int), .int .i64 ((p + (flatE t).length : Nat) : Int)] := rowsF_get ht
    obtain ⟨o, hcell⟩ := hm.errCell
    have hF := hM.F
    simp only [t0, t1, t5, t6, hnd, hcell, hF, p0, p2, hrow, q1, q2, q3, q4, q5, w1, Int.toNat_natCast, xx, r18_1, r18_2, r18_3, r18_4, r18_5, tt, bb, ↓bd, Nat.reduceEqDiff, ↓reduceIte, reduceCtorEq]
    refine dk_all hM hD hb hio h (kidsE t) (p + 1) [] s _ _ A2 .nilS ht.kids.1 hm hs he hg (.inl ⟨rfl, rfl⟩) (fun v hv => by cases hv) (by rw [List.length_nil, Nat.zero_add, (kids_len ht.1).1]) hkp (by omega) ?_ ?_ ?_ ?_ ?_ ?_ ?_ hk
    all_goals simp only [upd_app, t0, t4, t6, Nat.reduceEqDiff, ↓reduceIte]
    rfl
  cases t with
  | lit v =>
    have z0 : ((0 : Int) == 0) = true := rfl
    have hnd' : A2 (n + 1) = .cells 56 6 [[.int .i64 0, .int .i64 v.k, .int .i64 v.n, .str v.s, .int .i64 v.x, .int .i64 v.y]] := hnd
    simp only [t4, t5, hnd', hcz, z0, r18_1, r18_2, res18, tt, bb, bc, ↓bd, Nat.reduceEqDiff, Nat.reduceAdd, ↓reduceIte]
    exact end_call hb hm hkp (by omega) hk
  | nam j =>
    have z0 : ((1 : Int) == 0) = false := rfl
    have z1 : (wordM (opE (.nam j)) == []) = true := rfl
    have hj : 0 ≤ j ∧ j < 5 := ht.1
    have hnd' : A2 (n + 1) = .cells 56 6 [[.int .i64 1, .int .i64 0, .int .i64 j, .str [], .int .i64 0, .int .i64 0]] := hnd
    simp only [t0, t5, t6, hnd', z0, z1, r18_1, r18_2, r18_3, tt, bb, bc, ↓bd, Nat.reduceEqDiff, Nat.reduceAdd, ↓reduceIte, reduceCtorEq]
    refine named_call hm hj ?_
    intro n2 A3 hm4 hkp4 hn2
    obtain ⟨hc, hx⟩ := fin hk n2 A3 hm4 hkp4 hn2
    simp only [t4, hc, r18_3, res18, tt, bb, bc, ↓bd, Nat.reduceEqDiff, Nat.reduceAdd, ↓reduceIte]
    exact hx _
  | op1 op a =>
    have hio : isOp op = true := ht.1.1.1
    have hpp : partsM op = 1 := ht.1.1.2
    refine plain hio ⟨?_, ?_, ?_⟩ <;> · intro e; rw [show op = _ from e] at hpp; cases hpp
  | op2 op a b =>
    have hio : isOp op = true := ht.1.1.1
    have hpp : partsM op = 2 := ht.1.1.2
    by_cases h28 : op = 28
    · subst h28
      exact scopd hio (.inr (.inl rfl)) fun hk => sc_each hM hD hm hs ht hg hk
    · by_cases h29 : op = 29
      · subst h29
        exact scopd hio (.inr (.inr rfl)) fun hk => sc_let hM hD hm hs ht hg hk
      · exact plain hio ⟨fun e => (by rw [show op = _ from e] at hpp; cases hpp), h28, h29⟩
  | op3 op a b c =>
    have hio : isOp op = true := ht.1.1.1
    have hpp : partsM op = 3 := ht.1.1.2
    by_cases h11 : op = 11
    · subst h11
      exact scopd hio (.inl rfl) fun hk => sc_if hM hD hm hs ht hg hk
    · refine plain hio ⟨h11, ?_, ?_⟩ <;> · intro e; rw [show op = _ from e] at hpp; cases hpp
theorem do_call {M : Mch} {l : List Nd} {g g' : Nat} (hM : ML M l) (hD : ∀ g1, g = g1 + 1 → DoC M l g1) (hgb : g ≤ 1000000) {n p : Nat} {A : Nat → Blk} {s : St} {t : Ex} (h : MS M n A s) (hs : Sk s) (ht : Tree l p t) (hg : s.left ≤ g)
    (hk : ∀ n' A', MS M n' A' (ev M.E g t s).2 → Keep M.b n A A' → n ≤ n' → RunOps Cx fn (putA T dst (valA (ev M.E g t s).1)) ds ro os k ⟨n', A'⟩ Q) :
    RunCall Cx fn T ds ro 18 [.ptr M.b 22 0 0, .int .i64 (p : Int)] dst os k ⟨n, A⟩ Q := by
  refine call_body pure18 (noext _) body18 ?_
  have hb := h.lt
  have hll := hM.len
  have hlt := ht.lt
  obtain ⟨o, hcell⟩ := h.errCell
  have e1 : (M.b = n) = False := eq_false (by omega)
  have e2 : (n = M.b) = False := eq_false (by omega)
  have h2 := h.up1 zB
  have bad : ∀ (hr : ev M.E g t s = (zV, failS 15 s)), ∀ n' A', MS M n' A' (failS 15 s) → Keep M.b (n + 1) (upd A n zB) A' → n + 1 ≤ n' → A' n = .cells 26 5 [[.int .i64 0, .int .i64 0, .str [], .int .i64 0, .int .i64 0]] ∧ ∀ X, RunOps Cx fn (putA T dst (valA zV)) ds ro os k ⟨n', upd A' n X⟩ Q := by
    intro hr n' A' hm hkp hn
    rw [hr] at hk
    exact ⟨cell_at' hb hkp, fun X => end_call hb hm hkp hn hk⟩
  by_cases he : s.err = 0
  · have z1 : (s.err != 0) = false := by simp [he]
    by_cases h0 : s.left = 0
    · have z2 : ((s.left : Int) == 0) = true := by simp [h0]
      simp only [hcell, z1, z2, e1, r18_0, tt, bb, bc, ↓bd, Nat.reduceEqDiff, ↓reduceIte, reduceCtorEq]
      refine fail_call h2 ?_
      intro n' A' hm hkp hn
      obtain ⟨hc, hx⟩ := bad (by rw [ev_zero he h0, failS_z he]) n' A' hm hkp hn
      simp only [hc, r18_1, res18, tt, bb, bc, ↓bd, Nat.reduceEqDiff, Nat.reduceAdd, ↓reduceIte]
      exact hx _
    · obtain ⟨g1, rfl⟩ : ∃ g1, g = g1 + 1 := ⟨g - 1, by omega⟩
      have hL := hM.L
      have hF := hM.F
      obtain ⟨hkids, hnd⟩ := ht.kids
      have g0 : (l.map encN)[p]? = some [.int .i64 (opE t), .int .i64 (valE t).k, .int .i64 (valE t).n, .str (valE t).s, .int .i64 (valE t).x, .int .i64 (valE t).y] := by rw [List.getElem?_map, hnd]; rfl
      have p0 : (0 : Int) ≤ (p : Int) := by omega
      have p1 : (p : Int) < ((l.map encN).length : Int) := by rw [List.length_map]; omega
      have p2 : (p : Int) < ((rowsF l).length : Int) := by rw [rowsF_len]; omega
      have hrow : (rowsF l)[p]? = some [.str (wordM (opE t)), .int .i64 (partsM (opE t) : Int), .int .i64 ((p + (flatE t).length : Nat) : Int)] := rowsF_get ht
      have z2 : ((s.left : Int) == 0) = false := by simp; omega
      have w1 : IntKind.i64.wrap ((s.left : Int) - 1) = ((s.left - 1 : Nat) : Int) := by rw [wr64 (by omega) (by omega)]; omega
      have uu : ∀ (A : Nat → Blk) (c : Nat) (X Y : Blk), upd (upd A c X) c Y = upd A c Y := fun A c X Y => upd2 A c X Y
      simp only [hcell, z1, z2, e1, w1, uu, hL, hF, p0, p1, p2, g0, hrow, Int.toNat_natCast, dyn_cons, dyn_nil, r18_0, r18_1.2.1, r18_1.2.2.1, r18_1.2.2.2.1, r18_1.2.2.2.2.1, r18_1.2.2.2.2.2.1, tt, bb, ↓bd, Nat.reduceEqDiff, Nat.reduceAdd, Nat.reduceLeDiff, ↓reduceIte, reduceCtorEq]
      rw [ev_succ he h0] at hk
      have hm3 := h2.setI (o := o) (by rw [upd_app, if_neg (by omega)]; exact hcell) { s with left := s.left - 1 } rfl
      have ndB : Blk := .cells 56 6 [[.int .i64 (opE t), .int .i64 (valE t).k, .int .i64 (valE t).n, .str (valE t).s, .int .i64 (valE t).x, .int .i64 (valE t).y]]
      refine ⟨by rw [show (M.b != n + 1) = true from bne_iff_ne.mpr (by omega)]; rfl, ?_⟩
      have hm4 := hm3.up1 (.cells 56 6 [[.int .i64 (opE t), .int .i64 (valE t).k, .int .i64 (valE t).n, .str (valE t).s, .int .i64 (valE t).x, .int .i64 (valE t).y]])
      have hkp4 := (((Keep.refl M.b (n + 1) (upd A n zB)).set (.cells 64 22 [[M.L, M.F, .str M.E.key, .int .i64 M.E.val.k, .int .i64 M.E.val.n, .str M.E.val.s, .int .i64 M.E.val.x, .int .i64 M.E.val.y, .int .i64 M.E.acc.k, .int .i64 M.E.acc.n, .str M.E.acc.s, .int .i64 M.E.acc.x, .int .i64 M.E.acc.y, .int .i64 s.i, .int .i64 s.it.k, .int .i64 s.it.n, .str s.it.s, .int .i64 s.it.x, .int .i64 s.it.y, o, .int .i64 ((s.left - 1 : Nat) : Int), .int .i64 s.err]])).up1 (Nat.le_refl _) (.cells 56 6 [[.int .i64 (opE t), .int .i64 (valE t).k, .int .i64 (valE t).n, .str (valE t).s, .int .i64 (valE t).x, .int .i64 (valE t).y]]))
      have hs4 : Sk { s with left := s.left - 1 } := ⟨hs.it, hs.i0, hs.i1, hs.out, hs.outs⟩
      rw [hL, hF] at hm4 hkp4
      refine do_rest hM (hD g1 rfl) hb hm4 hs4 he (by show s.left - 1 ≤ g1; omega) ht hkp4 (by rw [upd_app, if_pos rfl]) ?_ ?_ ?_ ?_ ?_ hk
      all_goals simp only [upd_app, enterT, List.getElem?_cons_zero, List.getElem?_cons_succ, Option.getD_some, Nat.reduceEqDiff, ↓reduceIte]
  · have z1 : (s.err != 0) = true := by simpa using he
    simp only [hcell, z1, e1, r18_0, tt, bb, bc, ↓bd, Nat.reduceEqDiff, ↓reduceIte, reduceCtorEq]
    refine fail_call h2 ?_
    intro n' A' hm hkp hn
    obtain ⟨hc, hx⟩ := bad (by rw [ev_err he]; unfold failS; rw [if_neg he]) n' A' hm hkp hn
    simp only [hc, r18_1, res18, tt, bb, bc, ↓bd, Nat.reduceEqDiff, Nat.reduceAdd, ↓reduceIte]
    exact hx _
end
theorem do_all {M : Mch} {l : List Nd} (hM : ML M l) : ∀ g, g ≤ 1000000 → DoC M l g := by
  intro g
  induction g with
  | zero =>
    intro _
    unfold DoC
    intro fn T ds ro k Q dst os n p A s t h hs ht hg hk
    exact do_call (g' := 0) hM (fun g1 e => by cases e) (by omega) h hs ht hg hk
  | succ g ih =>
    intro hgb
    unfold DoC
    intro fn T ds ro k Q dst os n p A s t h hs ht hg hk
    exact do_call (g' := 0) hM (fun g1 e => by cases e; exact ih (by omega)) hgb h hs ht hg hk
end Go.Proofs.Ytckhmpcmlochpaa.G

namespace Go.Proofs.Ytckhmpcmlochpaa.G
open Go.BX
set_option linter.unusedSimpArgs false
set_option linter.unusedVariables false
abbrev envA (E : Env) : AV := .agg [.str E.key, .int .i64 E.val.k, .int .i64 E.val.n, .str E.val.s, .int .i64 E.val.x, .int .i64 E.val.y, .int .i64 E.acc.k, .int .i64 E.acc.n, .str E.acc.s, .int .i64 E.acc.x, .int .i64 E.acc.y]
abbrev resA (v : Vl) (d : AV) (left : Nat) : AV := .agg [.int .i64 v.k, .int .i64 v.n, .str v.s, .int .i64 v.x, .int .i64 v.y, d, .int .i64 (left : Int)]
def goodE (l : List Nd) (E : Env) (f : Int) : Bool := rightM l && (decide (E.key.length ≤ 4096) && (okV E.val && (okV E.acc && (decide (0 ≤ f) && decide (f ≤ 100000)))))
def OutV (d : AV) (l : List Pr) : Prop := (d = .nilS ∧ l = []) ∨ d = .vec 6 (l.map encP)
def runE (t : Ex) (E : Env) (f : Nat) : Vl × St := ev E f t ⟨0, zV, [], f, 0⟩
theorem Run_bad {v : AV} {l : List Nd} (hv : InN v l) (hn : numL l) (hl : l.length ≤ 1000000) {E : Env} {f : Int} (h : goodE l E f = false) : PCall Cx 10 [v, envA E, .int .i64 f] (.tuple [resA zV .nilS 0, .int .i64 1]) := by
  refine pcall_run (noext _) body10 ?_
  have hr := ERight_ok hv hn hl
  have f0 : [v].all AV.flat = true := by simp [hv.flat]
  have r1 := Right_ok E.val.k E.val.n E.val.s E.val.x E.val.y
  have r2 := Right_ok E.acc.k E.acc.n E.acc.s E.acc.x E.acc.y
  have eo1 : rightV E.val.k E.val.n E.val.s E.val.x E.val.y = okV E.val := rfl
  have eo2 : rightV E.acc.k E.acc.n E.acc.s E.acc.x E.acc.y = okV E.acc := rfl
  rw [eo1] at r1
  rw [eo2] at r2
  unfold goodE at h
  rcases hv with ⟨rfl, rfl⟩ | rfl
  · have h1 : rightM [] = false := rfl
    rw [h1] at hr
    simp only [call_pure pure8 f0 hr, r10_0, r10_1, res10, tt, bb, bc, ↓bd, Nat.reduceEqDiff, Nat.reduceAdd, ↓reduceIte, reduceCtorEq]
    rfl
  · cases h1 : rightM l with
    | false =>
      rw [h1] at hr
      simp only [call_pure pure8 f0 hr, r10_0, r10_1, res10, tt, bb, bc, ↓bd, Nat.reduceEqDiff, Nat.reduceAdd, ↓reduceIte, reduceCtorEq]
      rfl
    | true =>
      rw [h1] at hr h
      by_cases h2 : E.key.length ≤ 4096
      · have c2 : ¬ (4096 : Int) < (E.key.length : Int) := by omega
        have d2 : decide (E.key.length ≤ 4096) = true := by simpa using h2
        rw [d2] at h
        cases h3 : okV E.val with
        | false =>
          rw [h3] at r1
          simp only [c2, call_pure pure8 f0 hr, call_pure pure16 rfl r1, i64, r10_0, r10_1, res10, tt, bb, bc, ↓bd, Nat.reduceEqDiff, Nat.reduceAdd, Nat.reduceLeDiff, ↓reduceIte, reduceCtorEq]
          rfl
        | true =>
          rw [h3] at r1 h
          cases h4 : okV E.acc with
          | false =>
            rw [h4] at r2
            simp only [c2, call_pure pure8 f0 hr, call_pure pure16 rfl r1, call_pure pure16 rfl r2, i64, r10_0, r10_1, res10, tt, bb, bc, ↓bd, Nat.reduceEqDiff, Nat.reduceAdd, Nat.reduceLeDiff, ↓reduceIte, reduceCtorEq]
            rfl
          | true =>
            rw [h4] at r2 h
            by_cases h5 : f < 0
            · simp only [c2, h5, call_pure pure8 f0 hr, call_pure pure16 rfl r1, call_pure pure16 rfl r2, i64, r10_0, r10_1, res10, tt, bb, bc, ↓bd, Nat.reduceEqDiff, Nat.reduceAdd, Nat.reduceLeDiff, ↓reduceIte, reduceCtorEq]
              rfl
            · have d5 : decide (0 ≤ f) = true := by simp; omega
              rw [d5] at h
              have h6 : (100000 : Int) < f := by
                simp only [Bool.true_and, decide_eq_false_iff_not] at h
                omega
              simp only [c2, h5, h6, call_pure pure8 f0 hr, call_pure pure16 rfl r1, call_pure pure16 rfl r2, i64, r10_0, r10_1, res10, tt, bb, bc, ↓bd, Nat.reduceEqDiff, Nat.reduceAdd, Nat.reduceLeDiff, ↓reduceIte, reduceCtorEq]
              rfl
      · have c2 : (4096 : Int) < (E.key.length : Int) := by omega
        simp only [c2, call_pure pure8 f0 hr, i64, r10_0, r10_1, res10, tt, bb, bc, ↓bd, Nat.reduceEqDiff, Nat.reduceAdd, ↓reduceIte, reduceCtorEq]
        rfl
theorem good_parts {l : List Nd} {E : Env} {f : Int} (h : goodE l E f = true) : rightM l = true ∧ Ek E ∧ 0 ≤ f ∧ f ≤ 100000 := by
  unfold goodE at h
  simp only [Bool.and_eq_true, decide_eq_true_eq] at h
  exact ⟨h.1, ⟨h.2.1, h.2.2.1, h.2.2.2.1⟩, h.2.2.2.2.1, h.2.2.2.2.2⟩
abbrev resB : Blk := .cells 38 7 [[.int .i64 0, .int .i64 0, .str [], .int .i64 0, .int .i64 0, .nilS, .int .i64 0]]
abbrev envB (E : Env) : Blk := .cells 28 11 [[.str E.key, .int .i64 E.val.k, .int .i64 E.val.n, .str E.val.s, .int .i64 E.val.x, .int .i64 E.val.y, .int .i64 E.acc.k, .int .i64 E.acc.n, .str E.acc.s, .int .i64 E.acc.x, .int .i64 E.acc.y]]
noncomputable abbrev mchB (l : List Nd) (E : Env) (f : Nat) : Blk := .cells 64 22 [[.vec 6 (l.map encN), .vec 3 (rowsF l), .str E.key, .int .i64 E.val.k, .int .i64 E.val.n, .str E.val.s, .int .i64 E.val.x, .int .i64 E.val.y, .int .i64 E.acc.k, .int .i64 E.acc.n, .str E.acc.s, .int .i64 E.acc.x, .int .i64 E.acc.y, .int .i64 0, .int .i64 0, .int .i64 0, .str [], .int .i64 0, .int .i64 0, .nilS, .int .i64 (f : Int), .int .i64 0]]
theorem Ow.out {d : AV} {n : Nat} {A : Nat → Blk} {l : List Pr} (h : Ow d n A l) : ∃ w, OutV w l ∧ freeze1 ⟨n, A⟩ 4 d = some w := by
  rcases h with ⟨rfl, rfl⟩ | ⟨g, rfl, hg, hA⟩
  · exact ⟨.nilS, .inl ⟨rfl, rfl⟩, rfl⟩
  · refine ⟨.vec 6 (l.map encP), .inr rfl, ?_⟩
    have he : elems ⟨n, A⟩ 6 (.slc g 6 0 l.length) = some (l.map encP) := by
      unfold elems
      simp only [hA]
      rw [if_pos ⟨trivial, trivial, by simp⟩, List.drop_zero, List.take_of_length_le (by simp)]
    rw [freeze1_slc, he, frzE_some]
    have : ∀ (dd : Nat) (l : List Pr), mapO (mapO (freeze1 ⟨n, A⟩ dd)) (l.map encP) = some (l.map encP) := by
      intro dd l
      induction l with
      | nil => rfl
      | cons p l ih =>
        rw [List.map_cons, mapO_cons, ih]
        have : mapO (freeze1 ⟨n, A⟩ dd) (encP p) = some (encP p) := mapO_all (p := AV.flat1) (fun v hv => freeze1_flat hv) rfl
        rw [this]; rfl
    rw [this]; rfl
section
variable {T : Nat → AV} {Q : AV → AHeap → Prop}
theorem run_mach {l : List Nd} {t : Ex} (hll : l.length ≤ 400) {E : Env} (hE : Ek E) {f : Nat} (hf : f ≤ 100000) (ht : Tree l 0 t) (t6 : T 6 = .ptr 1 7 0 0) (t8 : T 8 = .ptr 2 22 0 0)
    (hk : ∀ n A, MS ⟨.vec 6 (l.map encN), .vec 3 (rowsF l), E, 2⟩ n A (runE t E f).2 → A 1 = resB → 3 ≤ n → RunOps Cx 10 (putA T (some 48) (valA (runE t E f).1)) [] none [oA 9 (.alloc 26) 0, oN (.store 26 (tm 9) (tm 48)) 0] [.code c10_14] ⟨n, A⟩ Q) :
    RunCall Cx 10 T [] none 18 [.ptr 2 22 0 0, .int .i64 0] (some 48) [oA 9 (.alloc 26) 0, oN (.store 26 (tm 9) (tm 48)) 0] [.code c10_14] ⟨3, upd (upd (upd (fun _ => Blk.dead) 0 (envB E)) 1 resB) 2 (mchB l E f)⟩ Q := by
  have hM : ML ⟨.vec 6 (l.map encN), .vec 3 (rowsF l), E, 2⟩ l := ⟨rfl, rfl, hll, hE⟩
  have hm : MS ⟨.vec 6 (l.map encN), .vec 3 (rowsF l), E, 2⟩ 3 (upd (upd (upd (fun _ => Blk.dead) 0 (envB E)) 1 resB) 2 (mchB l E f)) ⟨0, zV, [], f, 0⟩ := ⟨by show 2 < 3; omega, .nilS, by rw [upd_app, if_pos rfl], .inl ⟨rfl, rfl⟩⟩
  refine do_all hM f (by omega) (p := 0) (s := ⟨0, zV, [], f, 0⟩) hm ⟨rfl, Int.le_refl _, by show (0 : Int) ≤ 9007199254740992; omega, by show 0 ≤ 64; omega, fun p hp => by cases hp⟩ ht (Nat.le_refl _) ?_
  intro n' A' hm' hkp hn
  refine hk n' A' hm' ?_ hn
  exact cellP hkp (by rw [upd_app, if_neg (by decide), upd_app, if_pos rfl]) (by omega) (by show 1 ≠ 2; omega) (by decide)
end
theorem Run_good {l : List Nd} {t : Ex} (hn : numL l) {E : Env} {f : Nat} (h : goodE l E f = true) (hw : WF t) (e : l = flatE t) :
    (∀ (he : (runE t E f).2.err = 0), ∃ d, OutV d (runE t E f).2.out ∧ PCall Cx 10 [.vec 6 (l.map encN), envA E, .int .i64 (f : Int)] (.tuple [resA (runE t E f).1 d (runE t E f).2.left, .int .i64 0])) ∧
    ((runE t E f).2.err ≠ 0 → PCall Cx 10 [.vec 6 (l.map encN), envA E, .int .i64 (f : Int)] (.tuple [resA zV .nilS 0, .int .i64 (runE t E f).2.err])) := by
  obtain ⟨hr0, hE, hf0, hf1⟩ := good_parts h
  have hll := (right_iff.mp hr0).1
  have hr := ERight_ok (v := .vec 6 (l.map encN)) (.inr rfl) hn (by omega)
  rw [hr0] at hr
  have r1 := Right_ok E.val.k E.val.n E.val.s E.val.x E.val.y
  have r2 := Right_ok E.acc.k E.acc.n E.acc.s E.acc.x E.acc.y
  have eo1 : rightV E.val.k E.val.n E.val.s E.val.x E.val.y = true := hE.val
  have eo2 : rightV E.acc.k E.acc.n E.acc.s E.acc.x E.acc.y = true := hE.acc
  rw [eo1] at r1
  rw [eo2] at r2
  have hfo := forms_ok hll hw e
  have c2 : ¬ (4096 : Int) < (E.key.length : Int) := by have := hE.key; omega
  have c5 : ¬ (f : Int) < 0 := by omega
  have c6 : ¬ (100000 : Int) < (f : Int) := by omega
  have ht : Tree l 0 t := ⟨hw, [], by rw [List.drop_zero, e, List.append_nil]⟩
  constructor
  · intro he
    obtain ⟨r, ⟨d, hd, rfl⟩, hp⟩ := pcall_ex (f := 10) (args := [.vec 6 (l.map encN), envA E, .int .i64 (f : Int)]) (P := fun r => ∃ d, OutV d (runE t E f).2.out ∧ r = .tuple [resA (runE t E f).1 d (runE t E f).2.left, .int .i64 0]) (noext _) body10 (by
     simp only [c2, c5, c6, call_pure pure8 rfl hr, call_pure pure16 rfl r1, call_pure pure16 rfl r2, call_pure pure17 rfl hfo, i64, r10_0, r10_1, tt, bb, bc, ↓bd, Nat.reduceEqDiff, Nat.reduceAdd, Nat.reduceLeDiff, ↓reduceIte, reduceCtorEq]
     refine run_mach hll hE (by omega) ht rfl rfl ?_
     intro n A hm h1 hn3
     obtain ⟨hb, o, hcell, ho⟩ := hm
     have hpl := ho.plain
     simp only [AV.plain] at hpl
     have hcs := ho.cells
     simp only [AV.cells] at hcs
     have hc1 : A 1 = .cells 38 7 [[.int .i64 0, .int .i64 0, .str [], .int .i64 0, .int .i64 0, .nilS, .int .i64 0]] := h1
     have e1 : (2 = n) = False := eq_false (by omega)
     have e2 : (1 = n) = False := eq_false (by omega)
     have e3 : (n = 1) = False := eq_false (by omega)
     have hcell' : A 2 = .cells 64 22 [[.vec 6 (l.map encN), .vec 3 (rowsF l), .str E.key, .int .i64 E.val.k, .int .i64 E.val.n, .str E.val.s, .int .i64 E.val.x, .int .i64 E.val.y, .int .i64 E.acc.k, .int .i64 E.acc.n, .str E.acc.s, .int .i64 E.acc.x, .int .i64 E.acc.y, .int .i64 (runE t E f).2.i, .int .i64 (runE t E f).2.it.k, .int .i64 (runE t E f).2.it.n, .str (runE t E f).2.it.s, .int .i64 (runE t E f).2.it.x, .int .i64 (runE t E f).2.it.y, o, .int .i64 ((runE t E f).2.left : Int), .int .i64 (runE t E f).2.err]] := hcell
     have z1 : ((runE t E f).2.err != 0) = false := by simp [he]
     have uu : ∀ (A : Nat → Blk) (c : Nat) (X Y : Blk), upd (upd A c X) c Y = upd A c Y := fun A c X Y => upd2 A c X Y
     simp only [hcell', hc1, e1, e2, z1, uu, hpl, hcs, r10_1, r10_2, r10_3, res10, tt, bb, bc, ↓bd, Nat.reduceEqDiff, Nat.reduceAdd, Nat.reduceLeDiff, ↓reduceIte]
     have ho' := ho.keep (n' := n + 1) (A' := upd (upd A n (encB (runE t E f).1)) 1 (.cells 38 7 [[.int .i64 (runE t E f).1.k, .int .i64 (runE t E f).1.n, .str (runE t E f).1.s, .int .i64 (runE t E f).1.x, .int .i64 (runE t E f).1.y, o, .int .i64 ((runE t E f).2.left : Int)]])) (by omega) fun z hz hp => by
       have : z ≠ 1 := by rintro rfl; rw [hc1] at hp; cases hp
       rw [upd_app, if_neg this, upd_app, if_neg (by omega)]
     obtain ⟨w, hw, hfz⟩ := ho'.out
     refine ⟨_, ⟨w, hw, rfl⟩, ?_⟩
     rw [hfz]
     rfl)
    exact ⟨d, hd, hp⟩
  · intro he
    refine pcall_run (noext _) body10 ?_
    simp only [c2, c5, c6, call_pure pure8 rfl hr, call_pure pure16 rfl r1, call_pure pure16 rfl r2, call_pure pure17 rfl hfo, i64, r10_0, r10_1, tt, bb, bc, ↓bd, Nat.reduceEqDiff, Nat.reduceAdd, Nat.reduceLeDiff, ↓reduceIte, reduceCtorEq]
    refine run_mach hll hE (by omega) ht rfl rfl ?_
    intro n A hm h1 hn3
    obtain ⟨o, hcell⟩ := hm.errCell
    have hc1 : A 1 = .cells 38 7 [[.int .i64 0, .int .i64 0, .str [], .int .i64 0, .int .i64 0, .nilS, .int .i64 0]] := h1
    have e1 : (2 = n) = False := eq_false (by omega)
    have e2 : (1 = n) = False := eq_false (by omega)
    have e3 : (n = 1) = False := eq_false (by omega)
    have hcell' : A 2 = .cells 64 22 [[.vec 6 (l.map encN), .vec 3 (rowsF l), .str E.key, .int .i64 E.val.k, .int .i64 E.val.n, .str E.val.s, .int .i64 E.val.x, .int .i64 E.val.y, .int .i64 E.acc.k, .int .i64 E.acc.n, .str E.acc.s, .int .i64 E.acc.x, .int .i64 E.acc.y, .int .i64 (runE t E f).2.i, .int .i64 (runE t E f).2.it.k, .int .i64 (runE t E f).2.it.n, .str (runE t E f).2.it.s, .int .i64 (runE t E f).2.it.x, .int .i64 (runE t E f).2.it.y, o, .int .i64 ((runE t E f).2.left : Int), .int .i64 (runE t E f).2.err]] := hcell
    have z1 : ((runE t E f).2.err != 0) = true := by simpa using he
    simp only [hcell', hc1, e1, e2, z1, dyn_cons, dyn_nil, r10_1, r10_2, res10, tt, bb, bc, ↓bd, Nat.reduceEqDiff, Nat.reduceAdd, ↓reduceIte, Nat.reduceBneDiff]
    rfl
end Go.Proofs.Ytckhmpcmlochpaa.G

namespace Go.Proofs.Ytckhmpcmlochpaa.G
open Go.BX
set_option linter.unusedSimpArgs false
set_option linter.unusedVariables false
end Go.Proofs.Ytckhmpcmlochpaa.G

namespace Go.Proofs.Ytckhmpcmlochpaa.G
open Go.BX
set_option linter.unusedSimpArgs false
set_option linter.unusedVariables false
def preS (P : List Pr) (s : St) : St := { s with out := P ++ s.out }
def preR (P : List Pr) (r : Vl × St) : Vl × St := (r.1, preS P r.2)
def PreD (P : List Pr) (r r' : Vl × St) : Prop := (r' = preR P r ∧ P.length + r.2.out.length ≤ 64) ∨ (r'.2.err = 22 ∧ 64 < P.length + r.2.out.length)
def noOut : AR → Prop
  | .out _ _ => False
  | _ => True
theorem chkV_no (v : Vl) : noOut (chkV v) := by unfold chkV; split <;> trivial
theorem chkP_no (x y : Int) : noOut (chkP x y) := by unfold chkP; split <;> trivial
theorem num2_no (op a b : Int) : noOut (num2 op a b) := by
  unfold num2
  repeat' split
  all_goals first | exact chkV_no _ | trivial
theorem pts2_no (op a b c d : Int) : noOut (pts2 op a b c d) := by
  unfold pts2
  repeat' split
  all_goals first | exact chkP_no _ _ | trivial
theorem ap1_no (op : Int) (a : Vl) : noOut (ap1 op a) := by
  unfold ap1
  repeat' split
  all_goals first | trivial | (unfold numP; repeat' split) <;> trivial
theorem ap3_no (a b c : Vl) : noOut (ap3 a b c) := by
  unfold ap3
  repeat' split
  all_goals trivial
theorem ap2_no {op : Int} (h : op ≠ 26) (a b : Vl) (n m : Nat) : ap2 op a b n = ap2 op a b m ∧ noOut (ap2 op a b n) := by
  unfold ap2
  simp only [if_neg h]
  refine ⟨trivial, ?_⟩
  repeat' split
  all_goals first | exact pts2_no _ _ _ _ _ | exact num2_no _ _ _ | exact chkP_no _ _ | trivial
theorem fin_no {P : List Pr} {r : AR} {s : St} (h : noOut r) (hl : P.length + s.out.length ≤ 64) : PreD P (finS r s) (finS r (preS P s)) := by
  cases r with
  | val v => exact .inl ⟨rfl, hl⟩
  | out p v => exact h.elim
  | bad e => exact .inl ⟨rfl, hl⟩
theorem fin_two {P : List Pr} {op : Int} {a b : Vl} {s : St} (hl : P.length + s.out.length ≤ 64) : PreD P (finS (ap2 op a b s.out.length) s) (finS (ap2 op a b (preS P s).out.length) (preS P s)) := by
  by_cases h : op = 26
  · subst h
    have e : ∀ n, ap2 26 a b n = (if a.k = 1 then (if a.s.length ≤ 64 then (if n = 64 then .bad 22 else .out (pairV a.s b) b) else .bad 3) else .bad 13) := fun n => rfl
    rw [e, e]
    split
    · split
      · have e2 : (preS P s).out.length = P.length + s.out.length := by unfold preS; simp
        rw [e2]
        by_cases h1 : P.length + s.out.length = 64
        · rw [if_pos h1]
          by_cases h2 : s.out.length = 64
          · rw [if_pos h2]; exact .inl ⟨rfl, hl⟩
          · rw [if_neg h2]
            refine .inr ⟨rfl, ?_⟩
            show 64 < P.length + (s.out ++ [_]).length
            simp; omega
        · rw [if_neg h1, if_neg (by omega)]
          refine .inl ⟨?_, ?_⟩
          · show ((_, _) : Vl × St) = (_, _)
            simp [preS, finS]
          · show P.length + (s.out ++ [_]).length ≤ 64
            simp; omega
      · exact .inl ⟨rfl, hl⟩
    · exact .inl ⟨rfl, hl⟩
  · have h1 := ap2_no h a b s.out.length (preS P s).out.length
    rw [← h1.1]
    exact fin_no h1.2 hl
theorem Kp.grow {s s' : St} (h : Kp s s') : s.out.length ≤ s'.out.length := by
  obtain ⟨l, e⟩ := h.out
  rw [e, List.length_append]; omega
theorem each_pre {P : List Pr} {f : St → Vl × St} (hf : ∀ s, P.length + s.out.length ≤ 64 → PreD P (f s) (f (preS P s))) (hk : ∀ s, Kp s (f s).2) (N : Int) :
    ∀ (c : Nat) (k : Int) (v : Vl) (s : St), P.length + s.out.length ≤ 64 → PreD P (eachL f N c k v s) (eachL f N c k v (preS P s))
  | 0, k, v, s, hl => .inl ⟨rfl, hl⟩
  | c + 1, k, v, s, hl => by
    by_cases hc : k < N ∧ s.err = 0
    · have e1 : eachL f N (c + 1) k v s = eachL f N c (k + 1) (f { s with i := k }).1 (f { s with i := k }).2 := by
        conv => lhs; unfold eachL
        rw [if_pos hc]
      have e2 : eachL f N (c + 1) k v (preS P s) = eachL f N c (k + 1) (f (preS P { s with i := k })).1 (f (preS P { s with i := k })).2 := by
        conv => lhs; unfold eachL
        rw [if_pos (show k < N ∧ (preS P s).err = 0 from hc)]
        rfl
      rw [e1, e2]
      rcases hf { s with i := k } hl with ⟨h1, h2⟩ | ⟨h1, h2⟩
      · rw [h1]
        exact each_pre hf hk N c (k + 1) _ (f { s with i := k }).2 h2
      · right
        have h3 := (each_kq hk N c (k + 1) (f (preS P { s with i := k })).1 (f (preS P { s with i := k })).2).bad (by rw [h1]; decide)
        obtain ⟨l, e⟩ := (each_kq hk N c (k + 1) (f { s with i := k }).1 (f { s with i := k }).2).out
        refine ⟨by rw [h3]; exact h1, ?_⟩
        rw [e, List.length_append]; omega
    · have e1 : eachL f N (c + 1) k v s = (v, s) := by
        conv => lhs; unfold eachL
        rw [if_neg hc]
      have e2 : eachL f N (c + 1) k v (preS P s) = (v, preS P s) := by
        conv => lhs; unfold eachL
        rw [if_neg (show ¬ (k < N ∧ (preS P s).err = 0) from hc)]
      rw [e1, e2]
      exact .inl ⟨rfl, hl⟩
theorem evT_pre {P : List Pr} {E : Env} {f : Ex → St → Vl × St} (hf : ∀ t s, P.length + s.out.length ≤ 64 → PreD P (f t s) (f t (preS P s))) (hk : ∀ t s, Kp s (f t s).2) (g : Nat) (t : Ex) {s : St} (hl : P.length + s.out.length ≤ 64) : PreD P (evT E f g t s) (evT E f g t (preS P s)) := by
  cases t with
  | lit v => exact .inl ⟨rfl, hl⟩
  | nam n => exact .inl ⟨rfl, hl⟩
  | op1 op a =>
    unfold evT
    simp only
    rcases hf a s hl with ⟨h1, h2⟩ | ⟨h1, h2⟩
    · rw [h1]
      by_cases he : (f a s).2.err ≠ 0
      · rw [if_pos he, if_pos (show (preR P (f a s)).2.err ≠ 0 from he)]
        exact .inl ⟨rfl, h2⟩
      · rw [if_neg he, if_neg (show ¬ (preR P (f a s)).2.err ≠ 0 from he)]
        exact fin_no (ap1_no _ _) h2
    · rw [if_pos (show (f a (preS P s)).2.err ≠ 0 by rw [h1]; decide)]
      refine .inr ⟨h1, ?_⟩
      split
      · exact h2
      · rename_i he
        have := (Kp.fin (s := (f a s).2) (by simpa using he) (ap1 op (f a s).1)).grow
        omega
  | op2 op a b =>
    unfold evT
    simp only
    rcases hf a s hl with ⟨h1, h2⟩ | ⟨h1, h2⟩
    · rw [h1]
      by_cases he : (f a s).2.err ≠ 0
      · rw [if_pos he, if_pos (show (preR P (f a s)).2.err ≠ 0 from he)]
        exact .inl ⟨rfl, h2⟩
      · rw [if_neg he, if_neg (show ¬ (preR P (f a s)).2.err ≠ 0 from he)]
        by_cases h29 : op = 29
        · rw [if_pos h29, if_pos h29]
          rcases hf b { (f a s).2 with it := (f a s).1 } h2 with ⟨h3, h4⟩ | ⟨h3, h4⟩
          · left
            refine ⟨?_, h4⟩
            have e : ({ (preR P (f a s)).2 with it := (preR P (f a s)).1 } : St) = preS P { (f a s).2 with it := (f a s).1 } := rfl
            rw [e, h3]
            rfl
          · exact .inr ⟨h3, h4⟩
        · rw [if_neg h29, if_neg h29]
          by_cases h28 : op = 28
          · rw [if_pos h28, if_pos h28]
            by_cases hk0 : (f a s).1.k ≠ 0
            · rw [if_pos hk0, if_pos (show (preR P (f a s)).1.k ≠ 0 from hk0)]; exact .inl ⟨rfl, h2⟩
            · rw [if_neg hk0, if_neg (show ¬ (preR P (f a s)).1.k ≠ 0 from hk0)]
              by_cases hn0 : (f a s).1.n < 0
              · rw [if_pos hn0, if_pos (show (preR P (f a s)).1.n < 0 from hn0)]; exact .inl ⟨rfl, h2⟩
              · rw [if_neg hn0, if_neg (show ¬ (preR P (f a s)).1.n < 0 from hn0)]
                have e : eachL (f b) (preR P (f a s)).1.n (g + 1) 0 (nV 0) (preR P (f a s)).2 = eachL (f b) (f a s).1.n (g + 1) 0 (nV 0) (preS P (f a s).2) := rfl
                rw [e]
                rcases each_pre (fun s hs => hf b s hs) (fun s => hk b s) (f a s).1.n (g + 1) 0 (nV 0) (f a s).2 h2 with ⟨h3, h4⟩ | ⟨h3, h4⟩
                · rw [h3]; exact .inl ⟨rfl, h4⟩
                · exact .inr ⟨h3, h4⟩
          · rw [if_neg h28, if_neg h28]
            have e : f b (preR P (f a s)).2 = f b (preS P (f a s).2) := rfl
            rw [e]
            rcases hf b (f a s).2 h2 with ⟨h3, h4⟩ | ⟨h3, h4⟩
            · rw [h3]
              by_cases he2 : (f b (f a s).2).2.err ≠ 0
              · rw [if_pos he2, if_pos (show (preR P (f b (f a s).2)).2.err ≠ 0 from he2)]; exact .inl ⟨rfl, h4⟩
              · rw [if_neg he2, if_neg (show ¬ (preR P (f b (f a s).2)).2.err ≠ 0 from he2)]
                exact fin_two h4
            · rw [if_pos (show (f b (preS P (f a s).2)).2.err ≠ 0 by rw [h3]; decide)]
              refine .inr ⟨h3, ?_⟩
              split
              · exact h4
              · rename_i he2
                have := (Kp.fin (s := (f b (f a s).2).2) (by simpa using he2) (ap2 op (f a s).1 (f b (f a s).2).1 (f b (f a s).2).2.out.length)).grow
                omega
    · rw [if_pos (show (f a (preS P s)).2.err ≠ 0 by rw [h1]; decide)]
      refine .inr ⟨h1, ?_⟩
      split
      · exact h2
      rename_i he
      have hb := (hk b (f a s).2).grow
      split
      · have := (hk b { (f a s).2 with it := (f a s).1 }).grow
        simp only at this ⊢
        omega
      split
      · split
        · exact h2
        split
        · exact h2
        · obtain ⟨l, e⟩ := (each_kq (fun s => hk b s) (f a s).1.n (g + 1) 0 (nV 0) (f a s).2).out
          simp only [e, List.length_append]
          omega
      · split
        · try simp only
          omega
        · rename_i he2
          have := (Kp.fin (s := (f b (f a s).2).2) (by simpa using he2) (ap2 op (f a s).1 (f b (f a s).2).1 (f b (f a s).2).2.out.length)).grow
          omega
  | op3 op a b c =>
    unfold evT
    simp only
    rcases hf a s hl with ⟨h1, h2⟩ | ⟨h1, h2⟩
    · rw [h1]
      by_cases he : (f a s).2.err ≠ 0
      · rw [if_pos he, if_pos (show (preR P (f a s)).2.err ≠ 0 from he)]
        exact .inl ⟨rfl, h2⟩
      · rw [if_neg he, if_neg (show ¬ (preR P (f a s)).2.err ≠ 0 from he)]
        by_cases h11 : op = 11
        · rw [if_pos h11, if_pos h11]
          by_cases hk0 : (f a s).1.k ≠ 0
          · rw [if_pos hk0, if_pos (show (preR P (f a s)).1.k ≠ 0 from hk0)]; exact .inl ⟨rfl, h2⟩
          · rw [if_neg hk0, if_neg (show ¬ (preR P (f a s)).1.k ≠ 0 from hk0)]
            by_cases hn0 : (f a s).1.n ≠ 0
            · rw [if_pos hn0, if_pos (show (preR P (f a s)).1.n ≠ 0 from hn0)]; exact hf b _ h2
            · rw [if_neg hn0, if_neg (show ¬ (preR P (f a s)).1.n ≠ 0 from hn0)]; exact hf c _ h2
        · rw [if_neg h11, if_neg h11]
          have e : f b (preR P (f a s)).2 = f b (preS P (f a s).2) := rfl
          rw [e]
          rcases hf b (f a s).2 h2 with ⟨h3, h4⟩ | ⟨h3, h4⟩
          · rw [h3]
            by_cases he2 : (f b (f a s).2).2.err ≠ 0
            · rw [if_pos he2, if_pos (show (preR P (f b (f a s).2)).2.err ≠ 0 from he2)]; exact .inl ⟨rfl, h4⟩
            · rw [if_neg he2, if_neg (show ¬ (preR P (f b (f a s).2)).2.err ≠ 0 from he2)]
              have e3 : f c (preR P (f b (f a s).2)).2 = f c (preS P (f b (f a s).2).2) := rfl
              rw [e3]
              rcases hf c (f b (f a s).2).2 h4 with ⟨h5, h6⟩ | ⟨h5, h6⟩
              · rw [h5]
                by_cases he3 : (f c (f b (f a s).2).2).2.err ≠ 0
                · rw [if_pos he3, if_pos (show (preR P (f c (f b (f a s).2).2)).2.err ≠ 0 from he3)]; exact .inl ⟨rfl, h6⟩
                · rw [if_neg he3, if_neg (show ¬ (preR P (f c (f b (f a s).2).2)).2.err ≠ 0 from he3)]
                  exact fin_no (ap3_no _ _ _) h6
              · rw [if_pos (show (f c (preS P (f b (f a s).2).2)).2.err ≠ 0 by rw [h5]; decide)]
                refine .inr ⟨h5, ?_⟩
                split
                · exact h6
                · rename_i he3
                  have := (Kp.fin (s := (f c (f b (f a s).2).2).2) (by simpa using he3) (ap3 (f a s).1 (f b (f a s).2).1 (f c (f b (f a s).2).2).1)).grow
                  omega
          · rw [if_pos (show (f b (preS P (f a s).2)).2.err ≠ 0 by rw [h3]; decide)]
            refine .inr ⟨h3, ?_⟩
            have hc := (hk c (f b (f a s).2).2).grow
            split
            · exact h4
            split
            · try simp only
              omega
            · rename_i he3
              have := (Kp.fin (s := (f c (f b (f a s).2).2).2) (by simpa using he3) (ap3 (f a s).1 (f b (f a s).2).1 (f c (f b (f a s).2).2).1)).grow
              omega
    · rw [if_pos (show (f a (preS P s)).2.err ≠ 0 by rw [h1]; decide)]
      refine .inr ⟨h1, ?_⟩
      have hb := (hk b (f a s).2).grow
      have hc := (hk c (f b (f a s).2).2).grow
      have hc2 := (hk c (f a s).2).grow
      split
      · exact h2
      split
      · split
        · exact h2
        split
        · try simp only
          omega
        · try simp only
          omega
      · split
        · try simp only
          omega
        split
        · try simp only
          omega
        · rename_i he3
          have := (Kp.fin (s := (f c (f b (f a s).2).2).2) (by simpa using he3) (ap3 (f a s).1 (f b (f a s).2).1 (f c (f b (f a s).2).2).1)).grow
          omega
theorem ev_pre {P : List Pr} {E : Env} : ∀ (g : Nat) (t : Ex) (s : St), P.length + s.out.length ≤ 64 → PreD P (ev E g t s) (ev E g t (preS P s)) := by
  intro g
  induction g with
  | zero =>
    intro t s hl
    by_cases he : s.err = 0
    · left
      refine ⟨?_, ?_⟩
      · show (zV, failS 15 (preS P s)) = preR P (zV, failS 15 s)
        unfold failS
        rw [if_pos he, if_pos (show (preS P s).err = 0 from he)]
        rfl
      · show P.length + (failS 15 s).out.length ≤ 64
        unfold failS
        rw [if_pos he]; exact hl
    · rw [ev_err he, ev_err (show (preS P s).err ≠ 0 from he)]; exact .inl ⟨rfl, hl⟩
  | succ g ih =>
    intro t s hl
    by_cases he : s.err = 0
    · by_cases h0 : s.left = 0
      · rw [ev_zero he h0, ev_zero (show (preS P s).err = 0 from he) (show (preS P s).left = 0 from h0)]
        exact .inl ⟨rfl, hl⟩
      · rw [ev_succ he h0, ev_succ (show (preS P s).err = 0 from he) (show (preS P s).left ≠ 0 from h0)]
        exact evT_pre (f := ev E g) ih (ev_kp g) g t (s := { s with left := s.left - 1 }) hl
    · rw [ev_err he, ev_err (show (preS P s).err ≠ 0 from he)]; exact .inl ⟨rfl, hl⟩
end Go.Proofs.Ytckhmpcmlochpaa.G

namespace Go.Proofs.Ytckhmpcmlochpaa.G
open Go.BX
set_option linter.unusedSimpArgs false
set_option linter.unusedVariables false
theorem awake09_ok : PCall Cx 6 [] (.bool true) := ⟨20000, by kernel_rfl⟩
theorem OutV.len {d : AV} {l : List Pr} (h : OutV d l) : lenOf d = some l.length := by
  rcases h with ⟨rfl, rfl⟩ | rfl
  · rfl
  · unfold lenOf; rw [List.length_map]
theorem OutV.flat {d : AV} {l : List Pr} (h : OutV d l) : d.flat = true := by
  rcases h with ⟨rfl, rfl⟩ | rfl
  · rfl
  · rfl
theorem OutV.plain {d : AV} {l : List Pr} (h : OutV d l) : d.plain = true := by
  rcases h with ⟨rfl, rfl⟩ | rfl <;> rfl
theorem OutV.cells {d : AV} {l : List Pr} (h : OutV d l) : d.cells = [d] := by
  rcases h with ⟨rfl, rfl⟩ | rfl <;> rfl
theorem encP_get {l : List Pr} {i : Nat} (hi : i < l.length) : (l.map encP)[i]? = some [.str (l[i]).key, .int .i64 (l[i]).k, .int .i64 (l[i]).n, .str (l[i]).s, .int .i64 (l[i]).x, .int .i64 (l[i]).y] := by
  rw [List.getElem?_map, List.getElem?_eq_getElem hi]; rfl
theorem same_all {l : List Pr} (hl : l.length ≤ 100000) : ∀ (j i : Nat) (T : Nat → AV) (H : AHeap), i + j = l.length → T 0 = .vec 6 (l.map encP) → T 1 = .vec 6 (l.map encP) → T 5 = .int .i64 (i : Int) →
    Run Cx 11 T [] none [.inLoop c11_15, .inBlock 0, .code c11_31] H (fun r0 H' => BX.freeze H' r0 = some (.bool true))
  | 0, i, T, H, hij, t0, t1, t5 => by
    rw [run_inLoop]
    have h0 : ((i : Int) < ((l.map encP).length : Int)) = False := eq_false (by rw [List.length_map]; omega)
    simp only [t0, t5, h0, i64, xx, r11_1, r11_2, r11_3, r11_4, res11, tt, bb, bc, ↓bd, Nat.reduceEqDiff, ↓reduceIte, reduceCtorEq]
  | j + 1, i, T, H, hij, t0, t1, t5 => by
    rw [run_inLoop]
    have hi : i < l.length := by omega
    have h0 : ((i : Int) < ((l.map encP).length : Int)) = True := eq_true (by rw [List.length_map]; omega)
    have p0 : (0 : Int) ≤ (i : Int) := by omega
    have g0 := encP_get hi
    have w1 : IntKind.i64.wrap ((i : Int) + 1) = ((i + 1 : Nat) : Int) := by rw [wr64 (by omega) (by omega)]; omega
    simp only [t0, t1, t5, h0, p0, g0, w1, beq_self_eq_true, Bool.not_true, i64, Int.toNat_natCast, xx, r11_1, r11_2, r11_3.1, r11_3.2.1, r11_3.2.2.2.2.2.1, r11_3.2.2.2.2.2.2.1, tt, bb, bc, ↓bd, Nat.reduceEqDiff, Nat.reduceAdd, ↓reduceIte, reduceCtorEq]
    refine same_all hl j (i + 1) _ _ (by omega) ?_ ?_ ?_
    all_goals simp only [upd_app, t0, t1, Nat.reduceEqDiff, ↓reduceIte]
theorem Same_ok {d d' : AV} {l : List Pr} (h : OutV d l) (h' : OutV d' l) (hl : l.length ≤ 100000) : PCall Cx 11 [d, d'] (.bool true) := by
  by_cases h0 : l = []
  · subst h0
    rcases h with ⟨rfl, _⟩ | rfl <;> rcases h' with ⟨rfl, _⟩ | rfl <;> exact ⟨60, by kernel_rfl⟩
  · obtain rfl : d = .vec 6 (l.map encP) := by
      rcases h with ⟨_, h⟩ | h
      · exact absurd h h0
      · exact h
    obtain rfl : d' = .vec 6 (l.map encP) := by
      rcases h' with ⟨_, h⟩ | h
      · exact absurd h h0
      · exact h
    refine pcall_run (noext _) body11 ?_
    have z : ((((l.map encP).length : Nat) : Int) != (((l.map encP).length : Nat) : Int)) = false := by simp
    simp only [z, i64, r11_0, r11_1, tt, bb, bc, ↓bd, Nat.reduceEqDiff, ↓reduceIte, reduceCtorEq]
    refine same_all hl l.length 0 _ _ (by omega) ?_ ?_ ?_
    all_goals simp only [upd_app, enterT, List.getElem?_cons_zero, List.getElem?_cons_succ, Option.getD_some, Nat.reduceEqDiff, ↓reduceIte]
    all_goals rfl
def PFw (l : List Nd) (E : Env) (x : Int) (i : Nat) (acc : Int) : Prop :=
  ∀ T : Nat → AV, T 0 = .vec 6 (l.map encN) → T 3 = .ptr 0 11 0 0 → T 5 = .int .i64 acc → T 6 = .int .i64 (i : Int) →
    Run Cx 7 T [] none [.inLoop c7_9, .inBlock 0, .code c7_19] ⟨1, upd (fun _ => Blk.dead) 0 (envB E)⟩ (fun r0 H' => BX.freeze H' r0 = some (.int .i64 x))
theorem pfw_tail {l : List Nd} {E : Env} {acc : Int} : ∃ x : Int, (x = 0 ∨ (x = 1 ∧ l.length ≤ 100)) ∧ ∀ T : Nat → AV, T 0 = .vec 6 (l.map encN) → T 3 = .ptr 0 11 0 0 → T 5 = .int .i64 acc →
    Run Cx 7 T [] none [.code c7_19] ⟨1, upd (fun _ => Blk.dead) 0 (envB E)⟩ (fun r0 H' => BX.freeze H' r0 = some (.int .i64 x)) := by
  by_cases c1 : (100 : Int) ≤ ((l.map encN).length : Int)
  · refine ⟨0, .inl rfl, fun T t0 t3 t5 => ?_⟩
    simp only [t0, c1, i64, r7_2, r7_3, res7, tt, bb, bc, ↓bd, Nat.reduceEqDiff, ↓reduceIte, reduceCtorEq]
  by_cases c2 : (5000 : Int) < acc
  · refine ⟨0, .inl rfl, fun T t0 t3 t5 => ?_⟩
    simp only [t0, t5, c1, c2, i64, r7_2, r7_3, res7, tt, bb, bc, ↓bd, Nat.reduceEqDiff, ↓reduceIte, reduceCtorEq]
  by_cases c3 : (5000 : Int) < (E.key.length : Int)
  · refine ⟨0, .inl rfl, fun T t0 t3 t5 => ?_⟩
    simp only [t0, t3, t5, c1, c2, c3, i64, r7_2, r7_3, res7, tt, bb, bc, ↓bd, Nat.reduceEqDiff, ↓reduceIte, reduceCtorEq]
  by_cases c4 : (5000 : Int) < (E.val.s.length : Int)
  · refine ⟨0, .inl rfl, fun T t0 t3 t5 => ?_⟩
    simp only [t0, t3, t5, c1, c2, c3, c4, i64, r7_2, r7_3, res7, tt, bb, bc, ↓bd, Nat.reduceEqDiff, Nat.reduceAdd, ↓reduceIte, reduceCtorEq]
  by_cases c5 : (5000 : Int) < (E.acc.s.length : Int)
  · refine ⟨0, .inl rfl, fun T t0 t3 t5 => ?_⟩
    simp only [t0, t3, t5, c1, c2, c3, c4, c5, i64, r7_2, r7_3, res7, tt, bb, bc, ↓bd, Nat.reduceEqDiff, Nat.reduceAdd, ↓reduceIte]
  · refine ⟨1, .inr ⟨rfl, by rw [List.length_map] at c1; omega⟩, fun T t0 t3 t5 => ?_⟩
    simp only [t0, t3, t5, c1, c2, c3, c4, c5, i64, r7_2, r7_3, res7, tt, bb, bc, ↓bd, Nat.reduceEqDiff, Nat.reduceAdd, ↓reduceIte]
theorem pfw_end {l : List Nd} {E : Env} {i : Nat} {acc : Int} (hi : l.length ≤ i ∨ 100 ≤ i) : ∃ x, (x = 0 ∨ (x = 1 ∧ l.length ≤ 100)) ∧ PFw l E x i acc := by
  obtain ⟨x, hx, hp⟩ := pfw_tail (l := l) (E := E) (acc := acc)
  refine ⟨x, hx, fun T t0 t3 t5 t6 => ?_⟩
  rw [run_inLoop]
  by_cases c1 : (i : Int) < ((l.map encN).length : Int)
  · have c3 : ¬ (i : Int) < 100 := by rw [List.length_map] at c1; omega
    simp only [t0, t6, c1, c3, i64, xx, r7_1, tt, bb, bc, ↓bd, Nat.reduceEqDiff, ↓reduceIte, reduceCtorEq]
    refine hp _ ?_ ?_ ?_
    all_goals simp only [upd_app, t0, t3, t5, Nat.reduceEqDiff, ↓reduceIte]
  · simp only [t0, t6, c1, i64, xx, r7_1, tt, bb, bc, ↓bd, Nat.reduceEqDiff, ↓reduceIte, reduceCtorEq]
    refine hp _ ?_ ?_ ?_
    all_goals simp only [upd_app, t0, t3, t5, Nat.reduceEqDiff, ↓reduceIte]
theorem pfw_all {l : List Nd} {E : Env} : ∀ (j i : Nat) (acc : Int), 102 ≤ i + j → i ≤ 101 → 0 ≤ acc → acc ≤ 10000 * i → ∃ x, (x = 0 ∨ (x = 1 ∧ l.length ≤ 100)) ∧ PFw l E x i acc
  | 0, i, acc, hj, hi, h0, h1 => by omega
  | j + 1, i, acc, hj, hi, h0, h1 => by
    by_cases hend : l.length ≤ i ∨ 100 ≤ i
    · exact pfw_end hend
    · have hil : i < l.length := by omega
      have c1 : (i : Int) < ((l.map encN).length : Int) := by rw [List.length_map]; omega
      have c3 : (i : Int) < 100 := by omega
      have p0 : (0 : Int) ≤ (i : Int) := by omega
      have g0 := encN_get hil
      have w1 : IntKind.i64.wrap ((i : Int) + 1) = ((i + 1 : Nat) : Int) := by rw [wr64 (by omega) (by omega)]; omega
      have hmin : ∃ mm : Int, 0 ≤ mm ∧ mm ≤ 10000 ∧ minA .i64 (((l[i]).v.s.length : Nat) : Int) [.int .i64 10000] = some mm := by
        refine ⟨if (10000 : Int) < (((l[i]).v.s.length : Nat) : Int) then 10000 else (((l[i]).v.s.length : Nat) : Int), by split <;> omega, by split <;> omega, ?_⟩
        simp [minA]
      obtain ⟨mm, m0, m1, hm⟩ := hmin
      have w2 : IntKind.i64.wrap (acc + mm) = acc + mm := wr64 (by omega) (by omega)
      obtain ⟨x, hx, hp⟩ := pfw_all (l := l) (E := E) j (i + 1) (acc + mm) (by omega) (by omega) (by omega) (by omega)
      refine ⟨x, hx, fun T t0 t3 t5 t6 => ?_⟩
      rw [run_inLoop]
      simp only [t0, t5, t6, c1, c3, p0, g0, w1, w2, hm, Option.map_some, runVH_some, i64, Int.toNat_natCast, xx, r7_1, r7_2.1, r7_2.2.1, r7_2.2.2.1, tt, bb, bc, ↓bd, Nat.reduceEqDiff, Nat.reduceAdd, ↓reduceIte, reduceCtorEq]
      refine hp _ ?_ ?_ ?_ ?_
      all_goals simp only [upd_app, t0, t3, Nat.reduceEqDiff, ↓reduceIte]
theorem few_nil {v : AV} (hv : v = .nilS ∨ v = .vec 6 []) (E : Env) : ∃ x : Int, (x = 0 ∨ (x = 1 ∧ ([] : List Nd).length ≤ 100)) ∧ PCall Cx 7 [v, envA E] (.int .i64 x) := by
  by_cases c3 : (5000 : Int) < (E.key.length : Int)
  · refine ⟨0, .inl rfl, pcall_run (noext _) body7 ?_⟩
    rcases hv with rfl | rfl <;> simp only [c3, List.length_nil, i64, xx, run_inLoop, r7_0, r7_1, r7_2, r7_3, res7, tt, bb, bc, ↓bd, Nat.reduceEqDiff, Nat.reduceAdd, ↓reduceIte, reduceCtorEq, Int.reduceLT, Int.reduceLE]
  by_cases c4 : (5000 : Int) < (E.val.s.length : Int)
  · refine ⟨0, .inl rfl, pcall_run (noext _) body7 ?_⟩
    rcases hv with rfl | rfl <;> simp only [c3, c4, List.length_nil, i64, xx, run_inLoop, r7_0, r7_1, r7_2, r7_3, res7, tt, bb, bc, ↓bd, Nat.reduceEqDiff, Nat.reduceAdd, ↓reduceIte, reduceCtorEq, Int.reduceLT, Int.reduceLE]
  by_cases c5 : (5000 : Int) < (E.acc.s.length : Int)
  · refine ⟨0, .inl rfl, pcall_run (noext _) body7 ?_⟩
    rcases hv with rfl | rfl <;> simp only [c3, c4, c5, List.length_nil, i64, xx, run_inLoop, r7_0, r7_1, r7_2, r7_3, res7, tt, bb, bc, ↓bd, Nat.reduceEqDiff, Nat.reduceAdd, ↓reduceIte, reduceCtorEq, Int.reduceLT, Int.reduceLE]
  · refine ⟨1, .inr ⟨rfl, by simp⟩, pcall_run (noext _) body7 ?_⟩
    rcases hv with rfl | rfl <;> simp only [c3, c4, c5, List.length_nil, i64, xx, run_inLoop, r7_0, r7_1, r7_2, r7_3, res7, tt, bb, bc, ↓bd, Nat.reduceEqDiff, Nat.reduceAdd, ↓reduceIte, reduceCtorEq, Int.reduceLT, Int.reduceLE]
theorem Few_ok {v : AV} {l : List Nd} (hv : InN v l) (E : Env) : ∃ x : Int, (x = 0 ∨ (x = 1 ∧ l.length ≤ 100)) ∧ PCall Cx 7 [v, envA E] (.int .i64 x) := by
  by_cases h0 : l = []
  · subst h0
    refine few_nil ?_ E
    rcases hv with ⟨h, _⟩ | h
    · exact .inl h
    · exact .inr h
  · obtain rfl := hv.vec h0
    obtain ⟨x, hx, hp⟩ := pfw_all (l := l) (E := E) 102 0 0 (by omega) (by omega) (by omega) (by omega)
    refine ⟨x, hx, pcall_run (noext _) body7 ?_⟩
    simp only [r7_0, r7_1, tt, bb, ↓bd, Nat.reduceAdd, ↓reduceIte]
    refine hp _ ?_ ?_ ?_ ?_
    all_goals simp only [upd_app, enterT, List.getElem?_cons_zero, Option.getD_some, Nat.reduceEqDiff, ↓reduceIte]
    all_goals rfl
theorem InN.vecR {v : AV} {l : List Nd} (h : InN v l) (hr : rightM l = true) : v = .vec 6 (l.map encN) := h.vec (by rintro rfl; cases hr)
def RunV9 (l : List Nd) (E : Env) (f : Int) (r : AV) : Prop :=
  (goodE l E f = false ∧ r = .tuple [resA zV .nilS 0, .int .i64 1]) ∨
  (∃ t, goodE l E f = true ∧ WF t ∧ l = flatE t ∧ (((runE t E f.toNat).2.err ≠ 0 ∧ r = .tuple [resA zV .nilS 0, .int .i64 (runE t E f.toNat).2.err]) ∨
    ((runE t E f.toNat).2.err = 0 ∧ ∃ d, OutV d (runE t E f.toNat).2.out ∧ r = .tuple [resA (runE t E f.toNat).1 d (runE t E f.toNat).2.left, .int .i64 0])))
theorem Run_ok {v : AV} {l : List Nd} (hv : InN v l) (hn : numL l) (hl : l.length ≤ 1000000) (E : Env) (f : Int) : ∃ r, RunV9 l E f r ∧ PCall Cx 10 [v, envA E, .int .i64 f] r := by
  cases hg : goodE l E f with
  | false => exact ⟨_, .inl ⟨hg, rfl⟩, Run_bad hv hn hl hg⟩
  | true =>
    obtain ⟨hr, hE, f0, f1⟩ := good_parts hg
    obtain rfl := hv.vecR hr
    obtain ⟨_, t, hw, e⟩ := right_tree hr
    have hff : ((f.toNat : Nat) : Int) = f := by omega
    have h := Run_good (f := f.toNat) hn (by rw [hff]; exact hg) hw e
    rw [hff] at h
    by_cases he : (runE t E f.toNat).2.err = 0
    · obtain ⟨d, hd, hp⟩ := h.1 he
      exact ⟨_, .inr ⟨t, hg, hw, e, .inr ⟨he, d, hd, rfl⟩⟩, hp⟩
    · exact ⟨_, .inr ⟨t, hg, hw, e, .inl ⟨he, rfl⟩⟩, h.2 he⟩
end Go.Proofs.Ytckhmpcmlochpaa.G

namespace Go.Proofs.Ytckhmpcmlochpaa.G
open Go.BX
set_option linter.unusedSimpArgs false
set_option linter.unusedVariables false
theorem sk0 (n : Nat) : Sk ⟨0, zV, [], n, 0⟩ := ⟨rfl, Int.le_refl _, by show (0 : Int) ≤ 9007199254740992; omega, by show 0 ≤ 64; omega, fun p hp => by cases hp⟩
theorem runE_out {t : Ex} {E : Env} (hE : Ek E) (hw : WF t) {n : Nat} : (runE t E n).2.out.length ≤ 64 := (ev_k hE n t _ hw (sk0 n)).2.out
end Go.Proofs.Ytckhmpcmlochpaa.G

namespace Go.Proofs.Ytckhmpcmlochpaa.G
open Go.BX
set_option linter.unusedSimpArgs false
set_option linter.unusedVariables false
end Go.Proofs.Ytckhmpcmlochpaa.G

namespace Go.Proofs.Ytckhmpcmlochpaa.G
open Go.BX
set_option linter.unusedSimpArgs false
set_option linter.unusedVariables false
theorem ev_gas {E : Env} {g g' : Nat} {t : Ex} {s : St} (hg : s.left ≤ g) (hg' : s.left ≤ g') : (ev E g t s).2.err = (ev E g' t s).2.err ∧ ((ev E g t s).2.err ≠ 15 → ev E g' t s = ev E g t s) := by
  have h1 : (ev E g t s).2.err ≠ 15 → ev E g' t s = ev E g t s := fun h => ev_up g t s 0 g' hg hg' h
  have h2 : (ev E g' t s).2.err ≠ 15 → ev E g t s = ev E g' t s := fun h => ev_up g' t s 0 g hg' hg h
  refine ⟨?_, h1⟩
  by_cases h : (ev E g t s).2.err = 15
  · by_cases h' : (ev E g' t s).2.err = 15
    · rw [h, h']
    · rw [h2 h']
  · rw [h1 h]
theorem choice_facts {E : Env} (hE : Ek E) {tc ta tb : Ex} (hc : WF tc) (he : (runE tc E 3000).2.err = 0) (hk : (runE tc E 3000).1.k = 0) {one : Ex} (ho : one = if (runE tc E 3000).1.n = 0 then tb else ta) (hwo : WF one) :
    ((runE one E (runE tc E 3000).2.left).2.err ≠ 0 → (runE (.op3 11 tc ta tb) E 3001).2.err ≠ 0 ∧ ((runE (.op3 11 tc ta tb) E 3001).2.err = (runE one E (runE tc E 3000).2.left).2.err ∨ (runE (.op3 11 tc ta tb) E 3001).2.err = 22)) ∧
    ((runE one E (runE tc E 3000).2.left).2.err = 0 → 64 < (runE tc E 3000).2.out.length + (runE one E (runE tc E 3000).2.left).2.out.length → (runE (.op3 11 tc ta tb) E 3001).2.err = 22) ∧
    ((runE one E (runE tc E 3000).2.left).2.err = 0 → (runE tc E 3000).2.out.length + (runE one E (runE tc E 3000).2.left).2.out.length ≤ 64 → (runE (.op3 11 tc ta tb) E 3001).2.err = 0 ∧ (runE (.op3 11 tc ta tb) E 3001).1 = (runE one E (runE tc E 3000).2.left).1 ∧ (runE (.op3 11 tc ta tb) E 3001).2.left = (runE one E (runE tc E 3000).2.left).2.left ∧ (runE (.op3 11 tc ta tb) E 3001).2.out = (runE tc E 3000).2.out ++ (runE one E (runE tc E 3000).2.left).2.out) := by
  have hW : runE (.op3 11 tc ta tb) E 3001 = ev E 3000 one (runE tc E 3000).2 := by
    have e1 : runE (.op3 11 tc ta tb) E 3001 = evT E (ev E 3000) 3000 (.op3 11 tc ta tb) ⟨0, zV, [], 3000, 0⟩ := ev_succ rfl (by show 3001 ≠ 0; omega)
    have e2 : evT E (ev E 3000) 3000 (.op3 11 tc ta tb) ⟨0, zV, [], 3000, 0⟩ = if (runE tc E 3000).2.err ≠ 0 then (zV, (runE tc E 3000).2) else if (runE tc E 3000).1.k ≠ 0 then (zV, { (runE tc E 3000).2 with err := 13 }) else if (runE tc E 3000).1.n ≠ 0 then ev E 3000 ta (runE tc E 3000).2 else ev E 3000 tb (runE tc E 3000).2 := rfl
    rw [e1, e2, if_neg (by simp [he]), if_neg (by simp [hk])]
    subst ho
    by_cases hn : (runE tc E 3000).1.n = 0
    · rw [if_neg (by simp [hn]), if_pos hn]
    · rw [if_pos hn, if_neg hn]
  have hkp := ev_kp (E := E) 3000 tc ⟨0, zV, [], 3000, 0⟩
  have hsk := (ev_k hE 3000 tc _ hc (sk0 3000)).2
  have hl : (runE tc E 3000).2.left ≤ 3000 := hkp.left
  have hout : (runE tc E 3000).2.out.length ≤ 64 := hsk.out
  have hst : (runE tc E 3000).2 = preS (runE tc E 3000).2.out ⟨0, zV, [], (runE tc E 3000).2.left, 0⟩ := by
    have i1 : (runE tc E 3000).2.i = 0 := hkp.i
    have i2 : (runE tc E 3000).2.it = zV := hkp.it
    generalize runE tc E 3000 = r at *
    obtain ⟨v, i, it, out, left, err⟩ := r
    simp only at i1 i2 he
    subst i1 i2 he
    simp [preS]
  generalize hP : (runE tc E 3000).2.out = P at *
  generalize hL : (runE tc E 3000).2.left = L at *
  rw [hst] at hW
  have hpre := ev_pre (P := P) (E := E) 3000 one ⟨0, zV, [], L, 0⟩ (by show P.length + 0 ≤ 64; omega)
  rw [← hW] at hpre
  obtain ⟨g1, g2⟩ := ev_gas (E := E) (g := L) (g' := 3000) (t := one) (s := ⟨0, zV, [], L, 0⟩) (Nat.le_refl _) hl
  have eq1 : ev E L one ⟨0, zV, [], L, 0⟩ = runE one E L := rfl
  rw [eq1] at g1 g2
  have hso := runE_out hE hwo (n := L)
  refine ⟨fun h => ?_, fun h h64 => ?_, fun h h64 => ?_⟩
  · rcases hpre with ⟨h1, h2⟩ | ⟨h1, h2⟩
    · have : (runE (.op3 11 tc ta tb) E 3001).2.err = (runE one E L).2.err := by rw [h1, g1]; rfl
      exact ⟨by rw [this]; exact h, .inl this⟩
    · exact ⟨by rw [h1]; decide, .inr h1⟩
  · have e := g2 (by rw [h]; decide)
    rcases hpre with ⟨h1, h2⟩ | ⟨h1, h2⟩
    · rw [e] at h2; omega
    · exact h1
  · have e := g2 (by rw [h]; decide)
    rcases hpre with ⟨h1, h2⟩ | ⟨h1, h2⟩
    · rw [h1, e]
      exact ⟨h, rfl, rfl, rfl⟩
    · rw [e] at h2; omega
theorem InN.source {v : AV} {l : List Nd} (h : InN v l) (H : AHeap) : source H 6 v = some (l.map encN) := by
  rcases h with ⟨rfl, rfl⟩ | rfl <;> rfl
def BufH (h0 : Nat) (d : AV) (n : Nat) (A : Nat → Blk) (acc : List Nd) : Prop := (d = .nilS ∧ acc = []) ∨ ∃ g, d = .slc g 6 0 acc.length ∧ h0 ≤ g ∧ g < n ∧ A g = .cells 32 6 (acc.map encN)
theorem r8sl : isSl Cx 22 32 := ⟨_, TT_22, rfl⟩
theorem appN {h0 : Nat} {d v : AV} {n : Nat} {A : Nat → Blk} {acc l : List Nd} (hd : BufH h0 d n A acc) (hh : h0 ≤ n) (hv : InN v l) (hl : acc.length + l.length ≤ 1000000) :
    ∃ d' n' A', builtinM Cx ⟨n, A⟩ .append [22, 22] [d, v] = some (d', ⟨n', A'⟩) ∧ BufH h0 d' n' A' (acc ++ l) ∧ n ≤ n' ∧ ∀ b, b < h0 → A' b = A b := by
  have hs := hv.source ⟨n, A⟩
  by_cases hl0 : l = []
  · subst hl0
    refine ⟨d, n, A, ?_, by rw [List.append_nil]; exact hd, Nat.le_refl _, fun _ _ => rfl⟩
    rcases hd with ⟨rfl, rfl⟩ | ⟨g, rfl, h2, h3, h4⟩
    · simp only [builtinM, appendA, hs, List.map_nil, tt, ↓reduceIte]
    · have m1 : acc.length * 56 ≤ most := by unfold most; simp at hl; omega
      have m2 : acc.length ≤ most := by unfold most; simp at hl; omega
      have m3 : acc.length ≤ (acc.map encN).length := by simp
      simp only [builtinM, appendA, hs, h4, m1, m2, m3, List.map_nil, tt, bb, ↓reduceIte]
  · have e0 : (l.map encN = []) = False := eq_false (by simp [hl0])
    rcases hd with ⟨rfl, rfl⟩ | ⟨g, rfl, h2, h3, h4⟩
    · have m1 : (l.map encN).length * 56 ≤ most := by unfold most; rw [List.length_map]; simp at hl; omega
      have m2 : (l.map encN).length ≤ most := by unfold most; rw [List.length_map]; simp at hl; omega
      refine ⟨.slc n 6 0 (l.map encN).length, n + 1, upd A n (.cells 32 6 (l.map encN)), ?_, .inr ⟨n, by rw [List.length_map]; rfl, hh, Nat.lt_succ_self _, by rw [upd_app, if_pos rfl]; rfl⟩, Nat.le_succ _, fun b hb => ?_⟩
      · simp only [builtinM, appendA, hs, e0, m1, m2, tt, bb, ↓bd, ↓reduceIte]
      · rw [upd_app, if_neg (by omega)]
    · have m1 : (acc.length + (l.map encN).length) * 56 ≤ most := by unfold most; rw [List.length_map]; omega
      have m2 : acc.length + (l.map encN).length ≤ most := by unfold most; rw [List.length_map]; omega
      have m3 : acc.length ≤ (acc.map encN).length := by simp
      have ht : (acc.map encN).take acc.length = acc.map encN := List.take_of_length_le (by simp)
      refine ⟨.slc n 6 0 (acc.length + (l.map encN).length), n + 1, upd (upd A g .dead) n (.cells 32 6 ((acc.map encN).take acc.length ++ l.map encN)), ?_, .inr ⟨n, by rw [List.length_map, List.length_append], hh, Nat.lt_succ_self _, ?_⟩, Nat.le_succ _, fun b hb => ?_⟩
      · simp only [builtinM, appendA, hs, h4, m3, e0, m1, m2, tt, bb, ↓bd, ↓reduceIte]
      · rw [upd_app, if_pos rfl, ht, ← List.map_append]
      · rw [upd_app, if_neg (by omega), upd_app, if_neg (by omega)]
theorem OutV.source {v : AV} {l : List Pr} (h : OutV v l) (H : AHeap) : source H 6 v = some (l.map encP) := by
  rcases h with ⟨rfl, rfl⟩ | rfl <;> rfl
def BufO (h0 : Nat) (d : AV) (n : Nat) (A : Nat → Blk) (acc : List Pr) : Prop := (d = .nilS ∧ acc = []) ∨ ∃ g, d = .slc g 6 0 acc.length ∧ h0 ≤ g ∧ g < n ∧ A g = .cells 54 6 (acc.map encP)
theorem appO {h0 : Nat} {d v : AV} {n : Nat} {A : Nat → Blk} {acc l : List Pr} (hd : BufO h0 d n A acc) (hh : h0 ≤ n) (hv : OutV v l) (hl : acc.length + l.length ≤ 1000000) :
    ∃ d' n' A', builtinM Cx ⟨n, A⟩ .append [36, 36] [d, v] = some (d', ⟨n', A'⟩) ∧ BufO h0 d' n' A' (acc ++ l) ∧ n ≤ n' ∧ ∀ b, b < h0 → A' b = A b := by
  have hs := hv.source ⟨n, A⟩
  by_cases hl0 : l = []
  · subst hl0
    refine ⟨d, n, A, ?_, by rw [List.append_nil]; exact hd, Nat.le_refl _, fun _ _ => rfl⟩
    rcases hd with ⟨rfl, rfl⟩ | ⟨g, rfl, h2, h3, h4⟩
    · simp only [builtinM, appendA, hs, List.map_nil, tt, ↓reduceIte]
    · have m1 : acc.length * 64 ≤ most := by unfold most; simp at hl; omega
      have m2 : acc.length ≤ most := by unfold most; simp at hl; omega
      have m3 : acc.length ≤ (acc.map encP).length := by simp
      simp only [builtinM, appendA, hs, h4, m1, m2, m3, List.map_nil, tt, bb, ↓reduceIte]
  · have e0 : (l.map encP = []) = False := eq_false (by simp [hl0])
    rcases hd with ⟨rfl, rfl⟩ | ⟨g, rfl, h2, h3, h4⟩
    · have m1 : (l.map encP).length * 64 ≤ most := by unfold most; rw [List.length_map]; simp at hl; omega
      have m2 : (l.map encP).length ≤ most := by unfold most; rw [List.length_map]; simp at hl; omega
      refine ⟨.slc n 6 0 (l.map encP).length, n + 1, upd A n (.cells 54 6 (l.map encP)), ?_, .inr ⟨n, by rw [List.length_map]; rfl, hh, Nat.lt_succ_self _, by rw [upd_app, if_pos rfl]; rfl⟩, Nat.le_succ _, fun b hb => ?_⟩
      · simp only [builtinM, appendA, hs, e0, m1, m2, tt, bb, ↓bd, ↓reduceIte]
      · rw [upd_app, if_neg (by omega)]
    · have m1 : (acc.length + (l.map encP).length) * 64 ≤ most := by unfold most; rw [List.length_map]; omega
      have m2 : acc.length + (l.map encP).length ≤ most := by unfold most; rw [List.length_map]; omega
      have m3 : acc.length ≤ (acc.map encP).length := by simp
      have ht : (acc.map encP).take acc.length = acc.map encP := List.take_of_length_le (by simp)
      refine ⟨.slc n 6 0 (acc.length + (l.map encP).length), n + 1, upd (upd A g .dead) n (.cells 54 6 ((acc.map encP).take acc.length ++ l.map encP)), ?_, .inr ⟨n, by rw [List.length_map, List.length_append], hh, Nat.lt_succ_self _, ?_⟩, Nat.le_succ _, fun b hb => ?_⟩
      · simp only [builtinM, appendA, hs, h4, m3, e0, m1, m2, tt, bb, ↓bd, ↓reduceIte]
      · rw [upd_app, if_pos rfl, ht, ← List.map_append]
      · rw [upd_app, if_neg (by omega), upd_app, if_neg (by omega)]
end Go.Proofs.Ytckhmpcmlochpaa.G

namespace Go.Proofs.Ytckhmpcmlochpaa.G
open Go.BX
set_option linter.unusedSimpArgs false
set_option linter.unusedVariables false
theorem Of_made {l : List Nd} (h0 : l ≠ []) (hl : l.length ≤ 100000) : PMade Cx 9 [.vec 6 (l.map encN)] (.vec 6 (l.map encN)) := by
  refine pmade_run (noext _) body9 ?_
  simp only [r9_0, r9_1, bb, ↓bd]
  refine of_all hl (fun d h A hb => ?_) l.length 0 _ AHeap.empty.next AHeap.empty.at_ (by omega) ?_ ?_ (.inl ⟨?_, rfl⟩)
  · rcases hb with ⟨_, h⟩ | ⟨g, rfl, hg, hA⟩
    · exact absurd h h0
    · have hz : BufN 56 (.slc g 6 0 l.length) h A l := .inr ⟨g, rfl, hg, hA⟩
      obtain ⟨w, hw, hf⟩ := hz.freeze
      have hwv := hw.vec h0
      subst hwv
      refine ⟨_, hf, ?_⟩
      have he : elems ⟨h, A⟩ 6 (.slc g 6 0 l.length) = some (l.map encN) := by
        unfold elems
        simp only [hA]
        rw [if_pos ⟨trivial, trivial, by simp⟩, List.drop_zero, List.take_of_length_le (by simp)]
      have hs : (l.map encN).all (fun e => e.all AV.solid1) = true := by
        rw [List.all_eq_true]
        intro e he
        obtain ⟨x, _, rfl⟩ := List.mem_map.mp he
        rfl
      show made1 ⟨h, A⟩ (.slc g 6 0 l.length) = _
      show (match elems ⟨h, A⟩ 6 (.slc g 6 0 l.length) with | some es => if es.all (fun e => e.all AV.solid1) then some (AV.vec 6 es) else none | none => none) = _
      rw [he]
      show (if (l.map encN).all (fun e => e.all AV.solid1) then some (AV.vec 6 (l.map encN)) else none) = _
      rw [if_pos hs]
  all_goals simp only [upd_app, enterT, List.getElem?_cons_zero, Option.getD_some, Nat.reduceEqDiff, ↓reduceIte]
  all_goals rfl
theorem r8ti : ∃ ti, Cx.TT 32 = some ti ∧ ti.size = 6 ∧ ti.bytes = 56 := ⟨_, TT_32, rfl, rfl⟩
theorem BufH.plain {h0 n : Nat} {d : AV} {A : Nat → Blk} {acc : List Nd} (h : BufH h0 d n A acc) : d.plain = true := by
  rcases h with ⟨rfl, _⟩ | ⟨g, rfl, _⟩ <;> rfl
theorem BufH.frozen {h0 n : Nat} {d : AV} {A : Nat → Blk} {acc : List Nd} (h : BufH h0 d n A acc) (h1 : acc ≠ []) : [d].all AV.flat = false ∧ mapO (BX.freeze ⟨n, A⟩) [d] = some [.vec 6 (acc.map encN)] := by
  rcases h with ⟨_, h⟩ | ⟨g, rfl, hg, hn, hA⟩
  · exact absurd h h1
  · refine ⟨rfl, ?_⟩
    have he : elems ⟨n, A⟩ 6 (.slc g 6 0 acc.length) = some (acc.map encN) := by
      unfold elems
      simp only [hA]
      rw [if_pos ⟨trivial, trivial, by simp⟩, List.drop_zero, List.take_of_length_le (by simp)]
    have hr : ∀ l : List Nd, mapO (mapO (freeze1 ⟨n, A⟩ 3)) (l.map encN) = some (l.map encN) := by
      intro l
      induction l with
      | nil => rfl
      | cons p l ih =>
        rw [List.map_cons, mapO_cons, ih]
        have : mapO (freeze1 ⟨n, A⟩ 3) (encN p) = some (encN p) := mapO_all (p := AV.flat1) (fun v hv => freeze1_flat hv) rfl
        rw [this]; rfl
    rw [mapO_cons, freeze_slc, he, frzE_some, hr]
    rfl
theorem dop_builtin {C : Ctx} {ro : Option Nat} {dst : Option Nat} {os : List AO} {cs : List (List Nat)} {T : Nat → AV} {ds : List ADef} {H : AHeap} {b : Builtin} {args : Array Operand} {ts : Array TypeId} {vs : List AV} (h : evs T args.toList = some vs) :
    DynOp C ro (.call { callee := .builtin b, args := args, argTypes := ts }) dst os cs T ds H = DynV C ro dst os cs T ds (builtinA C H b ts.toList vs) := by
  refine dop_of fun cl => ?_
  simp only [opRun, opCall, h]
  cases builtinA C H b ts.toList vs with
  | none => rfl
  | some z => obtain ⟨v, H1⟩ := z; rfl
theorem good_of {l l' : List Nd} {E : Env} {f f' : Int} (h : goodE l E f = true) (hr : rightM l' = true) (h0 : 0 ≤ f') (h1 : f' ≤ 100000) : goodE l' E f' = true := by
  obtain ⟨_, hE, _⟩ := good_parts h
  unfold goodE
  simp [hr, hE.key, hE.val, hE.acc, h0, h1]
theorem BufO.plain {h0 n : Nat} {d : AV} {A : Nat → Blk} {acc : List Pr} (h : BufO h0 d n A acc) : d.plain = true := by
  rcases h with ⟨rfl, _⟩ | ⟨g, rfl, _⟩ <;> rfl
theorem BufO.frozen {h0 n : Nat} {d : AV} {A : Nat → Blk} {acc : List Pr} (h : BufO h0 d n A acc) : ∃ w, OutV w acc ∧ BX.freeze ⟨n, A⟩ d = some w := by
  rcases h with ⟨rfl, rfl⟩ | ⟨g, rfl, hg, hn, hA⟩
  · exact ⟨.nilS, .inl ⟨rfl, rfl⟩, rfl⟩
  · exact (show Ow (.slc g 6 0 acc.length) n A acc from .inr ⟨g, rfl, hn, hA⟩).out
set_option maxRecDepth 20000 in
theorem ec_tail {vo d d1 : AV} {lo lw lc : List Nd} {tc ta tb one : Ex} {E : Env} (ho : InN vo lo) (no : numL lo) (hlo : lo.length ≤ 100) (hro : rightM lo = true) (elo : lo = flatE one) (hwo : WF one)
    (hg : goodE lc E 3000 = true) (htc : WF tc) (he : (runE tc E 3000).2.err = 0) (hk : (runE tc E 3000).1.k = 0) (hone : one = if (runE tc E 3000).1.n = 0 then tb else ta) (hd1 : OutV d1 (runE tc E 3000).2.out)
    (nw : numL lw) (hlw : lw.length ≤ 301) (hrw : rightM lw = true) (elw : lw = flatE (.op3 11 tc ta tb)) (hww : WF (.op3 11 tc ta tb))
    {n : Nat} {A : Nat → Blk} {T : Nat → AV} (hd : BufH 1 d n A lw) (hn : 1 ≤ n) (hA : A 0 = envB E) (t7 : T 7 = .ptr 0 11 0 0) (t9 : T 9 = d) (t10 : T 10 = .ptr n 7 0 0) (t12 : T 12 = vo) :
    Run Cx 3 T [] none [.code c3_40] ⟨n + 1, upd A n (.cells 38 7 [[.int .i64 (runE tc E 3000).1.k, .int .i64 (runE tc E 3000).1.n, .str (runE tc E 3000).1.s, .int .i64 (runE tc E 3000).1.x, .int .i64 (runE tc E 3000).1.y, d1, .int .i64 ((runE tc E 3000).2.left : Int)]])⟩ (fun r0 H' => BX.freeze H' r0 = some (.bool true)) := by
  obtain ⟨hE1, hE, _⟩ := good_parts hg
  have hkp := ev_kp (E := E) 3000 tc ⟨0, zV, [], 3000, 0⟩
  have hle : (runE tc E 3000).2.left ≤ 3000 := hkp.left
  have hco := runE_out hE htc (n := 3000)
  obtain ⟨c1, c2, c3⟩ := choice_facts hE htc he hk hone hwo
  have hpo := runE_out hE hwo (n := (runE tc E 3000).2.left)
  obtain ⟨wo, hwov, oo⟩ := Of_ok ho (by omega)
  have hgo := good_of (f' := (((runE tc E 3000).2.left : Nat) : Int)) hg hro (by omega) (by omega)
  have hgw := good_of (f' := 3001) hg hrw (by omega) (by omega)
  have hwv := hwov.vecR hro
  subst hwv
  have hp2 := Run_good no hgo hwo elo
  have hp3 := Run_good (f := 3001) nw hgw hww elw
  have f1 : [vo].all AV.flat = true := by rw [List.all_cons, ho.flat]; rfl
  have pd := hd.plain
  have pvo : vo.plain = true := by rcases ho with ⟨rfl, _⟩ | rfl <;> rfl
  simp only [AV.plain] at pd pvo
  have hpl1 := hd1.plain
  have hcs1 := hd1.cells
  have hln1 := hd1.len
  simp only [AV.plain] at hpl1
  simp only [AV.cells] at hcs1
  simp only [BX.lenOf] at hln1
  have hA' : A 0 = .cells 28 11 [[.str E.key, .int .i64 E.val.k, .int .i64 E.val.n, .str E.val.s, .int .i64 E.val.x, .int .i64 E.val.y, .int .i64 E.acc.k, .int .i64 E.acc.n, .str E.acc.s, .int .i64 E.acc.x, .int .i64 E.acc.y]] := hA
  have uu : ∀ (A : Nat → Blk) (c : Nat) (X Y : Blk), upd (upd A c X) c Y = upd A c Y := fun A c X Y => upd2 A c X Y
  have e1 : (0 = n) = False := eq_false (by omega)
  have e2 : (n = n + 1) = False := eq_false (by omega)
  have e3 : (n = n + 1 + 1) = False := eq_false (by omega)
  have e4 : (n + 1 = n + 1 + 1) = False := eq_false (by omega)
  have e5 : (n + 1 = n) = False := eq_false (by omega)
  have e6 : (n + 1 + 1 = n) = False := eq_false (by omega)
  have e7 : (n + 1 + 1 = n + 1) = False := eq_false (by omega)
  have hlwne : lw ≠ [] := by rintro rfl; cases hrw
  have om := Of_made hlwne (by omega)
  have df := (hd.frozen hlwne).1
  have dz2 : ∀ X Y, mapO (BX.freeze ⟨n + 1 + 1, upd (upd A n X) (n + 1) Y⟩) [d] = some [.vec 6 (lw.map encN)] := fun X Y => by
    have : BufH 1 d (n + 1 + 1) (upd (upd A n X) (n + 1) Y) lw := by
      rcases hd with h | ⟨g, h1, h2, h3, h4⟩
      · exact .inl h
      · exact .inr ⟨g, h1, h2, by omega, by rw [upd_app, if_neg (by omega), upd_app, if_neg (by omega)]; exact h4⟩
    exact (this.frozen hlwne).2
  by_cases hpe : (runE one E (runE tc E 3000).2.left).2.err = 0
  · obtain ⟨d2, hd2, hp2'⟩ := hp2.1 hpe
    have z1 : ((0 : Int) != 0) = false := rfl
    have hpl2 := hd2.plain
    have hcs2 := hd2.cells
    have hln2 := hd2.len
    simp only [AV.plain] at hpl2
    simp only [AV.cells] at hcs2
    simp only [BX.lenOf] at hln2
    have w1 : IntKind.i64.wrap (((runE tc E 3000).2.out.length : Int) + ((runE one E (runE tc E 3000).2.left).2.out.length : Int)) = (((runE tc E 3000).2.out.length + (runE one E (runE tc E 3000).2.left).2.out.length : Nat) : Int) := by rw [wr64 (by omega) (by omega)]; omega
    by_cases h64 : 64 < (runE tc E 3000).2.out.length + (runE one E (runE tc E 3000).2.left).2.out.length
    · have h22 := c2 hpe h64
      have hp3' := hp3.2 (by rw [h22]; decide)
      rw [h22, show (((3001 : Nat)) : Int) = 3001 from rfl] at hp3'
      have z4 : (64 : Int) < (((runE tc E 3000).2.out.length + (runE one E (runE tc E 3000).2.left).2.out.length : Nat) : Int) := by omega
      simp only [z4, t7, t9, t10, t12, hA', e1, e2, e3, e4, uu, z1, w1, hln1, hln2, call_pure pure9 f1 oo, call_pure pure10 rfl hp2', call_made pure9 df (dz2 _ _) om, call_pure pure10 rfl hp3', i64, r3_5, r3_6, r3_7, res3, tt, bb, bc, ↓bd, Nat.reduceEqDiff, Nat.reduceAdd, ↓reduceIte, reduceCtorEq]
    · obtain ⟨w0, w2, w3, w4⟩ := c3 hpe (by omega)
      obtain ⟨d3, hd3, hp3'⟩ := hp3.1 w0
      rw [w2, w3, show (((3001 : Nat)) : Int) = 3001 from rfl] at hp3'
      rw [w4] at hd3
      have hpl3 := hd3.plain
      have hcs3 := hd3.cells
      simp only [AV.plain] at hpl3
      simp only [AV.cells] at hcs3
      have z4 : ¬ (64 : Int) < (((runE tc E 3000).2.out.length + (runE one E (runE tc E 3000).2.left).2.out.length : Nat) : Int) := by omega
      have happ : ∀ Z : Nat → Blk, ∃ da na Aa db nb Ab, builtinM Cx ⟨n + 1 + 1 + 1, Z⟩ .append [36, 36] [.nilS, d1] = some (da, ⟨na, Aa⟩) ∧ BufO (n + 1 + 1 + 1) da na Aa (runE tc E 3000).2.out ∧ n + 1 + 1 + 1 ≤ na ∧ (∀ b, b < n + 1 + 1 + 1 → Aa b = Z b) ∧
          builtinM Cx ⟨na, Aa⟩ .append [36, 36] [da, d2] = some (db, ⟨nb, Ab⟩) ∧ BufO (n + 1 + 1 + 1) db nb Ab ((runE tc E 3000).2.out ++ (runE one E (runE tc E 3000).2.left).2.out) ∧ na ≤ nb ∧ (∀ b, b < n + 1 + 1 + 1 → Ab b = Z b) := by
        intro Z
        obtain ⟨da, na, Aa, h1, h2, h3, h4⟩ := appO (h0 := n + 1 + 1 + 1) (d := .nilS) (n := n + 1 + 1 + 1) (A := Z) (acc := []) (.inl ⟨rfl, rfl⟩) (Nat.le_refl _) hd1 (by simp; omega)
        obtain ⟨db, nb, Ab, g1, g2, g3, g4⟩ := appO h2 h3 hd2 (by simp; omega)
        exact ⟨da, na, Aa, db, nb, Ab, h1, h2, h3, h4, g1, g2, g3, fun b hb => by rw [g4 b hb, h4 b hb]⟩
      simp only [z4, t7, t9, t10, t12, hA', e1, e2, e3, e4, uu, z1, w1, hln1, hln2, call_pure pure9 f1 oo, call_pure pure10 rfl hp2', call_made pure9 df (dz2 _ _) om, call_pure pure10 rfl hp3', i64, r3_5, r3_6, r3_7, tt, bb, bc, ↓bd, Nat.reduceEqDiff, Nat.reduceAdd, ↓reduceIte, reduceCtorEq]
      have hZ := happ (upd (upd (upd A n (.cells 38 7 [[.int .i64 (runE tc E 3000).1.k, .int .i64 (runE tc E 3000).1.n, .str (runE tc E 3000).1.s, .int .i64 (runE tc E 3000).1.x, .int .i64 (runE tc E 3000).1.y, d1, .int .i64 ((runE tc E 3000).2.left : Int)]])) (n + 1) (.cells 38 7 [[.int .i64 (runE one E (runE tc E 3000).2.left).1.k, .int .i64 (runE one E (runE tc E 3000).2.left).1.n, .str (runE one E (runE tc E 3000).2.left).1.s, .int .i64 (runE one E (runE tc E 3000).2.left).1.x, .int .i64 (runE one E (runE tc E 3000).2.left).1.y, d2, .int .i64 ((runE one E (runE tc E 3000).2.left).2.left : Int)]])) (n + 1 + 1) (.cells 38 7 [[.int .i64 (runE one E (runE tc E 3000).2.left).1.k, .int .i64 (runE one E (runE tc E 3000).2.left).1.n, .str (runE one E (runE tc E 3000).2.left).1.s, .int .i64 (runE one E (runE tc E 3000).2.left).1.x, .int .i64 (runE one E (runE tc E 3000).2.left).1.y, d3, .int .i64 ((runE one E (runE tc E 3000).2.left).2.left : Int)]]))
      obtain ⟨da, na, Aa, db, nb, Ab, h1, h2, h3, h4, h5, h6, h7, h8⟩ := hZ
      have a2 : Aa (n + 1) = .cells 38 7 [[.int .i64 (runE one E (runE tc E 3000).2.left).1.k, .int .i64 (runE one E (runE tc E 3000).2.left).1.n, .str (runE one E (runE tc E 3000).2.left).1.s, .int .i64 (runE one E (runE tc E 3000).2.left).1.x, .int .i64 (runE one E (runE tc E 3000).2.left).1.y, d2, .int .i64 ((runE one E (runE tc E 3000).2.left).2.left : Int)]] := by
        rw [h4 _ (by omega), upd_app, if_neg (by omega), upd_app, if_pos rfl]
      have b2 : Ab (n + 1) = .cells 38 7 [[.int .i64 (runE one E (runE tc E 3000).2.left).1.k, .int .i64 (runE one E (runE tc E 3000).2.left).1.n, .str (runE one E (runE tc E 3000).2.left).1.s, .int .i64 (runE one E (runE tc E 3000).2.left).1.x, .int .i64 (runE one E (runE tc E 3000).2.left).1.y, d2, .int .i64 ((runE one E (runE tc E 3000).2.left).2.left : Int)]] := by
        rw [h8 _ (by omega), upd_app, if_neg (by omega), upd_app, if_pos rfl]
      have b3 : Ab (n + 1 + 1) = .cells 38 7 [[.int .i64 (runE one E (runE tc E 3000).2.left).1.k, .int .i64 (runE one E (runE tc E 3000).2.left).1.n, .str (runE one E (runE tc E 3000).2.left).1.s, .int .i64 (runE one E (runE tc E 3000).2.left).1.x, .int .i64 (runE one E (runE tc E 3000).2.left).1.y, d3, .int .i64 ((runE one E (runE tc E 3000).2.left).2.left : Int)]] := by
        rw [h8 _ (by omega), upd_app, if_pos rfl]
      have qa := h2.plain
      have qb := h6.plain
      simp only [AV.plain] at qa qb
      obtain ⟨vb, hvb, hzb⟩ := h6.frozen
      have hs := Same_ok hd3 hvb (by rw [List.length_append]; omega)
      have fz : mapO (BX.freeze ⟨nb, Ab⟩) [d3, db] = some [d3, vb] := by
        rw [mapO_cons, freeze_flat hd3.flat, mapO_cons, hzb]
        rfl
      have hsame : ∀ {T : Nat → AV} {k : List AItem} {Q : AV → AHeap → Prop} {dst : Option Nat} {os : List AO}, RunCall Cx 3 T [] none 11 [d3, db] dst os k ⟨nb, Ab⟩ Q = RunOps Cx 3 (putA T dst (.bool true)) [] none os k ⟨nb, Ab⟩ Q := by
        intro T k Q dst os
        cases hfl : ([d3, db].all AV.flat) with
        | true =>
          have hdb : db.flat = true := by
            rw [List.all_cons, List.all_cons, hd3.flat] at hfl
            simpa using hfl
          have : vb = db := by
            have := freeze_flat (H := ⟨nb, Ab⟩) hdb
            rw [hzb] at this
            exact Option.some.inj this
          rw [this] at hs
          exact call_pure pure11 hfl hs
        | false => exact call_frozen pure11 hfl fz rfl hs
      refine ⟨?_, ?_⟩
      · rw [dop_builtin (vs := [.nilS, d1]) rfl]
        show DynV Cx none (some 138) _ _ _ [] (builtinM Cx _ .append [36, 36] [.nilS, d1])
        rw [h1]
        show Dyn Cx none _ _ _ [] _
        simp only [a2, dyn_cons, tt, bb, ↓bd, Nat.reduceEqDiff, ↓reduceIte]
        refine ⟨rfl, ?_⟩
        rw [dop_builtin (vs := [da, d2]) rfl]
        show DynV Cx none (some 141) _ _ _ [] (builtinM Cx _ .append [36, 36] [da, d2])
        rw [h5]
        show Dyn Cx none _ _ _ [] _
        simp only [dyn_cons, dyn_nil, bb, ↓bd, ↓reduceIte]
      · simp only [h1, h5, a2, b2, b3, runVH_some, beq_self_eq_true, hsame, r3_8, res3, tt, bb, bc, ↓bd, Nat.reduceEqDiff, Nat.reduceAdd, Nat.reduceLeDiff, ↓reduceIte]
  · obtain ⟨g1, g2⟩ := c1 hpe
    have hp2' := hp2.2 hpe
    have hp3' := hp3.2 g1
    rw [show (((3001 : Nat)) : Int) = 3001 from rfl] at hp3'
    have z1 : ((runE one E (runE tc E 3000).2.left).2.err != 0) = true := by simpa using hpe
    have z5 : ((runE (.op3 11 tc ta tb) E 3001).2.err != 0) = true := by simpa using g1
    rcases g2 with g2 | g2
    · rw [g2] at hp3' z5
      simp only [beq_self_eq_true, z5, t7, t9, t10, t12, hA', e1, uu, call_pure pure9 f1 oo, call_pure pure10 rfl hp2', call_made pure9 df (dz2 _ _) om, call_pure pure10 rfl hp3', r3_5, r3_6, res3, tt, bb, bc, ↓bd, Nat.reduceEqDiff, Nat.reduceAdd, ↓reduceIte, reduceCtorEq]
    · rw [g2] at hp3'
      cases z6 : ((22 : Int) == (runE one E (runE tc E 3000).2.left).2.err) with
      | true => simp only [z6, t7, t9, t10, t12, hA', e1, uu, z1, call_pure pure9 f1 oo, call_pure pure10 rfl hp2', call_made pure9 df (dz2 _ _) om, call_pure pure10 rfl hp3', r3_5, r3_6, res3, tt, bb, bc, ↓bd, Nat.reduceEqDiff, Nat.reduceAdd, ↓reduceIte, reduceCtorEq, Int.reduceBNe]
      | false =>
        cases z7 : ((runE one E (runE tc E 3000).2.left).2.err == 22) with
        | true => simp only [z6, z7, t7, t9, t10, t12, hA', e1, uu, z1, call_pure pure9 f1 oo, call_pure pure10 rfl hp2', call_made pure9 df (dz2 _ _) om, call_pure pure10 rfl hp3', r3_5, r3_6, res3, tt, bb, bc, ↓bd, Nat.reduceEqDiff, Nat.reduceAdd, ↓reduceIte, reduceCtorEq, Int.reduceBNe]
        | false => simp only [z6, z7, t7, t9, t10, t12, hA', e1, uu, z1, call_pure pure9 f1 oo, call_pure pure10 rfl hp2', call_made pure9 df (dz2 _ _) om, call_pure pure10 rfl hp3', r3_5, r3_6, res3, tt, bb, bc, ↓bd, Nat.reduceEqDiff, Nat.reduceAdd, ↓reduceIte, reduceCtorEq, Int.reduceBNe]
set_option maxRecDepth 20000 in
theorem ec_rest {vc va vb d : AV} {lc la lb : List Nd} (hc : InN vc lc) (ha : InN va la) (hb : InN vb lb) (nc : numL lc) (na : numL la) (nb : numL lb) (hlc : lc.length ≤ 100) (hla : la.length ≤ 100) (hlb : lb.length ≤ 100) (E : Env) {n : Nat} {A : Nat → Blk} {T : Nat → AV} (hd : BufH 1 d n A (⟨11, zV⟩ :: (lc ++ (la ++ lb)))) (hn : 1 ≤ n) (hA : A 0 = envB E)
    (t0 : T 0 = vc) (t1 : T 1 = va) (t2 : T 2 = vb) (t7 : T 7 = .ptr 0 11 0 0) (t9 : T 9 = d) :
    Run Cx 3 T [] none [.code c3_14] ⟨n, A⟩ (fun r0 H' => BX.freeze H' r0 = some (.bool true)) := by
  have f1 : ∀ {v : AV} {l : List Nd}, InN v l → [v].all AV.flat = true := fun hv => by rw [List.all_cons, hv.flat]; rfl
  have f3 : ∀ {v : AV} {l : List Nd}, InN v l → ∀ f : Int, [v, envA E, .int .i64 f].all AV.flat = true := fun hv f => by rw [List.all_cons, hv.flat]; rfl
  have pl : ∀ {v : AV} {l : List Nd}, InN v l → v.plain = true := fun hv => by rcases hv with ⟨rfl, _⟩ | rfl <;> rfl
  have pc := pl hc
  have pa := pl ha
  have pb := pl hb
  have pd := hd.plain
  simp only [AV.plain] at pc pa pb pd
  obtain ⟨wc, hwc, oc⟩ := Of_ok hc (by omega)
  obtain ⟨wa, hwa, oa⟩ := Of_ok ha (by omega)
  obtain ⟨wb, hwb, ob⟩ := Of_ok hb (by omega)
  have rc := ERight_ok hwc nc (by omega)
  have ra := ERight_ok hwa na (by omega)
  have rb := ERight_ok hwb nb (by omega)
  have hA' : A 0 = .cells 28 11 [[.str E.key, .int .i64 E.val.k, .int .i64 E.val.n, .str E.val.s, .int .i64 E.val.x, .int .i64 E.val.y, .int .i64 E.acc.k, .int .i64 E.acc.n, .str E.acc.s, .int .i64 E.acc.x, .int .i64 E.acc.y]] := hA
  cases hrc : rightM lc with
  | false =>
    rw [hrc] at rc
    simp only [t0, call_pure pure9 (f1 hc) oc, call_pure pure8 (f1 hwc) rc, r3_1, r3_2, res3, bb, bc, ↓bd, Nat.reduceEqDiff, ↓reduceIte, reduceCtorEq]
  | true =>
  rw [hrc] at rc
  cases hra : rightM la with
  | false =>
    rw [hra] at ra
    simp only [t0, t1, call_pure pure9 (f1 hc) oc, call_pure pure8 (f1 hwc) rc, call_pure pure9 (f1 ha) oa, call_pure pure8 (f1 hwa) ra, r3_1, r3_2, res3, bb, bc, ↓bd, Nat.reduceEqDiff, ↓reduceIte, reduceCtorEq]
  | true =>
  rw [hra] at ra
  cases hrb : rightM lb with
  | false =>
    rw [hrb] at rb
    simp only [t0, t1, t2, call_pure pure9 (f1 hc) oc, call_pure pure8 (f1 hwc) rc, call_pure pure9 (f1 ha) oa, call_pure pure8 (f1 hwa) ra, call_pure pure9 (f1 hb) ob, call_pure pure8 (f1 hwb) rb, r3_1, r3_2, res3, bb, bc, ↓bd, Nat.reduceEqDiff, ↓reduceIte, reduceCtorEq]
  | true =>
  rw [hrb] at rb
  have hne : (⟨11, zV⟩ :: (lc ++ (la ++ lb)) : List Nd) ≠ [] := by simp
  have nw : numL (⟨11, zV⟩ :: (lc ++ (la ++ lb))) := by
    intro x hx
    rcases List.mem_cons.mp hx with rfl | hx
    · exact ⟨by show (-9223372036854775808 : Int) ≤ 11; omega, by show (11 : Int) ≤ 9223372036854775807; omega⟩
    rcases List.mem_append.mp hx with hx | hx
    · exact nc x hx
    rcases List.mem_append.mp hx with hx | hx
    · exact na x hx
    · exact nb x hx
  have lw : (⟨11, zV⟩ :: (lc ++ (la ++ lb)) : List Nd).length ≤ 301 := by simp; omega
  obtain ⟨df, dz⟩ := hd.frozen hne
  have om := Of_made hne (by omega)
  have rw_ := ERight_ok (v := .vec 6 ((⟨11, zV⟩ :: (lc ++ (la ++ lb)) : List Nd).map encN)) (.inr rfl) nw (by omega)
  generalize hbo : (⟨11, zV⟩ :: (lc ++ (la ++ lb)) : List Nd) = lw_ at *
  have S1 : True := trivial
  cases hrw : rightM lw_ with
  | false =>
    rw [hrw] at rw_
    simp only [t0, t1, t2, t9, call_pure pure9 (f1 hc) oc, call_pure pure8 (f1 hwc) rc, call_pure pure9 (f1 ha) oa, call_pure pure8 (f1 hwa) ra, call_pure pure9 (f1 hb) ob, call_pure pure8 (f1 hwb) rb, call_made pure9 df dz om, call_pure pure8 rfl rw_, r3_1, r3_2, res3, bb, bc, ↓bd, Nat.reduceEqDiff, ↓reduceIte]
  | true =>
  rw [hrw] at rw_
  obtain ⟨r1, hr1, hp1⟩ := Run_ok hwc nc (by omega) E 3000
  have uu : ∀ (A : Nat → Blk) (c : Nat) (X Y : Blk), upd (upd A c X) c Y = upd A c Y := fun A c X Y => upd2 A c X Y
  rcases hr1 with ⟨hg, rfl⟩ | ⟨tc, hg, htc, elc, hr1⟩
  · have z1 : ((1 : Int) != 0) = true := rfl
    simp only [t0, t1, t2, t7, t9, hA', call_pure pure9 (f1 hc) oc, call_pure pure8 (f1 hwc) rc, call_pure pure9 (f1 ha) oa, call_pure pure8 (f1 hwa) ra, call_pure pure9 (f1 hb) ob, call_pure pure8 (f1 hwb) rb, call_made pure9 df dz om, call_pure pure8 rfl rw_, uu, z1, call_pure pure10 (f3 hwc _) hp1, r3_1, r3_2, r3_3, res3, tt, bb, bc, ↓bd, Nat.reduceEqDiff, Nat.reduceAdd, ↓reduceIte, reduceCtorEq]
  have h3 : (3000 : Int).toNat = 3000 := rfl
  rw [h3] at hr1
  rcases hr1 with ⟨he, rfl⟩ | ⟨he, d1, hd1, rfl⟩
  · have z1 : ((runE tc E 3000).2.err != 0) = true := by simpa using he
    simp only [t0, t1, t2, t7, t9, hA', call_pure pure9 (f1 hc) oc, call_pure pure8 (f1 hwc) rc, call_pure pure9 (f1 ha) oa, call_pure pure8 (f1 hwa) ra, call_pure pure9 (f1 hb) ob, call_pure pure8 (f1 hwb) rb, call_made pure9 df dz om, call_pure pure8 rfl rw_, uu, z1, call_pure pure10 (f3 hwc _) hp1, r3_1, r3_2, r3_3, res3, tt, bb, bc, ↓bd, Nat.reduceEqDiff, Nat.reduceAdd, ↓reduceIte, reduceCtorEq]
  have z1 : ((0 : Int) != 0) = false := rfl
  have hpl1 := hd1.plain
  have hcs1 := hd1.cells
  have hln1 := hd1.len
  simp only [AV.plain] at hpl1
  simp only [AV.cells] at hcs1
  simp only [BX.lenOf] at hln1
  by_cases hk : (runE tc E 3000).1.k = 0
  · have z2 : ((runE tc E 3000).1.k != 0) = false := by simp [hk]
    obtain ⟨_, ta, wta, ela⟩ := right_tree hra
    obtain ⟨_, tb, wtb, elb⟩ := right_tree hrb
    have hww : WF (.op3 11 tc ta tb) := ⟨⟨rfl, rfl⟩, htc, wta, wtb⟩
    have etw : lw_ = flatE (.op3 11 tc ta tb) := by
      rw [← hbo, elc, ela, elb]; rfl
    by_cases hn0 : (runE tc E 3000).1.n = 0
    · have z3 : ((runE tc E 3000).1.n == 0) = true := by simp [hn0]
      simp only [t0, t1, t2, t7, t9, hA', call_pure pure9 (f1 hc) oc, call_pure pure8 (f1 hwc) rc, call_pure pure9 (f1 ha) oa, call_pure pure8 (f1 hwa) ra, call_pure pure9 (f1 hb) ob, call_pure pure8 (f1 hwb) rb, call_made pure9 df dz om, call_pure pure8 rfl rw_, uu, z1, z2, z3, call_pure pure10 (f3 hwc _) hp1, r3_1, r3_2, r3_3, r3_4, tt, bb, bc, ↓bd, Nat.reduceEqDiff, Nat.reduceAdd, ↓reduceIte, reduceCtorEq]
      refine ec_tail (tc := tc) (ta := ta) (tb := tb) (one := tb) hb nb hlb hrb elb wtb hg htc he hk (by rw [if_pos hn0]) hd1 nw lw hrw etw hww hd hn hA ?_ ?_ ?_ ?_
      all_goals simp only [upd_app, t7, t9, Nat.reduceEqDiff, ↓reduceIte]
    · have z3 : ((runE tc E 3000).1.n == 0) = false := by simp [hn0]
      simp only [t0, t1, t2, t7, t9, hA', call_pure pure9 (f1 hc) oc, call_pure pure8 (f1 hwc) rc, call_pure pure9 (f1 ha) oa, call_pure pure8 (f1 hwa) ra, call_pure pure9 (f1 hb) ob, call_pure pure8 (f1 hwb) rb, call_made pure9 df dz om, call_pure pure8 rfl rw_, uu, z1, z2, z3, call_pure pure10 (f3 hwc _) hp1, r3_1, r3_2, r3_3, r3_4, tt, bb, bc, ↓bd, Nat.reduceEqDiff, Nat.reduceAdd, ↓reduceIte, reduceCtorEq]
      refine ec_tail (tc := tc) (ta := ta) (tb := tb) (one := ta) ha na hla hra ela wta hg htc he hk (by rw [if_neg hn0]) hd1 nw lw hrw etw hww hd hn hA ?_ ?_ ?_ ?_
      all_goals simp only [upd_app, t7, t9, Nat.reduceEqDiff, ↓reduceIte]
  · have z2 : ((runE tc E 3000).1.k != 0) = true := by simpa using hk
    simp only [t0, t1, t2, t7, t9, hA', call_pure pure9 (f1 hc) oc, call_pure pure8 (f1 hwc) rc, call_pure pure9 (f1 ha) oa, call_pure pure8 (f1 hwa) ra, call_pure pure9 (f1 hb) ob, call_pure pure8 (f1 hwb) rb, call_made pure9 df dz om, call_pure pure8 rfl rw_, uu, z1, z2, call_pure pure10 (f3 hwc _) hp1, r3_1, r3_2, r3_3, res3, tt, bb, bc, ↓bd, Nat.reduceEqDiff, Nat.reduceAdd, ↓reduceIte, reduceCtorEq]
set_option maxRecDepth 20000 in
theorem EvalChoice_ok {vc va vb : AV} {lc la lb : List Nd} (hc : InN vc lc) (ha : InN va la) (hb : InN vb lb) (nc : numL lc) (na : numL la) (nb : numL lb) (E : Env) : PCall Cx 3 [vc, va, vb, envA E] (.bool true) := by
  refine pcall_run (noext _) body3 ?_
  have f1 : ∀ {v : AV} {l : List Nd}, InN v l → [v].all AV.flat = true := fun hv => by rw [List.all_cons, hv.flat]; rfl
  have f2 : ∀ {v : AV} {l : List Nd}, InN v l → [v, envA E].all AV.flat = true := fun hv => by rw [List.all_cons, hv.flat]; rfl
  have pl : ∀ {v : AV} {l : List Nd}, InN v l → v.plain = true := fun hv => by rcases hv with ⟨rfl, _⟩ | rfl <;> rfl
  have pc := pl hc
  have pa := pl ha
  have pb := pl hb
  simp only [AV.plain] at pc pa pb
  obtain ⟨yc, hyc, fc⟩ := Few_ok hc E
  obtain ⟨ya, hya, fa⟩ := Few_ok ha E
  obtain ⟨yb, hyb, fb⟩ := Few_ok hb E
  rcases hyc with rfl | ⟨rfl, hlc⟩
  · simp only [call_pure pure6 rfl awake09_ok, call_pure pure7 (f2 hc) fc, r3_0, r3_1, res3, tt, bb, bc, ↓bd, Nat.reduceEqDiff, Nat.reduceAdd, ↓reduceIte, reduceCtorEq]
  rcases hya with rfl | ⟨rfl, hla⟩
  · simp only [call_pure pure6 rfl awake09_ok, call_pure pure7 (f2 hc) fc, call_pure pure7 (f2 ha) fa, r3_0, r3_1, res3, tt, bb, bc, ↓bd, Nat.reduceEqDiff, Nat.reduceAdd, ↓reduceIte, reduceCtorEq, Int.reduceBEq]
  rcases hyb with rfl | ⟨rfl, hlb⟩
  · simp only [call_pure pure6 rfl awake09_ok, call_pure pure7 (f2 hc) fc, call_pure pure7 (f2 ha) fa, call_pure pure7 (f2 hb) fb, r3_0, r3_1, res3, tt, bb, bc, ↓bd, Nat.reduceEqDiff, Nat.reduceAdd, ↓reduceIte, reduceCtorEq, Int.reduceBEq]
  simp only [call_pure pure6 rfl awake09_ok, call_pure pure7 (f2 hc) fc, call_pure pure7 (f2 ha) fa, call_pure pure7 (f2 hb) fb, r3_0, r3_1.2.1, r3_1.2.2.1, r3_1.2.2.2.1, r3_1.2.2.2.2.1, r3_1.2.2.2.2.2.1, tt, bb, bc, ↓bd, Nat.reduceEqDiff, Nat.reduceAdd, Nat.reduceMul, Nat.reduceLeDiff, ↓reduceIte, reduceCtorEq, Int.reduceBEq, List.reduceReplicate]
  have e0 : builtinM Cx ⟨2, upd (upd (fun _ => Blk.dead) 0 (envB E)) 1 (.cells 32 6 [[.int .i64 11, .int .i64 0, .int .i64 0, .str [], .int .i64 0, .int .i64 0]])⟩ .append [22, 22] [.nilS, .slc 1 6 0 1] = _ := app_nil (C := Cx) (n := 1) (A := upd (fun _ => Blk.dead) 0 (envB E)) (row := [.int .i64 11, .int .i64 0, .int .i64 0, .str [], .int .i64 0, .int .i64 0]) r8sl r8ti (by decide)
  simp only [e0, runVH_some, bb, bc, ↓bd, Nat.reduceEqDiff, Nat.reduceAdd, ↓reduceIte, reduceCtorEq]
  have e1 : 1 ≤ 3 := by omega
  obtain ⟨d1, n1, A1, h1, b1, l1, k1⟩ := appN (h0 := 1) (d := .slc 2 6 0 1) (n := 3) (A := upd (upd (upd (fun _ => Blk.dead) 0 (envB E)) 1 (.cells 32 6 [[.int .i64 11, .int .i64 0, .int .i64 0, .str [], .int .i64 0, .int .i64 0]])) 2 (.cells 32 6 [[.int .i64 11, .int .i64 0, .int .i64 0, .str [], .int .i64 0, .int .i64 0]])) (acc := [⟨11, zV⟩]) (.inr ⟨2, rfl, by omega, by omega, by rw [upd_app, if_pos rfl]; rfl⟩) (by omega) hc (by simp; omega)
  obtain ⟨d2, n2, A2, h2, b2, l2, k2⟩ := appN b1 (by omega) ha (by simp; omega)
  obtain ⟨d3, n3, A3, h3, b3, l3, k3⟩ := appN b2 (by omega) hb (by simp; omega)
  have q1 := b1.plain
  have q2 := b2.plain
  have q3 := b3.plain
  simp only [AV.plain] at q1 q2 q3
  simp only [h1, h2, h3, runVH_some, bb, bc, ↓bd, Nat.reduceEqDiff, ↓reduceIte]
  have hb3 : BufH 1 d3 n3 A3 (⟨11, zV⟩ :: (lc ++ (la ++ lb))) := by
    have e : (⟨11, zV⟩ :: (lc ++ (la ++ lb)) : List Nd) = [⟨11, zV⟩] ++ lc ++ la ++ lb := by simp
    rw [e]; exact b3
  refine ec_rest hc ha hb nc na nb hlc hla hlb E hb3 (by omega) ?_ ?_ ?_ ?_ ?_ ?_
  · rw [k3 0 (by omega), k2 0 (by omega), k1 0 (by omega)]
    rw [upd_app, if_neg (by omega), upd_app, if_neg (by omega), upd_app, if_pos rfl]
  all_goals simp only [upd_app, enterT, List.getElem?_cons_zero, List.getElem?_cons_succ, Option.getD_some, Nat.reduceEqDiff, ↓reduceIte]
end Go.Proofs.Ytckhmpcmlochpaa.G

namespace Go.BX
open Go.ChangeShapes Go.WideShapes Go.ChangeAt Go.RowKit
variable {P : Program} {w : World} {H : Type} {enc : TypeId × Value → H} {base : Nat} {spare : Nat → Bool} {held : Bool}
end Go.BX

namespace Go.BX
open Go.ChangeShapes Go.WideShapes Go.ChangeAt Go.RowKit
set_option linter.unusedVariables false
set_option linter.unusedSimpArgs false
inductive Shp (P : Program) : TypeId → List AV → Prop
  | bool {t b} (h : P.underlying t = some .bool) : Shp P t [.bool b]
  | int {t k n} (h : P.underlying t = some (.int k)) (hw : (Lit.int k n).wf = true) : Shp P t [.int k n]
  | str {t s} (h : P.underlying t = some .string) (hl : s.length ≤ maxLen) : Shp P t [.str s]
  | nilS {t e} (h : P.underlying t = some (.slice e)) : Shp P t [.nilS]
  | vec {t e es} (h : P.underlying t = some (.slice e)) (hl : es.length ≤ maxLen) (he : ∀ r, r ∈ es → Shp P e r) : Shp P t [.vec (P.cellsOf e) es]
  | struct {t fs az} (h : P.underlying t = some (.struct fs)) (hl : az.length = P.cellsOf t) (hf : ∀ (i : Nat) (f : Field), fs[i]? = some f → Shp P f.type ((az.drop f.offset).take (P.cellsOf f.type))) : Shp P t az
variable {P : Program}
theorem shp_int {t : TypeId} {k : IntKind} {az : List AV} (h : P.underlying t = some (.int k)) (hs : Shp P t az) : ∃ n, az = [.int k n] ∧ (Lit.int k n).wf = true := by
  cases hs with
  | int h' hw => rw [h] at h'; cases h'; exact ⟨_, rfl, hw⟩
  | bool h' | str h' | nilS h' | vec h' | struct h' => rw [h] at h'; cases h'
theorem shp_str {t : TypeId} {az : List AV} (h : P.underlying t = some .string) (hs : Shp P t az) : ∃ s, az = [.str s] ∧ s.length ≤ maxLen := by
  cases hs with
  | str h' hl => exact ⟨_, rfl, hl⟩
  | bool h' | int h' | nilS h' | vec h' | struct h' => rw [h] at h'; cases h'
theorem shp_slice {t e : TypeId} {az : List AV} (h : P.underlying t = some (.slice e)) (hs : Shp P t az) : az = [.nilS] ∨ ∃ es, az = [.vec (P.cellsOf e) es] ∧ es.length ≤ maxLen ∧ ∀ r, r ∈ es → Shp P e r := by
  cases hs with
  | nilS h' => exact .inl rfl
  | vec h' hl he => rw [h] at h'; cases h'; exact .inr ⟨_, rfl, hl, he⟩
  | bool h' | int h' | str h' | struct h' => rw [h] at h'; cases h'
theorem shp_struct {t : TypeId} {fs : Array Field} {az : List AV} (h : P.underlying t = some (.struct fs)) (hs : Shp P t az) :
    az.length = P.cellsOf t ∧ ∀ (i : Nat) (f : Field), fs[i]? = some f → Shp P f.type ((az.drop f.offset).take (P.cellsOf f.type)) := by
  cases hs with
  | struct h' hl hf => rw [h] at h'; cases h'; exact ⟨hl, hf⟩
  | bool h' | int h' | str h' | nilS h' | vec h' => rw [h] at h'; cases h'
def ownF (P : Program) (fs : Array Field) (c : Nat) : Option Nat :=
  (List.range fs.size).find? fun i => match fs[i]? with
    | some f => decide (f.offset ≤ c) && decide (c < f.offset + P.cellsOf f.type)
    | none => false
def dataT (P : Program) : Nat → TypeId → Bool
  | 0, _ => false
  | d + 1, t =>
    match P.underlying t with
    | some .bool | some (.int _) | some .string => true
    | some (.slice e) => dataT P d e && decide (P.cellsOf e ≠ 0)
    | some (.struct fs) =>
      ((List.range (P.cellsOf t)).all fun c => (ownF P fs c).isSome) &&
      (List.range fs.size).all fun i => match fs[i]? with
        | some f => dataT P d f.type && decide (f.offset + P.cellsOf f.type ≤ P.cellsOf t) && (List.range (P.cellsOf f.type)).all fun j => ownF P fs (f.offset + j) == some i
        | none => false
    | _ => false
variable {w : World} {H : Type} {enc : TypeId × Value → H} {base : Nat} {spare : Nat → Bool} {held : Bool}
def Sts (w : World) (az : List AV) (cs : List Value) : Prop :=
  az.length = cs.length ∧ ∀ (i : Nat) (a : AV) (v : Value), az[i]? = some a → cs[i]? = some v → a.one = true ∧ VRel w (Old w) (fun _ => none) a v
theorem sts_one {a : AV} {v : Value} (h1 : a.one = true) (h : VRel w (Old w) (fun _ => none) a v) : Sts w [a] [v] := by
  refine ⟨rfl, fun i x y hx hy => ?_⟩
  match i, hx, hy with
  | 0, hx, hy => cases hx; cases hy; exact ⟨h1, h⟩
theorem cells_length {a : Addr} {n : Nat} {cs : List Value} (h : w.cells? base a n = some cs) : cs.length = n := by
  unfold World.cells? at h
  split at h
  · simpa using mapM_some_length h
  · cases h
theorem cells_get {a : Addr} {n : Nat} {cs : List Value} (h : w.cells? base a n = some cs) {i : Nat} (hi : i < n) : w.cell? (a.add i) = cs[i]? := by
  unfold World.cells? at h
  split at h
  · exact mapM_some_get h i i (by simp [hi])
  · cases h
theorem cell_spot {a : Addr} {v : Value} (h : w.cell? a = some v) : a.spot = none := by
  unfold World.cell? at h
  split at h
  · split at h
    · cases h
    · rename_i hs; simpa using hs
  · cases h
theorem add_eq {a : Addr} (hs : a.spot = none) (n : Nat) : a.add n = ⟨a.block, a.off + n, none⟩ := by
  unfold Addr.add
  split
  · rename_i h; subst h; cases a; simp_all
  · rfl
theorem list_choose {α : Type} {p : Nat → α → Prop} (n : Nat) (h : ∀ i, i < n → ∃ x, p i x) : ∃ l : List α, l.length = n ∧ ∀ (i : Nat) (x : α), l[i]? = some x → p i x := by
  have : ∀ i, ∃ x : Option α, (i < n → ∃ y, x = some y ∧ p i y) := fun i => by
    by_cases hi : i < n
    · obtain ⟨x, hx⟩ := h i hi; exact ⟨some x, fun _ => ⟨x, rfl, hx⟩⟩
    · exact ⟨none, fun h => absurd h hi⟩
  let F : Nat → Option α := fun i => Classical.choose (this i)
  have hF : ∀ i, i < n → ∃ y, F i = some y ∧ p i y := fun i => Classical.choose_spec (this i)
  refine ⟨(List.range n).filterMap F, ?_, ?_⟩
  · have : ∀ l : List Nat, (∀ i ∈ l, i < n) → (l.filterMap F).length = l.length := by
      intro l hl
      induction l with
      | nil => rfl
      | cons x xs ih =>
        obtain ⟨y, hy, _⟩ := hF x (hl x (by simp))
        rw [List.filterMap_cons, hy]
        simp [ih fun i hi => hl i (by simp [hi])]
    rw [this _ (by simp), List.length_range]
  · have key : ∀ l : List Nat, (∀ i ∈ l, i < n) → ∀ (j : Nat) (x : α), (l.filterMap F)[j]? = some x → ∃ i, l[j]? = some i ∧ F i = some x := by
      intro l hl
      induction l with
      | nil => intro j x h; simp at h
      | cons z zs ih =>
        intro j x h
        obtain ⟨y, hy, _⟩ := hF z (hl z (by simp))
        rw [List.filterMap_cons, hy] at h
        cases j with
        | zero => simp at h; subst h; exact ⟨z, rfl, hy⟩
        | succ j => exact ih (fun i hi => hl i (by simp [hi])) j x (by simpa using h)
    intro i x hx
    obtain ⟨i', hi', hx'⟩ := key _ (by simp) i x hx
    have hlt : i < n := by
      rcases Nat.lt_or_ge i n with h | h
      · exact h
      · rw [List.getElem?_eq_none (by simpa using h)] at hi'; cases hi'
    have : i' = i := by simp [List.getElem?_range hlt] at hi'; exact hi'.symm
    subst this
    obtain ⟨y, hy, hp⟩ := hF i' hlt
    rw [hx'] at hy; cases hy; exact hp
theorem open_cells : ∀ (d : Nat) {t : TypeId} {fuel : Nat} {cs : List Value} {x : DataW H × List MemPlace}, dataT P d t = true → DataW.trod enc P w base spare held fuel t cs = some x → ∃ az, Sts w az cs ∧ Shp P t az := by
  intro d
  induction d with
  | zero => intro t fuel cs x h; cases h
  | succ d ih =>
    intro t fuel cs x hd hx
    unfold dataT at hd
    split at hd
    · rename_i ht
      obtain ⟨b, rfl, _⟩ := DataW.trod_bool ht hx
      exact ⟨[.bool b], sts_one rfl (.bool b), .bool ht⟩
    · rename_i k ht
      obtain ⟨n, rfl, _, hw⟩ := DataW.trod_int ht hx
      exact ⟨[.int k n], sts_one rfl (.int k n), .int ht hw⟩
    · rename_i ht
      obtain ⟨s, rfl, _, hl⟩ := DataW.trod_string ht hx
      exact ⟨[.str s.data.toList], sts_one rfl (.str _ s rfl), .str ht (by simpa using hl)⟩
    · rename_i e ht
      simp only [Bool.and_eq_true, decide_eq_true_eq] at hd
      rcases DataW.trod_slice ht hx with ⟨rfl, _⟩ | ⟨a, len, cap, elems, rest, n, _, rfl, _, hb, hlc, hcm, hel, he, _, _⟩
      · exact ⟨[.nilS], sts_one rfl .nilS, .nilS ht⟩
      · have hrow : ∀ i, i < len → ∃ cs az, w.cells? base (a.add (i * P.cellsOf e)) (P.cellsOf e) = some cs ∧ Sts w az cs ∧ Shp P e az := by
          intro i hi
          have h1 := he i hi
          rw [List.getElem?_eq_getElem (by omega)] at h1
          simp only [Option.bind_eq_some_iff] at h1
          obtain ⟨cs, hcs, h2⟩ := h1
          obtain ⟨az, h3, h4⟩ := ih hd.1 h2
          exact ⟨cs, az, hcs, h3, h4⟩
        obtain ⟨rows, hrl, hrows⟩ := list_choose (α := List Value × List AV) (p := fun i z => w.cells? base (a.add (i * P.cellsOf e)) (P.cellsOf e) = some z.1 ∧ Sts w z.2 z.1 ∧ Shp P e z.2) len (fun i hi => by
          obtain ⟨cs, az, h⟩ := hrow i hi; exact ⟨(cs, az), h⟩)
        have hspot : len ≠ 0 → a.spot = none ∧ a.block < w.heap.size := by
          intro hne
          obtain ⟨cs, az, h, _⟩ := hrow 0 (by omega)
          have h0 := cells_get h (i := 0) (by omega)
          rw [List.getElem?_eq_getElem (by rw [cells_length h]; omega)] at h0
          simp only [Nat.zero_mul] at h0
          have e0 : (a.add 0).add 0 = a := rfl
          rw [e0] at h0
          exact ⟨cell_spot h0, cell_lt h0⟩
        have hz : ∀ (i : Nat) (r : List AV), (rows.map (·.2))[i]? = some r → ∃ cs, rows[i]? = some (cs, r) ∧ w.cells? base (a.add (i * P.cellsOf e)) (P.cellsOf e) = some cs ∧ Sts w r cs ∧ Shp P e r := by
          intro i r h
          rw [List.getElem?_map, Option.map_eq_some_iff] at h
          obtain ⟨z, hz, rfl⟩ := h
          obtain ⟨h1, h2, h3⟩ := hrows i z hz
          exact ⟨z.1, hz, h1, h2, h3⟩
        refine ⟨[.vec (P.cellsOf e) (rows.map (·.2))], sts_one rfl ?_, .vec ht (by simp; omega) ?_⟩
        · have hll : (rows.map (·.2)).length = len := by simp [hrl]
          have hgoal := VRel.vec (w := w) (U := Old w) (ι := fun _ => none) (rows.map (·.2)) a (P.cellsOf e) cap (fun i j => ((rows[i]?).bind fun z => z.1[j]?).getD undef) (by omega)
            (fun r hr => by
              obtain ⟨i, hi⟩ := List.getElem?_of_mem hr
              obtain ⟨cs, _, h1, h2, _⟩ := hz i r hi
              rw [h2.1, cells_length h1])
            (fun hne => (hspot (by intro h0; apply hne; apply List.eq_nil_of_length_eq_zero; omega)).2)
            (fun hne => (hspot (by intro h0; apply hne; apply List.eq_nil_of_length_eq_zero; omega)).1)
            (fun i j hi hj => by
              have hs := (hspot (by omega)).1
              obtain ⟨cs, hcs, h1, h2, _⟩ := hz i (rows.map (·.2))[i] (List.getElem?_eq_getElem hi)
              have h3 := cells_get h1 hj
              rw [hcs]
              simp only [Option.bind_some]
              rw [List.getElem?_eq_getElem (by rw [cells_length h1]; exact hj)] at h3 ⊢
              rw [← add_eq (a := ⟨a.block, a.off + i * P.cellsOf e, none⟩) rfl j, ← add_eq hs]
              exact h3)
            (fun r hr x hxr => by
              obtain ⟨i, hi⟩ := List.getElem?_of_mem hr
              obtain ⟨cs, _, h1, h2, _⟩ := hz i r hi
              obtain ⟨j, hj⟩ := List.getElem?_of_mem hxr
              have hjl : j < cs.length := by rw [← h2.1]; exact (List.getElem?_eq_some_iff.mp hj).1
              exact (h2.2 j x cs[j] hj (List.getElem?_eq_getElem hjl)).1)
            (fun i r j x hi hj => by
              obtain ⟨cs, hcs, h1, h2, _⟩ := hz i r hi
              have hjl : j < cs.length := by rw [← h2.1]; exact (List.getElem?_eq_some_iff.mp hj).1
              have h4 := (h2.2 j x cs[j] hj (List.getElem?_eq_getElem hjl)).2
              simp only [hcs, Option.bind_some, List.getElem?_eq_getElem hjl, Option.getD_some]
              exact h4)
          rw [hll] at hgoal
          exact hgoal
        · intro r hr
          obtain ⟨i, hi⟩ := List.getElem?_of_mem hr
          obtain ⟨_, _, _, _, h⟩ := hz i r hi
          exact h
    · rename_i fs ht
      simp only [Bool.and_eq_true, List.all_eq_true, List.mem_range] at hd
      obtain ⟨hcov, hflds⟩ := hd
      obtain ⟨xs, n, _, _, hcl, hxl, hxf⟩ := DataW.trod_struct ht hx
      have hfi : ∀ i, i < fs.size → ∃ az, ∀ f, fs[i]? = some f → Sts w az ((cs.drop f.offset).take (P.cellsOf f.type)) ∧ Shp P f.type az ∧ f.offset + P.cellsOf f.type ≤ P.cellsOf t ∧ ∀ j, j < P.cellsOf f.type → ownF P fs (f.offset + j) = some i := by
        intro i hi
        have hf0 : fs[i]? = some fs[i] := Array.getElem?_eq_getElem hi
        have h1 := hxf i fs[i] hf0
        rw [List.getElem?_eq_getElem (by omega)] at h1
        have h2 := hflds i hi
        rw [hf0] at h2
        simp only [Bool.and_eq_true, decide_eq_true_eq, List.all_eq_true, List.mem_range, beq_iff_eq] at h2
        obtain ⟨az, h3, h4⟩ := ih h2.1.1 h1
        exact ⟨az, fun f hf => by rw [hf0] at hf; cases hf; exact ⟨h3, h4, h2.1.2, h2.2⟩⟩
      obtain ⟨rows, hrl, hrows⟩ := list_choose fs.size hfi
      have hcell : ∀ c, c < P.cellsOf t → ∃ a, ∀ i f r, ownF P fs c = some i → fs[i]? = some f → rows[i]? = some r → f.offset ≤ c ∧ c < f.offset + P.cellsOf f.type ∧ r[c - f.offset]? = some a := by
        intro c hc
        have h1 := hcov c hc
        obtain ⟨i, hi⟩ := Option.isSome_iff_exists.mp h1
        have h2 := List.find?_some hi
        have h3 : i < fs.size := by simpa using List.mem_of_find?_eq_some hi
        have hf0 : fs[i]? = some fs[i] := Array.getElem?_eq_getElem h3
        rw [hf0] at h2
        simp only [Bool.and_eq_true, decide_eq_true_eq] at h2
        have hr0 : rows[i]? = some rows[i] := List.getElem?_eq_getElem (by omega)
        obtain ⟨hst, _, hle, _⟩ := hrows i rows[i] hr0 fs[i] hf0
        have hlen : rows[i].length = P.cellsOf fs[i].type := by rw [hst.1, List.length_take, List.length_drop, hcl]; omega
        refine ⟨(rows[i])[c - fs[i].offset]'(by omega), fun i' f r hi' hf hr => ?_⟩
        rw [hi] at hi'; cases hi'
        rw [hf0] at hf; cases hf
        rw [hr0] at hr; cases hr
        exact ⟨h2.1, h2.2, List.getElem?_eq_getElem _⟩
      obtain ⟨az, hal, has⟩ := list_choose (P.cellsOf t) hcell
      have hfield : ∀ (i : Nat) (f : Field) (r : List AV), fs[i]? = some f → rows[i]? = some r → (az.drop f.offset).take (P.cellsOf f.type) = r := by
        intro i f r hf hr
        obtain ⟨hst, _, hle, hown⟩ := hrows i r hr f hf
        have hlen : r.length = P.cellsOf f.type := by rw [hst.1, List.length_take, List.length_drop, hcl]; omega
        apply List.ext_getElem?
        intro j
        rcases Nat.lt_or_ge j (P.cellsOf f.type) with hj | hj
        · rw [List.getElem?_take_of_lt hj, List.getElem?_drop]
          have hc : az[f.offset + j]? = some (az[f.offset + j]'(by omega)) := List.getElem?_eq_getElem (by omega)
          obtain ⟨_, _, h3⟩ := has (f.offset + j) _ hc i f r (hown j hj) hf hr
          rw [hc, ← h3]
          congr 1; omega
        · rw [List.getElem?_eq_none (by simp; omega), List.getElem?_eq_none (by omega)]
      refine ⟨az, ⟨by omega, ?_⟩, .struct ht hal ?_⟩
      · intro c a v ha hv
        have hc : c < P.cellsOf t := by rw [← hal]; exact (List.getElem?_eq_some_iff.mp ha).1
        obtain ⟨i, hi⟩ := Option.isSome_iff_exists.mp (hcov c hc)
        have h3 : i < fs.size := by simpa using List.mem_of_find?_eq_some hi
        have hf0 : fs[i]? = some fs[i] := Array.getElem?_eq_getElem h3
        have hr0 : rows[i]? = some rows[i] := List.getElem?_eq_getElem (by omega)
        obtain ⟨hst, _, hle, _⟩ := hrows i rows[i] hr0 fs[i] hf0
        obtain ⟨h4, h5, h6⟩ := has c a ha i fs[i] rows[i] hi hf0 hr0
        refine hst.2 (c - fs[i].offset) a v h6 ?_
        rw [List.getElem?_take_of_lt (by omega), List.getElem?_drop, show fs[i].offset + (c - fs[i].offset) = c by omega]
        exact hv
      · intro i f hf
        have h3 : i < fs.size := (Array.getElem?_eq_some_iff.mp hf).1
        have hr0 : rows[i]? = some rows[i] := List.getElem?_eq_getElem (by omega)
        rw [hfield i f rows[i] hf hr0]
        exact (hrows i rows[i] hr0 f hf).2.1
    · cases hd
theorem open_val {t : TypeId} {v : Value} {x : DataW H} {ps : List MemPlace} {r : Reach} {b0 : Nat} (hd : dataT P 8 t = true) (hval : Value.okWide P w r b0 t v) (hx : DataW.Trod enc P w base spare held t v x ps) :
    ∃ av az, VRel w (Old w) (fun _ => none) av v ∧ Shp P t az ∧ (match P.underlying t with | some (.struct _) => av = .agg az | _ => az = [av]) := by
  obtain ⟨fuel, hf⟩ := hx
  obtain ⟨az, hst, hsh⟩ := open_cells 8 hd hf
  cases hu : P.underlying t with
  | none => exfalso; unfold dataT at hd; rw [hu] at hd; cases hd
  | some u =>
    by_cases hs : ∃ fs, u = .struct fs
    · obtain ⟨fs, rfl⟩ := hs
      obtain ⟨cs, rfl, hcs⟩ := okWide_struct hu hval
      refine ⟨.agg az, az, ?_, hsh, rfl⟩
      have hl : cs.toList.length = az.length := hst.1.symm
      have := VRel.agg (w := w) (U := Old w) (ι := fun _ => none) az cs.toList hl (fun a ha => by
        obtain ⟨i, hi⟩ := List.getElem?_of_mem ha
        have hil : i < cs.toList.length := by rw [hl]; exact (List.getElem?_eq_some_iff.mp hi).1
        exact (hst.2 i a cs.toList[i] hi (List.getElem?_eq_getElem hil)).1) (fun i a v ha hv => (hst.2 i a v ha hv).2)
      simpa using this
    · have hone : ∃ a, az = [a] := by
        cases hsh with
        | struct h' => rw [hu] at h'; cases h'; exact absurd ⟨_, rfl⟩ hs
        | bool _ | int _ | str _ | nilS _ | vec _ => exact ⟨_, rfl⟩
      obtain ⟨a, rfl⟩ := hone
      have hcl : v.cells.toList.length = 1 := hst.1.symm
      have hv : v.cells.toList = [v] := by
        cases v with
        | agg cs =>
          exfalso
          unfold Value.okWide at hval
          rw [hu] at hval
          have hcs : cs.toList.length = 1 := hcl
          obtain ⟨c, hc⟩ : ∃ c, cs.toList = [c] := List.length_eq_one_iff.mp hcs
          unfold dataT at hd
          rw [hu] at hd
          cases u <;> first | (cases hd; done) | (exact absurd ⟨_, rfl⟩ hs) | (simp [Cell.okWide, Cell.ok, hu] at hval)
        | _ => rfl
      refine ⟨a, [a], ?_, hsh, ?_⟩
      · exact (hst.2 0 a v rfl (by rw [hv]; rfl)).2
      · cases u <;> first | rfl | exact absurd ⟨_, rfl⟩ hs
end Go.BX

namespace Go.Proofs.Ytckhmpcmlochpaa.G
open Go.BX
open Go.ChangeShapes Go.WideShapes Go.ChangeAt Go.RowKit
set_option linter.unusedVariables false
theorem own : ownKnob Try.prog.godebug = none := by kernel_rfl
theorem laidOut : laidOutB Try.prog = true := by kernel_rfl
theorem law_calls {f : FuncId} {args : List AV} (hx : Cx.ext f = none) (h : PCall Cx f args (.bool true)) {w : World} {vs : List Value} (ha : LsRel w (Old w) (fun _ => none) args vs) :
    Calls Try.prog f vs.toArray w (fun e w' => e = .returned (.bool true) ∧ Below w.heap.size w w') := by
  obtain ⟨n, hn⟩ := h
  refine (pcall_calls cok hx hn ha).mono ?_
  rintro e w' ⟨⟨v, U', rfl, hv⟩, hb⟩
  cases hv
  exact ⟨rfl, hb⟩
theorem i64_wf {n : Int} (h : (Lit.int .i64 n).wf = true) : -9223372036854775808 ≤ n ∧ n ≤ 9223372036854775807 := bounds_i64 h
end Go.Proofs.Ytckhmpcmlochpaa.G

namespace Go.Proofs.Ytckhmpcmlochpaa.G
open Go.BX
set_option maxRecDepth 100000
theorem dec_int {cs : List AV} (h : Shp Try.prog 3 cs) : ∃ n, cs = [.int .i64 n] ∧ (-9223372036854775808 ≤ n ∧ n ≤ 9223372036854775807) := by
  obtain ⟨n, h1, h2⟩ := shp_int Try.underlying3 h
  exact ⟨n, h1, i64_wf h2⟩
theorem dec_str {cs : List AV} (h : Shp Try.prog 9 cs) : ∃ s, cs = [.str s] ∧ s.length ≤ maxLen := shp_str Try.underlying9 h
theorem dec_spot {cs : List AV} (h : Shp Try.prog 24 cs) : ∃ x y, cs = [.int .i64 x, .int .i64 y] := by
  obtain ⟨hl, hf⟩ := shp_struct Try.underlying24 h
  have hl2 : cs.length = 2 := hl.trans (by kernel_rfl)
  match cs, hl2 with
  | [a0, a1], _ =>
    have f0 := hf 0 _ rfl
    have f1 := hf 1 _ rfl
    obtain ⟨x, hx, bx⟩ := dec_int f0
    obtain ⟨y, hy, by'⟩ := dec_int f1
    cases hx
    cases hy
    exact ⟨_, _, rfl⟩
theorem dec_val {cs : List AV} (h : Shp Try.prog 26 cs) : ∃ k n s x y, cs = [.int .i64 k, .int .i64 n, .str s, .int .i64 x, .int .i64 y] := by
  obtain ⟨hl, hf⟩ := shp_struct Try.underlying26 h
  have hl2 : cs.length = 5 := hl.trans (by kernel_rfl)
  match cs, hl2 with
  | [a0, a1, a2, a3, a4], _ =>
    have f0 := hf 0 _ rfl
    have f1 := hf 1 _ rfl
    have f2 := hf 2 _ rfl
    have f3 := hf 3 _ rfl
    obtain ⟨k, hk, bk⟩ := dec_int f0
    obtain ⟨n, hn, bn⟩ := dec_int f1
    obtain ⟨s, hs, bs⟩ := dec_str f2
    obtain ⟨x, y, hxy⟩ := dec_spot f3
    cases hk
    cases hn
    cases hs
    have hxy' : [a3, a4] = [.int .i64 x, .int .i64 y] := hxy
    cases hxy'
    exact ⟨_, _, _, _, _, rfl⟩
theorem dec_node {cs : List AV} (h : Shp Try.prog 32 cs) : ∃ p : Nd, cs = encN p ∧ numN p := by
  obtain ⟨hl, hf⟩ := shp_struct Try.underlying32 h
  have hl2 : cs.length = 6 := hl.trans (by kernel_rfl)
  match cs, hl2 with
  | [a0, a1, a2, a3, a4, a5], _ =>
    have f0 := hf 0 _ rfl
    have f1 := hf 1 _ rfl
    obtain ⟨o, ho, bo⟩ := dec_int f0
    obtain ⟨k, n, s, x, y, hv⟩ := dec_val f1
    cases ho
    have hv' : [a1, a2, a3, a4, a5] = [.int .i64 k, .int .i64 n, .str s, .int .i64 x, .int .i64 y] := hv
    cases hv'
    exact ⟨⟨o, ⟨k, n, s, x, y⟩⟩, rfl, bo⟩
theorem rows_nodes : ∀ {es : List (List AV)}, (∀ r, r ∈ es → ∃ p : Nd, r = encN p ∧ numN p) → ∃ l : List Nd, es = l.map encN ∧ numL l
  | [], _ => ⟨[], rfl, fun n h => by cases h⟩
  | r :: es, h => by
    obtain ⟨p, rfl, hp⟩ := h r (by simp)
    obtain ⟨l, rfl, hl⟩ := rows_nodes (es := es) (fun r hr => h r (by simp [hr]))
    exact ⟨p :: l, rfl, fun n hm => by rcases List.mem_cons.mp hm with rfl | hm; exact hp; exact hl n hm⟩
theorem dec_nodes {a : AV} (h : Shp Try.prog 22 [a]) : ∃ l : List Nd, InN a l ∧ numL l ∧ l.length ≤ maxLen := by
  rcases shp_slice Try.underlying22 h with e | ⟨es, e, hl, hr⟩
  · cases e
    exact ⟨[], .inl ⟨rfl, rfl⟩, (fun n h => by cases h), by simp⟩
  · cases e
    obtain ⟨l, rfl, hn⟩ := rows_nodes (fun r hm => dec_node (hr r hm))
    have hc : Try.prog.cellsOf 32 = 6 := by kernel_rfl
    refine ⟨l, .inr (by rw [hc]), hn, by simpa using hl⟩
end Go.Proofs.Ytckhmpcmlochpaa.G

namespace Go.Proofs.Ytckhmpcmlochpaa.G
open Go.BX
open Go.ChangeShapes Go.WideShapes Go.ChangeAt Go.RowKit
set_option maxRecDepth 100000
theorem dec_env {cs : List AV} (h : Shp Try.prog 28 cs) : ∃ E : Env, cs = [.str E.key, .int .i64 E.val.k, .int .i64 E.val.n, .str E.val.s, .int .i64 E.val.x, .int .i64 E.val.y, .int .i64 E.acc.k, .int .i64 E.acc.n, .str E.acc.s, .int .i64 E.acc.x, .int .i64 E.acc.y] := by
  obtain ⟨hl, hf⟩ := shp_struct Try.underlying28 h
  have hl2 : cs.length = 11 := hl.trans (by kernel_rfl)
  match cs, hl2 with
  | [a0, a1, a2, a3, a4, a5, a6, a7, a8, a9, a10], _ =>
    have f0 := hf 0 _ rfl
    have f1 := hf 1 _ rfl
    have f2 := hf 2 _ rfl
    obtain ⟨s, hs, bs⟩ := dec_str f0
    obtain ⟨k1, n1, s1, x1, y1, hv1⟩ := dec_val f1
    obtain ⟨k2, n2, s2, x2, y2, hv2⟩ := dec_val f2
    cases hs
    have hv1' : [a1, a2, a3, a4, a5] = [.int .i64 k1, .int .i64 n1, .str s1, .int .i64 x1, .int .i64 y1] := hv1
    have hv2' : [a6, a7, a8, a9, a10] = [.int .i64 k2, .int .i64 n2, .str s2, .int .i64 x2, .int .i64 y2] := hv2
    cases hv1'
    cases hv2'
    exact ⟨⟨s, ⟨k1, n1, s1, x1, y1⟩, ⟨k2, n2, s2, x2, y2⟩⟩, rfl⟩
end Go.Proofs.Ytckhmpcmlochpaa.G

