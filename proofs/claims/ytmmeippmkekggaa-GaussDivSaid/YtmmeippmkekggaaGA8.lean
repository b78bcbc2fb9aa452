import Derived.Test.YtmmeippmkekggaaGA7
import Derived.Test.YtmmeippmkekggaaBOpen
import Derived.Test.YtmmeippmkekggaaRows
namespace Go.Proofs.Ytmmeippmkekggaa.G
open Go.BX
open Go.ChangeShapes Go.WideShapes Go.ChangeAt Go.RowKit
set_option linter.unusedVariables false

theorem own : ownKnob Try.prog.godebug = none := by kernel_rfl
theorem laidOut : laidOutB Try.prog = true := by kernel_rfl

def spotV (a b : Int) : Value := .agg #[.int .i64 a, .int .i64 b]

theorem spot_rel {w : World} {U : Nat → Prop} {ι : Nat → Option Nat} (a b : Int) : VRel w U ι (spot a b) (spotV a b) :=
  .agg _ [_, _] rfl (fun x hx => by simp at hx; rcases hx with rfl | rfl <;> rfl) (LsRel.cons (.int .i64 a) (LsRel.cons (.int .i64 b) LsRel.nil)).2

/-- A law that answers true. -/
theorem law_calls {f : FuncId} {args : List AV} (h : PCall Cx f args (.bool true)) {w : World} {vs : List Value} (ha : LsRel w (Old w) (fun _ => none) args vs) :
    Calls Try.prog f vs.toArray w (fun e w' => e = .returned (.bool true) ∧ Below w.heap.size w w') := by
  obtain ⟨n, hn⟩ := h
  refine (pcall_calls cok (noext f) hn ha).mono ?_
  rintro e w' ⟨⟨v, U', rfl, hv⟩, hb⟩
  cases hv
  exact ⟨rfl, hb⟩

theorem open_spot {w : World} {H : Type} {enc : TypeId × Value → H} {base : Nat} {spare : Nat → Bool} {held : Bool} {v : Value} {d : DataW H} {ps : List MemPlace} {r : Reach} {b0 : Nat} (hval : Value.okWide Try.prog w r b0 23 v) (hd : DataW.Trod enc Try.prog w base spare held 23 v d ps) :
    ∃ a b : Int, v = spotV a b := by
  obtain ⟨ns, hl, rfl, _⟩ := open_ints_struct (k := .i64) Try.underlying23 hval hd (fun i f h => by
    match i, h with
    | 0, h => exact Option.some.inj h ▸ ⟨rfl, by kernel_rfl, Try.underlying3⟩
    | 1, h => exact Option.some.inj h ▸ ⟨rfl, by kernel_rfl, Try.underlying3⟩
    | i + 2, h => cases h) (by kernel_rfl)
  match ns, hl with
  | [a, b], _ => exact ⟨a, b, rfl⟩

theorem walk (a b c d : Int) (w : World) : Calls Try.prog 3 #[spotV a b, spotV c d] w (fun e w' => e = .returned (.bool true) ∧ Below w.heap.size w w') :=
  law_calls (GaussDiv_ok a b c d) (LsRel.cons (spot_rel a b) (LsRel.cons (spot_rel c d) LsRel.nil))

set_option maxRecDepth 100000 in
theorem lifted (os : Os) (started : os.Started) (H : Type) (enc : TypeId × Value → H) :
    ReturnsInHanded {} Try.checked os 3 .any (Rows.gaussDivSpec.pre6 enc Try.prog Try.f3 Rows.gaussDivRow.domain false) (Rows.gaussDivSpec.post enc Try.prog Try.f3 false true false false) := by
  refine returnsInHanded_of_change (C := Try.checked) own started (by kernel_rfl) Try.func3
    (ChangeSpec.witness6 (enc := enc) (C := Try.checked) false ⟨#[], #[spotV 0 0, spotV 0 0], []⟩ 8 (by kernel_rfl) (by kernel_rfl) (by kernel_rfl) (by kernel_rfl)) ?_
  intro W base args ds gs before hval0 hW hcnd _
  have hval : ∀ (j : Nat) t v, Try.f3.params[j]? = some t → args[j]? = some v → Value.okWide Try.prog W .any base t v := hval0
  have hW' := hW
  obtain ⟨p, q, hA0, hV, rfl, hfz, hnd⟩ := hW
  have hA : DataW.TrodAll enc Try.prog W 0 (fun _ => true) true Try.f3.params.toList args.toList ds p := hA0
  rw [Try.params3] at hA hval
  obtain ⟨v0, vs0, d0, ds0, p0, q0, hargs, rfl, rfl, h0, r0⟩ := trodAll_cons hA
  obtain ⟨v1, vs1, d1, ds1, p1, q1, rfl, rfl, rfl, h1, r1⟩ := trodAll_cons r0
  obtain ⟨rfl, rfl, rfl⟩ := trodAll_nil r1
  obtain rfl : args = #[v0, v1] := by cases args; simp_all
  obtain ⟨rfl, rfl⟩ := trodVars_none hV
  have k0 := h0
  have lt0 : ∀ x ∈ p0, x.block < W.heap.size := by obtain ⟨m, hm⟩ := k0; exact DataW.trod_lt m _ _ _ hm
  have k1 := h1
  have lt1 : ∀ x ∈ p1, x.block < W.heap.size := by obtain ⟨m, hm⟩ := k1; exact DataW.trod_lt m _ _ _ hm
  obtain ⟨a0, b0, rfl⟩ := open_spot (hval 0 23 v0 rfl rfl) h0
  obtain ⟨a1, b1, rfl⟩ := open_spot (hval 1 23 v1 rfl rfl) h1
  clear hA0 hval0
  refine (walk a0 b0 a1 b1 W).mono fun e W' ⟨he, bel⟩ => ?_
  subst he
  exact ⟨_, rfl, _, _, _, [], _, [], hW', trodAll_mk1 (shut_bool Try.underlying4 _), (trodAll_cons_mk (Below.trod laidOut (by kernel_rfl) (of_decide_eq_true (by kernel_rfl)) k0 bel lt0) (trodAll_cons_mk (Below.trod laidOut (by kernel_rfl) (of_decide_eq_true (by kernel_rfl)) k1 bel lt1) trodAll_mk0)), rfl, bel.frame _, fun h => by cases h⟩

theorem gaussDiv_holds : Rows.GaussDivSaid :=
  OpenClaim.holds_of_wide 3 Try.f3 rfl rfl rfl rfl rfl rfl rfl ⟨rfl, rfl, rfl, rfl, rfl⟩ rfl rfl rfl rfl rfl (by kernel_rfl) Try.func3 (by kernel_rfl)
    (of_decide_eq_true (by kernel_rfl)) (by unfold Func.isWrapper; first | (rw [if_pos (by decide +kernel)]; kernel_rfl) | (rw [if_neg (by decide +kernel)]; exact ⟨rfl, rfl⟩))
    (fun os started H enc _ => lifted os started H enc)
end Go.Proofs.Ytmmeippmkekggaa.G
