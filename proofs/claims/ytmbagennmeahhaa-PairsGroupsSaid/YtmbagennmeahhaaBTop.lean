import Derived.Test.YtmbagennmeahhaaBSound
import Derived.Below
namespace Go.BX
open Go.RowKit
set_option linter.unusedSimpArgs false
set_option linter.unusedVariables false

/-! # A pure call, of the machine -/

structure COk (C : Ctx) : Prop where
  tt : ∀ t ti, C.TT t = some ti → TIok C t ti
  ft : ∀ f fi, C.FT f = some fi → FIok C f fi
  ext : ExtOk C
  mix : C.P.follows .mixedOrders = true

variable {C : Ctx} {w : World}

/-- All that was there. -/
abbrev Old (w : World) : Nat → Prop := fun c => c < w.heap.size

theorem pcall_calls (h : COk C) {n : Nat} {f : FuncId} {args : List AV} {r : AV} (hx : C.ext f = none) (hc : pcall C n f args = some r) {vs : List Value} (ha : LsRel w (Old w) (fun _ => none) args vs) :
    Calls C.P f vs.toArray w (fun e w' => (∃ v U', e = .returned v ∧ VRel w' U' (fun _ => none) r v) ∧ Below w.heap.size w w') := by
  unfold pcall at hc
  split at hc
  · rename_i r0 H' hcall
    simp only [clOf, clMk, hx] at hcall
    split at hcall
    · rename_i fi hfi
      have hok := h.ft f fi hfi
      have hH : HRel C w (Old w) (fun _ => none) AHeap.empty := ⟨(fun b c h => by cases h), (fun b b' c h => by cases h), (fun c hc => ⟨hc, (fun b hb => by cases hb)⟩), (fun b c h => by cases h)⟩
      intro cs
      obtain ⟨cd, hs, he⟩ := frame_enter hok vs.toArray .normal
      obtain ⟨v, w', ⟨U', ι', hl, hf⟩, tmps', todo', fnn, hst, hfn, hres⟩ := exec_sound ⟨h.tt⟩ h.ft h.ext h.mix n _ _ _ _ _ hcall fi.ntmps w (Old w) (fun _ => none) (vs.toArray ++ Array.replicate (fi.ntmps - vs.toArray.size) undef) [.code cd] [] none (.cons (.code hs) .nil) (by simp; omega) hH (enter_rel ha _) .nil trivial .normal cs
      refine ⟨.returned v, w', { rf f tmps' todo' [] .normal none with mode := .returning }, ⟨⟨v, _, rfl, freeze_sound hl.heap hl.val hc⟩, ?_⟩, ?_, rfl, rfl, rfl, rfl, fnn, hfn, hres⟩
      · exact ⟨hl.ext.env.1, hl.ext.env.2.1, hl.ext.env.2.2, hl.ext.size, fun k hk => hl.ext.kept k hk (fun b hb => by cases hb)⟩
      · rw [he]; exact hst
    · cases hcall
  · cases hc

end Go.BX
