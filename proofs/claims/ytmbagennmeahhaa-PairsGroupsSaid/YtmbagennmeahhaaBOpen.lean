import Derived.Test.YtmbagennmeahhaaBTop
import Derived.WalkKit
import Derived.ProofKit
import Derived.OpenShut
import Derived.ShutString
import Derived.ChangeOld
import Derived.Below
namespace Go.BX
open Go.ChangeShapes Go.WideShapes Go.ChangeAt Go.RowKit

variable {P : Program} {w : World} {H : Type} {enc : TypeId × Value → H} {base : Nat} {spare : Nat → Bool} {held : Bool}

/-- A struct of numbers of one kind that came in. -/
theorem open_ints_struct {t : TypeId} {k : IntKind} {fs : Array Field} {v : Value} {d : DataW H} {ps : List MemPlace} {r : Reach} {b0 : Nat} (ht : P.underlying t = some (.struct fs)) (hval : Value.okWide P w r b0 t v) (hd : DataW.Trod enc P w base spare held t v d ps)
    (hf : ∀ (i : Nat) (f : Field), fs[i]? = some f → f.offset = i ∧ P.cellsOf f.type = 1 ∧ P.underlying f.type = some (.int k)) (hc : P.cellsOf t = fs.size) :
    ∃ ns : List Int, ns.length = fs.size ∧ v = .agg (ns.map (Value.int k)).toArray ∧ ∀ n, n ∈ ns → (Lit.int k n).wf = true := by
  obtain ⟨cs, rfl, hcs⟩ := okWide_struct ht hval
  obtain ⟨fuel, hfu⟩ := hd
  obtain ⟨xs, n, rfl, _, hlen, hxl, hx⟩ := DataW.trod_struct ht hfu
  have hcell : ∀ i, i < fs.size → ∃ m, cs[i]? = some (.int k m) ∧ (Lit.int k m).wf = true := by
    intro i hi
    obtain ⟨ho, hc1, hu⟩ := hf i fs[i] (Array.getElem?_eq_getElem hi)
    have h1 := hx i fs[i] (Array.getElem?_eq_getElem hi)
    rw [List.getElem?_eq_getElem (by omega)] at h1
    rw [ho, hc1] at h1
    obtain ⟨m, hm, _, hw⟩ := DataW.trod_int hu h1
    refine ⟨m, ?_, hw⟩
    have hil : i < cs.toList.length := by rw [show cs.toList.length = (Value.agg cs).cells.toList.length from rfl, hlen, hc]; exact hi
    simp only [Value.cells] at hm
    rw [List.drop_eq_getElem_cons hil] at hm
    simp only [List.take_succ_cons, List.take_zero, List.cons.injEq, and_true] at hm
    rw [← Array.getElem?_toList, List.getElem?_eq_getElem hil, hm]
  have hsz : cs.size = fs.size := by rw [hcs, hc]
  let nm : Value → Int := fun | .int _ n => n | _ => 0
  have hget : ∀ i (h : i < cs.size), ∃ m, cs[i] = .int k m ∧ (Lit.int k m).wf = true := fun i h => by
    obtain ⟨m, hm, hw⟩ := hcell i (by omega)
    rw [Array.getElem?_eq_getElem h] at hm
    exact ⟨m, by simpa using hm, hw⟩
  refine ⟨cs.toList.map nm, by simp [hsz], ?_, fun n hn => ?_⟩
  · congr 1
    apply Array.ext'
    simp only [List.map_map]
    apply List.ext_getElem
    · simp
    · intro i h1 h2
      obtain ⟨m, hm, _⟩ := hget i (by simpa using h1)
      simp only [List.getElem_map, Function.comp_apply, Array.getElem_toList, hm, nm]
  · simp only [List.mem_map] at hn
    obtain ⟨v, hv, rfl⟩ := hn
    obtain ⟨i, hi⟩ := List.getElem?_of_mem hv
    have hlt : i < cs.size := by simpa using (List.getElem?_eq_some_iff.mp hi).1
    obtain ⟨m, hm, hw⟩ := hget i hlt
    rw [Array.getElem?_toList, Array.getElem?_eq_getElem hlt, hm] at hi
    cases hi
    exact hw

end Go.BX
