import Derived.Test.YtmbagennmeahhaaBCore
import Derived.Test.YtmbagennmeahhaaBFloat
import Derived.Control
namespace Go.BX

/-! # What an abstract value and the abstract heap stand for -/

/-- 'a' stands for the value 'v' in the world w: ι tells which block an abstract block is, U which blocks never change. -/
inductive VRel (w : World) (U : Nat → Prop) : (Nat → Option Nat) → AV → Value → Prop
  | any {ι} (v) : VRel w U ι .any v
  | undef {ι} : VRel w U ι .undef (.tuple #[])
  | int {ι} (k n) : VRel w U ι (.int k n) (.int k n)
  | bool {ι} (b) : VRel w U ι (.bool b) (.bool b)
  | str {ι} (l) (s : ByteArray) (h : s.data.toList = l) : VRel w U ι (.str l) (.string s)
  | flt {ι} (n b) (h : Flt.FInt b n) : VRel w U ι (.flt n) (.float .f64 b)
  | cpx {ι} (n m b c) (h : Flt.FInt b n) (h' : Flt.FInt c m) : VRel w U ι (.cpx n m) (.complex .f64 b c)
  | agg {ι} (cs : List AV) (vs : List Value) (hl : vs.length = cs.length) (h1 : ∀ a, a ∈ cs → a.one = true)
      (h : ∀ (i : Nat) (a : AV) (v : Value), cs[i]? = some a → vs[i]? = some v → VRel w U ι a v) : VRel w U ι (.agg cs) (.agg vs.toArray)
  | tuple {ι} (cs : List AV) (vs : List Value) (hl : vs.length = cs.length)
      (h : ∀ (i : Nat) (a : AV) (v : Value), cs[i]? = some a → vs[i]? = some v → VRel w U ι a v) : VRel w U ι (.tuple cs) (.tuple vs.toArray)
  | nilS {ι} : VRel w U ι .nilS (.slice none 0 0)
  | emp {ι} (a) : VRel w U ι .emp (.slice (some a) 0 0)
  | vec {ι} (es : List (List AV)) (a : Addr) (k cap : Nat) (ys : Nat → Nat → Value) (hcap : es.length ≤ cap) (hk : ∀ e, e ∈ es → e.length = k)
      (hU : es ≠ [] → U a.block) (hs : es ≠ [] → a.spot = none)
      (hc : ∀ i j, i < es.length → j < k → w.cell? ⟨a.block, a.off + i * k + j, none⟩ = some (ys i j))
      (h1 : ∀ e, e ∈ es → ∀ x, x ∈ e → x.one = true)
      (h : ∀ (i : Nat) (e : List AV) (j : Nat) (x : AV), es[i]? = some e → e[j]? = some x → VRel w U (fun _ => none) x (ys i j)) : VRel w U ι (.vec k es) (.slice (some a) es.length cap)
  | slc {ι} (b k i n c off cap m t) (hb : ι b = some c) (ho : (n ≠ 0 ∨ i = 0) → off = i * k) (hn : n ≤ cap) (hs : w.shape? c = some (t, m)) (hm : off + cap * k ≤ m) :
      VRel w U ι (.slc b k i n) (.slice (some ⟨c, off, none⟩) n cap)
  | ptr {ι} (b k i j c) (hb : ι b = some c) : VRel w U ι (.ptr b k i j) (.pointer (some ⟨c, i * k + j, none⟩))
  | vptr {ι} (es : List (List AV)) (c o k i j : Nat) (ys : Nat → Nat → Value) (hk : ∀ e, e ∈ es → e.length = k) (hU : U c)
      (hc : ∀ i j, i < es.length → j < k → w.cell? ⟨c, o + i * k + j, none⟩ = some (ys i j))
      (h1 : ∀ e, e ∈ es → ∀ x, x ∈ e → x.one = true)
      (h : ∀ (i : Nat) (e : List AV) (j : Nat) (x : AV), es[i]? = some e → e[j]? = some x → VRel w U (fun _ => none) x (ys i j)) : VRel w U ι (.vptr k es i j) (.pointer (some ⟨c, o + i * k + j, none⟩))
  | nilP {ι} : VRel w U ι .nilP (.pointer none)
  | fn {ι} (f : FuncId) (as cs : List AV) (us vs : List Value) (hl : us.length = as.length) (hl' : vs.length = cs.length)
      (h : ∀ (i : Nat) (a : AV) (v : Value), as[i]? = some a → us[i]? = some v → VRel w U ι a v) (h' : ∀ (i : Nat) (a : AV) (v : Value), cs[i]? = some a → vs[i]? = some v → VRel w U ι a v) :
      VRel w U ι (.fn f as cs) (.func (.func f) us.toArray vs.toArray)
  | yld {ι} (l c) (hl : ι l = some c) : VRel w U ι (.yld l) (.func (.yield c) #[] #[])
  | nilF {ι} : VRel w U ι .nilF .nilFunc
  | nilI {ι} : VRel w U ι .nilI .nilIface

/-- From (ι, U, w) to (ι', U', w'): what stood for something stands for it still. 'W': the blocks that may have been written. -/
structure Ext (w : World) (U : Nat → Prop) (ι : Nat → Option Nat) (w' : World) (U' : Nat → Prop) (ι' : Nat → Option Nat) : Prop where
  map : ∀ b c, ι b = some c → ι' b = some c
  rng : ∀ b c, ι' b = some c → (∃ b0, ι b0 = some c) ∨ w.heap.size ≤ c
  imm : ∀ c, U c → U' c
  new : ∀ c, U' c → U c ∨ w.heap.size ≤ c
  size : w.heap.size ≤ w'.heap.size
  kept : ∀ c, c < w.heap.size → (∀ b, ι b ≠ some c) → w'.heap[c]? = w.heap[c]?
  shape : ∀ c, c < w.heap.size → w'.shape? c = w.shape? c
  env : w'.os = w.os ∧ w'.tape = w.tape ∧ w'.output = w.output

theorem cell_of_heap {w w' : World} {a : Addr} (h : w'.heap[a.block]? = w.heap[a.block]?) : w'.cell? a = w.cell? a := by
  unfold World.cell?; rw [h]

theorem cell_lt {w : World} {a : Addr} {v : Value} (h : w.cell? a = some v) : a.block < w.heap.size := by
  unfold World.cell? at h
  rcases Nat.lt_or_ge a.block w.heap.size with h' | h'
  · exact h'
  · rw [Array.getElem?_eq_none h'] at h; cases h

theorem shape_lt {w : World} {c : Nat} {x : TypeId × Nat} (h : w.shape? c = some x) : c < w.heap.size := by
  unfold World.shape? at h
  rcases Nat.lt_or_ge c w.heap.size with h' | h'
  · exact h'
  · rw [Array.getElem?_eq_none h'] at h; cases h

theorem VRel.mono {w : World} {U : Nat → Prop} {w' : World} {U' : Nat → Prop}
    (hU : ∀ c, U c → U' c) (hUk : ∀ c, U c → w'.heap[c]? = w.heap[c]?) (hsh : ∀ c x, w.shape? c = some x → w'.shape? c = some x) {ι : Nat → Option Nat} {a : AV} {v : Value} (h : VRel w U ι a v) :
    ∀ ι' : Nat → Option Nat, (∀ b c, ι b = some c → ι' b = some c) → VRel w' U' ι' a v := by
  induction h with
  | any v => exact fun _ _ => .any v
  | undef => exact fun _ _ => .undef
  | int k n => exact fun _ _ => .int k n
  | bool b => exact fun _ _ => .bool b
  | str l s h => exact fun _ _ => .str l s h
  | flt n b h => exact fun _ _ => .flt n b h
  | cpx n m b c h h' => exact fun _ _ => .cpx n m b c h h'
  | agg cs vs hl h1 _ ih => exact fun ι' hι => .agg cs vs hl h1 fun i a v ha hv => ih i a v ha hv ι' hι
  | tuple cs vs hl _ ih => exact fun ι' hι => .tuple cs vs hl fun i a v ha hv => ih i a v ha hv ι' hι
  | nilS => exact fun _ _ => .nilS
  | emp a => exact fun _ _ => .emp a
  | vec es a k cap ys hcap hk hUa hs hc h1 _ ih =>
    refine fun ι' hι => .vec es a k cap ys hcap hk (fun hne => hU _ (hUa hne)) hs (fun i j hi hj => ?_) h1 fun i e j x he hx => ih i e j x he hx _ fun _ _ hh => hh
    rw [← hc i j hi hj]
    exact cell_of_heap (hUk _ (hUa (by rintro rfl; simp at hi)))
  | slc b k i n c off cap m t hb ho hn hs hm => exact fun ι' hι => .slc b k i n c off cap m t (hι b c hb) ho hn (hsh c _ hs) hm
  | ptr b k i j c hb => exact fun ι' hι => .ptr b k i j c (hι b c hb)
  | vptr es c o k i j ys hk hUc hc h1 _ ih =>
    refine fun ι' hι => .vptr es c o k i j ys hk (hU _ hUc) (fun i j hi hj => ?_) h1 fun i e j x he hx => ih i e j x he hx _ fun _ _ hh => hh
    rw [← hc i j hi hj]
    exact cell_of_heap (hUk _ hUc)
  | nilP => exact fun _ _ => .nilP
  | fn f as cs us vs hl hl' _ _ ih ih' => exact fun ι' hι => .fn f as cs us vs hl hl' (fun i a v ha hv => ih i a v ha hv ι' hι) (fun i a v ha hv => ih' i a v ha hv ι' hι)
  | yld l c hl => exact fun ι' hι => .yld l c (hι l c hl)
  | nilF => exact fun _ _ => .nilF
  | nilI => exact fun _ _ => .nilI

/-- Of a flat value the map of blocks does not matter. -/
theorem VRel.flat1 {w : World} {U : Nat → Prop} {ι : Nat → Option Nat} {a : AV} {v : Value} (h : VRel w U ι a v) (hf : a.flat1 = true) (ι' : Nat → Option Nat) : VRel w U ι' a v := by
  cases h <;> first | (simp [AV.flat1] at hf; done) | (constructor <;> assumption) | constructor

theorem VRel.flat2 {w : World} {U : Nat → Prop} {ι : Nat → Option Nat} {a : AV} {v : Value} (h : VRel w U ι a v) (hf : a.flat2 = true) (ι' : Nat → Option Nat) : VRel w U ι' a v := by
  cases h with
  | agg cs vs hl h1 h =>
    simp only [AV.flat2, List.all_eq_true] at hf
    exact .agg cs vs hl h1 fun i a v ha hv => (h i a v ha hv).flat1 (hf a (List.mem_of_getElem? ha)) ι'
  | fn f as cs us vs hl hl' h h' =>
    simp only [AV.flat2, Bool.and_eq_true, List.all_eq_true] at hf
    exact .fn f as cs us vs hl hl' (fun i a v ha hv => (h i a v ha hv).flat1 (hf.1 a (List.mem_of_getElem? ha)) ι') (fun i a v ha hv => (h' i a v ha hv).flat1 (hf.2 a (List.mem_of_getElem? ha)) ι')
  | _ => exact VRel.flat1 (ι := ι) (by first | (constructor <;> assumption) | constructor) (by simpa [AV.flat2] using hf) ι'

theorem VRel.flat {w : World} {U : Nat → Prop} {ι : Nat → Option Nat} {a : AV} {v : Value} (h : VRel w U ι a v) (hf : a.flat = true) (ι' : Nat → Option Nat) : VRel w U ι' a v := by
  cases h with
  | tuple cs vs hl h =>
    simp only [AV.flat, List.all_eq_true] at hf
    exact .tuple cs vs hl fun i a v ha hv => (h i a v ha hv).flat2 (hf a (List.mem_of_getElem? ha)) ι'
  | _ => exact VRel.flat2 (ι := ι) (by first | (constructor <;> assumption) | constructor) (by simpa [AV.flat] using hf) ι'

def Blk.isDead : Blk → Bool
  | .dead => true
  | _ => false

/-- The frame's slots. -/
def TRel (w : World) (U : Nat → Prop) (ι : Nat → Option Nat) (T : Nat → AV) (tmps : Array Value) : Prop :=
  ∀ t, VRel w U ι (T t) (tmps.getD t undef)

/-- Code of ours, and the machine's own. -/
def LSRel : LS → LoopState → Prop
  | .ready, .ready | .busy, .busy | .done, .done | .exhausted, .exhausted => True
  | _, _ => False

end Go.BX
