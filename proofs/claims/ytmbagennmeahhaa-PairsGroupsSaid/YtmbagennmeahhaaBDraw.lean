import Derived.Test.YtmbagennmeahhaaBRegion
namespace Go.BX
set_option linter.unusedSimpArgs false
set_option linter.unusedVariables false
set_option linter.unusedSectionVars false
set_option linter.unnecessarySimpa false

/-! # Regions that draw their order -/

variable {C : Ctx} {cl : Cl} {ir : Bool} {ops : Array Oper} {nt : Nat} {as : List ADef} {Ts : Nat → Nat → AV} {Hs : Nat → AHeap} {vs : Nat → AV}

theorem slots_spec {x y : Oper} (h : slotsOk ops x y = true) : (∀ d, x.dst = some d → d ∉ usesOf ops y ∧ y.dst ≠ some d) ∧ (∀ d, y.dst = some d → d ∉ usesOf ops x) := by
  unfold slotsOk at h
  simp only [Bool.and_eq_true] at h
  obtain ⟨h1, h2⟩ := h
  refine ⟨fun d hd => ?_, fun d hd => ?_⟩
  · rw [hd] at h1
    simp only [Bool.and_eq_true, Bool.not_eq_true', List.contains_eq_mem, decide_eq_false_iff_not, beq_eq_false_iff_ne] at h1
    exact h1
  · rw [hd] at h2
    simpa using h2

theorem commute_spec {pure : FuncId → Bool} {x y : Oper} (h : commute pure ops x y = true) :
    slotsOk ops x y = true ∧ (cls pure x.op = .writer → cls pure y.op = .inert) ∧ (cls pure y.op = .writer → cls pure x.op = .inert) := by
  unfold commute at h
  simp only [Bool.and_eq_true] at h
  obtain ⟨⟨⟨⟨⟨h1, h2⟩, h3⟩, h4⟩, h5⟩, h6⟩ := h
  refine ⟨by unfold slotsOk; rw [Bool.and_eq_true]; exact ⟨h1, h2⟩, fun hc => ?_, fun hc => ?_⟩
  · rw [hc] at h5
    simpa using h5
  · rw [hc] at h6
    simpa using h6

theorem ldT_reader {pure : FuncId → Bool} {op : Op} {t : Nat} (h : ldT op = some t) : cls pure op = .reader := by
  unfold ldT at h
  split at h
  · rfl
  · cases h

theorem ldT_uses {o : Oper} {t : Nat} (h : ldT o.op = some t) : t ∈ usesOf ops o := by
  unfold ldT at h
  split at h
  · rename_i heq
    cases h
    unfold usesOf
    rw [heq]
    simp [opTmps, Op.operands]
  · cases h

structure Trace (C : Ctx) (cl : Cl) (ir : Bool) (ops : Array Oper) (nt : Nat) (as : List ADef) (Ts : Nat → Nat → AV) (Hs : Nat → AHeap) (vs : Nat → AV) : Prop where
  op : ∀ i o, ops[i]? = some o → ∃ ao, stripOp nt ops o = some ao ∧ opRes C cl ir ao (Ts i) as (Hs i) = some (vs i, as, Hs (i + 1)) ∧ Ts (i + 1) = putA (Ts i) o.dst (vs i)
  dyn : ∀ j o c t, ops[j]? = some o → (chks C.pure ops)[j]? = some c → t ∈ c → ∃ t', adT o.op = some t' ∧ apartA (Ts j t) (Ts j t') = true

theorem trace_of : ∀ (aos : List AO) (chk : List (List Nat)) (T : Nat → AV) (as as' : List ADef) (H : AHeap) (T' : Nat → AV) (H' : AHeap), runOps C cl ir aos T as H = some (T', as', H') → dynA C cl ir aos chk T as H = true → (∀ ao, ao ∈ aos → isDefer ao.op = false) →
    as' = as ∧ ∃ (Ts : Nat → Nat → AV) (Hs : Nat → AHeap) (vs : Nat → AV), Ts 0 = T ∧ Hs 0 = H ∧ Ts aos.length = T' ∧ Hs aos.length = H' ∧ (∀ i ao, aos[i]? = some ao → opRes C cl ir ao (Ts i) as (Hs i) = some (vs i, as, Hs (i + 1)) ∧ Ts (i + 1) = putA (Ts i) ao.dst (vs i)) ∧
      ∀ i ao c t, aos[i]? = some ao → chk[i]? = some c → t ∈ c → ∃ t', adT ao.op = some t' ∧ apartA (Ts i t) (Ts i t') = true := by
  intro aos
  induction aos with
  | nil =>
    intro chk T as as' H T' H' h _ _
    simp only [runOps, Option.some.injEq, Prod.mk.injEq] at h
    obtain ⟨rfl, rfl, rfl⟩ := h
    exact ⟨rfl, fun _ => T, fun _ => H, fun _ => .undef, rfl, rfl, rfl, rfl, fun i ao h => by simp at h, fun i ao c t h => by simp at h⟩
  | cons ao aos ih =>
    intro chk T as as' H T' H' h hdy hd
    simp only [runOps] at h
    split at h
    · rename_i r as1 H1 hr
      have e1 := opRes_as hr (hd ao (by simp))
      subst e1
      have hdy' : dynA C cl ir aos chk.tail (putA T ao.dst r) as1 H1 = true ∧ ∀ c t, chk[0]? = some c → t ∈ c → ∃ t', adT ao.op = some t' ∧ apartA (T t) (T t') = true := by
        cases chk with
        | nil => exact ⟨by cases aos <;> rfl, fun c t h => by simp at h⟩
        | cons c chk =>
          simp only [dynA, hr, Bool.and_eq_true, List.all_eq_true] at hdy
          refine ⟨hdy.2, fun c' t hc' ht => ?_⟩
          simp only [List.getElem?_cons_zero, Option.some.injEq] at hc'
          subst hc'
          have := hdy.1 t ht
          split at this
          · rename_i t' ht'
            exact ⟨t', ht', this⟩
          · cases this
      obtain ⟨e2, Ts, Hs, vs, hT0, hH0, hTn, hHn, hop, hdd⟩ := ih _ _ _ _ _ _ _ h hdy'.1 (fun a ha => hd a (by simp [ha]))
      refine ⟨e2, fun | 0 => T | i + 1 => Ts i, fun | 0 => H | i + 1 => Hs i, fun | 0 => r | i + 1 => vs i, rfl, rfl, hTn, hHn, fun i a ha => ?_, fun i a c t ha hc ht => ?_⟩
      · cases i with
        | zero =>
          simp only [List.getElem?_cons_zero, Option.some.injEq] at ha
          subst ha
          subst hH0
          exact ⟨hr, hT0⟩
        | succ i => exact hop i a (by simpa using ha)
      · cases i with
        | zero =>
          simp only [List.getElem?_cons_zero, Option.some.injEq] at ha
          subst ha
          exact hdy'.2 c t hc ht
        | succ i => exact hdd i a c t (by simpa using ha) (by cases chk <;> simpa using hc) ht
    · cases h

namespace Trace
variable (tr : Trace C cl ir ops nt as Ts Hs vs)
include tr

theorem next1 (hn : NextMono cl) {i : Nat} (hi : i < ops.size) : (Hs i).next ≤ (Hs (i + 1)).next := by
  obtain ⟨ao, _, hr, _⟩ := tr.op i _ (Array.getElem?_eq_getElem hi)
  exact (opRes_abs hn hr).1

theorem next (hn : NextMono cl) {i j : Nat} (hij : i ≤ j) (hj : j ≤ ops.size) : (Hs i).next ≤ (Hs j).next := by
  induction j with
  | zero => have : i = 0 := by omega
            subst this; exact Nat.le_refl _
  | succ j ih =>
    by_cases e : i = j + 1
    · subst e; exact Nat.le_refl _
    · exact Nat.le_trans (ih (by omega) (by omega)) (tr.next1 hn (by omega))

theorem grows (hn : NextMono cl) {i j : Nat} (hij : i ≤ j) (hj : j ≤ ops.size) (hw : ∀ l o, i ≤ l → l < j → ops[l]? = some o → cls C.pure o.op ≠ .writer) : Grows (Hs i) (Hs j) := by
  induction j with
  | zero => have : i = 0 := by omega
            subst this; exact Grows.refl _
  | succ j ih =>
    by_cases e : i = j + 1
    · subst e; exact Grows.refl _
    · refine (ih (by omega) (by omega) (fun l o hl hlj ho => hw l o hl (by omega) ho)).trans ?_
      have hlt : j < ops.size := by omega
      obtain ⟨ao, hst, hr, _⟩ := tr.op j _ (Array.getElem?_eq_getElem hlt)
      refine (opRes_abs hn hr).2.1 ?_
      rw [(strip_spec hst).2.1]
      exact hw j _ (by omega) (by omega) (Array.getElem?_eq_getElem hlt)

theorem find (hn : NextMono cl) {a m b : Nat} (ham : a ≤ m) (hm : m ≤ ops.size) (h1 : (Hs a).next ≤ b) (h2 : b < (Hs m).next) : ∃ j, a ≤ j ∧ j < m ∧ (Hs j).next ≤ b ∧ b < (Hs (j + 1)).next := by
  induction m with
  | zero => have : a = 0 := by omega
            subst this; omega
  | succ m ih =>
    by_cases e : a = m + 1
    · subst e; omega
    · by_cases hb : b < (Hs m).next
      · obtain ⟨j, h3, h4, h5, h6⟩ := ih (by omega) (by omega) hb
        exact ⟨j, h3, by omega, h5, h6⟩
      · exact ⟨m, by omega, by omega, by omega, h2⟩

theorem slot {i t : Nat} (hi : i ≤ ops.size) : (∃ j, j < i ∧ dstOf ops j = some t ∧ (∀ l, j < l → l < i → dstOf ops l ≠ some t) ∧ Ts i t = vs j) ∨ ((∀ j, j < i → dstOf ops j ≠ some t) ∧ Ts i t = Ts 0 t) := by
  induction i with
  | zero => exact .inr ⟨fun j hj => by omega, rfl⟩
  | succ i ih =>
    have hlt : i < ops.size := by omega
    obtain ⟨ao, hst, hr, hT⟩ := tr.op i _ (Array.getElem?_eq_getElem hlt)
    have hd : dstOf ops i = ops[i].dst := by unfold dstOf; rw [Array.getElem?_eq_getElem hlt]; rfl
    by_cases e : ops[i].dst = some t
    · refine .inl ⟨i, by omega, by rw [hd, e], fun l h1 h2 => by omega, ?_⟩
      rw [hT, e]; simp [putA]
    · have hTt : Ts (i + 1) t = Ts i t := by
        rw [hT]
        cases hdd : ops[i].dst with
        | none => rfl
        | some d => simp only [putA]; exact upd_ne _ _ (fun h => e (by rw [hdd, h]))
      rcases ih (by omega) with ⟨j, h1, h2, h3, h4⟩ | ⟨h1, h2⟩
      · refine .inl ⟨j, by omega, h2, fun l hl1 hl2 => ?_, by rw [hTt, h4]⟩
        by_cases el : l = i
        · subst el; rw [hd]; exact e
        · exact h3 l hl1 (by omega)
      · refine .inr ⟨fun j hj => ?_, by rw [hTt, h2]⟩
        by_cases el : j = i
        · subst el; rw [hd]; exact e
        · exact h1 j (by omega)

end Trace

/-- The map of blocks as it is before operation m. -/
def res (Hs : Nat → AHeap) (ι : Nat → Option Nat) (m : Nat) : Nat → Option Nat := fun b => if b < (Hs m).next then ι b else none

theorem res_some {ι : Nat → Option Nat} {m b c : Nat} (h : res Hs ι m b = some c) : b < (Hs m).next ∧ ι b = some c := by
  unfold res at h
  split at h
  · exact ⟨by assumption, h⟩
  · cases h

theorem res_of {ι : Nat → Option Nat} {m b c : Nat} (h : b < (Hs m).next) (h' : ι b = some c) : res Hs ι m b = some c := by
  unfold res; rw [if_pos h]; exact h'

/-- Operation l is a write that leaves block b. -/
def NT (Ts : Nat → Nat → AV) (l : Nat) (y : Oper) (b : Nat) : Prop := ∃ t f, fwT y.op = some t ∧ foot (Ts l t) = some f ∧ f ≠ some b

theorem Trace.nt_kept (tr : Trace C cl ir ops nt as Ts Hs vs) {l : Nat} {y : Oper} (hy : ops[l]? = some y) {b : Nat} (h : NT Ts l y b) (hlt : b < (Hs l).next) : (Hs (l + 1)).at_ b = (Hs l).at_ b := by
  obtain ⟨t, f, h1, h2, h3⟩ := h
  obtain ⟨ao, hst, hr, _⟩ := tr.op l y hy
  exact opRes_fw (by rw [(strip_spec hst).2.1]; exact h1) h2 h3 hlt hr

theorem Trace.kept (tr : Trace C cl ir ops nt as Ts Hs vs) (hn : NextMono cl) {i j b : Nat} (hij : i ≤ j) (hj : j ≤ ops.size) (hb : b < (Hs i).next) (hw : ∀ l y, i ≤ l → l < j → ops[l]? = some y → cls C.pure y.op = .writer → NT Ts l y b) : (Hs j).at_ b = (Hs i).at_ b := by
  induction j with
  | zero => have : i = 0 := by omega
            subst this; rfl
  | succ j ih =>
    by_cases e : i = j + 1
    · subst e; rfl
    · have h1 := ih (by omega) (by omega) (fun l y hl hlj hy hc => hw l y hl (by omega) hy hc)
      have hlt : j < ops.size := by omega
      have hbj : b < (Hs j).next := Nat.lt_of_lt_of_le hb (tr.next hn (by omega) (by omega))
      rw [← h1]
      by_cases hc : cls C.pure ops[j].op = .writer
      · exact tr.nt_kept (Array.getElem?_eq_getElem hlt) (hw j _ (by omega) (by omega) (Array.getElem?_eq_getElem hlt) hc) hbj
      · obtain ⟨ao, hst, hr, _⟩ := tr.op j _ (Array.getElem?_eq_getElem hlt)
        exact ((opRes_abs hn hr).2.1 (by rw [(strip_spec hst).2.1]; exact hc)).2 b hbj

theorem Trace.still (tr : Trace C cl ir ops nt as Ts Hs vs) {t : Nat} : ∀ {i j : Nat}, i ≤ j → j ≤ ops.size → (∀ l, i ≤ l → l < j → dstOf ops l ≠ some t) → Ts j t = Ts i t := by
  intro i j hij hj h
  induction j with
  | zero => have : i = 0 := by omega
            subst this; rfl
  | succ j ih =>
    by_cases e : i = j + 1
    · subst e; rfl
    · rw [← ih (by omega) (by omega) (fun l h1 h2 => h l h1 (by omega))]
      have hlt : j < ops.size := by omega
      obtain ⟨ao, hst, hr, hT⟩ := tr.op j _ (Array.getElem?_eq_getElem hlt)
      have hd : dstOf ops j = ops[j].dst := by unfold dstOf; rw [Array.getElem?_eq_getElem hlt]; rfl
      rw [hT]
      cases hdd : ops[j].dst with
      | none => rfl
      | some d => exact upd_ne _ _ (fun h' => h j (by omega) (by omega) (by rw [hd, hdd, h']))

/-- What is known of two operations that no order binds. -/
structure PairOk (C : Ctx) (ops : Array Oper) (Ts : Nat → Nat → AV) (i : Nat) (x : Oper) (j : Nat) (y : Oper) : Prop where
  s1 : ∀ d, x.dst = some d → d ∉ usesOf ops y ∧ y.dst ≠ some d
  s2 : ∀ d, y.dst = some d → d ∉ usesOf ops x
  kinds : ((cls C.pure x.op = .writer → cls C.pure y.op = .inert) ∧ (cls C.pure y.op = .writer → cls C.pure x.op = .inert)) ∨
    (∃ t f, ldT x.op = some t ∧ foot (Ts i t) = some f ∧ ∀ b, f = some b → NT Ts j y b) ∨ (∃ t f, ldT y.op = some t ∧ foot (Ts j t) = some f ∧ ∀ b, f = some b → NT Ts i x b)

theorem apart_spec {a b : AV} (h : apartA a b = true) : ∃ f g, foot a = some f ∧ foot b = some g ∧ ∀ x, f = some x → g ≠ some x := by
  unfold apartA at h
  split at h
  · rename_i x y h1 h2
    exact ⟨_, _, h1, h2, fun z hz e => by cases hz; cases e; simp at h⟩
  · rename_i x y hne h1 h2
    exact ⟨_, _, h1, h2, fun z hz e => by subst hz; subst e; exact hne z z rfl rfl⟩
  · cases h

theorem Trace.pair (tr : Trace C cl ir ops nt as Ts Hs vs) (hd : drawOk C.pure ops = true) {i j : Nat} (hij : i < j) {x y : Oper} (hx : ops[i]? = some x) (hy : ops[j]? = some y) :
    ((masks ops.toList #[]).getD j 0).testBit i = true ∨ PairOk C ops Ts i x j y := by
  rcases drawOk_pair hd hij hx hy with h | h | ⟨h, hc⟩
  · exact .inl h
  · obtain ⟨h1, h2⟩ := commute_spec h
    exact .inr ⟨(slots_spec h1).1, (slots_spec h1).2, .inl h2⟩
  · right
    unfold look at h
    simp only [Bool.and_eq_true] at h
    obtain ⟨⟨h1, h2⟩, h3⟩ := h
    have hjlt : j < ops.size := (Array.getElem?_eq_some_iff.mp hy).1
    split at h3
    · rename_i t ht
      obtain ⟨c, hcj, htc⟩ := hc t ht
      obtain ⟨t', ht', hap⟩ := tr.dyn j y c t hy hcj htc
      have hst : Ts j t = Ts i t := tr.still (by omega) (by omega) (fun l hl1 hl2 => by
        rw [List.all_eq_true] at h3
        have := h3 l (List.mem_range.mpr hl2)
        simp only [Bool.or_eq_true, decide_eq_true_eq, Bool.not_eq_true', beq_eq_false_iff_ne] at this
        rcases this with h | h
        · omega
        · exact h)
      rw [hst] at hap
      obtain ⟨f, g, hf, hg, hfg⟩ := apart_spec hap
      refine ⟨(slots_spec h1).1, (slots_spec h1).2, .inr ?_⟩
      simp only [Bool.or_eq_true, Bool.and_eq_true] at h2
      rcases h2 with ⟨h4, h5⟩ | ⟨h4, h5⟩
      · obtain ⟨tx, htx⟩ := Option.isSome_iff_exists.mp h4
        obtain ⟨ty, hty⟩ := Option.isSome_iff_exists.mp h5
        have e1 : tx = t := by unfold adT at ht; rw [htx] at ht; simpa using ht
        have e2 : ty = t' := by
          unfold adT at ht'
          split at ht'
          · rename_i z hz
            have e4 := ldT_reader (pure := C.pure) hz
            rw [fwT_writer hty] at e4
            cases e4
          · rw [hty] at ht'; simpa using ht'
        subst e1; subst e2
        exact .inl ⟨tx, f, htx, hf, fun b hb => ⟨ty, g, hty, hg, hfg b hb⟩⟩
      · obtain ⟨tx, htx⟩ := Option.isSome_iff_exists.mp h4
        obtain ⟨ty, hty⟩ := Option.isSome_iff_exists.mp h5
        have e2 : ty = t' := by unfold adT at ht'; rw [hty] at ht'; simpa using ht'
        have e1 : tx = t := by
          unfold adT at ht
          split at ht
          · rename_i z hz
            have e4 := ldT_reader (pure := C.pure) hz
            rw [fwT_writer htx] at e4
            cases e4
          · rw [htx] at ht; simpa using ht
        subst e1; subst e2
        exact .inr ⟨ty, g, hty, hg, fun b hb => ⟨tx, f, htx, hf, fun e => hfg b e hb⟩⟩
    · cases h3

structure Inv (C : Ctx) (ops : Array Oper) (as : List ADef) (Ts : Nat → Nat → AV) (Hs : Nat → AHeap) (vs : Nat → AV) (ds : List Deferred) (S : Nat → Prop) (w : World) (U : Nat → Prop) (ι : Nat → Option Nat) (tmps : Array Value) : Prop where
  dom : ∀ b c, ι b = some c → b < (Hs ops.size).next ∧ c < w.heap.size
  imm : ∀ c, U c → c < w.heap.size ∧ ∀ b, ι b ≠ some c
  slot : ∀ t, (∃ i, i < ops.size ∧ S i ∧ dstOf ops i = some t ∧ (∀ j, S j → dstOf ops j = some t → j ≤ i) ∧ VRel w U (res Hs ι (i + 1)) (vs i) (tmps.getD t undef)) ∨
    ((∀ i, S i → dstOf ops i ≠ some t) ∧ VRel w U (res Hs ι 0) (Ts 0 t) (tmps.getD t undef))
  inj : ∀ m, m ≤ ops.size → (∀ i o, ops[i]? = some o → cls C.pure o.op = .writer → (S i ↔ i < m)) → ∀ b b' c, res Hs ι m b = some c → res Hs ι m b' = some c → ((Hs m).at_ b).isDead = false → ((Hs m).at_ b').isDead = false → b = b'
  blk : ∀ m, m ≤ ops.size → ∀ b c, res Hs ι m b = some c → (∀ l y, ops[l]? = some y → cls C.pure y.op = .writer → (¬ S l ∧ l < m ∨ S l ∧ m ≤ l) → NT Ts l y b) → BRel C w U (res Hs ι m) c ((Hs m).at_ b)
  unm : ∀ i, i < ops.size → ¬ S i → ∀ b, (Hs i).next ≤ b → b < (Hs (i + 1)).next → ι b = none
  dfr : DsRel w U (res Hs ι 0) as ds

theorem Inv.heap {ds : List Deferred} {S : Nat → Prop} {w : World} {U : Nat → Prop} {ι : Nat → Option Nat} {tmps : Array Value} (inv : Inv C ops as Ts Hs vs ds S w U ι tmps) (m : Nat) (hm : m ≤ ops.size) (hw : ∀ i o, ops[i]? = some o → cls C.pure o.op = .writer → (S i ↔ i < m)) : HRel C w U (res Hs ι m) (Hs m) :=
  ⟨fun b c hb => ⟨(res_some hb).1, (inv.dom b c (res_some hb).2).2⟩, inv.inj m hm hw, fun c hc => ⟨(inv.imm c hc).1, fun b hb => (inv.imm c hc).2 b (res_some hb).2⟩, fun b c hb => inv.blk m hm b c hb (fun l y hy hc h => by
    rcases h with ⟨h1, h2⟩ | ⟨h1, h2⟩
    · exact absurd ((hw l y hy hc).mpr h2) h1
    · have := (hw l y hy hc).mp h1; omega)⟩

theorem inv_step (hC : TOk C) (hs : SimCl C cl) (hn : NextMono cl) (hd : drawOk C.pure ops = true) {fn : FuncId} {kd : CallKind} {ro : Option Nat} (tr : Trace C cl ro.isSome ops nt as Ts Hs vs) {ds : List Deferred} {S : Nat → Prop} {w : World} {U : Nat → Prop} {ι : Nat → Option Nat} {tmps : Array Value} (hS : Closed ops S) {i : Nat} {o : Oper} (ho : ops[i]? = some o) (hiS : ¬ S i)
    (hrdy : ∀ e, e ∈ o.after.toList → Region.binds .any e = true → S e.on) (inv : Inv C ops as Ts Hs vs ds S w U ι tmps) (hnt : nt ≤ tmps.size) (rest : List Nat) (k : List Item) (cs : List Frame) :
    ∃ v w' U' ι', Steps C.P (lone (rf fn tmps (.inRegion ops (i :: rest) :: k) ds kd ro) cs w) (lone (rf fn (putV tmps o.dst v) (.inRegion ops rest :: k) ds kd ro) cs w') ∧
      Inv C ops as Ts Hs vs ds (fun j => S j ∨ j = i) w' U' ι' (putV tmps o.dst v) ∧ Closed ops (fun j => S j ∨ j = i) ∧ Ext w U ι w' U' ι' ∧ (∀ b c, ι' b = some c → ι b = some c ∨ (Hs 0).next ≤ b) := by
  have hi : i < ops.size := (Array.getElem?_eq_some_iff.mp ho).1
  have hcl : Closed ops (fun j => S j ∨ j = i) := by
    intro j o' ho' hj e he hb
    rcases hj with hj | rfl
    · exact .inl (hS j o' ho' hj e he hb)
    · rw [ho] at ho'; cases ho'
      exact .inl (hrdy e he hb)
  have P1 : ∀ j y, j < i → ops[j]? = some y → ¬ S j → PairOk C ops Ts j y i o := fun j y hj hy hSj => by
    rcases tr.pair hd hj hy ho with h | h
    · rcases mask_closed hcl h (.inr rfl) with h | h
      · exact absurd h hSj
      · omega
    · exact h
  have P2 : ∀ j y, i < j → ops[j]? = some y → S j → PairOk C ops Ts i o j y := fun j y hj hy hSj => by
    rcases tr.pair hd hj ho hy with h | h
    · exact absurd (mask_closed hS h hSj) hiS
    · exact h
  have hget : ∀ j d, dstOf ops j = some d → ∃ y, ops[j]? = some y ∧ y.dst = some d := fun j d h => by
    unfold dstOf at h
    cases hy : ops[j]? with
    | none => rw [hy] at h; cases h
    | some y => rw [hy] at h; exact ⟨y, rfl, h⟩
  have ldne : ∀ {y : Oper} {t : Nat}, ldT y.op = some t → cls C.pure y.op = .writer → False := fun h h' => by
    rw [ldT_reader (pure := C.pure) h] at h'; cases h'
  -- writes, and what no order binds to it
  have W1 : cls C.pure o.op ≠ .inert → (∀ t, ldT o.op ≠ some t) → ∀ j y, j < i → ops[j]? = some y → cls C.pure y.op = .writer → S j := fun h1 h2 j y hj hy hw => by
    refine Classical.byContradiction fun hSj => ?_
    rcases (P1 j y hj hy hSj).kinds with h | ⟨t, f, h, _⟩ | ⟨t, f, h, _⟩
    · exact h1 (h.1 hw)
    · exact ldne h hw
    · exact h2 t h
  have W2 : cls C.pure o.op ≠ .inert → (∀ t, ldT o.op ≠ some t) → ∀ j y, i < j → ops[j]? = some y → cls C.pure y.op = .writer → ¬ S j := fun h1 h2 j y hj hy hw hSj => by
    rcases (P2 j y hj hy hSj).kinds with h | ⟨t, f, h, _⟩ | ⟨t, f, h, _⟩
    · exact h1 (h.2 hw)
    · exact h2 t h
    · exact ldne h hw
  have noalloc : ∀ j y, ops[j]? = some y → (cls C.pure y.op = .inert ∨ ∃ t, ldT y.op = some t) → Hs (j + 1) = Hs j := fun j y hy h => by
    obtain ⟨ao', hst', hr', _⟩ := tr.op j y hy
    have e := (strip_spec hst').2.1
    rcases h with h | ⟨t, h⟩
    · exact ((opRes_abs hn hr').2.2 (by rw [e]; exact h)).1
    · exact (opRes_load (by rw [e]; exact h) hr').1
  have W3 : cls C.pure o.op = .writer → ∀ j y, i < j → ops[j]? = some y → S j → Hs (j + 1) = Hs j := fun hw j y hj hy hSj => by
    rcases (P2 j y hj hy hSj).kinds with h | ⟨t, f, h, _⟩ | ⟨t, f, h, _⟩
    · exact noalloc j y hy (.inl (h.1 hw))
    · exact (ldne h hw).elim
    · exact noalloc j y hy (.inr ⟨t, h⟩)
  obtain ⟨ao, hst, hr, hT1⟩ := tr.op i o ho
  obtain ⟨_, hop, hlt, _⟩ := strip_spec hst
  have hnd := drawOk_defer hd ho
  -- the slots that it reads
  let T2 : Nat → AV := fun t => if t ∈ usesOf ops o then Ts i t else .any
  have hr2 : opRes C cl ro.isSome ao T2 as (Hs i) = some (vs i, as, Hs (i + 1)) := by
    rw [← hr]
    exact opRes_congr hst (fun t ht => by simp [T2, ht])
  have hUk : ∀ c, U c → c < w.heap.size := fun c hc => (inv.imm c hc).1
  have hresm : ∀ m m', m ≤ m' → m' ≤ ops.size → ∀ b c, res Hs ι m b = some c → res Hs ι m' b = some c := fun m m' hm hm' b c h => by
    obtain ⟨h1, h2⟩ := res_some h
    exact res_of (Nat.lt_of_lt_of_le h1 (tr.next hn hm hm')) h2
  have hup : ∀ {m m' : Nat} {a : AV} {v : Value}, m ≤ m' → m' ≤ ops.size → VRel w U (res Hs ι m) a v → VRel w U (res Hs ι m') a v := fun hm hm' hv =>
    hv.mono (fun _ h => h) (fun _ _ => rfl) (fun _ _ h => h) _ (hresm _ _ hm hm')
  have hT2 : TRel w U (res Hs ι i) T2 tmps := by
    intro t
    simp only [T2]
    split
    · rename_i hu
      rcases tr.slot (i := i) (t := t) (by omega) with ⟨j, h1, h2, h3, h4⟩ | ⟨h1, h2⟩
      · have hSj : S j := by
          refine Classical.byContradiction fun hSj => ?_
          obtain ⟨y, hy, hyd⟩ := hget j t h2
          exact ((P1 j y h1 hy hSj).s1 t hyd).1 hu
        rcases inv.slot t with ⟨j', h5, h6, h7, h8, h9⟩ | ⟨h5, _⟩
        · have hj' : j' = j := by
            have hle := h8 j hSj h2
            by_cases e : j' = j
            · exact e
            · obtain ⟨y, hy, hyd⟩ := hget j' t h7
              by_cases hji : j' < i
              · exact absurd h7 (h3 j' (by omega) hji)
              · have hne : j' ≠ i := fun e => hiS (e ▸ h6)
                exact absurd hu ((P2 j' y (by omega) hy h6).s2 t hyd)
          subst hj'
          rw [h4]
          exact hup (by omega) (by omega) h9
        · exact absurd h2 (h5 j hSj)
      · rw [h2]
        rcases inv.slot t with ⟨j', h5, h6, h7, h8, h9⟩ | ⟨_, h6⟩
        · obtain ⟨y, hy, hyd⟩ := hget j' t h7
          by_cases hji : j' < i
          · exact absurd h7 (h1 j' hji)
          · have hne : j' ≠ i := fun e => hiS (e ▸ h6)
            exact absurd hu ((P2 j' y (by omega) hy h6).s2 t hyd)
        · exact hup (by omega) (by omega) h6
    · exact .any _
  have hD : DsRel w U (res Hs ι i) as ds := inv.dfr.mono (fun hv => hup (by omega) (by omega) hv) (hresm 0 i (by omega) (by omega))
  -- what runs
  obtain ⟨v, w', U', ι1, hsteps, hext, hinn, himm1, hdom1, hval, hfresh, hrd, hhp, hwr⟩ : ∃ v w' U' ι1, Steps C.P (lone (rf fn tmps (.inRegion ops (i :: rest) :: k) ds kd ro) cs w) (lone (rf fn (putV tmps o.dst v) (.inRegion ops rest :: k) ds kd ro) cs w') ∧
      Ext w U (res Hs ι i) w' U' ι1 ∧ ((cls C.pure o.op = .inert ∨ ∃ t, ldT o.op = some t) → Hs (i + 1) = Hs i) ∧ (∀ c, U' c → c < w'.heap.size ∧ ∀ b, ι1 b ≠ some c) ∧ (∀ b c, ι1 b = some c → b < (Hs (i + 1)).next ∧ c < w'.heap.size) ∧ VRel w' U' ι1 (vs i) v ∧
      (∀ b c, ι1 b = some c → res Hs ι i b = some c ∨ (Hs i).next ≤ b) ∧ (cls C.pure o.op ≠ .writer → (∀ c, c < w.heap.size → w'.heap[c]? = w.heap[c]?) ∧ ∀ b c, ι1 b = some c → res Hs ι i b = some c ∨ w.heap.size ≤ c) ∧
      (¬ (cls C.pure o.op = .inert ∨ ∃ t, ldT o.op = some t) → HRel C w' U' ι1 (Hs (i + 1))) ∧ (∀ t, fwT o.op = some t → ∀ c, c < w.heap.size → (∀ b, foot (Ts i t) = some (some b) → ((Hs i).at_ b).isDead = false → res Hs ι i b ≠ some c) → w'.heap[c]? = w.heap[c]?) := by
    by_cases hin : cls C.pure o.op = .inert ∨ ∃ t, ldT o.op = some t
    · -- what asks for no heap, or for one block
      have hstl := noalloc i o ho hin
      let HD : AHeap := { next := (Hs i).next, at_ := fun b => if ∃ t, ldT o.op = some t ∧ foot (Ts i t) = some (some b) then (Hs i).at_ b else .dead }
      have hHD : HRel C w U (res Hs ι i) HD := by
        refine ⟨fun b c hb => ⟨(res_some hb).1, (inv.dom b c (res_some hb).2).2⟩, fun b b' c _ _ h h' => ?_, fun c hc => ⟨hUk c hc, fun b hb => (inv.imm c hc).2 b (res_some hb).2⟩, fun b c hb => ?_⟩
        · by_cases c1 : ∃ t, ldT o.op = some t ∧ foot (Ts i t) = some (some b)
          · by_cases c2 : ∃ t, ldT o.op = some t ∧ foot (Ts i t) = some (some b')
            · obtain ⟨t, h1, h2⟩ := c1
              obtain ⟨t', h3, h4⟩ := c2
              rw [h1] at h3; cases h3
              rw [h2] at h4
              simpa using h4
            · simp only [HD, if_neg c2, Blk.isDead] at h'
              cases h'
          · simp only [HD, if_neg c1, Blk.isDead] at h
            cases h
        · simp only [HD]
          split
          · rename_i hc
            obtain ⟨t, h1, h2⟩ := hc
            refine inv.blk i (by omega) b c hb (fun l y hy hw h => ?_)
            rcases h with ⟨h3, h4⟩ | ⟨h3, h4⟩
            · rcases (P1 l y h4 hy h3).kinds with h | ⟨t', f, h, _⟩ | ⟨t', f, h, h5, h6⟩
              · have e4 := h.1 hw
                rw [ldT_reader (pure := C.pure) h1] at e4; cases e4
              · exact (ldne h hw).elim
              · rw [h1] at h; cases h
                rw [h2] at h5; cases h5
                exact h6 b rfl
            · have hne : l ≠ i := fun e => hiS (e ▸ h3)
              rcases (P2 l y (by omega) hy h3).kinds with h | ⟨t', f, h, h5, h6⟩ | ⟨t', f, h, _⟩
              · have e4 := h.2 hw
                rw [ldT_reader (pure := C.pure) h1] at e4; cases e4
              · rw [h1] at h; cases h
                rw [h2] at h5; cases h5
                exact h6 b rfl
              · exact (ldne h hw).elim
          · trivial
      have hrun : opRes C cl ro.isSome ao T2 as HD = some (vs i, as, HD) := by
        rcases hin with hin | ⟨t, ht⟩
        · exact ((opRes_abs hn hr2).2.2 (by rw [hop]; exact hin)).2 HD
        · refine (opRes_load (by rw [hop]; exact ht) hr2).2 HD (fun b hb => ?_)
          have hu := ldT_uses (ops := ops) ht
          simp only [T2, if_pos hu] at hb
          simp only [HD]
          rw [if_pos ⟨t, ht, hb⟩]
      obtain ⟨v, w', ds', U', ι', hst', hl, hf, _, hof, hdd⟩ := opRes_sound (fn := fn) (kd := kd) hC hs hst hHD hT2 hD ho hrun rest k cs
      obtain ⟨rfl, _⟩ := hdd hnd
      have hnw : cls C.pure o.op ≠ .writer := fun h => by
        rcases hin with hin | ⟨t, ht⟩
        · rw [hin] at h; cases h
        · exact ldne ht h
      have hrd := hof.reader hnw
      refine ⟨v, w', U', ι', hst', hl.ext, fun _ => hstl, hl.heap.imm, fun b c hb => ?_, hl.val, fun b c hb => hf b c hb, fun _ => ⟨hrd.all, fun b c hb => (hrd.new b c hb).imp id (·.2)⟩, fun h => absurd hin h, fun t ht => absurd (fwT_writer ht) hnw⟩
      have := hl.heap.dom b c hb
      rw [hstl]
      exact this
    · have h1 : cls C.pure o.op ≠ .inert := fun h => hin (.inl h)
      have h2 : ∀ t, ldT o.op ≠ some t := fun t h => hin (.inr ⟨t, h⟩)
      have hHi : HRel C w U (res Hs ι i) (Hs i) := by
        refine inv.heap i (by omega) (fun j y hy hyw => ⟨fun hSj => ?_, fun hji => W1 h1 h2 j y hji hy hyw⟩)
        refine Classical.byContradiction fun hge => ?_
        have hne : j ≠ i := fun e => hiS (e ▸ hSj)
        exact W2 h1 h2 j y (by omega) hy hyw hSj
      obtain ⟨v, w', ds', U', ι', hst', hl, hf, _, hof, hdd⟩ := opRes_sound (fn := fn) (kd := kd) hC hs hst hHi hT2 hD ho hr2 rest k cs
      obtain ⟨rfl, _⟩ := hdd hnd
      refine ⟨v, w', U', ι', hst', hl.ext, fun h => absurd h hin, hl.heap.imm, hl.heap.dom, hl.val, fun b c hb => hf b c hb, fun h => ⟨(hof.reader h).all, fun b c hb => ((hof.reader h).new b c hb).imp id (·.2)⟩, fun _ => hl.heap, fun t ht c hc hb => hof.writes t ht c hc (fun b hfb hlv => hb b ?_ hlv)⟩
      simp only [T2] at hfb
      split at hfb
      · exact hfb
      · cases hfb
  -- the new map
  let ι2 : Nat → Option Nat := fun b => if (Hs i).next ≤ b ∧ b < (Hs (i + 1)).next then ι1 b else ι b
  have hin2 : ∀ b, (Hs i).next ≤ b → b < (Hs (i + 1)).next → ι2 b = ι1 b := fun b h1 h2 => by simp only [ι2]; rw [if_pos ⟨h1, h2⟩]
  have hout2 : ∀ b, ¬ ((Hs i).next ≤ b ∧ b < (Hs (i + 1)).next) → ι2 b = ι b := fun b h => by simp only [ι2]; rw [if_neg h]
  have hmap2 : ∀ b c, ι b = some c → ι2 b = some c := fun b c hb => by
    by_cases h : (Hs i).next ≤ b ∧ b < (Hs (i + 1)).next
    · rw [inv.unm i hi hiS b h.1 h.2] at hb; cases hb
    · rw [hout2 b h]; exact hb
  have hcase2 : ∀ b c, ι2 b = some c → (((Hs i).next ≤ b ∧ b < (Hs (i + 1)).next) ∧ ι1 b = some c) ∨ (¬ ((Hs i).next ≤ b ∧ b < (Hs (i + 1)).next) ∧ ι b = some c) := fun b c hb => by
    by_cases h : (Hs i).next ≤ b ∧ b < (Hs (i + 1)).next
    · exact .inl ⟨h, by rw [← hin2 b h.1 h.2]; exact hb⟩
    · exact .inr ⟨h, by rw [← hout2 b h]; exact hb⟩
  have hnx := tr.next1 hn hi
  have hmap1 : ∀ b c, ι1 b = some c → res Hs ι2 (i + 1) b = some c := fun b c hb => by
    have h1 := (hdom1 b c hb).1
    refine res_of h1 ?_
    by_cases h : (Hs i).next ≤ b
    · rw [hin2 b h h1]; exact hb
    · rcases hfresh b c hb with h' | h'
      · exact hmap2 b c (res_some h').2
      · exact absurd h' h
  have hmap1' : ∀ b c, res Hs ι2 (i + 1) b = some c → ι1 b = some c := fun b c hb => by
    obtain ⟨h1, h2⟩ := res_some hb
    rcases hcase2 b c h2 with ⟨_, h⟩ | ⟨h, h3⟩
    · exact h
    · exact hext.map b c (res_of (by omega) h3)
  have hext2 : Ext w U ι w' U' ι2 := {
    map := hmap2
    rng := fun b c hb => by
      rcases hcase2 b c hb with ⟨_, h⟩ | ⟨_, h⟩
      · rcases hext.rng b c h with ⟨b0, hb0⟩ | h
        · exact .inl ⟨b0, (res_some hb0).2⟩
        · exact .inr h
      · exact .inl ⟨b, h⟩
    imm := hext.imm
    new := hext.new
    size := hext.size
    kept := fun c hc hb => hext.kept c hc (fun b h => hb b (res_some h).2)
    shape := hext.shape, env := hext.env }
  have hkU : ∀ c, U c → w'.heap[c]? = w.heap[c]? := fun c hc => hext2.kept c (hUk c hc) (inv.imm c hc).2
  have hsh : ∀ c x, w.shape? c = some x → w'.shape? c = some x := fun c x h => by rw [hext2.shape c (shape_lt h)]; exact h
  have hvm : ∀ {m : Nat} {a : AV} {v : Value}, VRel w U (res Hs ι m) a v → VRel w' U' (res Hs ι2 m) a v := fun hv =>
    hv.mono hext2.imm hkU hsh _ (fun b c h => res_of (res_some h).1 (hmap2 b c (res_some h).2))
  have hdomn : ∀ b c, ι2 b = some c → b < (Hs ops.size).next ∧ c < w'.heap.size := fun b c hb => by
    rcases hcase2 b c hb with ⟨⟨_, h1⟩, h⟩ | ⟨_, h⟩
    · exact ⟨Nat.lt_of_lt_of_le h1 (tr.next hn (by omega) (Nat.le_refl _)), (hdom1 b c h).2⟩
    · have := inv.dom b c h
      exact ⟨this.1, Nat.lt_of_lt_of_le this.2 hext.size⟩
  have himm2 : ∀ c, U' c → c < w'.heap.size ∧ ∀ b, ι2 b ≠ some c := fun c hc => by
    refine ⟨(himm1 c hc).1, fun b hb => ?_⟩
    rcases hcase2 b c hb with ⟨_, h⟩ | ⟨_, h⟩
    · exact (himm1 c hc).2 b h
    · rcases hext.new c hc with hU | hle
      · exact (inv.imm c hU).2 b h
      · have := (inv.dom b c h).2; omega
  have hdi : dstOf ops i = o.dst := by unfold dstOf; rw [ho]; rfl
  have hm1 : ∀ m, i < m → m ≤ ops.size → ∀ b c, ι1 b = some c → res Hs ι2 m b = some c := fun m h1 h2 b c h => by
    have := hmap1 b c h
    exact res_of (Nat.lt_of_lt_of_le (res_some this).1 (tr.next hn (by omega) h2)) (res_some this).2
  -- behind a write, what is mapped was there
  have hlow : cls C.pure o.op = .writer → ∀ m, m ≤ ops.size → ∀ b c, res Hs ι2 m b = some c → b < (Hs (i + 1)).next := fun hw m hm b c hb => by
    refine Classical.byContradiction fun hge => ?_
    obtain ⟨h1, h2⟩ := res_some hb
    rcases hcase2 b c h2 with ⟨h, _⟩ | ⟨_, h⟩
    · exact hge h.2
    · have him : i + 1 ≤ m := by
        refine Classical.byContradiction fun hlt' => ?_
        have := tr.next hn (i := m) (j := i + 1) (by omega) (by omega)
        omega
      obtain ⟨j, h3, h4, h5, h6⟩ := tr.find hn (a := i + 1) (m := m) him hm (by omega) h1
      have hjs : j < ops.size := by omega
      by_cases hSj : S j
      · rw [W3 hw j _ (by omega) (Array.getElem?_eq_getElem hjs) hSj] at h6
        omega
      · rw [inv.unm j hjs hSj b h5 h6] at h; cases h
  -- what is newly mapped by what does not write
  have hnew : cls C.pure o.op ≠ .writer → ∀ m, m ≤ ops.size → ∀ b c, res Hs ι2 m b = some c → res Hs ι m b = some c ∨ ((Hs i).next ≤ b ∧ b < (Hs (i + 1)).next ∧ ι1 b = some c ∧ w.heap.size ≤ c ∧ i < m ∧ ¬ (cls C.pure o.op = .inert ∨ ∃ t, ldT o.op = some t)) := fun hnw m hm b c hb => by
    obtain ⟨h1, h2⟩ := res_some hb
    rcases hcase2 b c h2 with ⟨⟨h3, h4⟩, h⟩ | ⟨_, h⟩
    · have him : i < m := by
        refine Classical.byContradiction fun hge => ?_
        have := tr.next hn (i := m) (j := i) (by omega) (by omega)
        omega
      refine .inr ⟨h3, h4, h, ?_, him, fun h5 => ?_⟩
      · rcases (hrd hnw).2 b c h with h5 | h5
        · have := (res_some h5).1; omega
        · exact h5
      · rw [hinn h5] at h4; omega
    · exact .inl (res_of h1 h)
  refine ⟨v, w', U', ι2, hsteps, ⟨hdomn, himm2, fun t => ?_, fun m hm hw => ?_, fun m hm b c hb hcond => ?_, fun j hj hSj b hb1 hb2 => ?_, ?_⟩, hcl, hext2, fun b c hb => ?_⟩
  · -- slots
    by_cases e : o.dst = some t
    · refine .inl ⟨i, hi, .inr rfl, by rw [hdi, e], fun j hj hjd => ?_, ?_⟩
      · rcases hj with hj | rfl
        · refine Classical.byContradiction fun hlt' => ?_
          obtain ⟨y, hy, hyd⟩ := hget j t hjd
          exact ((P2 j y (by omega) hy hj).s1 t e).2 hyd
        · exact Nat.le_refl _
      · have htl : t < tmps.size := Nat.lt_of_lt_of_le (hlt t e) hnt
        have e3 : (putV tmps o.dst v).getD t undef = v := by rw [e]; simp [putV, Array.getD_eq_getD_getElem?, htl]
        rw [e3]
        exact hval.mono (fun _ h => h) (fun _ _ => rfl) (fun _ _ h => h) _ hmap1
    · have e3 : (putV tmps o.dst v).getD t undef = tmps.getD t undef := by
        cases hdd : o.dst with
        | none => rfl
        | some d =>
          have : t ≠ d := fun h => e (by rw [hdd, h])
          simp [putV, Array.getD_eq_getD_getElem?, Array.getElem?_setIfInBounds, Ne.symm this]
      rw [e3]
      rcases inv.slot t with ⟨j, h1, h2, h3, h4, h5⟩ | ⟨h1, h2⟩
      · refine .inl ⟨j, h1, .inl h2, h3, fun l hl hld => ?_, hvm h5⟩
        rcases hl with hl | rfl
        · exact h4 l hl hld
        · rw [hdi] at hld; exact absurd hld e
      · refine .inr ⟨fun l hl => ?_, hvm h2⟩
        rcases hl with hl | rfl
        · exact h1 l hl
        · rw [hdi]; exact e
  · -- no two live blocks are one
    intro b b' c hb hb' hd1 hd2
    by_cases hwo : cls C.pure o.op = .writer
    · have him : i < m := (hw i o ho hwo).mp (.inr rfl)
      have hni : ¬ (cls C.pure o.op = .inert ∨ ∃ t, ldT o.op = some t) := fun h => by
        rcases h with h | ⟨t, h⟩
        · rw [hwo] at h; cases h
        · exact ldne h hwo
      have hH1 := hhp hni
      have hg : Grows (Hs (i + 1)) (Hs m) := tr.grows hn (by omega) hm (fun l y hl1 hl2 hy hyw => by
        rcases (hw l y hy hyw).mpr hl2 with h | h
        · exact W2 (fun h => hni (.inl h)) (fun t h => hni (.inr ⟨t, h⟩)) l y (by omega) hy hyw h
        · omega)
      have l1 := hlow hwo m hm b c hb
      have l2 := hlow hwo m hm b' c hb'
      rw [hg.2 b l1] at hd1
      rw [hg.2 b' l2] at hd2
      exact hH1.inj b b' c (hmap1' b c (res_of l1 (res_some hb).2)) (hmap1' b' c (res_of l2 (res_some hb').2)) hd1 hd2
    · have hw' : ∀ j y, ops[j]? = some y → cls C.pure y.op = .writer → (S j ↔ j < m) := fun j y hy hyw => ⟨fun h => (hw j y hy hyw).mp (.inl h), fun h => by
        rcases (hw j y hy hyw).mpr h with h | rfl
        · exact h
        · rw [ho] at hy; cases hy; exact absurd hyw hwo⟩
      have same : i < m → ¬ (cls C.pure o.op = .inert ∨ ∃ t, ldT o.op = some t) → Grows (Hs (i + 1)) (Hs m) := fun him hni => tr.grows hn (by omega) hm (fun l y hl1 hl2 hy hyw => W2 (fun h => hni (.inl h)) (fun t h => hni (.inr ⟨t, h⟩)) l y (by omega) hy hyw ((hw' l y hy hyw).mpr hl2))
      rcases hnew hwo m hm b c hb with h | ⟨h1, h2, h3, h4, h5, h6⟩ <;> rcases hnew hwo m hm b' c hb' with h' | ⟨h1', h2', h3', h4', h5', h6'⟩
      · exact inv.inj m hm hw' b b' c h h' hd1 hd2
      · have := (inv.dom b c (res_some h).2).2; omega
      · have := (inv.dom b' c (res_some h').2).2; omega
      · rw [(same h5 h6).2 b h2] at hd1
        rw [(same h5 h6).2 b' h2'] at hd2
        exact (hhp h6).inj b b' c h3 h3' hd1 hd2
  · -- the blocks
    by_cases hwo : cls C.pure o.op = .writer
    · have hni : ¬ (cls C.pure o.op = .inert ∨ ∃ t, ldT o.op = some t) := fun h => by
        rcases h with h | ⟨t, h⟩
        · rw [hwo] at h; cases h
        · exact ldne h hwo
      have w1 := W1 (fun h => hni (.inl h)) (fun t h => hni (.inr ⟨t, h⟩))
      have w2 := W2 (fun h => hni (.inl h)) (fun t h => hni (.inr ⟨t, h⟩))
      by_cases him : i < m
      · have l1 := hlow hwo m hm b c hb
        have hι1 := hmap1' b c (res_of l1 (res_some hb).2)
        have hsame : (Hs m).at_ b = (Hs (i + 1)).at_ b := tr.kept hn (by omega) hm l1 (fun l y hl1 hl2 hy hyw => hcond l y hy hyw (.inl ⟨fun h => by
          rcases h with h | h
          · exact w2 l y (by omega) hy hyw h
          · omega, hl2⟩))
        rw [hsame]
        exact ((hhp hni).blk b c hι1).mono (fun hv => hv.mono (fun _ h => h) (fun _ _ => rfl) (fun _ _ h => h) _ (hm1 m him hm)) (hm1 m him hm) rfl
      · obtain ⟨hb1, hb2⟩ := res_some hb
        have hbi : b < (Hs i).next := Nat.lt_of_lt_of_le hb1 (tr.next hn (by omega) (by omega))
        have hιb : ι b = some c := by
          rcases hcase2 b c hb2 with ⟨h, _⟩ | ⟨_, h⟩
          · omega
          · exact h
        have hold := inv.blk m hm b c (res_of hb1 hιb) (fun l y hy hyw h => hcond l y hy hyw (by
          rcases h with ⟨h1, h2⟩ | ⟨h1, h2⟩
          · exact .inl ⟨fun h => by
              rcases h with h | h
              · exact h1 h
              · omega, h2⟩
          · exact .inr ⟨.inl h1, h2⟩))
        by_cases hdead : ((Hs m).at_ b).isDead = true
        · cases hx : (Hs m).at_ b <;> rw [hx] at hdead <;> simp [Blk.isDead] at hdead
          trivial
        · obtain ⟨t, f, ht, hf, hne⟩ := hcond i o ho hwo (.inr ⟨.inr rfl, by omega⟩)
          have hsame : (Hs i).at_ b = (Hs m).at_ b := tr.kept hn (by omega) (by omega) hb1 (fun l y hl1 hl2 hy hyw => hcond l y hy hyw (.inr ⟨.inl (w1 l y hl2 hy hyw), hl1⟩))
          have hkept : w'.heap[c]? = w.heap[c]? := hwr t ht c (inv.dom b c hιb).2 (fun b0 hb0 hd0 hι0 => by
            rw [hf] at hb0
            simp only [Option.some.injEq] at hb0
            have hb0d : b0 ≠ b := fun e => hne (by rw [hb0, e])
            -- the block that is written is live
            exact hb0d (inv.inj i (by omega) (fun j y hy hyw => ⟨fun hSj => by
                refine Classical.byContradiction fun hge => ?_
                have hne : j ≠ i := fun e => hiS (e ▸ hSj)
                exact w2 j y (by omega) hy hyw hSj, fun hji => w1 j y hji hy hyw⟩) b0 b c hι0 (res_of hbi hιb) hd0 (by rw [hsame]; simpa using hdead)))
          exact hold.mono (fun hv => hvm hv) (fun b c h => res_of (res_some h).1 (hmap2 b c (res_some h).2)) hkept
    · have hcond' : ∀ l y, ops[l]? = some y → cls C.pure y.op = .writer → (¬ S l ∧ l < m ∨ S l ∧ m ≤ l) → NT Ts l y b := fun l y hy hyw h => hcond l y hy hyw (by
        rcases h with ⟨h1, h2⟩ | ⟨h1, h2⟩
        · exact .inl ⟨fun h => by
            rcases h with h | rfl
            · exact h1 h
            · rw [ho] at hy; cases hy; exact absurd hyw hwo, h2⟩
        · exact .inr ⟨.inl h1, h2⟩)
      rcases hnew hwo m hm b c hb with h | ⟨h1, h2, h3, h4, h5, h6⟩
      · exact (inv.blk m hm b c h hcond').mono (fun hv => hvm hv) (fun b c h => res_of (res_some h).1 (hmap2 b c (res_some h).2)) ((hrd hwo).1 c (inv.dom b c (res_some h).2).2)
      · have hsame : (Hs m).at_ b = (Hs (i + 1)).at_ b := tr.kept hn (by omega) hm h2 (fun l y hl1 hl2 hy hyw => by
          by_cases hSl : S l
          · exact absurd hSl (W2 (fun h => h6 (.inl h)) (fun t h => h6 (.inr ⟨t, h⟩)) l y (by omega) hy hyw)
          · exact hcond' l y hy hyw (.inl ⟨hSl, hl2⟩))
        rw [hsame]
        exact ((hhp h6).blk b c h3).mono (fun hv => hv.mono (fun _ h => h) (fun _ _ => rfl) (fun _ _ h => h) _ (hm1 m h5 hm)) (hm1 m h5 hm) rfl
  · -- what is not mapped
    have hne : j ≠ i := fun e => hSj (.inr e)
    have hnS : ¬ S j := fun h => hSj (.inl h)
    rw [hout2 b (fun h => by
      rcases Nat.lt_or_gt_of_ne hne with h1 | h1
      · have := tr.next hn (i := j + 1) (j := i) (by omega) (by omega); omega
      · have := tr.next hn (i := i + 1) (j := j) (by omega) (by omega); omega)]
    exact inv.unm j hj hnS b hb1 hb2
  · exact inv.dfr.mono (fun hv => hvm hv) (fun b c h => res_of (res_some h).1 (hmap2 b c (res_some h).2))
  · rcases hcase2 b c hb with ⟨⟨h, _⟩, _⟩ | ⟨_, h⟩
    · exact .inr (Nat.le_trans (tr.next hn (by omega) (by omega)) h)
    · exact .inl h

end Go.BX
