import Derived.Test.YtmbagennmeahhaaBDraw
namespace Go.BX
set_option linter.unusedSimpArgs false
set_option linter.unusedVariables false
set_option linter.unusedSectionVars false
set_option linter.unnecessarySimpa false

variable {C : Ctx} {cl : Cl} {ops : Array Oper} {nt : Nat} {as : List ADef} {Ts : Nat → Nat → AV} {Hs : Nat → AHeap} {vs : Nat → AV}

theorem filt_lt {p q : Nat → Bool} (h : ∀ x, q x = true → p x = true) {i : Nat} (hp : p i = true) (hq : q i = false) : ∀ {l : List Nat}, i ∈ l → (l.filter q).length < (l.filter p).length := by
  have hle : ∀ l : List Nat, (l.filter q).length ≤ (l.filter p).length := by
    intro l
    induction l with
    | nil => simp
    | cons x l ih =>
      simp only [List.filter_cons]
      by_cases h1 : q x = true
      · rw [if_pos h1, if_pos (h x h1)]; simpa using ih
      · rw [if_neg h1]
        split
        · simp only [List.length_cons]; omega
        · exact ih
  intro l
  induction l with
  | nil => intro h; simp at h
  | cons x l ih =>
    intro hm
    simp only [List.filter_cons]
    by_cases e : i = x
    · subst e
      rw [if_pos hp, if_neg (by simp [hq])]
      have := hle l
      simp only [List.length_cons]; omega
    · have hm' : i ∈ l := by simpa [e] using hm
      have := ih hm'
      by_cases h1 : q x = true
      · rw [if_pos h1, if_pos (h x h1)]; simpa using this
      · rw [if_neg h1]
        split
        · simp only [List.length_cons]; omega
        · exact this

theorem listed_set {listed : Array Bool} {n i j : Nat} (hsz : listed.size = n) (hi : i < n) {d : Bool} : (listed.setIfInBounds i true).getD j d = if j = i then true else listed.getD j d := by
  simp only [Array.getD_eq_getD_getElem?, Array.getElem?_setIfInBounds, hsz]
  by_cases e : j = i
  · subst e; simp [hi]
  · simp [e, Ne.symm e]

theorem listed_all {pure : FuncId → Bool} (hd : drawOk pure ops = true) {listed : Array Bool} (hsz : listed.size = ops.size) (h : Region.ready .any ops listed = []) : ∀ j, j < ops.size → listed.getD j false = true := by
  intro j
  induction j using Nat.strongRecOn with
  | ind j ih =>
    intro hj
    refine Classical.byContradiction fun hn => ?_
    have hm : j ∈ Region.ready .any ops listed := by
      unfold Region.ready
      rw [List.mem_filter]
      refine ⟨List.mem_range.mpr hj, ?_⟩
      have hjl : j < listed.size := by omega
      have e1 : listed.getD j true = false := by
        simp [Array.getD_eq_getD_getElem?, hjl] at hn ⊢
        exact hn
      rw [e1, Array.getElem?_eq_getElem hj]
      simp only [Bool.not_false, Bool.true_and, Option.map_some, Option.getD_some, Array.all_eq_true']
      intro e he
      by_cases hb : Region.binds .any e = true
      · have hlt := drawOk_edge hd (Array.getElem?_eq_getElem hj) (by simpa using he) hb
        rw [ih e.on hlt (by omega)]
        simp
      · simp [hb]
    rw [h] at hm
    cases hm

theorem draw_go (hC : TOk C) (hs : SimCl C cl) (hn : NextMono cl) (hd : drawOk C.pure ops = true) {fn : FuncId} {kd : CallKind} {ro : Option Nat} (tr : Trace C cl ro.isSome ops nt as Ts Hs vs) {ds : List Deferred} : ∀ (fuel t : Nat) (listed : Array Bool) (w : World) (U : Nat → Prop) (ι : Nat → Option Nat) (tmps : Array Value),
    listed.size = ops.size → ((List.range ops.size).filter fun j => !listed.getD j true).length ≤ fuel → Closed ops (fun j => listed.getD j false = true) → Inv C ops as Ts Hs vs ds (fun j => listed.getD j false = true) w U ι tmps → nt ≤ tmps.size → ∀ (k : List Item) (cs : List Frame),
      ∃ tmps' w' U' ι', Steps C.P (lone (rf fn tmps (.inRegion ops (Region.linearise.go .any ops fuel t listed []) :: k) ds kd ro) cs w) (lone (rf fn tmps' k ds kd ro) cs w') ∧
        (∃ S : Nat → Prop, (∀ j, j < ops.size → S j) ∧ Inv C ops as Ts Hs vs ds S w' U' ι' tmps') ∧ Ext w U ι w' U' ι' ∧ (∀ b c, ι' b = some c → ι b = some c ∨ (Hs 0).next ≤ b) ∧ tmps'.size = tmps.size := by
  intro fuel
  induction fuel with
  | zero =>
    intro t listed w U ι tmps hsz hle _ inv _ k cs
    refine ⟨tmps, w, U, ι, .one (by simpa [Region.linearise.go] using st_region_end), ⟨_, fun j hj => ?_, inv⟩, Ext.refl _ _ _, fun b c h => .inl h, rfl⟩
    have hnil : (List.range ops.size).filter (fun j => !listed.getD j true) = [] := List.length_eq_zero_iff.mp (by omega)
    have := (List.filter_eq_nil_iff.mp hnil) j (List.mem_range.mpr hj)
    have hjl : j < listed.size := by omega
    simp [Array.getD_eq_getD_getElem?, hjl] at this ⊢
    exact this
  | succ fuel ih =>
    intro t listed w U ι tmps hsz hle hcl inv hnt k cs
    simp only [Region.linearise.go]
    change ∃ tmps' w' U' ι', Steps C.P (lone (rf fn tmps (.inRegion ops (match (Region.ready .any ops listed)[t % (Region.ready .any ops listed).length]? with
      | some i => Region.linearise.go .any ops fuel (t / (Region.ready .any ops listed).length) (listed.setIfInBounds i true) [i]
      | none => [].reverse) :: k) ds kd ro) cs w) _ ∧ _
    cases hi : (Region.ready .any ops listed)[t % (Region.ready .any ops listed).length]? with
    | none =>
      have hnil : Region.ready .any ops listed = [] := by
        cases hr : Region.ready .any ops listed with
        | nil => rfl
        | cons x xs =>
          rw [hr] at hi
          have hlt : t % (x :: xs).length < (x :: xs).length := Nat.mod_lt _ (by simp)
          simp at hi
          simp at hlt
          omega
      exact ⟨tmps, w, U, ι, .one (by simpa using st_region_end), ⟨_, listed_all hd hsz hnil, inv⟩, Ext.refl _ _ _, fun b c h => .inl h, rfl⟩
    | some i =>
      simp only []
      rw [linearise_go_acc, List.reverse_singleton, List.singleton_append]
      have hm := List.mem_of_getElem? hi
      unfold Region.ready at hm
      rw [List.mem_filter] at hm
      obtain ⟨hlt, hm⟩ := hm
      rw [List.mem_range] at hlt
      rw [Array.getElem?_eq_getElem hlt] at hm
      simp only [Bool.and_eq_true, Option.map_some, Option.getD_some, Array.all_eq_true', Bool.not_eq_true'] at hm
      have hil : i < listed.size := by omega
      have hiS : ¬ (listed.getD i false = true) := by
        have := hm.1
        simp [Array.getD_eq_getD_getElem?, hil] at this ⊢
        exact this
      obtain ⟨v, w1, U1, ι1, hsteps, inv1, hcl1, hext1, hfr1⟩ := inv_step (fn := fn) (kd := kd) hC hs hn hd tr hcl (Array.getElem?_eq_getElem hlt) hiS (fun e he hb => by
        have := hm.2 e (by simpa using he)
        simpa [hb] using this) inv hnt (Region.linearise.go .any ops fuel (t / (Region.ready .any ops listed).length) (listed.setIfInBounds i true) []) k cs
      have hS : (fun j => (listed.setIfInBounds i true).getD j false = true) = (fun j => listed.getD j false = true ∨ j = i) := by
        funext j
        rw [listed_set hsz hlt]
        by_cases e : j = i <;> simp [e]
      obtain ⟨tmps', w', U', ι', hsteps', hinv', hext', hfr', hsz'⟩ := ih (t / (Region.ready .any ops listed).length) (listed.setIfInBounds i true) w1 U1 ι1 (putV tmps ops[i].dst v) (by simp [hsz]) (by
        have := filt_lt (p := fun j => !listed.getD j true) (q := fun j => !(listed.setIfInBounds i true).getD j true) (fun x hx => by
          rw [listed_set hsz hlt] at hx
          split at hx
          · simp at hx
          · exact hx) (i := i) (by simp only [hm.1, Bool.not_false]) (by rw [listed_set hsz hlt]; simp) (List.mem_range.mpr hlt)
        omega) (by rw [hS]; exact hcl1) (by rw [hS]; exact inv1) (by rw [putV_size]; exact hnt) k cs
      refine ⟨tmps', w', U', ι', hsteps.trans hsteps', hinv', hext1.trans hext', fun b c hb => ?_, by rw [hsz', putV_size]⟩
      rcases hfr' b c hb with h | h
      · exact hfr1 b c h
      · exact .inr h

theorem mapO_get2 {α β : Type} {f : α → Option β} : ∀ {xs : List α} {ys : List β}, mapO f xs = some ys → xs.length = ys.length ∧ (∀ (i : Nat) (x : α), xs[i]? = some x → ∃ y, f x = some y ∧ ys[i]? = some y) ∧ (∀ (i : Nat) (y : β), ys[i]? = some y → ∃ x, xs[i]? = some x ∧ f x = some y) := by
  intro xs
  induction xs with
  | nil => intro ys h; simp only [mapO, Option.some.injEq] at h; subst h; simp
  | cons x xs ih =>
    intro ys h
    simp only [mapO] at h
    split at h
    · rename_i y ys' hy hys
      cases h
      obtain ⟨h1, h2, h3⟩ := ih hys
      refine ⟨by simp [h1], fun i z hz => ?_, fun i z hz => ?_⟩
      · cases i with
        | zero => simp at hz; subst hz; exact ⟨y, hy, rfl⟩
        | succ i => simpa using h2 i z (by simpa using hz)
      · cases i with
        | zero => simp at hz; subst hz; exact ⟨x, rfl, hy⟩
        | succ i => simpa using h3 i z (by simpa using hz)
    · cases h

theorem HRel.heapEq {H : AHeap} {w w' : World} {U : Nat → Prop} {ι : Nat → Option Nat} (hH : HRel C w U ι H) (h : w'.heap = w.heap) (henv : w'.os = w.os ∧ w'.tape = w.tape ∧ w'.output = w.output := by exact ⟨rfl, rfl, rfl⟩) : Ext w U ι w' U ι ∧ HRel C w' U ι H := by
  have hext : Ext w U ι w' U ι := ⟨fun _ _ h => h, fun b c h => .inl ⟨b, h⟩, fun _ h => h, fun _ h => .inl h, by rw [h]; exact Nat.le_refl _, fun c _ _ => by rw [h], fun c _ => shape_of_heap (by rw [h]), henv⟩
  exact ⟨hext, fun b c hb => by rw [h]; exact hH.dom b c hb, hH.inj, fun c hc => by rw [h]; exact hH.imm c hc, fun b c hb => (hH.blk b c hb).mono (fun hv => hext.mono hH hv) (fun _ _ h => h) (by rw [h])⟩

/-- A REGION THAT DRAWS. -/
theorem region_draw (hC : TOk C) (hs : SimCl C cl) (hn : NextMono cl) (hmix : C.P.follows .mixedOrders = true) (hd : drawOk C.pure ops = true) {fn : FuncId} {kd : CallKind} {ro : Option Nat} {id : Nat} {aos : List AO} (hst : mapO (stripOp nt ops) ops.toList = some aos)
    {w : World} {U : Nat → Prop} {ι : Nat → Option Nat} {tmps : Array Value} {ds : List Deferred} {T T' : Nat → AV} {as as' : List ADef} {H H' : AHeap} (hnt : nt ≤ tmps.size) (hH : HRel C w U ι H) (hT : TRel w U ι T tmps) (hD : DsRel w U ι as ds) (h : runOps C cl ro.isSome aos T as H = some (T', as', H')) (hdy : dynA C cl ro.isSome aos (chks C.pure ops) T as H = true) (k : List Item) (cs : List Frame) :
      ∃ tmps' w' ds' U' ι', Steps C.P (lone (rf fn tmps (.code (.region id ops true) :: k) ds kd ro) cs w) (lone (rf fn tmps' k ds' kd ro) cs w') ∧
        Ext w U ι w' U' ι' ∧ HRel C w' U' ι' H' ∧ TRel w' U' ι' T' tmps' ∧ DsRel w' U' ι' as' ds' ∧ Fresh H ι ι' ∧ tmps'.size = tmps.size := by
  obtain ⟨hlen, hfw, hbw⟩ := mapO_get2 hst
  have hlen' : aos.length = ops.size := by simpa using hlen.symm
  obtain ⟨rfl, Ts, Hs, vs, hT0, hH0, hTn, hHn, hop, hdd⟩ := trace_of aos _ _ _ _ _ _ _ h hdy (fun ao hao => by
    obtain ⟨i, hi⟩ := List.getElem?_of_mem hao
    obtain ⟨o, ho, hs'⟩ := hbw i ao hi
    rw [(strip_spec hs').2.1]
    exact drawOk_defer hd (by simpa using ho))
  have tr : Trace C cl ro.isSome ops nt as' Ts Hs vs := ⟨fun i o ho => by
    obtain ⟨ao, h1, h2⟩ := hfw i o (by simpa using ho)
    have := hop i ao h2
    rw [(strip_spec h1).1] at this
    exact ⟨ao, h1, this⟩, fun j o c t ho hc ht => by
    obtain ⟨ao, h1, h2⟩ := hfw j o (by simpa using ho)
    have := hdd j ao c t h2 hc ht
    rw [(strip_spec h1).2.1] at this
    exact this⟩
  have hw : (w.drew).heap = w.heap := rfl
  obtain ⟨hext0, hH1⟩ := hH.heapEq hw
  have hres0 : ∀ m, m ≤ ops.size → res Hs ι m = ι := fun m hm => by
    funext b
    unfold res
    split
    · rfl
    · rename_i hge
      cases hb : ι b with
      | none => rfl
      | some c =>
        have h1 := (hH.dom b c hb).1
        have h2 := tr.next hn (i := 0) (j := m) (by omega) hm
        rw [hH0] at h2
        omega
  have inv0 : Inv C ops as' Ts Hs vs ds (fun j => (Array.replicate ops.size false).getD j false = true) w.drew U ι tmps := by
    have hF : ∀ j, ¬ ((Array.replicate ops.size false).getD j false = true) := fun j => by
      simp only [Array.getD_eq_getD_getElem?, Array.getElem?_replicate]
      split <;> simp
    refine ⟨fun b c hb => ?_, hH1.imm, fun t => .inr ⟨fun i hi => absurd hi (hF i), ?_⟩, fun m hm hwr => ?_, fun m hm b c hb hcond => ?_, fun i hi _ b hb1 hb2 => ?_, ?_⟩
    · have h1 := hH1.dom b c hb
      have h2 := tr.next hn (i := 0) (j := ops.size) (by omega) (Nat.le_refl _)
      rw [hH0] at h2
      exact ⟨by omega, h1.2⟩
    · rw [hres0 0 (by omega), hT0]
      exact hext0.mono hH (hT t)
    · rw [hres0 m hm]
      have hg := tr.grows hn (i := 0) (j := m) (by omega) hm (fun l o _ hl ho hc => absurd ((hwr l o ho hc).mpr hl) (hF l))
      rw [hH0] at hg
      intro b b' c hb hb' h1 h2
      rw [hg.2 b (hH.dom b c hb).1] at h1
      rw [hg.2 b' (hH.dom b' c hb').1] at h2
      exact hH1.inj b b' c hb hb' h1 h2
    · rw [hres0 m hm] at hb ⊢
      have hsame : (Hs m).at_ b = (Hs 0).at_ b := tr.kept hn (by omega) hm (by rw [hH0]; exact (hH.dom b c hb).1) (fun l y _ hl hy hyw => hcond l y hy hyw (.inl ⟨hF l, hl⟩))
      rw [hsame, hH0]
      exact hH1.blk b c hb
    · cases hb : ι b with
      | none => rfl
      | some c =>
        have h1 := (hH.dom b c hb).1
        have h2 := tr.next hn (i := 0) (j := i) (by omega) (by omega)
        rw [hH0] at h2
        omega
    · rw [hres0 0 (by omega)]
      exact hD.mono (fun hv => hext0.mono hH hv) (fun _ _ h => h)
  have hcl0 : Closed ops (fun j => (Array.replicate ops.size false).getD j false = true) := by
    intro j o _ hj
    exfalso
    simp only [Array.getD_eq_getD_getElem?, Array.getElem?_replicate] at hj
    split at hj <;> simp at hj
  obtain ⟨tmps', w', U', ι', hsteps, ⟨S, hS, inv⟩, hext, hfr, hsz⟩ := draw_go (fn := fn) (kd := kd) hC hs hn hd tr ops.size (w.tape w.drawn (.order fn id)) (Array.replicate ops.size false) w.drew U ι tmps (by simp) (by
    have := List.length_filter_le (fun j => !(Array.replicate ops.size false).getD j true) (List.range ops.size)
    simpa using this) hcl0 inv0 hnt k cs
  have hresn : ∀ m, res Hs ι' m = fun b => if b < (Hs m).next then ι' b else none := fun _ => rfl
  have hrn : res Hs ι' ops.size = ι' := by
    funext b
    unfold res
    split
    · rfl
    · rename_i hge
      cases hb : ι' b with
      | none => rfl
      | some c => exact absurd (inv.dom b c hb).1 hge
  have hvr : ∀ {m : Nat} {a : AV} {v : Value}, VRel w' U' (res Hs ι' m) a v → VRel w' U' ι' a v := fun hv => hv.mono (fun _ h => h) (fun _ _ => rfl) (fun _ _ h => h) _ (fun b c h => (res_some h).2)
  refine ⟨tmps', w', ds, U', ι', Steps.trans (.one st_region_draw) ?_, hext0.trans hext, ?_, fun t => ?_, inv.dfr.mono hvr (fun b c h => (res_some h).2), fun b c hb => by rw [← hH0]; exact hfr b c hb, hsz⟩
  · simp only [Region.schedule, hmix, Bool.true_or, if_true]
    exact hsteps
  · have := inv.heap ops.size (Nat.le_refl _) (fun i o ho _ => ⟨fun _ => (Array.getElem?_eq_some_iff.mp ho).1, fun h => hS i h⟩)
    rw [hrn] at this
    rw [← hHn, hlen']
    exact this
  · rw [← hTn, hlen']
    rcases tr.slot (i := ops.size) (t := t) (Nat.le_refl _) with ⟨j, h1, h2, h3, h4⟩ | ⟨h1, h2⟩
    · rcases inv.slot t with ⟨j', h5, h6, h7, h8, h9⟩ | ⟨h5, _⟩
      · have hle := h8 j (hS j h1) h2
        have : j' = j := by
          by_cases e : j' = j
          · exact e
          · exact absurd h7 (h3 j' (by omega) h5)
        subst this
        rw [h4]
        exact hvr h9
      · exact absurd h2 (h5 j (hS j h1))
    · rcases inv.slot t with ⟨j', h5, h6, h7, h8, h9⟩ | ⟨_, h6⟩
      · exact absurd h7 (h1 j' h5)
      · rw [h2]; exact hvr h6

end Go.BX
