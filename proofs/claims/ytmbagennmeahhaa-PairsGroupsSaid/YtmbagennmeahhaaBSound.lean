import Derived.Test.YtmbagennmeahhaaBLeave
namespace Go.BX
set_option linter.unusedSimpArgs false
set_option linter.unusedVariables false

/-! # The machine does what 'exec' says: the last part -/

variable {C : Ctx} {w : World} {U : Nat → Prop} {ι : Nat → Option Nat}

def CInv (pure : FuncId → Bool) (nt : Nat) (c : Code) : AC → Prop
  | .skip => c = .skip
  | .region aos chk => ∃ id ops draw, c = .region id ops draw ∧ (draw = true → drawOk pure ops = true ∧ chk = chks pure ops) ∧ mapO (stripOp nt ops) ops.toList = some aos
  | .seq a b => ∃ x y, c = .seq x y ∧ CRel pure nt x a ∧ CRel pure nt y b
  | .cond e a b => ∃ x y, c = .cond e x y ∧ CRel pure nt x a ∧ CRel pure nt y b
  | .block id a => ∃ x, c = .block id x ∧ CRel pure nt x a
  | .loop a => ∃ x, c = .loop x ∧ CRel pure nt x a
  | .rangeFunc f ps a b => ∃ qs x y, c = .rangeFunc f qs x y ∧ qs.toList = ps ∧ CRel pure nt x a ∧ CRel pure nt y b ∧ ∀ t, t ∈ ps → t < nt
  | .exit id => c = .exit id
  | .scope a => ∃ x, c = .scope x ∧ CRel pure nt x a
  | .label l => c = .label l
  | .goto l => c = .goto l
  | .ret => c = .ret
  | .refuse => True

theorem crel_inv {pure : FuncId → Bool} {nt : Nat} {c : Code} {a : AC} (h : CRel pure nt c a) : CInv pure nt c a := by
  unfold CRel at h
  cases c <;> simp only [strip, Option.some.injEq, Option.map_eq_some_iff] at h
  case region id ops draw =>
    split at h
    · cases h
    · rename_i hd
      simp only [Option.map_eq_some_iff] at h
      obtain ⟨x, hx, rfl⟩ := h
      exact ⟨id, ops, draw, rfl, fun e => by subst e; exact ⟨by simpa using hd, by simp⟩, hx⟩
  case seq x y => split at h <;> cases h; exact ⟨x, y, rfl, by assumption, by assumption⟩
  case cond e x y => split at h <;> cases h; exact ⟨x, y, rfl, by assumption, by assumption⟩
  case rangeFunc f qs x y =>
    split at h
    · split at h <;> cases h
      rename_i hlt
      exact ⟨qs, x, y, rfl, rfl, by assumption, by assumption, fun t ht => by
        simp only [List.all_eq_true, decide_eq_true_eq] at hlt
        exact hlt t ht⟩
    · cases h
  case block id x => obtain ⟨y, hy, rfl⟩ := h; exact ⟨x, rfl, hy⟩
  case loop x => obtain ⟨y, hy, rfl⟩ := h; exact ⟨x, rfl, hy⟩
  case scope x => obtain ⟨y, hy, rfl⟩ := h; exact ⟨x, rfl, hy⟩
  case refuse => subst h; trivial
  all_goals (subst h; rfl)

theorem DsRel.append {as bs : List ADef} {ds es : List Deferred} (h : DsRel w U ι as ds) (h' : DsRel w U ι bs es) : DsRel w U ι (as ++ bs) (ds ++ es) := by
  induction h with
  | nil => exact h'
  | cons h _ ih => exact .cons h ih

theorem enterLoop_sound {fr : AFr} {ps : List Nat} {a b : AC} {H H' : AHeap} {l : Nat} {m : List ADef} (h : enterLoopA fr ps a b H = some (l, m, H')) {nt : Nat} {tmps : Array Value} {qs : Array Tmp} {x y : Code} {ro : Option Nat} (hq : qs.toList = ps) (ha : CRel C.pure nt x a) (hb : CRel C.pure nt y b) (hlt : ∀ t, t ∈ ps → t < nt)
    (hsz : nt ≤ tmps.size) (hH : HRel C w U ι H) (hT : TRel w U ι fr.T tmps) (hro : RoRel ι fr.round ro) :
    ∃ lc mc w' ι', (Instr.enterLoop fr.fn tmps qs x y ro).run C.P w = .ok (lc, mc) w' ∧ Ext w U ι w' U ι' ∧ HRel C w' U ι' H' ∧ ι' l = some lc ∧ DsRel w' U ι' m mc ∧ Fresh H ι ι' := by
  unfold enterLoopA at h
  split at h
  · rename_i hr
    rw [hr] at hro
    cases ro with
    | some _ => exact hro.elim
    | none =>
      cases h
      obtain ⟨e1, h1, r1⟩ := push_rel hH (w' := w.alloc (.deferred (some []))) (o := .deferred (some [])) rfl .dfr (by
        exact World.alloc_heap_new w _)
      have hL : LRel C ((w.alloc (.deferred (some []))).alloc (.loop { state := .ready, pending := none, fn := fr.fn, tmps := tmps, params := qs, assign := x, body := y, defers := w.heap.size })) U
          (upd (upd ι H.next (some w.heap.size)) (H.push .dfr).next (some (w.alloc (.deferred (some []))).heap.size)) nt
          { state := .ready, pending := none, fn := fr.fn, T := fr.T, params := ps, assign := a, body := b, defers := H.next } { state := .ready, pending := none, fn := fr.fn, tmps := tmps, params := qs, assign := x, body := y, defers := w.heap.size } := by
        have hdef : (upd (upd ι H.next (some w.heap.size)) (H.push .dfr).next (some (w.alloc (.deferred (some []))).heap.size)) H.next = some w.heap.size := by
          rw [upd_ne _ _ (by simp only [AHeap.push]; omega), upd_same]
        refine { size := hsz, state := trivial, pending := .inl ⟨rfl, rfl⟩, fn := rfl, T := ?_, params := hq.symm, assign := ha, body := hb, lt := hlt, defers := hdef }
        refine hT.mono (fun hv => (e1.mono hH hv).mono (fun _ h => h) (fun c hc => ?_) (fun c s hs => ?_) _ (fun b c hbc => ?_))
        · have := (h1.imm c hc).1
          simp only [World.alloc, Array.getElem?_push] at this ⊢
          rw [if_neg (by omega)]
        · have := shape_lt hs
          refine (shape_of_heap ?_).trans hs
          simp only [World.alloc, Array.getElem?_push] at this ⊢
          rw [if_neg (by omega)]
        · have := (h1.dom b c hbc).1
          rw [upd_ne _ _ (Nat.ne_of_lt this)]
          exact hbc
      obtain ⟨e2, h2, r2⟩ := push_rel h1 (w' := (w.alloc (.deferred (some []))).alloc (.loop { state := .ready, pending := none, fn := fr.fn, tmps := tmps, params := qs, assign := x, body := y, defers := w.heap.size }))
        (o := .loop { state := .ready, pending := none, fn := fr.fn, tmps := tmps, params := qs, assign := x, body := y, defers := w.heap.size }) rfl (.loop { state := .ready, pending := none, fn := fr.fn, T := fr.T, params := ps, assign := a, body := b, defers := H.next })
        ⟨_, nt, by
          exact World.alloc_heap_new (w.alloc _) _, hL⟩
      refine ⟨_, [{ target := .collected w.heap.size, args := #[] }], _, _, ?_, e1.trans e2, h2, upd_same _ _ _, .cons (.collected hL.defers) .nil, fun b c hbc => ?_⟩
      · simp [Instr.enterLoop, Sem.run_bind, newObj, Sem.run]
      · rcases r2.fresh b c hbc with h | h
        · exact r1.fresh b c h
        · exact .inr (by simp only [AHeap.push] at h; omega)
  · rename_i l0 hr
    rw [hr] at hro
    cases ro with
    | none => exact hro.elim
    | some c =>
      have hι : ι l0 = some c := hro
      split at h
      · rename_i L hLat
        cases h
        have hbr := hH.blk l0 c hι
        rw [hLat] at hbr
        obtain ⟨R, nt0, hR, hLR⟩ := hbr
        have hL : LRel C (w.alloc (.loop { state := .ready, pending := none, fn := fr.fn, tmps := tmps, params := qs, assign := x, body := y, defers := R.defers })) U (upd ι H.next (some w.heap.size)) nt
            { state := .ready, pending := none, fn := fr.fn, T := fr.T, params := ps, assign := a, body := b, defers := L.defers } { state := .ready, pending := none, fn := fr.fn, tmps := tmps, params := qs, assign := x, body := y, defers := R.defers } := by
          refine { size := hsz, state := trivial, pending := .inl ⟨rfl, rfl⟩, fn := rfl, T := ?_, params := hq.symm, assign := ha, body := hb, lt := hlt, defers := ?_ }
          · refine hT.mono (fun hv => hv.mono (fun _ h => h) (fun c hc => ?_) (fun c s hs => ?_) _ (fun b c hbc => ?_))
            · have := (hH.imm c hc).1
              simp only [World.alloc, Array.getElem?_push]
              rw [if_neg (by omega)]
            · have := shape_lt hs
              refine (shape_of_heap ?_).trans hs
              simp only [World.alloc, Array.getElem?_push]
              rw [if_neg (by omega)]
            · rw [upd_ne _ _ (Nat.ne_of_lt (hH.dom b c hbc).1)]
              exact hbc
          · show upd ι H.next (some w.heap.size) L.defers = some R.defers
            rw [upd_ne _ _ (Nat.ne_of_lt (hH.dom _ _ hLR.defers).1)]
            exact hLR.defers
        obtain ⟨e2, h2, r2⟩ := push_rel hH (w' := w.alloc (.loop { state := .ready, pending := none, fn := fr.fn, tmps := tmps, params := qs, assign := x, body := y, defers := R.defers }))
          (o := .loop { state := .ready, pending := none, fn := fr.fn, tmps := tmps, params := qs, assign := x, body := y, defers := R.defers }) rfl (.loop { state := .ready, pending := none, fn := fr.fn, T := fr.T, params := ps, assign := a, body := b, defers := L.defers })
          ⟨_, nt, by
            exact World.alloc_heap_new w _, hL⟩
        refine ⟨_, [], _, _, ?_, e2, h2, upd_same _ _ _, .nil, r2.fresh⟩
        simp [Instr.enterLoop, Sem.run_bind, run_getLoop hR, newObj, Sem.run]
      · cases h

theorem stepA_sound (hC : TOk C) (hF : ∀ f fi, C.FT f = some fi → FIok C f fi) (hx : ExtOk C) (hmix : C.P.follows .mixedOrders = true) {ex : AFr → List AItem → AHeap → Option (AV × AHeap)} (hs : Sound C ex) (hm : ExMono ex) : Sound C (stepA C ex) := by
  intro fr items H r H' h nt w U ι tmps todo ds ro hI hsz hH hT hD hro kd cs
  have simcl := simCl_of hx hF hs
  have hn := clMk_mono hx hm
  unfold stepA at h
  split at h
  · -- the end
    cases hI
    exact leave_sound hC hF simcl hn h (.inl ⟨rfl, rfl⟩) (fun _ => st_end_normal) (fun l v w' c0 cs' hr => st_round_end hr) hH hT hD hro
  · -- inBlock
    cases hI with
    | cons hi hk => cases hi; exact Ends.head (.one st_inBlock) (hs _ _ _ _ _ h nt w U ι _ _ _ _ hk hsz hH hT hD hro kd cs)
  · cases hI with
    | cons hi hk => cases hi; exact Ends.head (.one st_inScope) (hs _ _ _ _ _ h nt w U ι _ _ _ _ hk hsz hH hT hD hro kd cs)
  · cases hI with
    | cons hi hk => cases hi with
      | inLoop hc => exact Ends.head (.one st_inLoop) (hs _ _ _ _ _ h nt w U ι _ _ _ _ (.cons (.code hc) (.cons (.inLoop hc) hk)) hsz hH hT hD hro kd cs)
  · -- beginRound
    cases hI with
    | cons hi hk =>
      cases hi
      split at h
      · rename_i l hr
        rw [hr] at hro
        cases ro with
        | none => exact hro.elim
        | some c =>
          have hι : ι l = some c := hro
          split at h
          · rename_i L hL
            split at h
            · rename_i hst
              have hb := hH.blk l c hι
              rw [hL] at hb
              obtain ⟨R, nt0, hR, hLR⟩ := hb
              obtain ⟨he, hh⟩ := set_rel (o' := .loop { R with state := .busy }) (blk := .loop { L with state := .busy }) hH hι (by rw [hL]; rfl) (by
                unfold World.shape?
                rw [World.putObj_heap_same (hH.dom l c hι).2, hR]) (fun hsame hext => ⟨_, nt0, hsame, {
                  size := hLR.size, state := trivial, pending := hLR.pending, fn := hLR.fn, T := hLR.T.mono (fun hv => hext.mono hH hv), params := hLR.params, assign := hLR.assign, body := hLR.body, lt := hLR.lt, defers := hLR.defers }⟩)
              have hrs : R.state = .ready := by
                have := hLR.state
                rw [hst] at this
                cases hh' : R.state <;> rw [hh'] at this <;> first | rfl | exact this.elim
              have hrun : (Instr.beginRound c).run C.P w = .ok () (w.putObj c (.loop { R with state := .busy })) := by
                simp only [Instr.beginRound, Sem.run_bind, run_getLoop hR, run_setLoop hR, Result.andThen_ok, hrs, Sem.run_pure]
              refine Ends.head (.one (st_beginRound hrun)) (Ends.mono (hs _ _ _ _ _ h nt _ U ι _ _ _ (some c) hk hsz hh (hT.mono (fun hv => he.mono hH hv)) (hD.mono (fun hv => he.mono hH hv) he.map) (by rw [hr]; exact hι) kd cs) (fun v w' hp => Post.of he (Fresh.refl _ _) ?_ hp))
              simp [AHeap.set]
            · cases h
          · cases h
      · cases h
  · cases hI with
    | cons hi hk => cases hi with
      | code hc => obtain rfl := crel_inv hc; exact Ends.head (.one st_skip) (hs _ _ _ _ _ h nt w U ι _ _ _ _ hk hsz hH hT hD hro kd cs)
  · cases hI with
    | cons hi hk => cases hi with
      | code hc => obtain rfl := crel_inv hc; exact Ends.head (.one st_label) (hs _ _ _ _ _ h nt w U ι _ _ _ _ hk hsz hH hT hD hro kd cs)
  · -- a region
    cases hI with
    | cons hi hk =>
      cases hi with
      | code hc =>
        obtain ⟨id, ops, draw, rfl, hdr, hmo⟩ := crel_inv hc
        split at h
        · rename_i T' ds' H1 hrun
          split at h
          rotate_left
          · cases h
          rename_i hdyn
          have hnx := runOps_mono hn hrun
          rw [hro.isSome] at hrun hdyn
          have goOn : ∀ {w1 : World} {U1 : Nat → Prop} {ι1 : Nat → Option Nat} {tmps1 : Array Value} {ds1 : List Deferred} {k : List Item}, IsRel C.pure nt k _ → Steps C.P (lone (rf fr.fn tmps (.code (.region id ops draw) :: k) ds kd ro) cs w) (lone (rf fr.fn tmps1 k ds1 kd ro) cs w1) → Ext w U ι w1 U1 ι1 → HRel C w1 U1 ι1 H1 → TRel w1 U1 ι1 T' tmps1 → DsRel w1 U1 ι1 ds' ds1 → Fresh H ι ι1 → tmps1.size = tmps.size →
              Ends C fr.fn tmps (.code (.region id ops draw) :: k) ds kd ro cs w (Post C w U ι H H' r) := fun hk hst he hh ht hd hf hs1 =>
            Ends.head hst (Ends.mono (hs _ _ _ _ _ h nt _ _ _ _ _ _ ro hk (by rw [hs1]; exact hsz) hh ht hd (hro.mono he.map) kd cs) (fun v w' hp => Post.of he hf hnx hp))
          cases draw with
          | true =>
            obtain ⟨hdr1, rfl⟩ := hdr rfl
            obtain ⟨tmps1, w1, ds1, U1, ι1, hst, he, hh, ht, hd, hf, hs1⟩ := region_draw (fn := fr.fn) (kd := kd) (id := id) hC simcl hn hmix hdr1 hmo hsz hH hT hD hrun hdyn _ cs
            exact goOn hk hst he hh ht hd hf hs1
          | false =>
            have hlen : ops.size = (mapO (stripOp nt ops) ops.toList).map List.length := by
              rw [hmo]; simp [mapO_len hmo]
            rw [hmo] at hlen
            simp only [Option.map_some, Option.some.injEq] at hlen
            obtain ⟨tmps1, w1, ds1, U1, ι1, hst, he, hh, ht, hd, hf, hs1, _⟩ := region_text (fn := fr.fn) (kd := kd) (ops := ops) (nt := nt) hC simcl hn _ 0 w U ι tmps ds fr.T T' fr.defers ds' H H1 (fun j ao hj => by
              obtain ⟨o, ho, hso⟩ := mapO_get' hmo j ao hj
              exact ⟨o, by simpa using ho, hso⟩) hsz hH hT hD hrun _ cs
            refine goOn hk (Steps.head st_region ?_) he hh ht hd hf hs1
            rw [← hlen, ← List.range_eq_range'] at hst
            exact hst
        · cases h
  · cases hI with
    | cons hi hk => cases hi with
      | code hc =>
        obtain ⟨x, y, rfl, h1, h2⟩ := crel_inv hc
        exact Ends.head (.one st_seq) (hs _ _ _ _ _ h nt w U ι _ _ _ _ (.cons (.code h1) (.cons (.code h2) hk)) hsz hH hT hD hro kd cs)
  · cases hI with
    | cons hi hk => cases hi with
      | code hc =>
        obtain ⟨x, y, rfl, h1, h2⟩ := crel_inv hc
        split at h
        · rename_i t ht
          have hv := ev_sound (a := { tmps := tmps, defers := ds }) hT ht
          generalize hxv : ({ tmps := tmps, defers := ds } : Act).eval _ = xv at hv
          cases hv
          refine Ends.head (.one (st_cond (by rw [eval_rf]; exact hxv))) (hs _ _ _ _ _ h nt w U ι _ _ _ _ (.cons (.code ?_) hk) hsz hH hT hD hro kd cs)
          cases t
          · exact h2
          · exact h1
        · cases h
  · cases hI with
    | cons hi hk => cases hi with
      | code hc =>
        obtain ⟨x, rfl, h1⟩ := crel_inv hc
        exact Ends.head (.one st_block) (hs _ _ _ _ _ h nt w U ι _ _ _ _ (.cons (.code h1) (.cons (.inBlock _) hk)) hsz hH hT hD hro kd cs)
  · cases hI with
    | cons hi hk => cases hi with
      | code hc =>
        obtain ⟨x, rfl, h1⟩ := crel_inv hc
        exact Ends.head (.one st_loop) (hs _ _ _ _ _ h nt w U ι _ _ _ _ (.cons (.code h1) (.cons (.inLoop h1) hk)) hsz hH hT hD hro kd cs)
  · cases hI with
    | cons hi hk => cases hi with
      | code hc =>
        obtain ⟨x, rfl, h1⟩ := crel_inv hc
        exact Ends.head (.one st_scope) (hs _ _ _ _ _ h nt w U ι _ _ _ _ (.cons (.code h1) (.cons (.inScope h1) hk)) hsz hH hT hD hro kd cs)
  · -- exit
    cases hI with
    | cons hi hk => cases hi with
      | code hc =>
        obtain rfl := crel_inv hc
        rename_i id _ _
        have he := exit_rel (id := id) hk
        split at h
        · rename_i k' hk'
          obtain ⟨t', h1, h2⟩ := he.1 _ hk'
          exact Ends.head (.one (st_exit h1)) (hs _ _ _ _ _ h nt w U ι _ _ _ _ h2 hsz hH hT hD hro kd cs)
        · rename_i hk'
          exact leave_sound hC hF simcl hn h (.inr ⟨_, .exit id, rfl, rfl, rfl, fun _ => rfl⟩) (fun hr => by simp [isRetA] at hr) (fun l v w' c0 cs' hr => st_round_exit (he.2 hk') hr) hH hT hD hro
  · -- goto
    cases hI with
    | cons hi hk => cases hi with
      | code hc =>
        obtain rfl := crel_inv hc
        rename_i id _ _
        have he := goto_rel (l := id) hk
        split at h
        · rename_i k' hk'
          obtain ⟨t', h1, h2⟩ := he.1 _ hk'
          exact Ends.head (.one (st_goto h1)) (hs _ _ _ _ _ h nt w U ι _ _ _ _ h2 hsz hH hT hD hro kd cs)
        · rename_i hk'
          exact leave_sound hC hF simcl hn h (.inr ⟨_, .goto id, rfl, rfl, rfl, fun _ => rfl⟩) (fun hr => by simp [isRetA] at hr) (fun l v w' c0 cs' hr => st_round_goto (he.2 hk') hr) hH hT hD hro
  · -- return
    cases hI with
    | cons hi hk => cases hi with
      | code hc =>
        obtain rfl := crel_inv hc
        exact leave_sound hC hF simcl hn h (.inr ⟨_, .ret, rfl, rfl, rfl, fun _ => rfl⟩) (fun _ => st_ret_normal) (fun l v w' c0 cs' hr => st_round_ret hr) hH hT hD hro
  · cases h
  · -- a loop over a function
    rename_i fo pso aso bso kso
    cases hI with
    | @cons _ _ k _ hi hk => cases hi with
      | code hc =>
        obtain ⟨qs, x, y, rfl, hq, h1, h2, hlt⟩ := crel_inv hc
        split at h
        · rename_i g first caps l mark H2 hev hel
          have hnx1 := enterLoopA_mono hel
          obtain ⟨lc, mc, w1, ι1, hrunL, he1, hh1, hιl, hdm, hf1⟩ := enterLoop_sound hel hq h1 h2 hlt hsz hH hT hro
          split at h
          · cases h
          · rename_i rv H3 hcall
            have hnx2 := callF_mono hn hcall
            split at h
            · rename_i L hL3
              split at h
              · cases h
              · rename_i hcond
                have hbusy : L.state ≠ .busy := fun e => hcond (.inl e)
                have hjump : jumpOk L.pending = true := by
                  cases hj : jumpOk L.pending with
                  | true => rfl
                  | false => exact absurd (.inr hj) hcond
                have hT1 := hT.mono (fun hv => he1.mono hH hv)
                have hD1 := hD.mono (fun hv => he1.mono hH hv) he1.map
                have hfv := ev_sound (a := { tmps := tmps, defers := ds }) hT1 hev
                generalize hxv : ({ tmps := tmps, defers := ds } : Act).eval fo = xv at hfv
                cases hfv with
                | fn _ _ _ us zs hl1 hl2 hr1 hr2 =>
                  have hall : LsRel w1 U ι1 (first ++ [.yld l] ++ caps) (us ++ [Value.func (.yield lc) #[] #[]] ++ zs) := LsRel.append (LsRel.append (show LsRel w1 U ι1 first us from ⟨hl1, hr1⟩) (LsRel.cons (.yld l lc hιl) LsRel.nil)) ⟨hl2, hr2⟩
                  have hinv := callF_sound simcl hcall hh1 hall
                  -- the call
                  obtain ⟨v1, w2, ⟨U2, ι2, hlv, hf2, _⟩, hst2⟩ : ∃ v1 w2, (∃ U' ι', BX.Leaves C w1 U ι1 H3 rv v1 w2 U' ι' ∧ Fresh H2 ι1 ι' ∧ (C.pure g = true → H3 = H2 ∧ ι' = ι1 ∧ ∀ c, c < w1.heap.size → w2.heap[c]? = w1.heap[c]?)) ∧
                      Steps C.P (lone (rf fr.fn tmps (.code (.rangeFunc fo qs x y) :: k) ds kd ro) cs w) (lone (rf fr.fn tmps (.endRangeFunc lc :: k) (mc ++ ds) kd ro) cs w2) := by
                    have hxr : ∀ nx w2, (callFunc g (us ++ [Value.func (.yield lc) #[] #[]] ++ zs).toArray).run C.P w1 = .ok nx w2 →
                        (do let d ← resolve (rf fr.fn tmps (.inRangeFunc lc :: k) (mc ++ ds) kd ro).eval { callee := .value fo, args := #[.const (Value.func (.yield lc) #[] #[])], argTypes := #[] } 0; invoke d.target d.args : Sem Next).run C.P w1 = .ok nx w2 := fun nx w2 hc => by
                      rw [← hc]
                      have e1 : (rf fr.fn tmps (.inRangeFunc lc :: k) (mc ++ ds) kd ro).eval fo = _ := hxv
                      have e2 : (rf fr.fn tmps (.inRangeFunc lc :: k) (mc ++ ds) kd ro).eval (.const (Value.func (.yield lc) #[] #[])) = Value.func (.yield lc) #[] #[] := rfl
                      simp only [resolve, Sem.run_bind, e1, Deferred.ofValue, Sem.run_pure, Result.andThen_ok, invoke]
                      congr 2
                      apply Array.ext'
                      simp [e2]
                    rcases hinv with ⟨v1, w2, hc, hR⟩ | ⟨hc, hgo⟩
                    · exact ⟨v1, w2, hR, .one (st_rangeFunc hrunL (hxr _ _ hc) (.inl ⟨v1, rfl, rfl, rfl⟩))⟩
                    · obtain ⟨v1, w2, hR, hst⟩ := hgo (rf fr.fn tmps (.inRangeFunc lc :: k) (mc ++ ds) kd ro) cs
                      exact ⟨v1, w2, hR, Steps.head (st_rangeFunc hrunL (hxr _ _ hc) (.inr ⟨g, _, rfl, rfl, rfl⟩)) hst⟩
                  -- its end
                  have hιl2 := hlv.ext.map _ _ hιl
                  have hb := hlv.heap.blk l lc hιl2
                  rw [hL3] at hb
                  obtain ⟨R, nt0, hR, hLR⟩ := hb
                  obtain ⟨he3, hh3⟩ := set_rel (o' := .loop { R with state := .exhausted }) (blk := .loop { L with state := .exhausted }) hlv.heap hιl2 (by rw [hL3]; rfl) (by
                    unfold World.shape?
                    rw [World.putObj_heap_same (hlv.heap.dom l lc hιl2).2, hR]) (fun hsame hext => ⟨_, nt0, hsame, {
                      size := hLR.size, state := trivial, pending := hLR.pending, fn := hLR.fn, T := hLR.T.mono (fun hv => hext.mono hlv.heap hv), params := hLR.params, assign := hLR.assign, body := hLR.body, lt := hLR.lt, defers := hLR.defers }⟩)
                  have hrb : (R.state == .busy) = false := by
                    have := hLR.state
                    cases hh' : R.state <;> cases hl' : L.state <;> rw [hh', hl'] at this <;> first | rfl | exact this.elim | exact absurd hl' hbusy
                  have hrun : (Instr.endLoop lc).run C.P w2 = .ok R.pending (w2.putObj lc (.loop { R with state := .exhausted })) := by
                    simp only [Instr.endLoop, Sem.run_bind, run_getLoop hR, run_setLoop hR, Result.andThen_ok, hrb, Sem.run_pure]
                    simp [run_setLoop hR]
                  have heT : Ext w U ι _ U2 ι2 := (he1.trans hlv.ext).trans he3
                  have hk2 : IsRel C.pure nt ((R.pending.map Item.code).toList ++ k) ((L.pending.map AItem.code).toList ++ kso) := by
                    rcases hLR.pending with ⟨e1, e2⟩ | ⟨a, c, e1, e2, hcr⟩
                    · rw [e1, e2]; exact hk
                    · rw [e1] at hjump
                      rw [e1, e2]
                      exact .cons (.code (jump_crel hcr hjump)) hk
                  have hds2 : DsRel (w2.putObj lc (.loop { R with state := .exhausted })) U2 ι2 (mark ++ fr.defers) (mc ++ ds) := by
                    have h3 : DsRel w1 U ι1 (mark ++ fr.defers) (mc ++ ds) := hdm.append hD1
                    exact (h3.mono (fun hv => hlv.ext.mono hh1 hv) hlv.ext.map).mono (fun hv => he3.mono hlv.heap hv) he3.map
                  refine Ends.head (hst2.trans (.one (st_endLoop hrun))) (Ends.mono (hs _ _ _ _ _ h nt _ U2 ι2 _ _ _ ro hk2 hsz hh3 ((hT1.mono (fun hv => hlv.ext.mono hh1 hv)).mono (fun hv => he3.mono hlv.heap hv)) hds2 (hro.mono heT.map) kd cs) (fun v w' hp => Post.of heT (fun b c hb => ?_) ?_ hp))
                  · rcases hf2 b c hb with h | h
                    · exact hf1 b c h
                    · exact .inr (by omega)
                  · simp only [AHeap.set]; omega
            · cases h
        · cases h

theorem exec_sound (hC : TOk C) (hF : ∀ f fi, C.FT f = some fi → FIok C f fi) (hx : ExtOk C) (hmix : C.P.follows .mixedOrders = true) : ∀ n, Sound C (exec C n)
  | 0 => fun fr items H r H' h => by simp [exec] at h
  | n + 1 => stepA_sound hC hF hx hmix (exec_sound hC hF hx hmix n) (exec_mono hx n)

end Go.BX
