import Derived.Test.YtmbagennmeahhaaBRun
namespace Go.BX
set_option linter.unusedSimpArgs false
set_option linter.unusedVariables false

/-! # Facts on the abstract machine alone -/

variable {C : Ctx}

/-- The heap only grows. -/
structure NextMono (cl : Cl) : Prop where
  call : ∀ f args H r H', cl.call f args H = some (r, H') → H.next ≤ H'.next
  round : ∀ l args H r H', cl.round l args H = some (r, H') → H.next ≤ H'.next

theorem appendZ_next {H H' : AHeap} {t : TypeId} {d s r : AV} (h : appendZ C H t d s = some (r, H')) : H.next ≤ H'.next := by
  unfold appendZ at h
  split at h
  · split at h
    · split at h
      · cases h
        exact Nat.le_succ _
      · cases h
    · cases h
  · cases h

theorem appendZ_kept {H H' : AHeap} {t : TypeId} {d s r : AV} {b : Nat} (hlt : b < H.next) (h : appendZ C H t d s = some (r, H')) : H'.at_ b = H.at_ b := by
  unfold appendZ at h
  split at h
  · split at h
    · split at h
      · cases h
        show upd H.at_ H.next _ b = _
        rw [upd_ne _ _ (Nat.ne_of_lt hlt)]
      · cases h
    · cases h
  · cases h

theorem appendA_next {H H' : AHeap} {t : TypeId} {d s r : AV} (h : appendA C H t d s = some (r, H')) : H.next ≤ H'.next := by
  unfold appendA at h
  repeat' split at h
  all_goals (first | (simp only [Option.some.injEq, Prod.mk.injEq] at h; obtain ⟨_, rfl⟩ := h; simp [AHeap.push, AHeap.set]) | cases h)

theorem copyA_next {H H' : AHeap} {t : TypeId} {d s r : AV} (h : copyA C H t d s = some (r, H')) : H.next ≤ H'.next := by
  unfold copyA at h
  repeat' split at h
  all_goals (first | (simp only [Option.some.injEq, Prod.mk.injEq] at h; obtain ⟨_, rfl⟩ := h; simp [AHeap.push, AHeap.set]) | cases h)

theorem storeA_next {H H' : AHeap} {t : TypeId} {p v : AV} (h : storeA C H t p v = some H') : H.next ≤ H'.next := by
  unfold storeA at h
  repeat' split at h
  all_goals (first | (simp only [Option.some.injEq] at h; subst h; simp [AHeap.set]) | cases h)

/-- What an operation that only reads leaves of the heap. -/
def Grows (H H' : AHeap) : Prop := H.next ≤ H'.next ∧ ∀ b, b < H.next → H'.at_ b = H.at_ b

theorem Grows.refl (H : AHeap) : Grows H H := ⟨Nat.le_refl _, fun _ _ => rfl⟩
theorem Grows.push (H : AHeap) (b : Blk) : Grows H (H.push b) := ⟨by simp [AHeap.push], fun x hx => by simp only [AHeap.push]; exact upd_ne _ _ (Nat.ne_of_lt hx)⟩
theorem Grows.trans {H H1 H2 : AHeap} (h : Grows H H1) (h' : Grows H1 H2) : Grows H H2 := ⟨Nat.le_trans h.1 h'.1, fun b hb => by rw [h'.2 b (Nat.lt_of_lt_of_le hb h.1), h.2 b hb]⟩

theorem prim_abs {T : Nat → AV} {H H' : AHeap} {op : Op} {r : AV} (h : prim C T H op = some (r, H')) : H.next ≤ H'.next ∧ (cls C.pure op ≠ .writer → Grows H H') ∧ (cls C.pure op = .inert → H' = H ∧ ∀ H2, prim C T H2 op = some (r, H2)) := by
  unfold prim at h
  split at h
  · rename_i hin
    simp only [Option.map_eq_some_iff] at h
    obtain ⟨r', hr', he⟩ := h
    cases he
    exact ⟨Nat.le_refl _, fun _ => Grows.refl _, fun _ => ⟨rfl, fun H2 => by unfold prim; rw [if_pos hin, hr']; rfl⟩⟩
  · rename_i hin
    have key : H.next ≤ H'.next ∧ (cls C.pure op ≠ .writer → Grows H H') := by
      cases op <;> simp only [primM, reduceCtorEq] at h
      case store t a x =>
        split at h
        · simp only [Option.map_eq_some_iff] at h
          obtain ⟨H1, hH1, he⟩ := h
          cases he
          exact ⟨storeA_next hH1, fun hc => absurd rfl hc⟩
        · cases h
      case load t x =>
        split at h
        · simp only [Option.map_eq_some_iff] at h
          obtain ⟨_, _, he⟩ := h
          cases he
          exact ⟨Nat.le_refl _, fun _ => Grows.refl _⟩
        · cases h
      case convert s d x =>
        split at h
        · simp only [Option.map_eq_some_iff] at h
          obtain ⟨_, _, he⟩ := h
          cases he
          exact ⟨Nat.le_refl _, fun _ => Grows.refl _⟩
        · cases h
      case next it isS =>
        cases isS <;> simp only [reduceCtorEq] at h
        repeat' split at h
        all_goals (first | (simp only [Option.some.injEq, Prod.mk.injEq] at h; obtain ⟨_, rfl⟩ := h; exact ⟨by simp [AHeap.set], fun hc => absurd rfl hc⟩) | cases h)
      all_goals
        repeat' split at h
        all_goals (first | (simp only [Option.some.injEq, Prod.mk.injEq] at h; obtain ⟨_, rfl⟩ := h; exact ⟨(Grows.push _ _).1, fun _ => Grows.push _ _⟩) | cases h)
    refine ⟨key.1, key.2, fun hc => ?_⟩
    exfalso
    cases op <;> first | (simp [inertOp] at hin; done) | (simp only [primM, reduceCtorEq] at h; done) | (simp [cls] at hc; done) | skip
    all_goals (simp only [primM, reduceCtorEq] at h)

theorem callF_next {cl : Cl} (hn : NextMono cl) {f : FuncId} {args : List AV} {H H' : AHeap} {r : AV} (h : callF C cl f args H = some (r, H')) : H.next ≤ H'.next ∧ (C.pure f = true → H' = H) := by
  unfold callF at h
  split at h
  · split at h
    · split at h
      · simp only [Option.map_eq_some_iff] at h
        obtain ⟨_, _, he⟩ := h
        cases he
        exact ⟨Nat.le_refl _, fun _ => rfl⟩
      · cases h
    · split at h
      · split at h
        · split at h
          · split at h
            · cases h
              exact ⟨Nat.le_refl _, fun _ => rfl⟩
            · simp only [Option.map_eq_some_iff] at h
              obtain ⟨_, _, he⟩ := h
              cases he
              exact ⟨Nat.le_refl _, fun _ => rfl⟩
          · cases h
        · cases h
      · cases h
  · rename_i hp
    exact ⟨hn.call _ _ _ _ _ h, fun hp' => absurd hp' hp⟩

theorem callV_next {cl : Cl} (hn : NextMono cl) {v : AV} {args : List AV} {H H' : AHeap} {r : AV} (h : callV C cl v args H = some (r, H')) : H.next ≤ H'.next := by
  unfold callV at h
  split at h
  · exact (callF_next hn h).1
  · exact hn.round _ _ _ _ _ h
  · cases h

theorem builtinA_next {H H' : AHeap} {b : Builtin} {ts : List TypeId} {args : List AV} {r : AV} (h : builtinA C H b ts args = some (r, H')) : H.next ≤ H'.next ∧ (inertB b = true → H' = H ∧ ∀ H2, builtinA C H2 b ts args = some (r, H2)) := by
  unfold builtinA at h
  split at h
  · rename_i hin
    simp only [Option.map_eq_some_iff] at h
    obtain ⟨r', hr', he⟩ := h
    cases he
    exact ⟨Nat.le_refl _, fun _ => ⟨rfl, fun H2 => by unfold builtinA; rw [if_pos hin, hr']; rfl⟩⟩
  · rename_i hin
    refine ⟨?_, fun hc => absurd hc hin⟩
    unfold builtinM at h
    split at h
    · split at h
      · exact appendZ_next h
      · exact appendA_next h
      · cases h
    · exact copyA_next h
    · cases h

theorem opRun_abs {cl : Cl} (hn : NextMono cl) {ir : Bool} {T : Nat → AV} {as as' : List ADef} {H H' : AHeap} {op : Op} {r : AV} (h : opRun C cl ir T as H op = some (r, as', H')) :
    H.next ≤ H'.next ∧ (cls C.pure op ≠ .writer → Grows H H') ∧ (cls C.pure op = .inert → H' = H ∧ ∀ H2, opRun C cl ir T as H2 op = some (r, as', H2)) := by
  unfold opRun at h
  split at h
  · rename_i c
    split at h
    · rename_i v0 H0 hcall
      simp only [Option.some.injEq, Prod.mk.injEq] at h
      obtain ⟨rfl, rfl, rfl⟩ := h
      have hcall' := hcall
      unfold opCall at hcall
      split at hcall
      · cases hcall
      · rename_i args hargs
        obtain ⟨callee, cargs, argTypes⟩ := c
        split at hcall
        · rename_i b hcal
          simp only at hcal
          subst hcal
          obtain ⟨h1, h2⟩ := builtinA_next hcall
          have hg : inertB b = true → Grows H H0 := fun hb => by rw [(h2 hb).1]; exact Grows.refl _
          refine ⟨h1, fun hc => hg (by simp only [cls] at hc; split at hc; assumption; exact absurd rfl hc), fun hc => ?_⟩
          have hb : inertB b = true := by simp only [cls] at hc; split at hc; assumption; cases hc
          refine ⟨(h2 hb).1, fun H2 => ?_⟩
          simp only [opRun, opCall, hargs, (h2 hb).2 H2]
        · cases hcall
        · rename_i x hcal
          simp only at hcal
          subst hcal
          split at hcall
          · rename_i fv hfv
            have h1 := callV_next hn hcall
            refine ⟨h1, fun hc => ?_, fun hc => ?_⟩
            · cases x <;> first | (simp only [cls] at hc; exact absurd rfl hc) | skip
              rename_i g
              simp only [ev, Option.some.injEq] at hfv
              subst hfv
              have hp : C.pure g = true := by simp only [cls] at hc; split at hc; assumption; exact absurd rfl hc
              unfold callV at hcall
              rw [(callF_next hn hcall).2 hp]
              exact Grows.refl _
            · exfalso
              cases x <;> simp only [cls] at hc <;> first | (cases hc; done) | (split at hc <;> cases hc)
          · cases hcall
    · cases h
  · rename_i c
    split at h
    · cases h
    · split at h
      · split at h
        · simp only [Option.some.injEq, Prod.mk.injEq] at h
          obtain ⟨rfl, rfl, rfl⟩ := h
          exact ⟨Nat.le_refl _, fun _ => Grows.refl _, fun hc => by simp [cls] at hc⟩
        · cases h
      · cases h
  · rename_i op' hnc hnd
    split at h
    · rename_i v0 H0 hp
      simp only [Option.some.injEq, Prod.mk.injEq] at h
      obtain ⟨rfl, rfl, rfl⟩ := h
      obtain ⟨h1, h2, h3⟩ := prim_abs hp
      refine ⟨h1, h2, fun hc => ⟨(h3 hc).1, fun H2 => ?_⟩⟩
      have := (h3 hc).2 H2
      unfold opRun
      split
      · rename_i c; exact absurd rfl (hnc c)
      · rename_i c; exact absurd rfl (hnd c)
      · rw [this]
    · cases h

/-! ## Only the slots that are named matter -/

theorem ev_congr {T T' : Nat → AV} {x : Operand} (h : ∀ t, t ∈ opTmps [x] → T t = T' t) : ev T x = ev T' x := by
  cases x with
  | tmp t => simp only [ev]; rw [h t (by simp [opTmps])]
  | _ => rfl

theorem opTmps_mem {x : Operand} {xs : List Operand} (h : x ∈ xs) {t : Nat} (ht : t ∈ opTmps [x]) : t ∈ opTmps xs := by
  cases x with
  | tmp s =>
    simp [opTmps] at ht
    subst ht
    unfold opTmps
    rw [List.mem_filterMap]
    exact ⟨.tmp t, h, rfl⟩
  | _ => simp [opTmps] at ht

theorem evs_congr {T T' : Nat → AV} : ∀ {xs : List Operand}, (∀ t, t ∈ opTmps xs → T t = T' t) → evs T xs = evs T' xs
  | [], _ => rfl
  | x :: xs, h => by
    have h1 := ev_congr (x := x) (T := T) (T' := T') (fun t ht => h t (opTmps_mem (by simp) ht))
    have h2 := evs_congr (xs := xs) (T := T) (T' := T') (fun t ht => h t (by
      unfold opTmps at ht ⊢
      rw [List.filterMap_cons]
      split
      · exact ht
      · exact List.mem_cons_of_mem _ ht))
    simp only [evs, h1, h2]

theorem parts_congr {T T' : Nat → AV} : ∀ {xs : List (Nat × Operand)}, (∀ t, t ∈ opTmps (xs.map (·.2)) → T t = T' t) → parts_ T xs = parts_ T' xs
  | [], _ => rfl
  | (i, x) :: xs, h => by
    have h1 := ev_congr (x := x) (T := T) (T' := T') (fun t ht => h t (opTmps_mem (by simp) ht))
    have h2 := parts_congr (xs := xs) (T := T) (T' := T') (fun t ht => h t (by
      unfold opTmps at ht ⊢
      rw [List.map_cons, List.filterMap_cons]
      split
      · exact ht
      · exact List.mem_cons_of_mem _ ht))
    simp only [parts_, h1, h2]

theorem evo_congr {T T' : Nat → AV} {x : Option Operand} (h : ∀ t, t ∈ opTmps x.toList → T t = T' t) : evo T x = evo T' x := by
  cases x with
  | none => rfl
  | some y => simp only [evo, ev_congr (x := y) (T := T) (T' := T') (fun t ht => h t ht)]

theorem opRun_congr {cl : Cl} {ir : Bool} {T T' : Nat → AV} {as : List ADef} {H : AHeap} {op : Op} (h : ∀ t, t ∈ opTmps op.operands.toList → T t = T' t) : opRun C cl ir T as H op = opRun C cl ir T' as H op := by
  have one : ∀ x, x ∈ op.operands.toList → ev T x = ev T' x := fun x hx => ev_congr (fun t ht => h t (opTmps_mem hx ht))
  cases op with
  | call c =>
    have h1 : evs T c.args.toList = evs T' c.args.toList := evs_congr (fun t ht => h t (by
      unfold opTmps at ht ⊢
      rw [List.mem_filterMap] at ht ⊢
      obtain ⟨x, hx, hxt⟩ := ht
      exact ⟨x, by simp only [Op.operands, Call.operands, Array.toList_append, List.mem_append]; exact .inr hx, hxt⟩))
    simp only [opRun, opCall, h1]
    obtain ⟨callee, cargs, argTypes⟩ := c
    cases callee with
    | value f =>
      have := one f (by simp [Op.operands, Call.operands])
      simp only [this]
    | _ => rfl
  | defer c =>
    have h1 : evs T c.args.toList = evs T' c.args.toList := evs_congr (fun t ht => h t (by
      unfold opTmps at ht ⊢
      rw [List.mem_filterMap] at ht ⊢
      obtain ⟨x, hx, hxt⟩ := ht
      exact ⟨x, by simp only [Op.operands, Call.operands, Array.toList_append, List.mem_append]; exact .inr hx, hxt⟩))
    obtain ⟨callee, cargs, argTypes⟩ := c
    cases callee with
    | value f =>
      have h2 := one f (by simp [Op.operands, Call.operands])
      have h1' : evs T cargs.toList = evs T' cargs.toList := h1
      cases hv : evs T' cargs.toList <;> (simp only [opRun, h1', hv, h2]; try rfl)
    | _ =>
      have h1' : evs T cargs.toList = evs T' cargs.toList := h1
      simp only [opRun, h1']
      try rfl
  | move x => (simp only [opRun, prim, inertOp, primP, primM, one x (by simp [Op.operands])]; try rfl)
  | assign x => (simp only [opRun, prim, inertOp, primP, primM, one x (by simp [Op.operands])]; try rfl)
  | pick c a b => (simp only [opRun, prim, inertOp, primP, primM, one c (by simp [Op.operands]), one a (by simp [Op.operands]), one b (by simp [Op.operands])]; try rfl)
  | build t ps =>
    have := parts_congr (xs := ps.toList) (T := T) (T' := T') (fun t ht => h t (by simpa [Op.operands] using ht))
    (simp only [opRun, prim, inertOp, primP, primM, this]; try rfl)
  | buildSlice t n ps =>
    have := parts_congr (xs := ps.toList) (T := T) (T' := T') (fun t ht => h t (by simpa [Op.operands] using ht))
    (simp only [opRun, prim, inertOp, primP, primM, this]; try rfl)
  | box t x => (simp only [opRun, prim, inertOp, primP, primM, one x (by simp [Op.operands])]; try rfl)
  | load t x => (simp only [opRun, prim, inertOp, primP, primM, one x (by simp [Op.operands])]; try rfl)
  | store t a v => (simp only [opRun, prim, inertOp, primP, primM, one a (by simp [Op.operands]), one v (by simp [Op.operands])]; try rfl)
  | nilCheck x => (simp only [opRun, prim, inertOp, primP, primM, one x (by simp [Op.operands])]; try rfl)
  | binOp op t a v yt => (simp only [opRun, prim, inertOp, primP, primM, one a (by simp [Op.operands]), one v (by simp [Op.operands])]; try rfl)
  | unOp op t x => (simp only [opRun, prim, inertOp, primP, primM, one x (by simp [Op.operands])]; try rfl)
  | convert s d x => (simp only [opRun, prim, inertOp, primP, primM, one x (by simp [Op.operands])]; try rfl)
  | makeFunc fn first caps =>
    have h1 : evs T first.toList = evs T' first.toList := evs_congr (fun t ht => h t (by
      unfold opTmps at ht ⊢
      rw [List.mem_filterMap] at ht ⊢
      obtain ⟨x, hx, hxt⟩ := ht
      exact ⟨x, by simp only [Op.operands, Array.toList_append, List.mem_append]; exact .inl hx, hxt⟩))
    have h2 : evs T caps.toList = evs T' caps.toList := evs_congr (fun t ht => h t (by
      unfold opTmps at ht ⊢
      rw [List.mem_filterMap] at ht ⊢
      obtain ⟨x, hx, hxt⟩ := ht
      exact ⟨x, by simp only [Op.operands, Array.toList_append, List.mem_append]; exact .inr hx, hxt⟩))
    cases fn <;> (simp only [opRun, prim, inertOp, primP, primM, h1, h2]; try rfl)
  | makeSlice t a v => (simp only [opRun, prim, inertOp, primP, primM, one a (by simp [Op.operands]), one v (by simp [Op.operands])]; try rfl)
  | slice t x lo hi mx =>
    have hx := one x (by simp [Op.operands])
    have h1 : evo T lo = evo T' lo := evo_congr (fun t ht => h t (by
      unfold opTmps at ht ⊢
      rw [List.mem_filterMap] at ht ⊢
      obtain ⟨x, hx, hxt⟩ := ht
      exact ⟨x, by cases lo <;> simp [Op.operands] at hx ⊢; simp [hx], hxt⟩))
    have h2 : evo T hi = evo T' hi := evo_congr (fun t ht => h t (by
      unfold opTmps at ht ⊢
      rw [List.mem_filterMap] at ht ⊢
      obtain ⟨x, hx, hxt⟩ := ht
      exact ⟨x, by cases hi <;> simp [Op.operands] at hx ⊢; simp [hx], hxt⟩))
    have h3 : evo T mx = evo T' mx := evo_congr (fun t ht => h t (by
      unfold opTmps at ht ⊢
      rw [List.mem_filterMap] at ht ⊢
      obtain ⟨x, hx, hxt⟩ := ht
      exact ⟨x, by cases mx <;> simp [Op.operands] at hx ⊢; simp [hx], hxt⟩))
    (simp only [opRun, prim, inertOp, primP, primM, hx, h1, h2, h3]; try rfl)
  | fieldAddr s x f => (simp only [opRun, prim, inertOp, primP, primM, one x (by simp [Op.operands])]; try rfl)
  | field s x f => (simp only [opRun, prim, inertOp, primP, primM, one x (by simp [Op.operands])]; try rfl)
  | indexAddr t a v => (simp only [opRun, prim, inertOp, primP, primM, one a (by simp [Op.operands]), one v (by simp [Op.operands])]; try rfl)
  | index t a v => (simp only [opRun, prim, inertOp, primP, primM, one a (by simp [Op.operands]), one v (by simp [Op.operands])]; try rfl)
  | range t x => (simp only [opRun, prim, inertOp, primP, primM, one x (by simp [Op.operands])]; try rfl)
  | next it b => cases b <;> (simp only [opRun, prim, inertOp, primP, primM, one it (by simp [Op.operands])]; try rfl)
  | extract x i => (simp only [opRun, prim, inertOp, primP, primM, one x (by simp [Op.operands])]; try rfl)
  | _ => rfl

/-- A load asks for one block alone. -/
theorem load_abs {cl : Cl} {ir : Bool} {T : Nat → AV} {as as' : List ADef} {H H' : AHeap} {op : Op} {r : AV} {t : Nat} (ht : ldT op = some t) (h : opRun C cl ir T as H op = some (r, as', H')) :
    H' = H ∧ ∀ H2, (∀ b, foot (T t) = some (some b) → H2.at_ b = H.at_ b) → opRun C cl ir T as H2 op = some (r, as', H2) := by
  unfold ldT at ht
  split at ht
  · rename_i ty t'
    cases ht
    simp only [opRun, prim, inertOp, primM, ev, Bool.false_eq_true, if_false] at h
    split at h
    · rename_i v0 H0 hv
      simp only [Option.map_eq_some_iff] at hv
      obtain ⟨x, hx, he⟩ := hv
      cases he
      simp only [Option.some.injEq, Prod.mk.injEq] at h
      obtain ⟨rfl, rfl, rfl⟩ := h
      refine ⟨rfl, fun H2 h2 => ?_⟩
      have hl : loadA C H2 ty (T t) = loadA C H ty (T t) := by
        unfold loadA
        split
        · rfl
        · split
          · rename_i b k i j he
            rw [h2 b (by rw [he]; rfl)]
          · rfl
          · rfl
      simp only [opRun, prim, inertOp, primM, ev, Bool.false_eq_true, if_false, hl, hx, Option.map_some]
    · cases h
  · cases ht

theorem appendA_kept {H H' : AHeap} {t : TypeId} {d s r : AV} {b : Nat} {f : Option Nat} (hf : foot d = some f) (hb : f ≠ some b) (hlt : b < H.next) (h : appendA C H t d s = some (r, H')) : H'.at_ b = H.at_ b := by
  unfold appendA at h
  split at h
  · split at h
    · cases h
    · split at h
      · cases h
      · split at h
        · split at h
          · cases h; rfl
          · split at h
            · cases h; simp only [AHeap.push]; exact upd_ne _ _ (Nat.ne_of_lt hlt)
            · cases h
        · split at h
          · cases h; rfl
          · split at h
            · cases h; simp only [AHeap.push]; exact upd_ne _ _ (Nat.ne_of_lt hlt)
            · cases h
        · rename_i b0 k n
          simp only [foot, Option.some.injEq] at hf
          subst hf
          have hne : b ≠ b0 := fun e => hb (by rw [e])
          split at h
          · split at h
            · split at h
              · cases h; rfl
              · cases h
                simp only [AHeap.push, AHeap.set]
                rw [upd_ne _ _ (Nat.ne_of_lt hlt), upd_ne _ _ hne]
            · cases h
          · cases h
        · cases h
  · cases h

theorem storeA_kept {H H' : AHeap} {t : TypeId} {p v : AV} {b : Nat} {f : Option Nat} (hf : foot p = some f) (hb : f ≠ some b) (h : storeA C H t p v = some H') : H'.at_ b = H.at_ b := by
  unfold storeA at h
  split at h
  · cases h
  · split at h
    · rename_i b0 k i j
      simp only [foot, Option.some.injEq] at hf
      subst hf
      have hne : b ≠ b0 := fun e => hb (by rw [e])
      split at h
      · split at h
        · split at h
          · split at h
            · cases h
              simp only [AHeap.set]
              exact upd_ne _ _ hne
            · cases h
          · cases h
        · cases h
      · cases h
    · cases h

/-- A store, or an append, leaves every other block. -/
theorem fw_abs {cl : Cl} {ir : Bool} {T : Nat → AV} {as as' : List ADef} {H H' : AHeap} {op : Op} {r : AV} {t b : Nat} {f : Option Nat} (ht : fwT op = some t) (hf : foot (T t) = some f) (hb : f ≠ some b) (hlt : b < H.next) (h : opRun C cl ir T as H op = some (r, as', H')) : H'.at_ b = H.at_ b := by
  unfold fwT at ht
  split at ht
  · rename_i ty t' x
    cases ht
    simp only [opRun, prim, inertOp, primM, ev, Bool.false_eq_true, if_false] at h
    split at h
    · rename_i v0 H0 hv
      split at hv
      · rename_i p v hp hvv
        simp only [Option.some.injEq] at hp
        subst hp
        simp only [Option.map_eq_some_iff] at hv
        obtain ⟨H1, hH1, he⟩ := hv
        cases he
        simp only [Option.some.injEq, Prod.mk.injEq] at h
        obtain ⟨rfl, rfl, rfl⟩ := h
        exact storeA_kept hf hb hH1
      · cases hv
    · cases h
  · rename_i args _
    split at ht
    · rename_i t' rest hrest
      cases ht
      simp only [opRun, opCall, hrest, evs] at h
      split at h
      · rename_i v0 H0 hv
        split at hv
        · cases hv
        · rename_i args' hargs
          split at hargs
          · rename_i v1 vs1 hv1 hvs1
            cases hargs
            simp only [ev, Option.some.injEq] at hv1
            subst hv1
            simp only [Option.some.injEq, Prod.mk.injEq] at h
            obtain ⟨rfl, rfl, rfl⟩ := h
            unfold builtinA at hv
            simp only [inertB, Bool.false_eq_true, if_false] at hv
            unfold builtinM at hv
            split at hv
            · rename_i heq
              simp only [List.cons.injEq] at heq
              obtain ⟨he1, _⟩ := heq
              subst he1
              split at hv
              · exact appendZ_kept hlt hv
              · exact appendA_kept hf hb hlt hv
              · cases hv
            · rename_i hb' _ _; cases hb'
            · cases hv
          · cases hargs
      · cases h
    · cases ht
  · cases ht

end Go.BX
