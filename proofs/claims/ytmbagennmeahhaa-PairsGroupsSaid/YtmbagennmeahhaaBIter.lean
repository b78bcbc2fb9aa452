import Derived.Test.YtmbagennmeahhaaBEv
namespace Go.BX
set_option linter.unusedSimpArgs false
set_option linter.unusedVariables false

/-! # Loops over functions, and what is deferred -/

variable {C : Ctx} {fn : FuncId} {T : Nat → AV} {ds : List ADef} {ro : Option Nat} {H : AHeap} {Q : AV → AHeap → Prop} {k : List AItem}

/-- The heap with the record of a loop. -/
def loopH (fn : FuncId) (T : Nat → AV) (params : List Nat) (assign body : AC) (H : AHeap) : AHeap :=
  (H.push .dfr).push (.loop { state := .ready, pending := none, fn := fn, T := T, params := params, assign := assign, body := body, defers := H.next })

/-- A loop over a function. -/
theorem run_rangeFunc {f : Operand} {params : List Nat} {assign body gb : AC} {g : FuncId} {first caps : List AV}
    (hf : ev T f = some (.fn g first caps)) (hp : C.pure g = false) (hx : C.ext g = none) (hb : bodyOf C g = some gb)
    (h : Run C g (enterT (first ++ [.yld (H.next + 1)] ++ caps)) [] none [.code gb] (loopH fn T params assign body H) (fun _ H3 => ∃ L, H3.at_ (H.next + 1) = .loop L ∧ L.state ≠ .busy ∧ jumpOk L.pending = true ∧
      Run C fn T (.collected H.next :: ds) none ((L.pending.map AItem.code).toList ++ k) (H3.set (H.next + 1) (.loop { L with state := .exhausted })) Q)) :
    Run C fn T ds none (.code (.rangeFunc f params assign body) :: k) H Q := by
  obtain ⟨n, r, H3, he, L, hL, h1, h2, m, r', H', he', hq⟩ := h
  refine ⟨max n m + 1, r', H', ?_, hq⟩
  unfold bodyOf at hb
  simp only [Option.map_eq_some_iff] at hb
  obtain ⟨fi, hfi, rfl⟩ := hb
  have hc : callF C (cln C (max n m)) g (first ++ [.yld (H.next + 1)] ++ caps) (loopH fn T params assign body H) = some (r, H3) := by
    unfold callF
    rw [if_neg (by simp [hp])]
    show (clMk C (exec C (max n m))).call g _ _ = _
    simp only [clMk, hx, hfi]
    exact exec_le (Nat.le_max_left n m) _ _ _ _ he
  have he2 := exec_le (Nat.le_max_right n m) _ _ _ _ he'
  show stepA C (exec C (max n m)) _ _ H = _
  have hs : enterLoopA { fn := fn, T := T, defers := ds, round := none } params assign body H = some (H.next + 1, [.collected H.next], loopH fn T params assign body H) := rfl
  have hno : ¬ (L.state = .busy ∨ jumpOk L.pending = false) := by
    rintro (h | h)
    · exact h1 h
    · rw [h2] at h; cases h
  simp only [stepA, hf, hs]
  rw [show callF C (clMk C (exec C (max n m))) g (first ++ [.yld (H.next + 1)] ++ caps) (loopH fn T params assign body H) = some (r, H3) from hc]
  simp only [hL, hno, if_false, List.cons_append, List.nil_append]
  exact he2

/-- A round is called. -/
theorem rop_yield {x : Operand} {args : Array Operand} {ts : Array TypeId} {vs : List AV} {l : Nat} {L : ALoop} {dst : Option Nat} {os : List AO} (h : evs T args.toList = some vs) (hf : ev T x = some (.yld l)) (hL : H.at_ l = .loop L) (hlen : vs.length = L.params.length)
    (hr : Run C L.fn (foldPut L.T L.params vs) [] (some l) [.code L.assign, .beginRound, .code L.body] H (fun r H1 => RunOps C fn (putA T dst r) ds ro os k H1 Q)) :
    RunOp C fn T ds ro (.call { callee := .value x, args := args, argTypes := ts }) dst os k H Q := by
  obtain ⟨n, r, H1, he, m, r', H', he', hq⟩ := hr
  refine ⟨max n m, r', H', ?_, hq⟩
  have hc : opRun C (cln C (max n m)) ro.isSome T ds H (.call { callee := .value x, args := args, argTypes := ts }) = some (r, ds, H1) := by
    simp only [opRun, opCall, h, hf, callV]
    have : (cln C (max n m)).round l vs H = some (r, H1) := by
      simp only [cln, clMk, hL, hlen, if_true]
      exact exec_le (Nat.le_max_left n m) _ _ _ _ he
    rw [this]
  rw [hc]
  exact thenRun_ops_le (Nat.le_max_right n m) he'

theorem run_begin {l : Nat} {L : ALoop} (hL : H.at_ l = .loop L) (hs : L.state = .ready) : Run C fn T ds (some l) (.beginRound :: k) H Q = Run C fn T ds (some l) k (H.set l (.loop { L with state := .busy })) Q :=
  run_step fun ex => by simp only [stepA, hL, hs, if_true]

theorem run_leave {items : List AItem} {r : AV} {H' : AHeap} (h : ∀ ex, stepA C ex { fn := fn, T := T, defers := ds, round := ro } items H = some (r, H')) : Run C fn T ds ro items H Q = Q r H' := by
  apply propext
  constructor
  · rintro ⟨n, r1, H1, he, hq⟩
    cases n with
    | zero => simp [exec] at he
    | succ n => simp only [exec, h] at he; cases he; exact hq
  · intro hq
    exact ⟨1, r, H', by simp only [exec, h], hq⟩

theorem round_nil {l : Nat} {L : ALoop} (hL : H.at_ l = .loop L) : Run C fn T ds (some l) [] H Q = Q (.bool true) (H.set l (.loop { L with state := .ready, pending := none })) :=
  run_leave fun ex => by simp [stepA, leaveA, hL]

theorem round_ret {l : Nat} {L : ALoop} (hL : H.at_ l = .loop L) : Run C fn T ds (some l) (.code .ret :: k) H Q = Q (.bool false) (H.set l (.loop { L with state := .done, pending := some .ret })) :=
  run_leave fun ex => by simp [stepA, leaveA, hL]

theorem round_exit {l id : Nat} {L : ALoop} (hL : H.at_ l = .loop L) (he : exitA id k = none) : Run C fn T ds (some l) (.code (.exit id) :: k) H Q = Q (.bool false) (H.set l (.loop { L with state := .done, pending := some (.exit id) })) :=
  run_leave fun ex => by simp [stepA, leaveA, hL, he]

theorem round_goto {l id : Nat} {L : ALoop} (hL : H.at_ l = .loop L) (he : gotoA id k = none) : Run C fn T ds (some l) (.code (.goto id) :: k) H Q = Q (.bool false) (H.set l (.loop { L with state := .done, pending := some (.goto id) })) :=
  run_leave fun ex => by simp [stepA, leaveA, hL, he]

/-! ## What is deferred -/

def RunDefs (C : Ctx) : List ADef → AHeap → (AHeap → Prop) → Prop
  | [], H, K => K H
  | .collected b :: ds, H, K => H.at_ b = .dfr ∧ RunDefs C ds (H.set b .dead) K
  | .call (.fn f first caps) args :: ds, H, K => C.ext f = none ∧ ∃ body, bodyOf C f = some body ∧ Run C f (enterT (first ++ args ++ caps)) [] none [.code body] H (fun _ H1 => RunDefs C ds H1 K)
  | .call _ _ :: _, _, _ => False

theorem runDefs_ok : ∀ (ds : List ADef) (H : AHeap) (K : AHeap → Prop), RunDefs C ds H K → ∃ n H', (∀ m, n ≤ m → runDefers C (cln C m) ds H = some H') ∧ K H'
  | [], H, K, h => ⟨0, H, fun m _ => by simp [runDefers], h⟩
  | .collected b :: ds, H, K, h => by
    obtain ⟨h1, h2⟩ := h
    obtain ⟨n, H', h3, h4⟩ := runDefs_ok ds _ K h2
    exact ⟨n, H', fun m hm => by simp only [runDefers, h1]; exact h3 m hm, h4⟩
  | .call v args :: ds, H, K, h => by
    cases v with
    | fn f first caps =>
      obtain ⟨hx, body, hb, n, r, H1, he, hr⟩ := h
      obtain ⟨m, H', h3, h4⟩ := runDefs_ok ds _ K hr
      unfold bodyOf at hb
      simp only [Option.map_eq_some_iff] at hb
      obtain ⟨fi, hfi, rfl⟩ := hb
      refine ⟨max n m, H', fun p hp => ?_, h4⟩
      have hc : (cln C p).call f (first ++ args ++ caps) H = some (r, H1) := by
        show (clMk C (exec C p)).call f _ _ = _
        simp only [clMk, hx, hfi]
        exact exec_le (by omega) _ _ _ _ he
      simp only [runDefers, hx, Option.isSome_none, Bool.false_eq_true, if_false]
      rw [hc]
      exact h3 p (by omega)
    | _ => exact h.elim

/-- A function is left whose calls are deferred. -/
theorem leave_defs {items : List AItem} (hi : items = [] ∨ ∃ k', items = .code .ret :: k') (h : RunDefs C ds H (fun H' => RunRes C T H' Q (resOf C fn))) : Run C fn T ds none items H Q := by
  obtain ⟨n, H', hd, hr⟩ := runDefs_ok ds H _ h
  have hl : ∃ r, leaveA C (cln C n) { fn := fn, T := T, defers := ds, round := none } (if items = [] then none else some .ret) H = some (r, H') ∧ Q r H' := by
    unfold RunRes resOf at hr
    cases hf : C.FT fn with
    | none => rw [hf] at hr; exact hr.elim
    | some fi =>
      rw [hf] at hr
      simp only [Option.map_some] at hr
      cases hv : resultsA C T H' fi.results with
      | none => rw [hv] at hr; exact hr.elim
      | some vs =>
        rw [hv] at hr
        refine ⟨oneOf vs, ?_, hr⟩
        have hj : isRetA (if items = [] then none else some .ret) = true := by split <;> rfl
        simp only [leaveA, hj, if_true, hd n (Nat.le_refl _), hf, hv, Option.map_some]
  obtain ⟨r, hl, hq⟩ := hl
  refine ⟨n + 1, r, H', ?_, hq⟩
  rcases hi with rfl | ⟨k', rfl⟩
  · simp only [if_true] at hl; exact hl
  · simp only [reduceCtorEq, if_false] at hl; exact hl

/-- The records of loops that were done are taken off. -/
theorem ret_col {b : Nat} (hb : H.at_ b = .dfr) (h : RunRes C T (H.set b .dead) Q (resOf C fn)) : Run C fn T [.collected b] none (.code .ret :: k) H Q :=
  leave_defs (.inr ⟨k, rfl⟩) ⟨hb, h⟩

end Go.BX
