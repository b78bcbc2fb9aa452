import Derived.Test.YtmbagennmeahhaaBCtx
namespace Go.BX
set_option linter.unusedSimpArgs false
set_option linter.unusedVariables false

/-! # More fuel, the same answer -/

variable {C : Ctx}

structure Le (cl cl' : Cl) : Prop where
  call : ∀ f args H x, cl.call f args H = some x → cl'.call f args H = some x
  round : ∀ l args H x, cl.round l args H = some x → cl'.round l args H = some x

theorem Le.refl (cl : Cl) : Le cl cl := ⟨fun _ _ _ _ h => h, fun _ _ _ _ h => h⟩

def ExLe (ex ex' : AFr → List AItem → AHeap → Option (AV × AHeap)) : Prop := ∀ fr items H x, ex fr items H = some x → ex' fr items H = some x

theorem clMk_le {ex ex' : AFr → List AItem → AHeap → Option (AV × AHeap)} (h : ExLe ex ex') : Le (clMk C ex) (clMk C ex') where
  call := fun f args H x hc => by
    simp only [clMk] at hc ⊢
    split at hc
    · rename_i g hg; (try simp only [hg]); exact hc
    · rename_i hg
      (try simp only [hg])
      split at hc
      · rename_i fi hfi; (try simp only [hfi]); exact h _ _ _ _ hc
      · cases hc
  round := fun l args H x hc => by
    simp only [clMk] at hc ⊢
    split at hc
    · rename_i L hL
      (try simp only [hL])
      split at hc
      · rename_i hlen; rw [if_pos hlen]; exact h _ _ _ _ hc
      · cases hc
    · cases hc

theorem callF_le {cl cl' : Cl} (h : Le cl cl') {f : FuncId} {args : List AV} {H : AHeap} {x : AV × AHeap} (hc : callF C cl f args H = some x) : callF C cl' f args H = some x := by
  unfold callF at hc ⊢
  split at hc
  · rename_i hp
    rw [if_pos hp]
    split at hc
    · rename_i hf
      rw [if_pos hf]
      split at hc
      · rename_i r H1 hcc; rw [h.call _ _ _ _ hcc]; exact hc
      · cases hc
    · rename_i hf
      rw [if_neg hf]
      split at hc
      · rename_i args' ha
        (try simp only [ha])
        split at hc
        · rename_i r H1 hcc; rw [h.call _ _ _ _ hcc]; exact hc
        · cases hc
      · cases hc
  · rename_i hp
    rw [if_neg hp]
    exact h.call _ _ _ _ hc

theorem callV_le {cl cl' : Cl} (h : Le cl cl') {v : AV} {args : List AV} {H : AHeap} {x : AV × AHeap} (hc : callV C cl v args H = some x) : callV C cl' v args H = some x := by
  unfold callV at hc ⊢
  split at hc
  · exact callF_le h hc
  · exact h.round _ _ _ _ hc
  · cases hc

theorem opCall_le {cl cl' : Cl} (h : Le cl cl') {T : Nat → AV} {H : AHeap} {c : Call} {x : AV × AHeap} (hc : opCall C cl T H c = some x) : opCall C cl' T H c = some x := by
  unfold opCall at hc ⊢
  split at hc
  · cases hc
  · rename_i args ha
    try simp only [ha]
    split at hc
    · exact hc
    · cases hc
    · rename_i y hy
      split at hc
      · rename_i v hv; (try simp only [hv]); exact callV_le h hc
      · cases hc

theorem opRun_le {cl cl' : Cl} (h : Le cl cl') {ir : Bool} {T : Nat → AV} {as : List ADef} {H : AHeap} {op : Op} {x : AV × List ADef × AHeap} (hc : opRun C cl ir T as H op = some x) : opRun C cl' ir T as H op = some x := by
  unfold opRun at hc ⊢
  split at hc
  · rename_i c
    split at hc
    · rename_i v H' ho; rw [opCall_le h ho]; exact hc
    · cases hc
  · exact hc
  · exact hc

theorem opRes_le {cl cl' : Cl} (h : Le cl cl') {ir : Bool} {o : AO} {T : Nat → AV} {as : List ADef} {H : AHeap} {x : AV × List ADef × AHeap} (hc : opRes C cl ir o T as H = some x) : opRes C cl' ir o T as H = some x := by
  unfold opRes at hc ⊢
  split at hc
  · exact opRun_le h hc
  · exact hc
  · cases hc

theorem runOps_le {cl cl' : Cl} (h : Le cl cl') {ir : Bool} : ∀ {aos : List AO} {T : Nat → AV} {as : List ADef} {H : AHeap} {x : (Nat → AV) × List ADef × AHeap}, runOps C cl ir aos T as H = some x → runOps C cl' ir aos T as H = some x := by
  intro aos
  induction aos with
  | nil => intro T as H x hc; exact hc
  | cons o aos ih =>
    intro T as H x hc
    simp only [runOps] at hc ⊢
    split at hc
    · rename_i v ds' H1 hr; rw [opRes_le h hr]; exact ih hc
    · cases hc

theorem dynA_le {cl cl' : Cl} (h : Le cl cl') {ir : Bool} : ∀ {aos : List AO} {chk : List (List Nat)} {T : Nat → AV} {as : List ADef} {H : AHeap}, dynA C cl ir aos chk T as H = true → dynA C cl' ir aos chk T as H = true := by
  intro aos
  induction aos with
  | nil => intro chk T as H hc; cases chk <;> rfl
  | cons o aos ih =>
    intro chk T as H hc
    cases chk with
    | nil => rfl
    | cons c chk =>
      simp only [dynA, Bool.and_eq_true] at hc ⊢
      refine ⟨hc.1, ?_⟩
      have h2 := hc.2
      split at h2
      · rename_i v ds' H1 hr; rw [opRes_le h hr]; exact ih h2
      · cases h2

theorem runDefers_le {cl cl' : Cl} (h : Le cl cl') : ∀ {as : List ADef} {H x : AHeap}, runDefers C cl as H = some x → runDefers C cl' as H = some x := by
  intro as
  induction as with
  | nil => intro H x hc; exact hc
  | cons a as ih =>
    intro H x hc
    cases a with
    | collected b =>
      simp only [runDefers] at hc ⊢
      split at hc
      · rename_i hb; (try simp only [hb]); exact ih hc
      · cases hc
    | call v args =>
      cases v <;> simp only [runDefers, reduceCtorEq] at hc ⊢
      split at hc
      · cases hc
      · rename_i he
        rw [if_neg he]
        split at hc
        · rename_i r H1 hcc; rw [h.call _ _ _ _ hcc]; exact ih hc
        · cases hc

theorem leaveA_le {cl cl' : Cl} (h : Le cl cl') {fr : AFr} {jump : Option AC} {H : AHeap} {x : AV × AHeap} (hc : leaveA C cl fr jump H = some x) : leaveA C cl' fr jump H = some x := by
  unfold leaveA at hc ⊢
  split at hc
  · split at hc
    · rename_i hr
      rw [if_pos hr]
      split at hc
      · rename_i H1 hd; rw [runDefers_le h hd]; exact hc
      · cases hc
    · cases hc
  · exact hc

theorem stepA_le {ex ex' : AFr → List AItem → AHeap → Option (AV × AHeap)} (h : ExLe ex ex') : ExLe (stepA C ex) (stepA C ex') := by
  intro fr items H x hc
  have hl := clMk_le (C := C) h
  unfold stepA at hc ⊢
  split at hc
  · exact leaveA_le hl hc
  · exact h _ _ _ _ hc
  · exact h _ _ _ _ hc
  · exact h _ _ _ _ hc
  · try simp only
    split at hc
    · split at hc
      · rename_i L hL
        (try simp only [hL])
        split at hc
        · rename_i hst; rw [if_pos hst]; exact h _ _ _ _ hc
        · cases hc
      · cases hc
    · cases hc
  · exact h _ _ _ _ hc
  · exact h _ _ _ _ hc
  · try simp only
    split at hc
    · rename_i T' ds' H1 hr
      rw [runOps_le hl hr]
      split at hc
      · rename_i hd; simp only; rw [if_pos (dynA_le hl hd)]; exact h _ _ _ _ hc
      · cases hc
    · cases hc
  · exact h _ _ _ _ hc
  · try simp only
    split at hc
    · rename_i t ht; (try simp only [ht]); exact h _ _ _ _ hc
    · cases hc
  · exact h _ _ _ _ hc
  · exact h _ _ _ _ hc
  · exact h _ _ _ _ hc
  · try simp only
    split at hc
    · rename_i k' hk; (try simp only [hk]); exact h _ _ _ _ hc
    · rename_i hk; (try simp only [hk]); exact leaveA_le hl hc
  · try simp only
    split at hc
    · rename_i k' hk; (try simp only [hk]); exact h _ _ _ _ hc
    · rename_i hk; (try simp only [hk]); exact leaveA_le hl hc
  · exact leaveA_le hl hc
  · cases hc
  · try simp only
    split at hc
    · rename_i g first caps l mark H2 hev hel
      (try simp only [hev, hel])
      split at hc
      · cases hc
      · rename_i rv H3 hcall
        rw [callF_le hl hcall]
        try simp only
        split at hc
        · rename_i L hL
          (try simp only [hL])
          split at hc
          · cases hc
          · rename_i hcond; rw [if_neg hcond]; exact h _ _ _ _ hc
        · cases hc
    · cases hc

theorem exec_le_succ : ∀ n, ExLe (exec C n) (exec C (n + 1))
  | 0 => fun fr items H x h => by simp [exec] at h
  | n + 1 => stepA_le (exec_le_succ n)

theorem exec_le {n m : Nat} (h : n ≤ m) : ExLe (exec C n) (exec C m) := by
  induction m with
  | zero => have : n = 0 := by omega
            subst this; exact fun _ _ _ _ h => h
  | succ m ih =>
    by_cases e : n = m + 1
    · subst e; exact fun _ _ _ _ h => h
    · exact fun fr items H x hx => exec_le_succ m _ _ _ _ (ih (by omega) fr items H x hx)

theorem cl_le {n m : Nat} (h : n ≤ m) : Le (clMk C (exec C n)) (clMk C (exec C m)) := clMk_le (exec_le h)

end Go.BX
