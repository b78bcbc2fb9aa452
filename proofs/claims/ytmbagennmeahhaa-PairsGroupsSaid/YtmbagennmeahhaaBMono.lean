import Derived.Test.YtmbagennmeahhaaBCtl
namespace Go.BX
set_option linter.unusedSimpArgs false
set_option linter.unusedVariables false

structure ExtOk (C : Ctx) : Prop where
  mono : ∀ f g args H r H', C.ext f = some g → g args H = some (r, H') → H.next ≤ H'.next
  sound : ∀ f g args H r H', C.ext f = some g → g args H = some (r, H') → ∀ w U ι vs, HRel C w U ι H → LsRel w U ι args vs → InvN C.P f vs w (Post C w U ι H H' r)

variable {C : Ctx}

def ExMono (ex : AFr → List AItem → AHeap → Option (AV × AHeap)) : Prop := ∀ fr items H r H', ex fr items H = some (r, H') → H.next ≤ H'.next

theorem clMk_mono (hx : ExtOk C) {ex : AFr → List AItem → AHeap → Option (AV × AHeap)} (h : ExMono ex) : NextMono (clMk C ex) where
  call := fun f args H r H' hc => by
    simp only [clMk] at hc
    split at hc
    · rename_i g hg; exact hx.mono f g args H r H' hg hc
    · split at hc
      · exact h _ _ _ _ _ hc
      · cases hc
  round := fun l args H r H' hc => by
    simp only [clMk] at hc
    split at hc
    · split at hc
      · exact h _ _ _ _ _ hc
      · cases hc
    · cases hc

theorem runOps_mono {cl : Cl} (hn : NextMono cl) {ir : Bool} : ∀ {aos : List AO} {T T' : Nat → AV} {as as' : List ADef} {H H' : AHeap}, runOps C cl ir aos T as H = some (T', as', H') → H.next ≤ H'.next := by
  intro aos
  induction aos with
  | nil => intro T T' as as' H H' h; simp only [runOps, Option.some.injEq, Prod.mk.injEq] at h; obtain ⟨_, _, rfl⟩ := h; exact Nat.le_refl _
  | cons o aos ih =>
    intro T T' as as' H H' h
    simp only [runOps] at h
    split at h
    · rename_i v ds' H1 hr
      exact Nat.le_trans (opRes_abs hn hr).1 (ih h)
    · cases h

theorem runDefers_mono {cl : Cl} (hn : NextMono cl) : ∀ {as : List ADef} {H H' : AHeap}, runDefers C cl as H = some H' → H.next ≤ H'.next := by
  intro as
  induction as with
  | nil => intro H H' h; simp only [runDefers, Option.some.injEq] at h; subst h; exact Nat.le_refl _
  | cons a as ih =>
    intro H H' h
    cases a with
    | collected b =>
      simp only [runDefers] at h
      split at h
      · have := ih h; simpa [AHeap.set] using this
      · cases h
    | call v args =>
      cases v with
      | fn f first caps =>
        simp only [runDefers] at h
        split at h
        · cases h
        · split at h
          · rename_i hc; exact Nat.le_trans (hn.call _ _ _ _ _ hc) (ih h)
          · cases h
      | _ => simp [runDefers] at h

theorem callF_mono {cl : Cl} (hn : NextMono cl) {f : FuncId} {args : List AV} {H H' : AHeap} {r : AV} (h : callF C cl f args H = some (r, H')) : H.next ≤ H'.next := by
  unfold callF at h
  split at h
  · split at h
    · split at h
      · simp only [Option.map_eq_some_iff] at h
        obtain ⟨_, _, he⟩ := h
        cases he
        exact Nat.le_refl _
      · cases h
    · split at h
      · split at h
        · split at h
          · split at h
            · cases h; exact Nat.le_refl _
            · simp only [Option.map_eq_some_iff] at h
              obtain ⟨_, _, he⟩ := h
              cases he
              exact Nat.le_refl _
          · cases h
        · cases h
      · cases h
  · exact hn.call _ _ _ _ _ h

theorem leaveA_mono {cl : Cl} (hn : NextMono cl) {fr : AFr} {jump : Option AC} {H H' : AHeap} {r : AV} (h : leaveA C cl fr jump H = some (r, H')) : H.next ≤ H'.next := by
  unfold leaveA at h
  split at h
  · split at h
    · split at h
      · rename_i H1 hd
        split at h
        · simp only [Option.map_eq_some_iff] at h
          obtain ⟨_, _, he⟩ := h
          cases he
          exact runDefers_mono hn hd
        · cases h
      · cases h
    · cases h
  · split at h
    · cases h; exact Nat.le_refl _
    · cases h

theorem enterLoopA_mono {fr : AFr} {ps : List Nat} {a b : AC} {H H' : AHeap} {l : Nat} {m : List ADef} (h : enterLoopA fr ps a b H = some (l, m, H')) : H.next ≤ H'.next := by
  unfold enterLoopA at h
  split at h
  · cases h; simp only [AHeap.push]; omega
  · split at h
    · cases h; simp only [AHeap.push]; omega
    · cases h

theorem stepA_mono (hx : ExtOk C) {ex : AFr → List AItem → AHeap → Option (AV × AHeap)} (he : ExMono ex) : ExMono (stepA C ex) := by
  intro fr items H r H' h
  have hn := clMk_mono hx he
  unfold stepA at h
  split at h
  · exact leaveA_mono hn h
  · exact he _ _ _ _ _ h
  · exact he _ _ _ _ _ h
  · exact he _ _ _ _ _ h
  · split at h
    · split at h
      · split at h
        · have := he _ _ _ _ _ h; simpa [AHeap.set] using this
        · cases h
      · cases h
    · cases h
  · exact he _ _ _ _ _ h
  · exact he _ _ _ _ _ h
  · split at h
    · rename_i hr
      split at h
      · exact Nat.le_trans (runOps_mono hn hr) (he _ _ _ _ _ h)
      · cases h
    · cases h
  · exact he _ _ _ _ _ h
  · split at h
    · exact he _ _ _ _ _ h
    · cases h
  · exact he _ _ _ _ _ h
  · exact he _ _ _ _ _ h
  · exact he _ _ _ _ _ h
  · split at h
    · exact he _ _ _ _ _ h
    · exact leaveA_mono hn h
  · split at h
    · exact he _ _ _ _ _ h
    · exact leaveA_mono hn h
  · exact leaveA_mono hn h
  · cases h
  · split at h
    · rename_i hel
      have h1 := enterLoopA_mono hel
      split at h
      · cases h
      · rename_i hc
        have h2 := callF_mono hn hc
        split at h
        · split at h
          · cases h
          · have := he _ _ _ _ _ h
            simp only [AHeap.set] at this
            omega
        · cases h
    · cases h

theorem exec_mono (hx : ExtOk C) : ∀ n, ExMono (exec C n)
  | 0 => fun fr items H r H' h => by simp [exec] at h
  | n + 1 => stepA_mono hx (exec_mono hx n)

end Go.BX
