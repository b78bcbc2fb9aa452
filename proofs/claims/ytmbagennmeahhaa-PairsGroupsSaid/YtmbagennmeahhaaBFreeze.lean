import Derived.Test.YtmbagennmeahhaaBMem5
namespace Go.BX
set_option linter.unusedSimpArgs false
set_option linter.unusedVariables false

/-! # What a pure function hands back lies still -/

variable {C : Ctx} {w : World} {U : Nat → Prop} {ι : Nat → Option Nat}

/-- All that a map reaches, counted among what never changes. -/
def Still (U : Nat → Prop) (ι : Nat → Option Nat) : Nat → Prop := fun c => U c ∨ ∃ b, ι b = some c

theorem freeze1_one {H : AHeap} {d : Nat} {a r : AV} (h : freeze1 H d a = some r) (h1 : a.one = true) : r.one = true := by
  unfold freeze1 at h
  split at h
  · split at h
    · simp only [Option.map_eq_some_iff] at h; obtain ⟨_, _, rfl⟩ := h; rfl
    · cases h
  · split at h
    · cases h; exact h1
    · cases h

theorem freeze1_sound {H : AHeap} (hH : HRel C w U ι H) : ∀ (d : Nat) {a r : AV} {v : Value}, VRel w U ι a v → freeze1 H d a = some r → VRel w (Still U ι) (fun _ => none) r v := by
  have mono : ∀ {a : AV} {v : Value} {ι' : Nat → Option Nat}, VRel w U ι' a v → VRel w (Still U ι) ι' a v := fun hv => hv.mono (fun _ h => .inl h) (fun _ _ => rfl) (fun _ _ h => h) _ (fun _ _ h => h)
  intro d
  induction d with
  | zero =>
    intro a r v hv h
    have : a.flat1 = true ∧ r = a := by
      cases a <;> simp [freeze1] at h <;> first | exact ⟨h.1, h.2.symm⟩ | (simp [AV.flat1] at h; done) | (obtain ⟨h1, rfl⟩ := h; exact ⟨h1, rfl⟩)
    obtain ⟨hf, rfl⟩ := this
    exact mono (hv.flat1 hf _)
  | succ d ih =>
    intro a r v hv h
    by_cases hs : ∃ b k i n, a = .slc b k i n
    · obtain ⟨b, k, i, n, rfl⟩ := hs
      simp only [freeze1] at h
      split at h
      · rename_i es hes
        simp only [Option.map_eq_some_iff] at h
        obtain ⟨fs, hfs, rfl⟩ := h
        obtain ⟨hk, a, cap, vs, hva, hr, h1, hor⟩ := elems_sound hH hv hes
        have hlen := mapO_len hfs
        have hfk : ∀ e, e ∈ fs → e.length = k := by
          intro e he
          obtain ⟨p, hp⟩ := List.getElem?_of_mem he
          obtain ⟨e0, he0, hm⟩ := mapO_get' hfs p e hp
          rw [mapO_len hm]
          exact hk e0 (List.mem_of_getElem? he0)
        cases hv with
        | slc _ _ _ _ c off cap' m t hb ho hn hsh hm =>
          simp only [Value.slice.injEq] at hva
          obtain ⟨rfl, hn', rfl⟩ := hva
          rw [hn', ← hlen]
          rcases hor with ⟨h0, _⟩ | ⟨ad, had, hc⟩
          · cases h0
          · cases had
            refine .vec fs ⟨c, off, none⟩ k cap' (fun p q => vs.getD (p * k + q) undef) (by rw [hlen, ← hn']; exact hn) hfk (fun _ => .inr ⟨b, hb⟩) (fun _ => rfl) (fun p q hp hq => ?_) (fun e he x hx => ?_) (fun p e q x he hx => ?_)
            · have hlt : p * k + q < vs.length := by
                rw [hr.1, flat_len hk]
                have : (p + 1) * k ≤ es.length * k := Nat.mul_le_mul_right _ (by rw [hlen] at hp; exact hp)
                rw [Nat.add_mul] at this; omega
              have := hc (p * k + q) _ (List.getElem?_eq_getElem hlt)
              rw [Addr.add_eq, ← Nat.add_assoc] at this
              rw [this]
              simp [List.getD, List.getElem?_eq_getElem hlt]
            · obtain ⟨p, hp⟩ := List.getElem?_of_mem he
              obtain ⟨e0, he0, hm⟩ := mapO_get' hfs p e hp
              obtain ⟨q, hq⟩ := List.getElem?_of_mem hx
              obtain ⟨x0, hx0, hf0⟩ := mapO_get' hm q x hq
              exact freeze1_one hf0 (h1 x0 (by rw [List.mem_flatten]; exact ⟨e0, List.mem_of_getElem? he0, List.mem_of_getElem? hx0⟩))
            · obtain ⟨e0, he0, hm⟩ := mapO_get' hfs p e he
              obtain ⟨x0, hx0, hf0⟩ := mapO_get' hm q x hx
              have hidx : es.flatten[p * k + q]? = some x0 := by
                have hget : ∀ (es : List (List AV)) (p : Nat) (e0 : List AV), (∀ e, e ∈ es → e.length = k) → es[p]? = some e0 → ∀ (q : Nat) (x0 : AV), e0[q]? = some x0 → es.flatten[p * k + q]? = some x0 := by
                  intro es
                  induction es with
                  | nil => intro p e0 _ h; simp at h
                  | cons y es ih =>
                    intro p e0 hk he j a ha
                    have hx : y.length = k := hk y (by simp)
                    cases p with
                    | zero =>
                      simp at he; subst he
                      have hj : j < y.length := (List.getElem?_eq_some_iff.mp ha).1
                      simp only [List.flatten_cons, Nat.zero_mul, Nat.zero_add]
                      rw [List.getElem?_append_left hj]; exact ha
                    | succ i =>
                      simp at he
                      have := ih i e0 (fun e he => hk e (by simp [he])) he j a ha
                      simp only [List.flatten_cons]
                      rw [List.getElem?_append_right (by rw [hx, Nat.add_mul]; omega), hx]
                      rw [show (i + 1) * k + j - k = i * k + j from by rw [Nat.add_mul]; omega]
                      exact this
                exact hget es p e0 hk he0 q x0 hx0
              obtain ⟨u, hu, hur⟩ := hr.get hidx
              have : vs.getD (p * k + q) undef = u := by simp [List.getD, hu]
              rw [this]
              exact ih hur hf0
      · cases h
    · have : a.flat1 = true ∧ r = a := by
        cases a <;> first | (exact absurd ⟨_, _, _, _, rfl⟩ hs) | (simp [freeze1] at h; first | (obtain ⟨h1, rfl⟩ := h; exact ⟨h1, rfl⟩) | (simp [AV.flat1] at h; done))
      obtain ⟨hf, rfl⟩ := this
      exact mono (hv.flat1 hf _)

theorem freeze2_sound {H : AHeap} (hH : HRel C w U ι H) {a r : AV} {v : Value} (hv : VRel w U ι a v) (h : freeze2 H a = some r) : VRel w (Still U ι) (fun _ => none) r v := by
  have mono : ∀ {a : AV} {v : Value} {ι' : Nat → Option Nat}, VRel w U ι' a v → VRel w (Still U ι) ι' a v := fun hv => hv.mono (fun _ h => .inl h) (fun _ _ => rfl) (fun _ _ h => h) _ (fun _ _ h => h)
  unfold freeze2 at h
  split at h
  · rename_i cs
    simp only [Option.map_eq_some_iff] at h
    obtain ⟨ds, hds, rfl⟩ := h
    cases hv with
    | agg _ vs hl h1 hr =>
      refine .agg ds vs (by rw [hl, mapO_len hds]) (fun a ha => ?_) (fun i a v ha hv => ?_)
      · obtain ⟨p, hp⟩ := List.getElem?_of_mem ha
        obtain ⟨a0, ha0, hf⟩ := mapO_get' hds p a hp
        exact freeze1_one hf (h1 a0 (List.mem_of_getElem? ha0))
      · obtain ⟨a0, ha0, hf⟩ := mapO_get' hds i a ha
        exact freeze1_sound hH 4 (hr i a0 v ha0 hv) hf
  · split at h
    · rename_i hf
      cases h
      exact mono (hv.flat2 hf _)
    · cases h
  · exact freeze1_sound hH 4 hv h

theorem freeze_sound {H : AHeap} (hH : HRel C w U ι H) {a r : AV} {v : Value} (hv : VRel w U ι a v) (h : freeze H a = some r) : VRel w (Still U ι) (fun _ => none) r v := by
  unfold freeze at h
  split at h
  · simp only [Option.map_eq_some_iff] at h
    obtain ⟨ds, hds, rfl⟩ := h
    cases hv with
    | tuple _ vs hl hr =>
      refine .tuple ds vs (by rw [hl, mapO_len hds]) (fun i a v ha hv => ?_)
      obtain ⟨a0, ha0, hf⟩ := mapO_get' hds i a ha
      exact freeze2_sound hH (hr i a0 v ha0 hv) hf
  · exact freeze2_sound hH hv h

end Go.BX
