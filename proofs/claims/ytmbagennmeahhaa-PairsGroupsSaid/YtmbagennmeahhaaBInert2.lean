import Derived.Test.YtmbagennmeahhaaBInert
namespace Go.BX

variable {C : Ctx} {w : World} {U : Nat → Prop} {ι : Nat → Option Nat}

/-! ## Filling -/

theorem zip_fold (off : Nat) : ∀ (l : List Value) (n : Nat) (cs : Array Value), off + n + l.length ≤ cs.size →
    ((l.zipIdx n).foldl (fun (cs : Array Value) (p : Value × Nat) => cs.setIfInBounds (off + p.2) p.1) cs).toList = cs.toList.take (off + n) ++ l ++ cs.toList.drop (off + n + l.length)
  | [], n, cs, _ => by simp
  | x :: l, n, cs, h => by
    simp only [List.zipIdx_cons, List.foldl_cons]
    rw [zip_fold off l (n + 1) _ (by simp at h ⊢; omega)]
    have := list_seg_step cs.toList (off + n) x l (by simp at h ⊢; omega)
    simpa [Array.toList_setIfInBounds, Nat.add_assoc] using this

theorem zip_fold0 (off : Nat) (l : Array Value) (cs : Array Value) (h : off + l.size ≤ cs.size) :
    l.zipIdx.foldl (fun (cs : Array Value) (p : Value × Nat) => cs.setIfInBounds (off + p.2) p.1) cs = (cs.toList.take off ++ l.toList ++ cs.toList.drop (off + l.size)).toArray := by
  apply Array.ext'
  rw [← Array.foldl_toList, Array.toList_zipIdx]
  have := zip_fold off l.toList 0 cs (by simpa using h)
  simpa using this

theorem splice_rel {cs ds : List AV} {vs us : List Value} {off : Nat} (h : LsRel w U ι cs vs) (h' : LsRel w U ι ds us) :
    LsRel w U ι (splice cs off ds) (vs.take off ++ us ++ vs.drop (off + us.length)) := by
  unfold splice
  rw [h'.1]
  exact ((h.take off).append h').append (h.drop _)

theorem splice_one {cs ds : List AV} {off : Nat} (h : ∀ a, a ∈ cs → a.one = true) (h' : ∀ a, a ∈ ds → a.one = true) : ∀ a, a ∈ splice cs off ds → a.one = true := by
  intro a ha
  unfold splice at ha
  simp only [List.mem_append] at ha
  rcases ha with (ha | ha) | ha
  · exact h a (List.mem_of_mem_take ha)
  · exact h' a ha
  · exact h a (List.mem_of_mem_drop ha)

theorem splice_len {cs ds : List AV} {off : Nat} (h : off + ds.length ≤ cs.length) : (splice cs off ds).length = cs.length := by
  unfold splice; simp; omega

theorem fill_sound {pa pc : Nat → Option (Nat × Nat)} (hp : ∀ i p, pa i = some p → pc i = some p) : ∀ {ps : List (Nat × AV)} {us : List (Nat × Value)} {cs r : List AV} {vs : List Value},
    us.length = ps.length → (∀ (i : Nat) (p : Nat × AV) (u : Nat × Value), ps[i]? = some p → us[i]? = some u → p.1 = u.1 ∧ VRel w U ι p.2 u.2) →
    LsRel w U ι cs vs → (∀ a, a ∈ cs → a.one = true) → fillA pa cs ps = some r →
      ∃ xs, Instr.fill pc vs.toArray us = some xs.toArray ∧ LsRel w U ι r xs ∧ (∀ a, a ∈ r → a.one = true) ∧ r.length = cs.length
  | [], us, cs, r, vs, hl, _, hv, h1, h => by
    have : us = [] := List.eq_nil_of_length_eq_zero (by simpa using hl)
    subst this
    simp only [fillA, Option.some.injEq] at h
    subst h
    exact ⟨vs, rfl, hv, h1, rfl⟩
  | (i, a) :: ps, [], cs, r, vs, hl, _, _, _, _ => by simp at hl
  | (i, a) :: ps, (j, u) :: us, cs, r, vs, hl, hr, hv, h1, h => by
    obtain ⟨hij, hau⟩ := hr 0 (i, a) (j, u) rfl rfl
    simp only at hij hau
    subst hij
    simp only [fillA] at h
    split at h
    · cases h
    · rename_i off size hpl
      split at h
      · rename_i hc
        obtain ⟨hpla, hsz, hle⟩ := hc
        obtain ⟨hcr, hco⟩ := hau.cells_rel hpla
        have hus : u.cells.size = size := by rw [← hsz, ← hcr.1]; simp
        have hvs : vs.length = cs.length := hv.1
        have hspl := splice_rel (off := off) hv hcr
        have hlen : off + a.cells.length ≤ cs.length := by omega
        obtain ⟨xs, hx, hxr, hxo, hxl⟩ := fill_sound hp (us := us) (by simpa using hl) (fun k p q hp hq => hr (k + 1) p q hp hq) hspl (splice_one h1 hco) h
        refine ⟨xs, ?_, hxr, hxo, by rw [hxl, splice_len hlen]⟩
        simp only [Instr.fill, hp i _ hpl]
        rw [if_neg (by simp [hus]; omega), zip_fold0 off u.cells _ (by simp [hus]; omega)]
        simpa using hx
      · cases h

theorem run_mapM {α β : Type} {P : Program} {f : α → Sem β} {g : α → β} : ∀ {l : List α}, (∀ x, x ∈ l → (f x).run P w = .ok (g x) w) → (l.mapM f).run P w = .ok (l.map g) w
  | [], _ => by simp
  | x :: l, h => by
    rw [List.mapM_cons]
    simp [h x (by simp), run_mapM (l := l) (fun y hy => h y (by simp [hy]))]

theorem build_sound (hC : TOk C) {t : TypeId} {ps : List (Nat × AV)} {us : List (Nat × Value)} {r : AV}
    (hl : us.length = ps.length) (hr : ∀ (i : Nat) (p : Nat × AV) (u : Nat × Value), ps[i]? = some p → us[i]? = some u → p.1 = u.1 ∧ VRel w U ι p.2 u.2)
    (h : buildA C t ps = some r) : ∃ v, (Instr.build t us.toArray).run C.P w = .ok v w ∧ VRel w U ι r v := by
  unfold buildA at h
  split at h
  · cases h
  · rename_i ti hti
    have hok := hC.tt t ti hti
    have hk := hok.kind
    obtain ⟨z, hz, hzm, hzs⟩ := hok.run_zero (w := w)
    have hzr : LsRel w U ι ti.zero z.cells.toList := LsRel.ofConsts hzm
    unfold KOk at hk
    split at h
    · rename_i fields e
      rw [e] at hk
      obtain ⟨fl, hu, rfl, hfl⟩ := hk
      simp only [Option.map_eq_some_iff] at h
      obtain ⟨cs, hcs, rfl⟩ := h
      let g : Field → Nat × Nat := fun f => (f.offset, (C.P.cellsOf f.type))
      have hg : ∀ f, f ∈ fl.toList → (do pure (f.offset, ← sizeOf f.type) : Sem (Nat × Nat)).run C.P w = .ok (g f) w := by
        intro f hf
        obtain ⟨tf, htf, _, _⟩ := hfl f hf
        obtain ⟨i, hi, hs, _⟩ := (hC.tt _ _ htf).info
        simp [g, sizeOf, typeInfo, hi, Program.cellsOf]
      have hpl : ∀ (i : Nat) (p : Nat × Nat), ((fl.toList.map (fun f => (f.type, f.offset)))[i]?).bind (fun (f : TypeId × Nat) => (sizeT C f.1).map fun s => (f.2, s)) = some p → (fl.map g)[i]? = some p := by
        intro i p hp
        rw [List.getElem?_map] at hp
        cases hfi : fl.toList[i]? with
        | none => rw [hfi] at hp; simp at hp
        | some f =>
          rw [hfi] at hp
          obtain ⟨tf, htf, _, _⟩ := hfl f (List.mem_of_getElem? hfi)
          obtain ⟨inf, hi, hs, _⟩ := (hC.tt _ _ htf).info
          simp only [Option.map_some, Option.bind_some, sizeT, htf, Option.some.injEq] at hp
          subst hp
          have : fl[i]? = some f := by rw [← Array.getElem?_toList]; exact hfi
          simp [this, g, Program.cellsOf, hi, hs]
      obtain ⟨xs, hx, hxr, hxo, _⟩ := fill_sound (pc := fun i => (fl.map g)[i]?) hpl hl hr hzr hok.zero_one hcs
      refine ⟨.agg xs.toArray, ?_, .agg _ _ hxr.1 hxo hxr.2⟩
      unfold Instr.build
      simp only [Sem.run_bind, hz, run_underlying hu, Result.andThen_ok]
      have hm : (fl.mapM fun f => (do pure (f.offset, ← sizeOf f.type) : Sem (Nat × Nat))).run C.P w = .ok (fl.map g) w := by
        rw [Array.mapM_eq_mapM_toList]
        simp only [Sem.run_map, run_mapM hg, Result.andThen_ok]
        congr 1
        apply Array.ext'
        simp
      simp only [hm, Result.andThen_ok]
      have e2 : z.cells = z.cells.toList.toArray := by simp
      rw [e2, hx]
      rfl
    · rename_i n el e
      rw [e] at hk
      obtain ⟨hu, te, hte, _, _⟩ := hk
      simp only [sizeT, hte, Option.map_some] at h
      simp only [Option.map_eq_some_iff] at h
      obtain ⟨cs, hcs, rfl⟩ := h
      obtain ⟨xs, hx, hxr, hxo, _⟩ := fill_sound (pc := fun i => some (i * te.size, te.size)) (fun i p hp => hp) hl hr hzr hok.zero_one hcs
      refine ⟨.agg xs.toArray, ?_, .agg _ _ hxr.1 hxo hxr.2⟩
      unfold Instr.build
      simp only [Sem.run_bind, hz, run_underlying hu, Result.andThen_ok, (hC.tt _ _ hte).run_sizeOf]
      have e2 : z.cells = z.cells.toList.toArray := by simp
      rw [e2, hx]
      rfl
    · cases h

/-! ## Slicing, addresses -/

theorem bound_sound {b : AV} {v : Value} {y n : Nat} {code : BoundsCode} (hb : VRel w U ι b v) {y' : Nat} (hy : y ≤ y') (h : bound b y = some n) : (Instr.sliceBound v y' code).run C.P w = .ok n w ∧ n ≤ y := by
  unfold bound at h
  cases hb with
  | int k m =>
    simp only at h
    split at h
    · rename_i hm
      cases h
      refine ⟨?_, by omega⟩
      have : 0 ≤ m ∧ m ≤ (y' : Int) := by omega
      simp [Instr.sliceBound, asIntOf, this]
    · cases h
  | _ => simp at h

/-- Optional bounds. -/
def ORel (w : World) (U : Nat → Prop) (ι : Nat → Option Nat) : Option AV → Option Value → Prop
  | none, none => True
  | some a, some v => VRel w U ι a v
  | _, _ => False

theorem evo_sound {T : Nat → AV} {a : Act} (hT : TRel w U ι T a.tmps) {x : Option Operand} {b : Option AV} (h : evo T x = some b) : ORel w U ι b (x.map a.eval) := by
  unfold evo at h
  split at h
  · cases h; trivial
  · split at h
    · rename_i hv; cases h; exact ev_sound hT hv
    · cases h

/-- The bounds of a slice expression without a third index. -/
theorem bounds_sound {lo hi : Option AV} {vlo vhi : Option Value} (hlo : ORel w U ι lo vlo) (hhi : ORel w U ι hi vhi) {isS : Bool} {n cap h l : Nat} (hn : n ≤ cap)
    (eh : (match (generalizing := false) hi with | some h => bound h n | none => some n) = some h) (el : (match (generalizing := false) lo with | some l => bound l h | none => some 0) = some l) :
    (Instr.sliceBounds isS n cap vlo vhi none).run C.P w = .ok (l, h, cap) w ∧ l ≤ h ∧ h ≤ n := by
  have hh : (match (generalizing := false) vhi with | some v => Instr.sliceBound v cap (if isS then .sliceAcap else .sliceAlen) | none => pure n : Sem Nat).run C.P w = .ok h w ∧ h ≤ n := by
    cases hi <;> cases vhi <;> simp only [ORel] at hhi
    · simp only [Option.some.injEq] at eh; subst eh; exact ⟨by simp, Nat.le_refl _⟩
    · exact bound_sound hhi hn eh
  have hl : (match (generalizing := false) vlo with | some v => Instr.sliceBound v h (if (none : Option Value).isSome then .slice3C else .sliceB) | none => pure 0 : Sem Nat).run C.P w = .ok l w ∧ l ≤ h := by
    cases lo <;> cases vlo <;> simp only [ORel] at hlo
    · simp only [Option.some.injEq] at el; subst el; exact ⟨by simp, Nat.zero_le _⟩
    · exact bound_sound hlo (Nat.le_refl _) el
  refine ⟨?_, hl.2, hh.2⟩
  unfold Instr.sliceBounds
  cases vhi <;> cases vlo <;> simp at hh hl ⊢ <;> simp [hh.1, hl.1]

end Go.BX
