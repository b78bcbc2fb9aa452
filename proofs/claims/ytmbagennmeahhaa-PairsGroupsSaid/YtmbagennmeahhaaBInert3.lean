import Derived.Test.YtmbagennmeahhaaBInert2
import Derived.Laws.Strings2
namespace Go.BX

variable {C : Ctx} {w : World} {U : Nat → Prop} {ι : Nat → Option Nat}

theorem bnds_sound {lo hi : Option AV} {vlo vhi : Option Value} (hlo : ORel w U ι lo vlo) (hhi : ORel w U ι hi vhi) {isS : Bool} {n cap : Nat} {p : Nat × Nat} (hn : n ≤ cap) (h : bnds lo hi n = some p) :
    (Instr.sliceBounds isS n cap vlo vhi none).run C.P w = .ok (p.1, p.2, cap) w ∧ p.1 ≤ p.2 ∧ p.2 ≤ n := by
  unfold bnds at h
  split at h
  · cases h
  · rename_i hh ehh
    split at h
    · cases h
    · rename_i l el
      cases h
      exact bounds_sound hlo hhi hn ehh el

theorem sizeT_run (hC : TOk C) {t : TypeId} {k : Nat} (h : sizeT C t = some k) : (sizeOf t).run C.P w = .ok k w := by
  unfold sizeT at h
  simp only [Option.map_eq_some_iff] at h
  obtain ⟨ti, hti, rfl⟩ := h
  exact (hC.tt _ _ hti).run_sizeOf

theorem Addr.add_eq (c off n : Nat) : (⟨c, off, none⟩ : Addr).add n = ⟨c, off + n, none⟩ := by
  unfold Addr.add; split <;> simp_all

theorem Addr.add_none {a : Addr} (n : Nat) (h : a.spot = none) : a.add n = ⟨a.block, a.off + n, none⟩ := by
  cases a; simp at h; subst h; exact Addr.add_eq _ _ _

theorem vec_slice {k : Nat} {es : List (List AV)} {a : Addr} {cap : Nat} (hv : VRel w U ι (.vec k es) (.slice (some a) es.length cap)) {l h : Nat} (hlh : l ≤ h) (hh : h ≤ es.length) (b : Addr) (cap' : Nat) (hcap' : h - l ≤ cap')
    (hb : l < h → b = a.add (l * k)) : VRel w U ι (.vec k ((es.take h).drop l)) (.slice (some b) (h - l) cap') := by
  cases hv with
  | vec _ _ _ _ ys hcap hk hU hs hc h1 hr =>
    have hlen : ((es.take h).drop l).length = h - l := by simp; omega
    rw [show h - l = ((es.take h).drop l).length from hlen.symm]
    have hget : ∀ (i : Nat) (e : List AV), ((es.take h).drop l)[i]? = some e → es[l + i]? = some e := by
      intro i e he
      rw [List.getElem?_drop, List.getElem?_take] at he
      split at he
      · exact he
      · cases he
    have hmem : ∀ e, e ∈ (es.take h).drop l → e ∈ es := fun e he => List.mem_of_mem_take (List.mem_of_mem_drop he)
    have hne : (es.take h).drop l ≠ [] → l < h := by
      intro hne
      rcases Nat.lt_or_ge l h with h' | h'
      · exact h'
      · exact absurd (List.eq_nil_of_length_eq_zero (by rw [hlen]; omega)) hne
    have hesne : l < h → es ≠ [] := by rintro hl rfl; simp at hh; omega
    refine .vec _ b k cap' (fun i j => ys (l + i) j) (by rw [hlen]; exact hcap') (fun e he => hk e (hmem e he)) (fun h' => ?_) (fun h' => ?_) (fun i j hi hj => ?_) (fun e he => h1 e (hmem e he)) (fun i e j x he hx => hr (l + i) e j x (hget i e he) hx)
    · rw [hb (hne h'), Addr.add_none _ (hs (hesne (hne h')))]; exact hU (hesne (hne h'))
    · rw [hb (hne h'), Addr.add_none _ (hs (hesne (hne h')))]
    · rw [hlen] at hi
      have hl : l < h := by omega
      have hba := hb hl
      rw [Addr.add_none _ (hs (hesne hl))] at hba
      subst hba
      have := hc (l + i) j (by omega) hj
      simpa [Nat.add_mul, Nat.add_assoc] using this

theorem slice_sound (hC : TOk C) {t : TypeId} {x r : AV} {v : Value} {lo hi mx : Option AV} {vlo vhi vmx : Option Value} (hx : VRel w U ι x v) (hlo : ORel w U ι lo vlo) (hhi : ORel w U ι hi vhi) (hmx : ORel w U ι mx vmx)
    (h : sliceA C t x lo hi mx = some r) : ∃ u, (Instr.sliceAt t v vlo vhi vmx).run C.P w = .ok u w ∧ VRel w U ι r u := by
  unfold sliceA at h
  split at h
  · -- a string
    rename_i sz by_ zr eq hti
    have hk := (hC.tt _ _ hti).kind
    simp only [KOk] at hk
    cases vmx with
    | some _ => simp [ORel] at hmx
    | none =>
      split at h
      · rename_i s
        simp only [Option.map_eq_some_iff] at h
        obtain ⟨p, hp, rfl⟩ := h
        cases hx with
        | str _ b hb =>
          subst hb
          obtain ⟨hr, hle, hle'⟩ := bnds_sound (C := C) (isS := false) (cap := b.size) hlo hhi (by simp) hp
          refine ⟨.string (b.extract p.1 p.2), ?_, .str _ _ ?_⟩
          · unfold Instr.sliceAt
            simp only [Sem.run_bind, run_underlying hk.1, Result.andThen_ok]
            unfold Instr.slice
            simp only [Sem.run_bind, run_underlying hk.1, Result.andThen_ok]
            have hsz : b.data.toList.length = b.size := by simp
            rw [hsz] at hr
            simp [hr]
          · rw [ByteArray.data_extract, Array.toList_extract, List.extract_eq_take_drop, List.drop_take]
      · cases h
  · -- a slice
    rename_i elem sz by_ zr eq hti
    have hk := (hC.tt _ _ hti).kind
    simp only [KOk] at hk
    cases vmx with
    | some _ => simp [ORel] at hmx
    | none =>
      have main : ∀ (a : Option Addr) (len cap : Nat) (p : Nat × Nat), v = .slice a len cap → len ≤ cap → bnds lo hi len = some p → ∀ (k : Nat), (p.1 ≠ cap → (sizeOf elem).run C.P w = .ok k w) → (∃ k', (sizeOf elem).run C.P w = .ok k' w) →
          (Instr.sliceAt t v vlo vhi none).run C.P w = .ok (.slice (if cap = p.1 then a else a.map (·.add (p.1 * k))) (p.2 - p.1) (cap - p.1)) w ∧ p.1 ≤ p.2 ∧ p.2 ≤ len := by
        intro a len cap p hv hle hp k hsz hsz'
        obtain ⟨hr, h1, h2⟩ := bnds_sound (C := C) (isS := true) (cap := cap) hlo hhi hle hp
        refine ⟨?_, h1, h2⟩
        subst hv
        unfold Instr.sliceAt
        simp only [Sem.run_bind, run_underlying hk.1, Result.andThen_ok]
        unfold Instr.slice
        simp only [Sem.run_bind, run_underlying hk.1, Result.andThen_ok, hr]
        obtain ⟨k', hk'⟩ := hsz'
        simp only [hk', Result.andThen_ok, Sem.run_pure]
        by_cases e : cap = p.1
        · simp [e]
        · have := hsz (fun h => e h.symm)
          rw [hk'] at this
          cases this
          simp [e]
      split at h
      · rename_i k es
        split at h
        · rename_i hsz
          have hrun := sizeT_run (w := w) hC hsz
          simp only [Option.map_eq_some_iff] at h
          obtain ⟨p, hp, rfl⟩ := h
          have hx' := hx
          cases hx with
          | vec _ a _ cap ys hcap hkk hU hs hc h1 hr =>
            obtain ⟨hr, hle, hle'⟩ := main (some a) es.length cap p rfl hcap hp k (fun _ => hrun) ⟨k, hrun⟩
            refine ⟨_, hr, ?_⟩
            by_cases e : cap = p.1
            · simp only [e, if_true]
              exact vec_slice hx' hle hle' a _ (by omega) (fun hl => by omega)
            · simp only [e, if_false, Option.map_some]
              exact vec_slice hx' hle hle' _ _ (by omega) (fun _ => rfl)
        · cases h
      · rename_i b k i n
        split at h
        · rename_i hsz
          have hrun := sizeT_run (w := w) hC hsz
          simp only [Option.map_eq_some_iff] at h
          obtain ⟨p, hp, rfl⟩ := h
          cases hx with
          | slc _ _ _ _ c off cap m tt hb ho hn hs hm =>
            obtain ⟨hr, hle, hle'⟩ := main (some ⟨c, off, none⟩) n cap p rfl hn hp k (fun _ => hrun) ⟨k, hrun⟩
            refine ⟨_, hr, ?_⟩
            by_cases e : cap = p.1
            · simp only [e, if_true]
              have h0 : p.2 - p.1 = 0 := by omega
              rw [h0]
              refine .slc b k _ 0 c off _ m tt hb (fun hh => ?_) (by omega) hs (by simp; omega)
              rcases hh with hh | hh
              · exact absurd rfl hh
              · have : i = 0 ∧ p.1 = 0 := by omega
                rw [this.1, this.2]
                have := ho (.inr this.1)
                rw [this, ‹i = 0 ∧ p.1 = 0›.1]
            · simp only [e, if_false, Option.map_some, Addr.add_eq]
              have hlt : p.1 < cap := by omega
              refine .slc b k _ _ c _ _ m tt hb (fun hh => ?_) (by omega) hs ?_
              · rcases hh with hh | hh
                · rw [ho (.inl (by omega)), Nat.add_mul]
                · have : i = 0 ∧ p.1 = 0 := by omega
                  rw [ho (.inr this.1), this.1, this.2]; simp
              · have : cap * k = p.1 * k + (cap - p.1) * k := by rw [← Nat.add_mul]; congr 1; omega
                omega
        · cases h
      · simp only [Option.map_eq_some_iff] at h
        obtain ⟨p, hp, rfl⟩ := h
        cases hx
        have hsz' : ∃ k', (sizeOf elem).run C.P w = .ok k' w := by obtain ⟨te, hte⟩ := hk.2.2; exact ⟨_, (hC.tt _ _ hte).run_sizeOf⟩
        obtain ⟨hr, hle, hle'⟩ := main none 0 0 p rfl (Nat.le_refl _) hp 0 (fun hne => by
          obtain ⟨_, h1, h2⟩ := bnds_sound (C := C) (w := w) (isS := true) (cap := 0) hlo hhi (Nat.le_refl _) hp
          omega) hsz'
        refine ⟨_, hr, ?_⟩
        have h0 : p.1 = 0 ∧ p.2 = 0 := by omega
        simp [h0]
        exact .nilS
      · simp only [Option.map_eq_some_iff] at h
        obtain ⟨p, hp, rfl⟩ := h
        cases hx with
        | emp a =>
          have hsz' : ∃ k', (sizeOf elem).run C.P w = .ok k' w := by obtain ⟨te, hte⟩ := hk.2.2; exact ⟨_, (hC.tt _ _ hte).run_sizeOf⟩
          obtain ⟨hr, hle, hle'⟩ := main (some a) 0 0 p rfl (Nat.le_refl _) hp 0 (fun hne => by
            obtain ⟨_, h1, h2⟩ := bnds_sound (C := C) (w := w) (isS := true) (cap := 0) hlo hhi (Nat.le_refl _) hp
            omega) hsz'
          refine ⟨_, hr, ?_⟩
          have h0 : p.1 = 0 ∧ p.2 = 0 := by omega
          simp [h0]
          exact .emp a
      · cases h
  · rename_i elem sz by_ zr eq k0 hti
    have hk := (hC.tt _ _ hti).kind
    simp only [KOk] at hk
    obtain ⟨te, hte⟩ := hk.2.2
    have hsz := (hC.tt _ _ hte).run_sizeOf (w := w)
    cases vmx with
    | none => simp [ORel] at hmx
    | some m0 =>
      simp only [ORel] at hmx
      cases hmx
      split at h
      · rename_i k1
        cases vlo with
        | some _ => simp [ORel] at hlo
        | none =>
          cases vhi with
          | none => simp [ORel] at hhi
          | some h0 =>
            simp only [ORel] at hhi
            cases hhi
            have run : ∀ (a : Option Addr) (n cap : Nat), (Instr.sliceAt t (.slice a n cap) none (some (.int k1 0)) (some (.int k0 0))).run C.P w = .ok (.slice a 0 0) w := by
              intro a n cap
              unfold Instr.sliceAt
              simp only [Sem.run_bind, run_underlying hk.1, Result.andThen_ok]
              unfold Instr.slice
              simp only [Sem.run_bind, run_underlying hk.1, Result.andThen_ok]
              simp [Instr.sliceBounds, Instr.sliceBound, asIntOf, hsz]
            split at h
            · cases h; cases hx; exact ⟨_, run _ _ _, .nilS⟩
            · cases h
              cases hx with
              | vec _ a => exact ⟨_, run _ _ _, .emp a⟩
            · cases h
              cases hx with
              | emp a => exact ⟨_, run _ _ _, .emp a⟩
            · cases h
              cases hx with
              | slc => exact ⟨_, run _ _ _, .emp _⟩
            · cases h
      · cases h
  · cases h

theorem indexAddr_sound (hC : TOk C) {t : TypeId} {x ix r : AV} {v u : Value} (hx : VRel w U ι x v) (hi : VRel w U ι ix u) (h : indexAddrA C t x ix = some r) :
    ∃ z, (Instr.indexAt t v u).run C.P w = .ok z w ∧ VRel w U ι r z := by
  unfold indexAddrA at h
  split at h
  · rename_i elem sz by_ zr eq kk n hti
    have hk := (hC.tt _ _ hti).kind
    simp only [KOk] at hk
    cases hi
    split at h
    · rename_i b k i m
      split at h
      · rename_i hc
        obtain ⟨hsz, h0, h1⟩ := hc
        cases h
        have hrun := sizeT_run (w := w) hC hsz
        cases hx with
        | slc _ _ _ _ c off cap mm tt hb ho hn hs hm =>
          have hoff := ho (.inl (by omega))
          refine ⟨.pointer (some ⟨c, (i + n.toNat) * k + 0, none⟩), ?_, .ptr _ _ _ _ _ hb⟩
          unfold Instr.indexAt
          simp only [asIntOf, Sem.run_pure, Sem.run_bind, run_underlying hk.1, Result.andThen_ok]
          have hc2 : 0 ≤ n ∧ n < (m : Int) := ⟨h0, h1⟩
          simp [hc2, hrun, Addr.add_eq, hoff, Nat.add_mul]
      · cases h
    · rename_i k es
      split at h
      · rename_i hc
        obtain ⟨hsz, h0, h1⟩ := hc
        cases h
        have hrun := sizeT_run (w := w) hC hsz
        cases hx with
        | vec _ a _ cap ys hcap hkk hU hs hc h1' hr =>
          have hne : es ≠ [] := by rintro rfl; simp at h1; omega
          refine ⟨.pointer (some ⟨a.block, a.off + n.toNat * k + 0, none⟩), ?_, .vptr es a.block a.off k _ _ ys hkk (hU hne) hc h1' hr⟩
          unfold Instr.indexAt
          simp only [asIntOf, Sem.run_pure, Sem.run_bind, run_underlying hk.1, Result.andThen_ok]
          have hc2 : 0 ≤ n ∧ n < (es.length : Int) := ⟨h0, h1⟩
          simp [hc2, hrun, Addr.add_none _ (hs hne)]
      · cases h
    · cases h
  · rename_i len elem sz by_ zr eq kk n hti
    have hk := (hC.tt _ _ hti).kind
    simp only [KOk] at hk
    cases hi
    split at h
    · rename_i b k i j s hsz
      split at h
      · rename_i hc
        cases h
        have hrun := sizeT_run (w := w) hC hsz
        cases hx with
        | ptr _ _ _ _ c hb =>
          refine ⟨.pointer (some ⟨c, i * k + (j + n.toNat * s), none⟩), ?_, .ptr _ _ _ _ _ hb⟩
          unfold Instr.indexAt
          simp only [asIntOf, Sem.run_pure, Sem.run_bind, run_underlying hk.1, Result.andThen_ok]
          simp [Instr.sureAddr, hc, hrun, Addr.add_eq, Nat.add_assoc]
      · cases h
    · cases h
  · cases h

theorem index_sound (hC : TOk C) {t : TypeId} {x ix r : AV} {v u : Value} (hx : VRel w U ι x v) (hi : VRel w U ι ix u) (h : indexA C t x ix = some r) :
    ∃ z, (Instr.index t v u).run C.P w = .ok z w ∧ VRel w U ι r z := by
  unfold indexA at h
  split at h
  · rename_i sz by_ zr eq s kk n hti
    have hk := (hC.tt _ _ hti).kind
    simp only [KOk] at hk
    cases hi
    cases hx with
    | str _ b hb =>
      split at h
      · rename_i h0
        simp only [Option.map_eq_some_iff] at h
        obtain ⟨c, hc, rfl⟩ := h
        refine ⟨.int .u8 c.toNat, ?_, .int _ _⟩
        unfold Instr.index
        simp only [asIntOf, Sem.run_pure, Sem.run_bind, run_underlying hk.1, Result.andThen_ok]
        have hb2 : b[n.toNat]? = some c := by
          subst hb
          obtain ⟨hlt, he⟩ := List.getElem?_eq_some_iff.mp hc
          have hlt' : n.toNat < b.size := by simpa using hlt
          rw [ByteArray.getElem?_lt' b _ hlt']
          congr 1
        simp [h0, hb2]
      · cases h
  · rename_i len elem sz by_ zr eq cs kk n hti
    have hk := (hC.tt _ _ hti).kind
    simp only [KOk] at hk
    cases hi
    split at h
    · rename_i te hte
      split at h
      · rename_i hc
        obtain ⟨vs, rfl, hv⟩ := asVal_of hx
        have h1 : ∀ a, a ∈ cs → a.one = true := by cases hx; assumption
        obtain ⟨z, hz, hzr⟩ := part_sound (hC.tt _ _ hte) hv h1 h
        refine ⟨z, ?_, hzr⟩
        unfold Instr.index
        simp only [asIntOf, Sem.run_pure, Sem.run_bind, run_underlying hk.1, Result.andThen_ok]
        simp [hc, (hC.tt _ _ hte).run_sizeOf, hz]
      · cases h
    · cases h
  · cases h

theorem fieldOf_spec (hC : TOk C) {t : TypeId} {f : Nat} {ft : TypeId} {off : Nat} (h : fieldOf C t f = some (ft, off)) :
    ∃ fl fd, C.P.underlying t = some (.struct fl) ∧ fl[f]? = some fd ∧ fd.type = ft ∧ fd.offset = off ∧ ∃ tf, C.TT ft = some tf ∧ tf.size ≠ 0 := by
  unfold fieldOf at h
  split at h
  · rename_i fields sz by_ zr eq hti
    have hk := (hC.tt _ _ hti).kind
    simp only [KOk] at hk
    obtain ⟨fl, hu, rfl, hfl⟩ := hk
    rw [List.getElem?_map] at h
    simp only [Option.map_eq_some_iff] at h
    obtain ⟨fd, hfd, he⟩ := h
    cases he
    obtain ⟨tf, htf, h0, _⟩ := hfl fd (List.mem_of_getElem? hfd)
    exact ⟨fl, fd, hu, by rw [← Array.getElem?_toList]; exact hfd, rfl, rfl, tf, htf, h0⟩
  · cases h

theorem fieldAt_run (hC : TOk C) {t : TypeId} {f : Nat} {ft : TypeId} {off c o : Nat} (h : fieldOf C t f = some (ft, off)) :
    (Instr.fieldAt t (.pointer (some ⟨c, o, none⟩)) f).run C.P w = .ok (.pointer (some ⟨c, o + off, none⟩)) w := by
  obtain ⟨fl, fd, hu, hfd, rfl, rfl, tf, htf, h0⟩ := fieldOf_spec hC h
  unfold Instr.fieldAt
  simp only [Sem.run_bind, run_underlying hu, Result.andThen_ok, hfd]
  simp [Instr.sureAddr, fieldPlace, (hC.tt _ _ htf).run_sizeOf, h0, Addr.add_eq]

theorem field_sound (hC : TOk C) {t : TypeId} {f : Nat} {ft : TypeId} {off : Nat} {ti : TI} {cs : List AV} {v : Value} {r : AV} (h : fieldOf C t f = some (ft, off)) (hti : C.TT ft = some ti) (hx : VRel w U ι (.agg cs) v) (hp : part ti cs off = some r) :
    ∃ z, (Instr.field t v f).run C.P w = .ok z w ∧ VRel w U ι r z := by
  obtain ⟨fl, fd, hu, hfd, rfl, rfl, tf, htf, h0⟩ := fieldOf_spec hC h
  obtain ⟨vs, rfl, hv⟩ := asVal_of hx
  have h1 : ∀ a, a ∈ cs → a.one = true := by cases hx; assumption
  obtain ⟨z, hz, hzr⟩ := part_sound (hC.tt _ _ hti) hv h1 hp
  refine ⟨z, ?_, hzr⟩
  unfold Instr.field
  simp only [Sem.run_bind, run_underlying hu, Result.andThen_ok, hfd]
  simp [asAgg, hz]

theorem minA_sound {k : IntKind} : ∀ {rest : List AV} {vs : List Value} {a n : Int}, LsRel w U ι rest vs → minA k a rest = some n → (vs.foldlM Builtin.min2 (.int k a)).run C.P w = .ok (.int k n) w
  | [], vs, a, n, hr, h => by
    have : vs = [] := List.eq_nil_of_length_eq_zero (by simpa using hr.1)
    subst this
    simp only [minA, Option.some.injEq] at h; subst h; simp
  | x :: rest, vs, a, n, hr, h => by
    cases x <;> simp only [minA, reduceCtorEq] at h
    rename_i k' b
    split at h
    · rename_i hk
      subst hk
      match vs, hr with
      | v :: vs, hr =>
        have hv := hr.2 0 _ v rfl rfl
        cases hv
        have hr' : LsRel w U ι rest vs := ⟨by have := hr.1; simpa using this, fun i a v ha hv => hr.2 (i + 1) a v (by simpa using ha) (by simpa using hv)⟩
        simp [Builtin.min2, minA_sound hr' h]
      | [], hr => simp [LsRel] at hr
    · cases h

theorem maxA_sound {k : IntKind} : ∀ {rest : List AV} {vs : List Value} {a n : Int}, LsRel w U ι rest vs → maxA k a rest = some n → (vs.foldlM Builtin.max2 (.int k a)).run C.P w = .ok (.int k n) w
  | [], vs, a, n, hr, h => by
    have : vs = [] := List.eq_nil_of_length_eq_zero (by simpa using hr.1)
    subst this
    simp only [maxA, Option.some.injEq] at h; subst h; simp
  | x :: rest, vs, a, n, hr, h => by
    cases x <;> simp only [maxA, reduceCtorEq] at h
    rename_i k' b
    split at h
    · rename_i hk
      subst hk
      match vs, hr with
      | v :: vs, hr =>
        have hv := hr.2 0 _ v rfl rfl
        cases hv
        have hr' : LsRel w U ι rest vs := ⟨by have := hr.1; simpa using this, fun i a v ha hv => hr.2 (i + 1) a v (by simpa using ha) (by simpa using hv)⟩
        simp [Builtin.max2, maxA_sound hr' h]
      | [], hr => simp [LsRel] at hr
    · cases h

theorem LsRel.tail {a : AV} {v : Value} {cs : List AV} {vs : List Value} (hr : LsRel w U ι (a :: cs) (v :: vs)) : LsRel w U ι cs vs :=
  ⟨by have := hr.1; simpa using this, fun i a v ha hv => hr.2 (i + 1) a v (by simpa using ha) (by simpa using hv)⟩

theorem LsRel.head {a : AV} {v : Value} {cs : List AV} {vs : List Value} (hr : LsRel w U ι (a :: cs) (v :: vs)) : VRel w U ι a v := hr.2 0 a v rfl rfl

theorem LsRel.cases_cons {a : AV} {cs : List AV} {vs : List Value} (hr : LsRel w U ι (a :: cs) vs) : ∃ v us, vs = v :: us ∧ VRel w U ι a v ∧ LsRel w U ι cs us := by
  match vs, hr with
  | v :: us, hr => exact ⟨v, us, rfl, hr.head, hr.tail⟩
  | [], hr => simp [LsRel] at hr

theorem LsRel.cases_nil {vs : List Value} (hr : LsRel w U ι [] vs) : vs = [] := List.eq_nil_of_length_eq_zero (by simpa using hr.1)

/-- A slice's length. -/
theorem len_sound {x : AV} {v : Value} {n : Nat} (hx : VRel w U ι x v) (h : lenOf x = some n) : ∃ a cap, v = .slice a n cap := by
  cases hx <;> simp [lenOf] at h <;> subst h <;> exact ⟨_, _, rfl⟩

theorem builtinP_sound (hC : TOk C) {b : Builtin} {ts : List TypeId} {ty : TypeId} {consts : Array Bool} {args : List AV} {vs : List Value} {r : AV} (ha : LsRel w U ι args vs) (h : builtinP C b ts args = some r) :
    ∃ z, (Go.builtin b ts.toArray ty consts vs.toArray).run C.P w = .ok (.value z) w ∧ VRel w U ι r z := by
  unfold builtinP at h
  split at h
  · rename_i t ts' x
    obtain ⟨v, _, rfl, hv, h0⟩ := ha.cases_cons
    obtain rfl := h0.cases_nil
    split at h
    · rename_i sz by_ zr eq hti
      have hk := (hC.tt _ _ hti).kind
      simp only [KOk] at hk
      split at h
      · rename_i s
        cases h
        cases hv with
        | str _ b hb =>
          subst hb
          exact ⟨.int .i64 b.data.toList.length, by simp [Go.builtin, Builtin.len_, run_underlying hk.1, goInt], .int _ _⟩
      · cases h
    · rename_i el sz by_ zr eq hti
      have hk := (hC.tt _ _ hti).kind
      simp only [KOk] at hk
      simp only [Option.map_eq_some_iff] at h
      obtain ⟨n, hn, rfl⟩ := h
      obtain ⟨a, cap, rfl⟩ := len_sound hv hn
      exact ⟨.int .i64 n, by simp [Go.builtin, Builtin.len_, run_underlying hk.1, goInt], .int _ _⟩
    · cases h
  · rename_i t ts'
    obtain ⟨v, _, rfl, hv, h0⟩ := ha.cases_cons
    obtain rfl := h0.cases_nil
    split at h
    · rename_i el sz by_ zr eq hti
      have hk := (hC.tt _ _ hti).kind
      simp only [KOk] at hk
      cases h
      cases hv
      exact ⟨.int .i64 0, by simp [Go.builtin, Builtin.cap_, run_underlying hk.1, goInt], .int _ _⟩
    · cases h
  · rename_i k a rest
    obtain ⟨v, us, rfl, hv, h0⟩ := ha.cases_cons
    simp only [Option.map_eq_some_iff] at h
    obtain ⟨n, hn, rfl⟩ := h
    cases hv
    exact ⟨.int k n, by simp [Go.builtin, Builtin.min_, minA_sound h0 hn], .int _ _⟩
  · rename_i k a rest
    obtain ⟨v, us, rfl, hv, h0⟩ := ha.cases_cons
    simp only [Option.map_eq_some_iff] at h
    obtain ⟨n, hn, rfl⟩ := h
    cases hv
    exact ⟨.int k n, by simp [Go.builtin, Builtin.max_, maxA_sound h0 hn], .int _ _⟩
  · obtain ⟨v, us, rfl, hv, h0⟩ := ha.cases_cons
    obtain rfl := h0.cases_nil
    cases h
    cases hv with
    | cpx _ _ _ _ h1 h2 => exact ⟨_, rfl, .flt _ _ h1⟩
  · obtain ⟨v, us, rfl, hv, h0⟩ := ha.cases_cons
    obtain rfl := h0.cases_nil
    cases h
    cases hv with
    | cpx _ _ _ _ h1 h2 => exact ⟨_, rfl, .flt _ _ h2⟩
  · obtain ⟨v, us, rfl, hv, h0⟩ := ha.cases_cons
    obtain ⟨v2, us2, rfl, hv2, h02⟩ := h0.cases_cons
    obtain rfl := h02.cases_nil
    cases h
    cases hv with
    | flt _ _ h1 =>
      cases hv2 with
      | flt _ _ h2 => exact ⟨_, rfl, .cpx _ _ _ _ h1 h2⟩
  · cases h

theorem un_sound {op : UnOp} {x r : AV} {v : Value} (hx : VRel w U ι x v) (h : un op x = some r) : ∃ z, (Op.unary op v).run C.P w = .ok z w ∧ VRel w U ι r z := by
  cases op <;> cases hx <;> simp only [un, reduceCtorEq, Option.some.injEq] at h <;> subst h
  · exact ⟨_, rfl, .int _ _⟩
  · exact ⟨_, rfl, .bool _⟩

/-- AN OPERATION THAT TOUCHES NO MEMORY. -/
theorem primP_sound (hC : TOk C) {T : Nat → AV} {a : Act} (hT : TRel w U ι T a.tmps) {o : Oper} {r : AV} (h : primP C T o.op = some r) :
    ∃ v, (execOp a.eval o).run C.P w = .ok (.value v) w ∧ VRel w U ι r v := by
  obtain ⟨dst, op, ty, pos, after, guard⟩ := o
  simp only at h
  have lift : ∀ (s : Sem Value), (∃ v, s.run C.P w = .ok v w ∧ VRel w U ι r v) → ∃ v, (do pure (.value (← s)) : Sem Next).run C.P w = .ok (.value v) w ∧ VRel w U ι r v := by
    rintro s ⟨v, hv, hr⟩
    exact ⟨v, by simp [hv], hr⟩
  cases op <;> simp only [primP, reduceCtorEq] at h
  case move x => exact ⟨a.eval x, rfl, ev_sound hT h⟩
  case assign x => exact ⟨a.eval x, rfl, ev_sound hT h⟩
  case pick c x y =>
    split at h
    · rename_i t p q hc hx hy
      cases h
      have h1 := ev_sound hT hc
      generalize hcv : a.eval c = vc at h1
      cases h1
      cases t
      · exact ⟨a.eval y, by simp [execOp, hcv, asBool], ev_sound hT hy⟩
      · exact ⟨a.eval x, by simp [execOp, hcv, asBool], ev_sound hT hx⟩
    · cases h
  case build t parts =>
    split at h
    · rename_i ps hps
      obtain ⟨hl, hr⟩ := parts_sound hT hps
      refine lift _ ?_
      have := build_sound (w := w) (U := U) (ι := ι) hC (us := parts.toList.map fun (i, x) => (i, a.eval x)) (by simp [hl]) (fun i p u hp hu => by
        rw [List.getElem?_map] at hu
        simp only [Option.map_eq_some_iff] at hu
        obtain ⟨q, hq, rfl⟩ := hu
        exact hr i p q hp hq) h
      have e : (parts.map fun (i, x) => (i, a.eval x)) = (parts.toList.map fun (i, x) => (i, a.eval x)).toArray := Array.ext' (by simp)
      rw [e]
      exact this
    · cases h
  case nilCheck x =>
    have hx : ∀ b, ev T x = some b → VRel w U ι b (a.eval x) := fun b => ev_sound hT
    simp only [execOp]
    split at h <;> (try cases h) <;> rename_i hev <;> have h1 := hx _ hev <;> generalize a.eval x = vx at h1 <;> cases h1
    · exact ⟨_, rfl, by constructor; assumption⟩
    · exact ⟨_, rfl, by constructor <;> assumption⟩
    · exact ⟨_, rfl, by constructor <;> assumption⟩
    · exact ⟨_, rfl, by constructor; assumption⟩
  case binOp op t x y yt =>
    split at h
    · rename_i p q hp hq
      exact lift _ (bin_sound hC (ev_sound hT hp) (ev_sound hT hq) h)
    · cases h
  case unOp op t x =>
    split at h
    · rename_i p hp
      exact lift _ (un_sound (ev_sound hT hp) h)
    · cases h
  case makeFunc fn first caps =>
    cases fn <;> simp only [reduceCtorEq] at h
    rename_i f
    split at h
    · rename_i p q hp hq
      cases h
      have h1 := evs_sound hT hp
      have h2 := evs_sound hT hq
      refine ⟨.func (.func f) (first.map a.eval) (caps.map a.eval), rfl, ?_⟩
      have e1 : first.map a.eval = (first.toList.map a.eval).toArray := Array.ext' (by simp)
      have e2 : caps.map a.eval = (caps.toList.map a.eval).toArray := Array.ext' (by simp)
      rw [e1, e2]
      exact .fn f _ _ _ _ h1.1 h2.1 h1.2 h2.2
    · cases h
  case slice t x lo hi mx =>
    split at h
    · rename_i v l hh m hv hl hhh hm
      exact lift _ (slice_sound hC (ev_sound hT hv) (evo_sound hT hl) (evo_sound hT hhh) (evo_sound hT hm) h)
    · cases h
  case fieldAddr s x f =>
    split at h
    · rename_i b k i j ft off hx hf
      cases h
      have h1 := ev_sound hT hx
      generalize hvx : a.eval x = vx at h1
      cases h1 with
      | ptr _ _ _ _ c hb =>
        refine lift _ ⟨_, by rw [hvx]; exact fieldAt_run hC hf, ?_⟩
        rw [Nat.add_assoc]
        exact .ptr _ _ _ _ _ hb
    · rename_i k es i j ft off hx hf
      cases h
      have h1 := ev_sound hT hx
      generalize hvx : a.eval x = vx at h1
      cases h1 with
      | vptr _ c o _ _ _ ys hk hU hc h1' hr =>
        refine lift _ ⟨_, by rw [hvx]; exact fieldAt_run hC hf, ?_⟩
        rw [Nat.add_assoc]
        exact .vptr es c o k i (j + off) ys hk hU hc h1' hr
    · cases h
  case field t x f =>
    split at h
    · rename_i cs ft off hx hf
      split at h
      · rename_i ti hti
        exact lift _ (field_sound hC hf hti (ev_sound hT hx) h)
      · cases h
    · cases h
  case indexAddr t x ix =>
    split at h
    · rename_i p q hp hq
      exact lift _ (indexAddr_sound hC (ev_sound hT hp) (ev_sound hT hq) h)
    · cases h
  case index t x ix =>
    split at h
    · rename_i p q hp hq
      exact lift _ (index_sound hC (ev_sound hT hp) (ev_sound hT hq) h)
    · cases h
  case extract x i =>
    split at h
    · rename_i vs hx
      have h1 := ev_sound hT hx
      generalize hvx : a.eval x = vx at h1
      cases h1 with
      | tuple _ us hl hr =>
        obtain ⟨v, hv, hvr⟩ := LsRel.get ⟨hl, hr⟩ h
        refine lift _ ⟨v, ?_, hvr⟩
        rw [hvx]
        simp [Instr.extract, hv]
    · cases h

end Go.BX
