import Derived.Test.YtmbagennmeahhaaBOk
namespace Go.BX

/-! # Equality of aggregates is that of their cells -/

variable {C : Ctx} {w : World} {U : Nat → Prop} {ι : Nat → Option Nat}

theorem cellsEq_len : ∀ {ks : List CK} {a b : List AV} {r : Bool}, cellsEq ks a b = some r → a.length = ks.length ∧ b.length = ks.length
  | [], [], [], _, _ => ⟨rfl, rfl⟩
  | [], [], _ :: _, r, h => by simp [cellsEq] at h
  | [], _ :: _, b, r, h => by simp [cellsEq] at h
  | k :: ks, [], b, r, h => by cases k <;> simp [cellsEq] at h
  | k :: ks, x :: a, [], r, h => by cases k <;> cases x <;> simp [cellsEq] at h
  | k :: ks, x :: a, y :: b, r, h => by
    cases k <;> cases x <;> cases y <;> simp only [cellsEq, reduceCtorEq] at h
    · simp only [Option.map_eq_some_iff] at h
      obtain ⟨q, hq, _⟩ := h
      have := cellsEq_len hq
      simp [this.1, this.2]
    · split at h
      · simp only [Option.map_eq_some_iff] at h
        obtain ⟨q, hq, _⟩ := h
        have := cellsEq_len hq
        simp [this.1, this.2]
      · cases h
    · simp only [Option.map_eq_some_iff] at h
      obtain ⟨q, hq, _⟩ := h
      have := cellsEq_len hq
      simp [this.1, this.2]

theorem cellsEq_split : ∀ {ks ls : List CK} {a b : List AV} {r : Bool}, cellsEq (ks ++ ls) a b = some r →
    ∃ r1 r2, cellsEq ks (a.take ks.length) (b.take ks.length) = some r1 ∧ cellsEq ls (a.drop ks.length) (b.drop ks.length) = some r2 ∧ r = (r1 && r2)
  | [], ls, a, b, r, h => ⟨true, r, rfl, by simpa using h, by simp⟩
  | k :: ks, ls, [], b, r, h => by cases k <;> simp [cellsEq] at h
  | k :: ks, ls, x :: a, [], r, h => by cases k <;> cases x <;> simp [cellsEq] at h
  | k :: ks, ls, x :: a, y :: b, r, h => by
    cases k <;> cases x <;> cases y <;> simp only [List.cons_append, cellsEq, reduceCtorEq, List.length_cons, List.take_succ_cons, List.drop_succ_cons] at h ⊢
    · rename_i n m
      simp only [Option.map_eq_some_iff] at h
      obtain ⟨q, hq, rfl⟩ := h
      obtain ⟨r1, r2, h1, h2, rfl⟩ := cellsEq_split hq
      exact ⟨(n == m) && r1, r2, by simp [h1], h2, by simp [Bool.and_assoc]⟩
    · split at h
      · rename_i k0 k1 n k2 m hk
        simp only [Option.map_eq_some_iff] at h
        obtain ⟨q, hq, rfl⟩ := h
        obtain ⟨r1, r2, h1, h2, rfl⟩ := cellsEq_split hq
        exact ⟨(n == m) && r1, r2, by simp [hk, h1], h2, by simp [Bool.and_assoc]⟩
      · cases h
    · rename_i n m
      simp only [Option.map_eq_some_iff] at h
      obtain ⟨q, hq, rfl⟩ := h
      obtain ⟨r1, r2, h1, h2, rfl⟩ := cellsEq_split hq
      exact ⟨(n == m) && r1, r2, by simp [h1], h2, by simp [Bool.and_assoc]⟩

/-- A value of type t out of its cells. -/
def asVal (agg : Bool) (vs : List Value) : Value := if agg then .agg vs.toArray else vs.getD 0 undef

theorem part_raw {P : Program} {t : TypeId} {agg : Bool} {vs : List Value} {off n : Nat} (ha : (isAgg t).run P w = .ok agg w) (hs : (sizeOf t).run P w = .ok n w)
    (hl : off + n ≤ vs.length) (h1 : agg = false → n = 1) : (Go.part t vs.toArray off).run P w = .ok (asVal agg ((vs.drop off).take n)) w := by
  unfold Go.part asVal
  simp only [Sem.run_bind, ha, Result.andThen_ok]
  cases agg with
  | true =>
    simp only [if_true, Sem.run_bind, hs, Result.andThen_ok, Sem.run_pure]
    congr 2
    apply Array.ext'
    simp [List.extract_eq_take_drop]
  | false =>
    have := h1 rfl
    subst this
    have hlt : off < vs.length := by omega
    simp [hlt, List.getD, List.getElem?_drop]

theorem flat_agg {P : Program} {d : Nat} {t : TypeId} {ks : List CK} (h : flatT P d t = some ks) : ∃ g, (∀ w : World, (isAgg t).run P w = .ok g w) ∧ (g = false → ks.length = 1) := by
  cases d with
  | zero => cases h
  | succ d =>
    simp only [flatT] at h
    split at h
    · rename_i hu; cases h; exact ⟨false, fun w => by simp [isAgg, run_underlying hu], fun _ => rfl⟩
    · rename_i hu; cases h; exact ⟨false, fun w => by simp [isAgg, run_underlying hu], fun _ => rfl⟩
    · rename_i hu; cases h; exact ⟨false, fun w => by simp [isAgg, run_underlying hu], fun _ => rfl⟩
    · rename_i hu; exact ⟨true, fun w => by simp [isAgg, run_underlying hu], fun h => by cases h⟩
    · rename_i hu; exact ⟨true, fun w => by simp [isAgg, run_underlying hu], fun h => by cases h⟩
    · cases h

theorem cells_run {P : Program} {t : TypeId} {n : Nat} (h : P.cellsOf t = n) (hn : n ≠ 0) (w : World) : (sizeOf t).run P w = .ok n w := by
  unfold Program.cellsOf at h
  cases hi : P.info? t with
  | none => rw [hi] at h; simp at h; omega
  | some i => rw [hi] at h; simp at h; simp [sizeOf, typeInfo, hi, h]

theorem eqFields_flat {P : Program} (w : World) {d : Nat} {rec_ : TypeId → Option (List CK)} (hrec : rec_ = flatT P d)
    (ih : ∀ (t : TypeId) (ks : List CK), flatT P d t = some ks → ∀ (g : Bool), (isAgg t).run P w = .ok g w → ∀ (cs ds : List AV) (vs us : List Value) (b : Bool), LsRel w U ι cs vs → LsRel w U ι ds us → cellsEq ks cs ds = some b →
      (Op.equalIn d t (asVal g vs) (asVal g us)).run P w = .ok b w) :
    ∀ (fs : List Field) (off : Nat) (ks : List CK), flatFields P rec_ fs off = some ks → ∀ (cs ds : List AV) (vs us : List Value) (b : Bool), LsRel w U ι cs vs → LsRel w U ι ds us →
      cellsEq ks (cs.drop off) (ds.drop off) = some b → (Op.eqFields d vs.toArray us.toArray fs).run P w = .ok b w := by
  intro fs
  induction fs with
  | nil =>
    intro off ks h cs ds vs us b hv hu he
    simp only [flatFields, Option.some.injEq] at h
    subst h
    have hb : b = true := by
      generalize cs.drop off = x at he; generalize ds.drop off = y at he
      cases x <;> cases y <;> simp [cellsEq] at he; exact he
    subst hb
    simp [Op.eqFields]
  | cons f fs ihf =>
    intro off ks h cs ds vs us b hv hu he
    simp only [flatFields] at h
    split at h
    · cases h
    · rename_i hne
      split at h
      · rename_i k1 hk1
        split at h
        · rename_i hsz
          simp only [Option.map_eq_some_iff] at h
          obtain ⟨k2, hk2, rfl⟩ := h
          obtain ⟨r1, r2, h1, h2, rfl⟩ := cellsEq_split he
          have hlen := cellsEq_len h1
          have hname : f.name ≠ "_" := fun e => hne (.inl e)
          have hoff : f.offset = off := by
            rcases Decidable.em (f.offset = off) with h | h
            · exact h
            · exact absurd (.inr h) hne
          rw [hrec] at hk1
          obtain ⟨g, hg, hg1⟩ := flat_agg hk1
          have hs := cells_run hsz.1 hsz.2 w
          have hl1 : off + k1.length ≤ vs.length := by
            rw [hv.1]; have := hlen.1; simp at this; omega
          have hl2 : off + k1.length ≤ us.length := by
            rw [hu.1]; have := hlen.2; simp at this; omega
          have hp1 := part_raw (w := w) (hg w) hs hl1 hg1
          have hp2 := part_raw (w := w) (hg w) hs hl2 hg1
          have heq := ih f.type k1 hk1 g (hg w) _ _ _ _ r1 ((hv.drop off).take k1.length) ((hu.drop off).take k1.length) h1
          simp only [Op.eqFields, if_pos hname, Sem.run_bind, hoff, hp1, hp2, Result.andThen_ok, heq]
          cases r1 with
          | false => simp
          | true =>
            have h2' : cellsEq k2 (cs.drop (off + k1.length)) (ds.drop (off + k1.length)) = some r2 := by
              rw [← List.drop_drop, ← List.drop_drop]; exact h2
            have := ihf (off + k1.length) k2 hk2 cs ds vs us r2 hv hu h2'
            simp [this]
        · cases h
      · cases h

theorem equal_flat {P : Program} (w : World) : ∀ (d : Nat) (t : TypeId) (ks : List CK), flatT P d t = some ks → ∀ (g : Bool), (isAgg t).run P w = .ok g w →
    ∀ (cs ds : List AV) (vs us : List Value) (b : Bool), LsRel w U ι cs vs → LsRel w U ι ds us → cellsEq ks cs ds = some b →
      (Op.equalIn d t (asVal g vs) (asVal g us)).run P w = .ok b w := by
  intro d
  induction d with
  | zero => intro t ks h; cases h
  | succ d ih =>
    intro t ks h g hg cs ds vs us b hv hu he
    have hlen := cellsEq_len he
    simp only [flatT] at h
    split at h
    · rename_i ht
      cases h
      have hgf : g = false := by simp [isAgg, run_underlying ht] at hg; simp [hg]
      subst hgf
      obtain ⟨x, rfl⟩ := List.length_eq_one_iff.mp hlen.1
      obtain ⟨y, rfl⟩ := List.length_eq_one_iff.mp hlen.2
      obtain ⟨v, rfl⟩ := List.length_eq_one_iff.mp hv.1
      obtain ⟨u, rfl⟩ := List.length_eq_one_iff.mp hu.1
      have hx := hv.2 0 x v rfl rfl
      have hy := hu.2 0 y u rfl rfl
      cases hx <;> cases hy <;> simp [cellsEq] at he
      subst he
      simp [asVal, Op.equalIn, run_underlying ht]
    · rename_i k ht
      cases h
      have hgf : g = false := by simp [isAgg, run_underlying ht] at hg; simp [hg]
      subst hgf
      obtain ⟨x, rfl⟩ := List.length_eq_one_iff.mp hlen.1
      obtain ⟨y, rfl⟩ := List.length_eq_one_iff.mp hlen.2
      obtain ⟨v, rfl⟩ := List.length_eq_one_iff.mp hv.1
      obtain ⟨u, rfl⟩ := List.length_eq_one_iff.mp hu.1
      have hx := hv.2 0 x v rfl rfl
      have hy := hu.2 0 y u rfl rfl
      cases hx <;> cases hy <;> simp [cellsEq] at he
      obtain ⟨⟨rfl, rfl⟩, rfl⟩ := he
      simp [asVal, Op.equalIn, run_underlying ht]
    · rename_i ht
      cases h
      have hgf : g = false := by simp [isAgg, run_underlying ht] at hg; simp [hg]
      subst hgf
      obtain ⟨x, rfl⟩ := List.length_eq_one_iff.mp hlen.1
      obtain ⟨y, rfl⟩ := List.length_eq_one_iff.mp hlen.2
      obtain ⟨v, rfl⟩ := List.length_eq_one_iff.mp hv.1
      obtain ⟨u, rfl⟩ := List.length_eq_one_iff.mp hu.1
      have hx := hv.2 0 x v rfl rfl
      have hy := hu.2 0 y u rfl rfl
      cases hx <;> cases hy <;> simp [cellsEq] at he
      rename_i h0 l1 s1 h1
      subst h1
      subst h0
      subst he
      simp [asVal, Op.equalIn, run_underlying ht, beq_toListBytes, ByteArray.toList_eq]
    · rename_i fs ht
      have hgt : g = true := by simp [isAgg, run_underlying ht] at hg; simp [hg]
      subst hgt
      split at h
      · cases h
      · rename_i hst
        have hst' : P.stoodInHeld t = false := by simpa using hst
        have hfo : P.fieldsOf t = fs := by simp [Program.fieldsOf, ht]
        simp only [asVal, if_true]
        rw [run_equalIn_struct w d t vs.toArray us.toArray (by rw [hfo]; exact ht) hst', hfo]
        exact eqFields_flat w rfl ih fs.toList 0 ks h cs ds vs us b hv hu (by simpa using he)
    · rename_i n e ht
      have hgt : g = true := by simp [isAgg, run_underlying ht] at hg; simp [hg]
      subst hgt
      split at h
      · rename_i k1 hk1
        split at h
        · rename_i hsz
          cases h
          obtain ⟨g, hgg, hg1⟩ := flat_agg hk1
          have hs := cells_run hsz.1 hsz.2 w
          -- the loop over the elements
          simp only [asVal, if_true, Op.equalIn, Sem.run_bind, run_underlying ht, Result.andThen_ok, hs]
          rw [Std.Legacy.Range.forIn_eq_forIn_range']
          simp only [Std.Legacy.Range.size, Nat.sub_zero, Nat.add_sub_cancel, Nat.div_one]
          have key : ∀ (m s : Nat) (b : Bool), s + m = n → cellsEq (List.replicate m k1).flatten (cs.drop (s * k1.length)) (ds.drop (s * k1.length)) = some b →
              ((forIn (List.range' s m 1) ((none, ()) : Option Bool × Unit) fun i __s => do
                let a ← Go.part e vs.toArray (i * k1.length)
                let a' ← Go.part e us.toArray (i * k1.length)
                let r ← Op.equalIn d e a a'
                if (!r) = true then pure (ForInStep.done (some false, ())) else pure (ForInStep.yield (none, ())) : Sem (Option Bool × Unit)).run P w) =
                .ok (if b then none else some false, ()) w := by
            intro m
            induction m with
            | zero =>
              intro s b _ he
              have hb : b = true := by
                generalize cs.drop (s * k1.length) = x at he; generalize ds.drop (s * k1.length) = y at he
                cases x <;> cases y <;> simp [cellsEq] at he; exact he
              subst hb
              simp
            | succ m ihm =>
              intro s b hsm he
              rw [List.replicate_succ, List.flatten_cons] at he
              obtain ⟨r1, r2, h1, h2, rfl⟩ := cellsEq_split he
              have hl := cellsEq_len h1
              have hl1 : s * k1.length + k1.length ≤ vs.length := by
                rw [hv.1]; have := hl.1; simp at this; omega
              have hl2 : s * k1.length + k1.length ≤ us.length := by
                rw [hu.1]; have := hl.2; simp at this; omega
              have hp1 := part_raw (w := w) (hgg w) hs hl1 hg1
              have hp2 := part_raw (w := w) (hgg w) hs hl2 hg1
              have heq := ih e k1 hk1 g (hgg w) _ _ _ _ r1 ((hv.drop (s * k1.length)).take k1.length) ((hu.drop (s * k1.length)).take k1.length) h1
              rw [List.range'_succ, List.forIn_cons]
              simp only [Sem.run_bind, hp1, hp2, Result.andThen_ok, heq]
              cases r1 with
              | false => simp
              | true =>
                simp only [Bool.not_true, Bool.false_eq_true, if_false, Sem.run_pure, Result.andThen_ok, Bool.true_and]
                refine ihm (s + 1) r2 (by omega) ?_
                rw [Nat.add_mul, Nat.one_mul, ← List.drop_drop, ← List.drop_drop]
                exact h2
          have := key n 0 b (by omega) (by simpa using he)
          rw [this]
          cases b <;> simp
        · cases h
      · cases h
    · cases h

end Go.BX
