import Derived.Test.YtmbagennmeahhaaBMem2
import Derived.Laws.BytesString
import Derived.Laws.IdiomStrings
namespace Go.BX
set_option linter.unusedSimpArgs false
set_option linter.unusedVariables false

variable {C : Ctx} {w : World} {U : Nat → Prop} {ι : Nat → Option Nat}

theorem flat_get {k : Nat} : ∀ {es : List (List AV)} {m : Nat} {y : AV}, (∀ e, e ∈ es → e.length = k) → es.flatten[m]? = some y → ∃ i e j, es[i]? = some e ∧ e[j]? = some y ∧ m = i * k + j ∧ j < k
  | [], m, y, _, h => by simp at h
  | x :: es, m, y, hk, h => by
    have hx : x.length = k := hk x (by simp)
    rw [List.flatten_cons] at h
    by_cases hm : m < k
    · rw [List.getElem?_append_left (by omega)] at h
      exact ⟨0, x, m, rfl, h, by simp, hm⟩
    · rw [List.getElem?_append_right (by omega)] at h
      obtain ⟨i, e, j, he, hj, hmij, hjk⟩ := flat_get (fun e he => hk e (by simp [he])) h
      exact ⟨i + 1, e, j, by simpa using he, hj, by rw [Nat.add_mul]; omega, hjk⟩

theorem flat_len {k : Nat} : ∀ {es : List (List AV)}, (∀ e, e ∈ es → e.length = k) → es.flatten.length = es.length * k
  | [], _ => by simp
  | x :: es, hk => by
    rw [List.flatten_cons, List.length_append, hk x (by simp), flat_len (fun e he => hk e (by simp [he])), List.length_cons, Nat.add_mul]
    omega

theorem flat_take {k : Nat} : ∀ {es : List (List AV)} (n : Nat), (∀ e, e ∈ es → e.length = k) → (es.take n).flatten = es.flatten.take (n * k)
  | [], n, _ => by simp
  | x :: es, 0, _ => by simp
  | x :: es, n + 1, hk => by
    have hx : x.length = k := hk x (by simp)
    have hle : x.length ≤ (n + 1) * k := by rw [hx, Nat.add_mul]; omega
    rw [List.take_succ_cons, List.flatten_cons, List.flatten_cons, flat_take n (fun e he => hk e (by simp [he])), List.take_append, List.take_of_length_le hle, hx]
    rw [show (n + 1) * k - k = n * k from by rw [Nat.add_mul]; omega]

theorem flat_drop {k : Nat} : ∀ {es : List (List AV)} (n : Nat), (∀ e, e ∈ es → e.length = k) → (es.drop n).flatten = es.flatten.drop (n * k)
  | [], n, _ => by simp
  | x :: es, 0, _ => by simp
  | x :: es, n + 1, hk => by
    have hx : x.length = k := hk x (by simp)
    have hle : x.length ≤ (n + 1) * k := by rw [hx, Nat.add_mul]; omega
    rw [List.drop_succ_cons, List.flatten_cons, flat_drop n (fun e he => hk e (by simp [he])), List.drop_append, List.drop_of_length_le hle, hx]
    rw [show (n + 1) * k - k = n * k from by rw [Nat.add_mul]; omega]
    simp

/-- A list of cells that lie at an address. -/
def CellsAt (w : World) (a : Addr) (vs : List Value) : Prop := ∀ (j : Nat) (v : Value), vs[j]? = some v → w.cell? (a.add j) = some v

theorem cellsAt_of {es : List (List AV)} {k : Nat} {c o : Nat} (hk : ∀ e, e ∈ es → e.length = k)
    (h : ∀ (i : Nat) (e : List AV) (j : Nat) (y : AV), es[i]? = some e → e[j]? = some y → y.one = true ∧ ∃ u, w.cell? ⟨c, o + i * k + j, none⟩ = some u ∧ VRel w U ι y u) :
    ∃ vs, LsRel w U ι es.flatten vs ∧ CellsAt w ⟨c, o, none⟩ vs ∧ ∀ y, y ∈ es.flatten → y.one = true := by
  let f : Nat → Value := fun m => (w.cell? ⟨c, o + m, none⟩).getD undef
  have hf : ∀ m y, es.flatten[m]? = some y → y.one = true ∧ w.cell? ⟨c, o + m, none⟩ = some (f m) ∧ VRel w U ι y (f m) := by
    intro m y hy
    obtain ⟨i, e, j, he, hj, rfl, _⟩ := flat_get hk hy
    obtain ⟨h1, u, hu, hur⟩ := h i e j y he hj
    have : w.cell? ⟨c, o + (i * k + j), none⟩ = some u := by rw [← Nat.add_assoc]; exact hu
    simp only [f, this, Option.getD_some]
    exact ⟨h1, trivial, hur⟩
  refine ⟨(List.range es.flatten.length).map f, ⟨by simp, fun i a v ha hv => ?_⟩, fun j v hv => ?_, fun y hy => ?_⟩
  · have hi := (List.getElem?_eq_some_iff.mp ha).1
    rw [List.getElem?_map, List.getElem?_range hi] at hv
    simp only [Option.map_some, Option.some.injEq] at hv
    subst hv
    exact (hf i a ha).2.2
  · have hj : j < es.flatten.length := by have := (List.getElem?_eq_some_iff.mp hv).1; simpa using this
    rw [List.getElem?_map, List.getElem?_range hj] at hv
    simp only [Option.map_some, Option.some.injEq] at hv
    subst hv
    rw [Addr.add_eq]
    exact (hf j _ (List.getElem?_eq_getElem hj)).2.1
  · obtain ⟨m, hm⟩ := List.getElem?_of_mem hy
    exact (hf m y hm).1

/-- The elements of a slice lie where it says. -/
theorem elems_sound {H : AHeap} (hH : HRel C w U ι H) {k : Nat} {x : AV} {v : Value} {es : List (List AV)} (hx : VRel w U ι x v) (h : elems H k x = some es) :
    (∀ e, e ∈ es → e.length = k) ∧ ∃ a cap vs, v = .slice a es.length cap ∧ LsRel w U ι es.flatten vs ∧ (∀ y, y ∈ es.flatten → y.one = true) ∧ ((a = none ∧ es = []) ∨ ∃ ad, a = some ad ∧ CellsAt w ad vs) := by
  cases hx with
  | nilS =>
    simp only [elems, Option.some.injEq] at h
    subst h; exact ⟨by simp, none, 0, [], rfl, LsRel.nil, by simp, .inl ⟨rfl, rfl⟩⟩
  | emp a =>
    simp only [elems, Option.some.injEq] at h
    subst h; exact ⟨by simp, some a, 0, [], rfl, LsRel.nil, by simp, .inr ⟨a, rfl, fun j v h => by simp at h⟩⟩
  | vec es' a k' cap ys hcap hk hU hs hc h1 hr =>
    simp only [elems] at h
    split at h
    · rename_i hkk
      cases h
      subst hkk
      refine ⟨hk, ?_⟩
      by_cases hne : es = []
      · subst hne; exact ⟨some a, cap, [], rfl, LsRel.nil, by simp, .inr ⟨a, rfl, fun j v h => by simp at h⟩⟩
      · obtain ⟨vs, h1', h2', h3'⟩ := cellsAt_of (w := w) (U := U) (ι := ι) (c := a.block) (o := a.off) hk (fun i e j y he hy => by
          have hi : i < es.length := (List.getElem?_eq_some_iff.mp he).1
          have hj : j < k' := by rw [← hk e (List.mem_of_getElem? he)]; exact (List.getElem?_eq_some_iff.mp hy).1
          exact ⟨h1 e (List.mem_of_getElem? he) y (List.mem_of_getElem? hy), ys i j, hc i j hi hj, (hr i e j y he hy).mono (fun _ h => h) (fun _ _ => rfl) (fun _ _ h => h) ι (fun _ _ h => by cases h)⟩)
        refine ⟨some a, cap, vs, rfl, h1', h3', .inr ⟨a, rfl, ?_⟩⟩
        have : a = ⟨a.block, a.off, none⟩ := by have := hs hne; cases a; simp at this; subst this; rfl
        rw [this]; exact h2'
    · cases h
  | slc b k' i n c off cap m t hb ho hn hs hm =>
    simp only [elems] at h
    split at h
    · rename_i t' k'' es' hbl
      split at h
      · rename_i hkk
        obtain ⟨rfl, rfl, hle⟩ := hkk
        cases h
        have hbr := hH.blk b c hb
        rw [hbl] at hbr
        obtain ⟨cs, hcs, hk, hr⟩ := hbr
        have hk' : ∀ e, e ∈ (es'.drop i).take n → e.length = k'' := fun e he => hk e (List.mem_of_mem_drop (List.mem_of_mem_take he))
        have hlen : ((es'.drop i).take n).length = n := by simp; omega
        refine ⟨hk', ?_⟩
        by_cases hn0 : n = 0
        · subst hn0
          exact ⟨some ⟨c, off, none⟩, cap, [], by simp, by simpa using LsRel.nil, by simp, .inr ⟨_, rfl, fun j v h => by simp at h⟩⟩
        · have hoff := ho (.inl hn0)
          obtain ⟨vs, h1', h2', h3'⟩ := cellsAt_of (w := w) (U := U) (ι := ι) (c := c) (o := off) hk' (fun p e j y he hy => by
            rw [List.getElem?_take] at he
            split at he
            · rw [List.getElem?_drop] at he
              obtain ⟨h1, u, hu, hur⟩ := hr (i + p) e j y he hy
              refine ⟨h1, u, ?_, hur⟩
              simp only [World.cell?, hcs, Option.isSome_none]
              rw [hoff, ← Nat.add_mul]
              exact hu
            · cases he)
          refine ⟨some ⟨c, off, none⟩, cap, vs, by rw [hlen], h1', h3', .inr ⟨_, rfl, h2'⟩⟩
      · cases h
    · cases h
  | _ => simp [elems] at h

theorem ofBytes_flat (s : Bytes) : (ofBytes s).flatten = s.map fun b => .int .u8 b.toNat := by
  induction s with
  | nil => rfl
  | cons b s ih => simp only [ofBytes, List.map_cons, List.flatten_cons] at ih ⊢; rw [ih]; rfl

/-- What is appended or copied. -/
theorem source_sound {H : AHeap} (hH : HRel C w U ι H) {k : Nat} {x : AV} {v : Value} {es : List (List AV)} (hx : VRel w U ι x v) (h : source H k x = some es) :
    (∀ e, e ∈ es → e.length = k) ∧ (∀ w', (Builtin.lenOf v).run C.P w' = .ok es.length w') ∧ (∀ y, y ∈ es.flatten → y.one = true) ∧ ∃ vs, LsRel w U ι es.flatten vs ∧
      (∀ w', w'.heap = w.heap → (Builtin.firstCells k es.length v).run C.P w' = .ok vs.toArray w') ∧ (∀ n, n ≤ es.length → ∀ w', w'.heap = w.heap → (Builtin.firstCells k n v).run C.P w' = .ok (vs.take (n * k)).toArray w') := by
  unfold source at h
  split at h
  · rename_i s
    split at h
    · rename_i hk
      subst hk
      cases h
      cases hx with
      | str _ b hb =>
        subst hb
        refine ⟨fun e he => by simp only [ofBytes, List.mem_map] at he; obtain ⟨_, _, rfl⟩ := he; rfl, fun w' => by simp [Builtin.lenOf, ofBytes], ?_, (b.data.toList.map fun c => .int .u8 c.toNat), ?_, ?_, ?_⟩
        · rw [ofBytes_flat]; intro y hy; simp only [List.mem_map] at hy; obtain ⟨_, _, rfl⟩ := hy; rfl
        · rw [ofBytes_flat]
          refine ⟨by simp, fun i a v ha hv => ?_⟩
          rw [List.getElem?_map] at ha hv
          cases hc : b.data.toList[i]? with
          | none => rw [hc] at ha; simp at ha
          | some c => rw [hc] at ha hv; simp at ha hv; subst ha hv; exact .int _ _
        · intro w' _
          simp only [Builtin.firstCells, Sem.run_pure]
          congr 1
          apply Array.ext'
          simp [ofBytes, ByteArray.data_extract]
        · intro n hn w' _
          simp only [Builtin.firstCells, Sem.run_pure]
          congr 1
          apply Array.ext'
          simp [ByteArray.data_extract, List.extract_eq_take_drop, List.map_take]
    · cases h
  · obtain ⟨hk, a, cap, vs, rfl, hr, h1, hor⟩ := elems_sound hH hx h
    have hvl : vs.length = es.length * k := by rw [hr.1, flat_len hk]
    refine ⟨hk, fun w' => by simp [Builtin.lenOf], h1, vs, hr, ?_, ?_⟩
    · intro w' hw'
      rcases hor with ⟨rfl, rfl⟩ | ⟨ad, rfl, hc⟩
      · have : vs = [] := List.eq_nil_of_length_eq_zero (by simpa using hvl)
        subst this
        simp [Builtin.firstCells]
      · exact run_firstCells_some (P := C.P) w' k es.length ad _ cap vs hvl (fun j u hu => by rw [cell_of_heap (w := w) (by rw [hw'])]; exact hc j u hu)
    · intro n hn w' hw'
      rcases hor with ⟨rfl, rfl⟩ | ⟨ad, rfl, hc⟩
      · have : vs = [] := List.eq_nil_of_length_eq_zero (by simpa using hvl)
        subst this
        simp [Builtin.firstCells]
      · refine run_firstCells_some (P := C.P) w' k n ad _ cap _ (by rw [List.length_take, hvl, Nat.min_eq_left (Nat.mul_le_mul_right _ hn)]) (fun j u hu => ?_)
        rw [cell_of_heap (w := w) (by rw [hw'])]
        rw [List.getElem?_take] at hu
        split at hu
        · exact hc j u hu
        · cases hu

/-- A live block's cells, as a list. -/
theorem brel_list {k : Nat} {es : List (List AV)} {cs : Array Value} (hk : ∀ e, e ∈ es → e.length = k)
    (hr : ∀ (i : Nat) (e : List AV) (j : Nat) (a : AV), es[i]? = some e → e[j]? = some a → a.one = true ∧ ∃ v, cs[i * k + j]? = some v ∧ VRel w U ι a v) :
    LsRel w U ι es.flatten (cs.toList.take (es.length * k)) ∧ es.length * k ≤ cs.size ∧ ∀ y, y ∈ es.flatten → y.one = true := by
  have hf : ∀ (m : Nat) (y : AV), es.flatten[m]? = some y → y.one = true ∧ ∃ v : Value, cs[m]? = some v ∧ VRel w U ι y v := by
    intro m y hy
    obtain ⟨i, e, j, he, hj, rfl, _⟩ := flat_get hk hy
    exact hr i e j y he hj
  have hl := flat_len hk
  have hle : es.length * k ≤ cs.size := by
    rcases Nat.eq_zero_or_pos (es.length * k) with h0 | h0
    · omega
    · have hlt : es.length * k - 1 < es.flatten.length := by omega
      obtain ⟨_, v, hv, _⟩ := hf _ _ (List.getElem?_eq_getElem hlt)
      have := (Array.getElem?_eq_some_iff.mp hv).1
      omega
  refine ⟨⟨by rw [List.length_take, hl]; simp; omega, fun i a v ha hv => ?_⟩, hle, fun y hy => ?_⟩
  · rw [List.getElem?_take] at hv
    split at hv
    · obtain ⟨_, u, hu, hur⟩ := hf i a ha
      have : cs[i]? = some v := by rw [← Array.getElem?_toList]; exact hv
      rw [hu] at this; cases this
      exact hur
    · cases hv
  · obtain ⟨m, hm⟩ := List.getElem?_of_mem hy
    exact (hf m y hm).1

/-- The world behind a write into a row of cells. -/
theorem setRow_shape {c : Nat} {cs ds : Array Value} {t : TypeId} (hc : w.heap[c]? = some (.cells cs t (0, 0))) (hs : ds.size = cs.size) : ∀ d, (w.setRow c ds).shape? d = w.shape? d := by
  intro d
  by_cases e : d = c
  · subst e
    unfold World.shape?
    rw [setRow_heap w d cs ds t _ hc, hc]
    simp [hs]
  · exact shape_of_heap (setRow_other w c d ds e)

/-- A write into a block that is live on both sides. -/
theorem write_rel {H : AHeap} (hH : HRel C w U ι H) {b c : Nat} (hb : ι b = some c) {cs ds : Array Value} {t : TypeId} (hc : w.heap[c]? = some (.cells cs t (0, 0))) (hs : ds.size = cs.size) (hd : (H.at_ b).isDead = false) {blk : Blk}
    (hB : (∀ {a : AV} {v : Value}, VRel w U ι a v → VRel (w.setRow c ds) U ι a v) → BRel C (w.setRow c ds) U ι c blk) :
    Ext w U ι (w.setRow c ds) U ι ∧ HRel C (w.setRow c ds) U ι (H.set b blk) := by
  have hext : Ext w U ι (w.setRow c ds) U ι :=
    { map := fun _ _ h => h, rng := fun b _ h => .inl ⟨b, h⟩, imm := fun _ h => h, new := fun _ h => .inl h, size := by simp
      kept := fun d _ hn => setRow_other w c d ds (fun e => hn b (by rw [e]; exact hb))
      shape := fun d _ => setRow_shape hc hs d, env := ⟨rfl, rfl, rfl⟩ }
  have hm : ∀ {a : AV} {v : Value}, VRel w U ι a v → VRel (w.setRow c ds) U ι a v := fun hv => hext.mono hH hv
  refine ⟨hext, ⟨fun b' c' h => by simpa [AHeap.set] using hH.dom b' c' h, fun b1 b2 c' h1 h2 d1 d2 => ?_, fun c' h => by simpa using hH.imm c' h, fun b' c' h => ?_⟩⟩
  · have live : ∀ b', ((H.set b blk).at_ b').isDead = false → (H.at_ b').isDead = false := by
      intro b' h'
      by_cases e : b' = b
      · subst e; exact hd
      · simp only [AHeap.set, upd_isDead e] at h'; exact h'
    exact hH.inj b1 b2 c' h1 h2 (live b1 d1) (live b2 d2)
  · by_cases e : b' = b
    · subst e
      rw [hb] at h; cases h
      simp only [AHeap.set, upd_same]
      exact hB hm
    · simp only [AHeap.set]
      rw [upd_ne _ _ e]
      by_cases hdd : (H.at_ b').isDead = true
      · cases hx : H.at_ b' <;> rw [hx] at hdd <;> simp [Blk.isDead] at hdd
        trivial
      · have hne : c' ≠ c := by
          rintro rfl
          exact e (hH.inj b' b _ h hb (by simpa using hdd) hd)
        exact (hH.blk b' c' h).mono hm (fun _ _ h => h) (setRow_other w c c' ds hne)

end Go.BX
