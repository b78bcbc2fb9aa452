import Derived.Test.YtmbagennmeahhaaBInert3
import Derived.Laws.Append
import Derived.Laws.Tables
namespace Go.BX

/-! # Operations on memory -/

variable {C : Ctx} {w : World} {U : Nat → Prop} {ι : Nat → Option Nat}

theorem shape_of_heap {w w' : World} {c : Nat} (h : w'.heap[c]? = w.heap[c]?) : w'.shape? c = w.shape? c := by
  unfold World.shape?; rw [h]

theorem LsRel.mono {w' : World} {U' : Nat → Prop} {ι' : Nat → Option Nat} (hm : ∀ {a : AV} {v : Value}, VRel w U ι a v → VRel w' U' ι' a v) {cs : List AV} {vs : List Value} (h : LsRel w U ι cs vs) : LsRel w' U' ι' cs vs :=
  ⟨h.1, fun i a v ha hv => hm (h.2 i a v ha hv)⟩

theorem TRel.mono {w' : World} {U' : Nat → Prop} {ι' : Nat → Option Nat} (hm : ∀ {a : AV} {v : Value}, VRel w U ι a v → VRel w' U' ι' a v) {T : Nat → AV} {tmps : Array Value} (h : TRel w U ι T tmps) : TRel w' U' ι' T tmps :=
  fun t => hm (h t)

theorem LRel.mono {w' : World} {U' : Nat → Prop} {ι' : Nat → Option Nat} (hm : ∀ {a : AV} {v : Value}, VRel w U ι a v → VRel w' U' ι' a v) (hι : ∀ b c, ι b = some c → ι' b = some c) {nt : Nat} {L : ALoop} {R : Loop} (h : LRel C w U ι nt L R) : LRel C w' U' ι' nt L R :=
  { size := h.size, state := h.state, pending := h.pending, fn := h.fn, T := h.T.mono hm, params := h.params, assign := h.assign, body := h.body, lt := h.lt, defers := hι _ _ h.defers }

theorem BRel.mono {w' : World} {U' : Nat → Prop} {ι' : Nat → Option Nat} (hm : ∀ {a : AV} {v : Value}, VRel w U ι a v → VRel w' U' ι' a v) (hι : ∀ b c, ι b = some c → ι' b = some c) {c : Nat} (hc : w'.heap[c]? = w.heap[c]?) {b : Blk} (h : BRel C w U ι c b) : BRel C w' U' ι' c b := by
  cases b with
  | dead => trivial
  | cells t k es =>
    obtain ⟨cs, hcs, hk, hr⟩ := h
    exact ⟨cs, by rw [hc]; exact hcs, hk, fun i e j a he ha => let ⟨h1, v, hv, hvr⟩ := hr i e j a he ha; ⟨h1, v, hv, hm hvr⟩⟩
  | iter s pos => obtain ⟨b, hb, hw⟩ := h; exact ⟨b, hb, by rw [hc]; exact hw⟩
  | loop L => obtain ⟨R, nt, hR, hL⟩ := h; exact ⟨R, nt, by rw [hc]; exact hR, hL.mono hm hι⟩
  | dfr => exact hc.trans h

/-- What an operation leaves: a value and a heap that stand for what the machine has. -/
structure Leaves (C : Ctx) (w : World) (U : Nat → Prop) (ι : Nat → Option Nat) (H' : AHeap) (r : AV) (v : Value) (w' : World) (U' : Nat → Prop) (ι' : Nat → Option Nat) : Prop where
  ext : Ext w U ι w' U' ι'
  heap : HRel C w' U' ι' H'
  val : VRel w' U' ι' r v

/-- .. and nothing that was there has changed. -/
structure Reads (w : World) (ι : Nat → Option Nat) (H H' : AHeap) (w' : World) (ι' : Nat → Option Nat) : Prop where
  all : ∀ c, c < w.heap.size → w'.heap[c]? = w.heap[c]?
  next : H.next ≤ H'.next
  at_ : ∀ b, b < H.next → H'.at_ b = H.at_ b
  new : ∀ b c, ι' b = some c → ι b = some c ∨ (H.next ≤ b ∧ w.heap.size ≤ c)

/-- Blocks that are newly mapped are new ones. -/
def Fresh (H : AHeap) (ι ι' : Nat → Option Nat) : Prop := ∀ b c, ι' b = some c → ι b = some c ∨ H.next ≤ b

theorem Reads.fresh {H H' : AHeap} {w' : World} {ι' : Nat → Option Nat} (h : Reads w ι H H' w' ι') : Fresh H ι ι' := fun b c hb => (h.new b c hb).imp id (·.1)

theorem Fresh.refl (H : AHeap) (ι : Nat → Option Nat) : Fresh H ι ι := fun _ _ h => .inl h

theorem Ext.refl (w : World) (U : Nat → Prop) (ι : Nat → Option Nat) : Ext w U ι w U ι :=
  { map := fun _ _ h => h, rng := fun b _ h => .inl ⟨b, h⟩, imm := fun _ h => h, new := fun _ h => .inl h, size := Nat.le_refl _, kept := fun _ _ _ => rfl, shape := fun _ _ => rfl, env := ⟨rfl, rfl, rfl⟩ }

theorem Ext.mono {w' : World} {U' : Nat → Prop} {ι' : Nat → Option Nat} {H : AHeap} (h : Ext w U ι w' U' ι') (hH : HRel C w U ι H) {a : AV} {v : Value} (hv : VRel w U ι a v) : VRel w' U' ι' a v :=
  hv.mono h.imm (fun c hc => h.kept c (hH.imm c hc).1 (hH.imm c hc).2) (fun c x hx => by rw [h.shape c (shape_lt hx)]; exact hx) ι' h.map

theorem Ext.trans {w1 w2 : World} {U1 U2 : Nat → Prop} {ι1 ι2 : Nat → Option Nat} (h : Ext w U ι w1 U1 ι1) (h' : Ext w1 U1 ι1 w2 U2 ι2) : Ext w U ι w2 U2 ι2 where
  map := fun b c hb => h'.map b c (h.map b c hb)
  rng := fun b c hb => by
    rcases h'.rng b c hb with ⟨b0, hb0⟩ | hc
    · exact h.rng b0 c hb0
    · exact .inr (Nat.le_trans h.size hc)
  imm := fun c hc => h'.imm c (h.imm c hc)
  new := fun c hc => by
    rcases h'.new c hc with hc | hc
    · exact h.new c hc
    · exact .inr (Nat.le_trans h.size hc)
  size := Nat.le_trans h.size h'.size
  kept := fun c hc hn => by
    rw [h'.kept c (Nat.lt_of_lt_of_le hc h.size) (fun b hb => by
      rcases h.rng b c hb with ⟨b0, hb0⟩ | hle
      · exact hn b0 hb0
      · omega)]
    exact h.kept c hc hn
  shape := fun c hc => by rw [h'.shape c (Nat.lt_of_lt_of_le hc h.size), h.shape c hc]
  env := ⟨h'.env.1.trans h.env.1, h'.env.2.1.trans h.env.2.1, h'.env.2.2.trans h.env.2.2⟩

theorem upd_isDead {f : Nat → Blk} {a b : Nat} {v : Blk} (h : b ≠ a) : (upd f a v b).isDead = (f b).isDead := by rw [upd_ne _ _ h]

/-- A new block on both sides. -/
theorem push_rel {H : AHeap} (hH : HRel C w U ι H) {w' : World} {o : Obj} (hw : w'.heap = w.heap.push o) (blk : Blk)
    (hB : BRel C w' U (upd ι H.next (some w.heap.size)) w.heap.size blk) (henv : w'.os = w.os ∧ w'.tape = w.tape ∧ w'.output = w.output := by exact ⟨rfl, rfl, rfl⟩) :
    Ext w U ι w' U (upd ι H.next (some w.heap.size)) ∧ HRel C w' U (upd ι H.next (some w.heap.size)) (H.push blk) ∧ Reads w ι H (H.push blk) w' (upd ι H.next (some w.heap.size)) := by
  have hold : ∀ c, c < w.heap.size → w'.heap[c]? = w.heap[c]? := fun c hc => by
    rw [hw, Array.getElem?_push]; simp [Nat.ne_of_lt hc]
  have hsz : w'.heap.size = w.heap.size + 1 := by rw [hw]; simp
  have hmap : ∀ b c, ι b = some c → upd ι H.next (some w.heap.size) b = some c := fun b c hb => by
    rw [upd_ne _ _ (Nat.ne_of_lt (hH.dom b c hb).1)]; exact hb
  have hinv : ∀ b c, upd ι H.next (some w.heap.size) b = some c → (b = H.next ∧ c = w.heap.size) ∨ ι b = some c := fun b c hb => by
    by_cases e : b = H.next
    · subst e; rw [upd_same] at hb; cases hb; exact .inl ⟨rfl, rfl⟩
    · rw [upd_ne _ _ e] at hb; exact .inr hb
  have hext : Ext w U ι w' U (upd ι H.next (some w.heap.size)) :=
    { map := hmap
      rng := fun b c hb => by
        rcases hinv b c hb with ⟨_, rfl⟩ | hb
        · exact .inr (Nat.le_refl _)
        · exact .inl ⟨b, hb⟩
      imm := fun _ h => h
      new := fun _ h => .inl h
      size := by omega
      kept := fun c hc _ => hold c hc
      shape := fun c hc => shape_of_heap (hold c hc), env := henv }
  refine ⟨hext, ?_, ?_⟩
  · refine ⟨fun b c hb => ?_, fun b b' c hb hb' hd hd' => ?_, fun c hc => ?_, fun b c hb => ?_⟩
    · rcases hinv b c hb with ⟨rfl, rfl⟩ | hb
      · exact ⟨by simp [AHeap.push], by omega⟩
      · have := hH.dom b c hb; exact ⟨by simp only [AHeap.push]; omega, by omega⟩
    · rcases hinv b c hb with ⟨rfl, rfl⟩ | hb1 <;> rcases hinv b' _ hb' with ⟨rfl, h2⟩ | hb2
      · rfl
      · have := (hH.dom b' _ hb2).2; omega
      · have := (hH.dom b _ hb1).2; omega
      · have e1 := Nat.ne_of_lt (hH.dom b _ hb1).1
        have e2 := Nat.ne_of_lt (hH.dom b' _ hb2).1
        simp only [AHeap.push, upd_isDead e1, upd_isDead e2] at hd hd'
        exact hH.inj b b' c hb1 hb2 hd hd'
    · have := hH.imm c hc
      refine ⟨by omega, fun b hb => ?_⟩
      rcases hinv b c hb with ⟨_, rfl⟩ | hb
      · omega
      · exact this.2 b hb
    · rcases hinv b c hb with ⟨rfl, rfl⟩ | hb
      · simp only [AHeap.push, upd_same]; exact hB
      · have := hH.dom b c hb
        simp only [AHeap.push]
        rw [upd_ne _ _ (Nat.ne_of_lt this.1)]
        exact (hH.blk b c hb).mono (fun hv => hext.mono hH hv) hmap (hold c this.2)
  · exact ⟨hold, by simp [AHeap.push], fun b hb => by simp only [AHeap.push]; exact upd_ne _ _ (Nat.ne_of_lt hb), fun b c hb => by
      rcases hinv b c hb with ⟨rfl, rfl⟩ | hb
      · exact .inr ⟨Nat.le_refl _, Nat.le_refl _⟩
      · exact .inl hb⟩

/-- The pointer to a new block. -/
theorem new_ptr {k : Nat} {H : AHeap} {w' : World} : VRel w' U (upd ι H.next (some w.heap.size)) (.ptr H.next k 0 0) (.pointer (some ⟨w.heap.size, 0, none⟩)) := by
  have := VRel.ptr (w := w') (U := U) (ι := upd ι H.next (some w.heap.size)) H.next k 0 0 w.heap.size (by simp)
  simpa using this

/-- A block of elements. -/
theorem cells_brel {w' : World} {ι' : Nat → Option Nat} {c k : Nat} {t : TypeId} {es : List (List AV)} {vs : List Value} {cs : Array Value} (hw : w'.heap[c]? = some (.cells cs t (0, 0))) (hk : ∀ e, e ∈ es → e.length = k)
    (hr : LsRel w' U ι' es.flatten vs) (h1 : ∀ a, a ∈ es.flatten → a.one = true) (hcs : ∀ (i : Nat) (v : Value), vs[i]? = some v → cs[i]? = some v) : BRel C w' U ι' c (.cells t k es) := by
  refine ⟨cs, hw, hk, fun i e j a he ha => ?_⟩
  have hidx : ∀ (es : List (List AV)) (i : Nat) (e : List AV), (∀ e, e ∈ es → e.length = k) → es[i]? = some e → ∀ (j : Nat) (a : AV), e[j]? = some a → es.flatten[i * k + j]? = some a := by
    intro es
    induction es with
    | nil => intro i e _ h; simp at h
    | cons x es ih =>
      intro i e hk he j a ha
      have hx : x.length = k := hk x (by simp)
      cases i with
      | zero =>
        simp at he; subst he
        have hj : j < x.length := (List.getElem?_eq_some_iff.mp ha).1
        simp only [List.flatten_cons, Nat.zero_mul, Nat.zero_add]
        rw [List.getElem?_append_left hj]; exact ha
      | succ i =>
        simp at he
        have := ih i e (fun e he => hk e (by simp [he])) he j a ha
        simp only [List.flatten_cons]
        rw [List.getElem?_append_right (by rw [hx, Nat.add_mul]; omega), hx]
        rw [show (i + 1) * k + j - k = i * k + j from by rw [Nat.add_mul]; omega]
        exact this
  have hf := hidx es i e hk he j a ha
  obtain ⟨v, hv, hvr⟩ := hr.get hf
  exact ⟨h1 a (List.mem_of_getElem? hf), v, hcs _ v hv, hvr⟩

/-- One cell after the other. -/
theorem run_loadVar {t : TypeId} {ti : TI} (ht : TIok C t ti) {e : List AV} {j c o : Nat} {r : AV} (h1 : ∀ x, x ∈ e → x.one = true)
    (hc : ∀ (m : Nat) (x : AV), e[m]? = some x → ∃ v, w.cell? ⟨c, o + m, none⟩ = some v ∧ VRel w U ι x v) (h : part ti e j = some r) :
    ∃ v, (Instr.loadAt t (.pointer (some ⟨c, o + j, none⟩))).run C.P w = .ok v w ∧ VRel w U ι r v := by
  unfold part at h
  unfold Instr.loadAt loadVar
  by_cases hg : ti.kind.isAgg = true
  · rw [if_pos hg] at h
    split at h
    · rename_i hle
      cases h
      have hmem : ∀ m, m < ti.size → ∃ x, e[j + m]? = some x := fun m hm => ⟨e[j + m], List.getElem?_eq_getElem (by omega)⟩
      let f : Nat → Value := fun m => (w.cell? ⟨c, o + (j + m), none⟩).getD undef
      have hf : ∀ m, m < ti.size → w.cell? ((⟨c, o + j, none⟩ : Addr).add m) = some (f m) := by
        intro m hm
        obtain ⟨x, hx⟩ := hmem m hm
        obtain ⟨v, hv, _⟩ := hc _ _ hx
        rw [Addr.add_eq, Nat.add_assoc]
        simp only [f, hv, Option.getD_some]
      refine ⟨.agg ((List.range ti.size).map f).toArray, ?_, .agg _ _ (by simp; omega) (fun a ha => h1 a (List.mem_of_mem_drop (List.mem_of_mem_take ha))) (fun i a v ha hv => ?_)⟩
      · simp only [Sem.run_bind, Instr.sureAddr, Sem.run_pure, Result.andThen_ok, ht.run_isAgg, hg, if_true, ht.run_sizeOf, run_loadCells w _ _ f hf]
      · rw [List.getElem?_take, List.getElem?_drop] at ha
        split at ha
        · rename_i hi
          rw [List.getElem?_map, List.getElem?_range hi] at hv
          simp only [Option.map_some, Option.some.injEq] at hv
          obtain ⟨u, hu, hur⟩ := hc _ _ ha
          subst hv
          simp only [f, hu, Option.getD_some]
          exact hur
        · cases ha
    · cases h
  · rw [if_neg hg] at h
    obtain ⟨v, hv, hvr⟩ := hc _ _ h
    refine ⟨v, ?_, hvr⟩
    simp [Instr.sureAddr, ht.run_isAgg, hg, hv]

theorem load_sound (hC : TOk C) {H : AHeap} (hH : HRel C w U ι H) {t : TypeId} {p r : AV} {v : Value} (hp : VRel w U ι p v) (h : loadA C H t p = some r) :
    ∃ u, (Instr.loadAt t v).run C.P w = .ok u w ∧ VRel w U ι r u := by
  unfold loadA at h
  split at h
  · cases h
  · rename_i ti hti
    split at h
    · rename_i b k i j
      split at h
      · rename_i t' k' es hb
        split at h
        · rename_i hk
          subst hk
          split at h
          · rename_i e he
            cases hp with
            | ptr _ _ _ _ c hι =>
              have hbr := hH.blk b c hι
              rw [hb] at hbr
              obtain ⟨cs, hcs, _, hr⟩ := hbr
              refine run_loadVar (hC.tt _ _ hti) (fun x hx => ?_) (fun m x hx => ?_) h
              · obtain ⟨m, hm⟩ := List.getElem?_of_mem hx
                exact (hr i e m x he hm).1
              · obtain ⟨_, u, hu, hur⟩ := hr i e m x he hx
                exact ⟨u, by simp [World.cell?, hcs, hu], hur⟩
          · cases h
        · cases h
      · cases h
    · rename_i k es i j
      split at h
      · rename_i e he
        cases hp with
        | vptr _ c o _ _ _ ys hk hU hc h1 hr =>
          have hi : i < es.length := (List.getElem?_eq_some_iff.mp he).1
          refine run_loadVar (hC.tt _ _ hti) (h1 e (List.mem_of_getElem? he)) (fun m x hx => ?_) h
          have hm : m < k := by rw [← hk e (List.mem_of_getElem? he)]; exact (List.getElem?_eq_some_iff.mp hx).1
          exact ⟨ys i m, hc i m hi hm, (hr i e m x he hx).mono (fun _ h => h) (fun _ _ => rfl) (fun _ _ h => h) ι (fun _ _ h => by cases h)⟩
      · cases h
    · cases h

end Go.BX
