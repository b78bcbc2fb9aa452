import Derived.Test.YtmbagennmeahhaaBMem
namespace Go.BX
set_option linter.unusedSimpArgs false

variable {C : Ctx} {w : World} {U : Nat → Prop} {ι : Nat → Option Nat}

/-- What a new block of cells comes to. -/
theorem push_cells {H : AHeap} (hH : HRel C w U ι H) {t : TypeId} {k : Nat} {es : List (List AV)} {vs : List Value} {cs : Array Value} {w' : World} (hw : w'.heap = w.heap.push (.cells cs t (0, 0)))
    (hk : ∀ e, e ∈ es → e.length = k) (hr : LsRel w U ι es.flatten vs) (h1 : ∀ a, a ∈ es.flatten → a.one = true) (hcs : ∀ (i : Nat) (v : Value), vs[i]? = some v → cs[i]? = some v) (henv : w'.os = w.os ∧ w'.tape = w.tape ∧ w'.output = w.output := by exact ⟨rfl, rfl, rfl⟩) :
    Ext w U ι w' U (upd ι H.next (some w.heap.size)) ∧ HRel C w' U (upd ι H.next (some w.heap.size)) (H.push (.cells t k es)) ∧ Reads w ι H (H.push (.cells t k es)) w' (upd ι H.next (some w.heap.size)) := by
  have hold : ∀ c, c < w.heap.size → w'.heap[c]? = w.heap[c]? := fun c hc => by
    rw [hw, Array.getElem?_push]; simp [Nat.ne_of_lt hc]
  have hm : ∀ {a : AV} {v : Value}, VRel w U ι a v → VRel w' U (upd ι H.next (some w.heap.size)) a v := fun hv =>
    hv.mono (fun _ h => h) (fun c hc => hold c (hH.imm c hc).1) (fun c x hx => by rw [shape_of_heap (hold c (shape_lt hx))]; exact hx) _ (fun b c hb => by rw [upd_ne _ _ (Nat.ne_of_lt (hH.dom b c hb).1)]; exact hb)
  refine push_rel hH hw _ ?_ henv
  exact cells_brel (vs := vs) (cs := cs) (by rw [hw, Array.getElem?_push]; simp) hk (hr.mono hm) h1 hcs

theorem alloc_sound (hC : TOk C) {H : AHeap} (hH : HRel C w U ι H) {t : TypeId} {ti : TI} (hti : C.TT t = some ti) :
    ∃ v w' ι', (Instr.alloc t true (.tuple #[])).run C.P w = .ok v w' ∧ Leaves C w U ι (H.push (.cells t ti.size [ti.zero])) (.ptr H.next ti.size 0 0) v w' U ι' ∧ Reads w ι H (H.push (.cells t ti.size [ti.zero])) w' ι' := by
  have hok := hC.tt _ _ hti
  obtain ⟨z, hz, hzm, hzs⟩ := hok.run_zero (w := w)
  have hzr : LsRel w U ι ti.zero z.cells.toList := LsRel.ofConsts hzm
  obtain ⟨h1, h2, h3⟩ := push_cells hH (w' := w.alloc (.cells z.cells t)) (cs := z.cells) (t := t) (k := ti.size) (es := [ti.zero]) (vs := z.cells.toList) rfl
    (by simp [hok.zero_len]) (by simpa using hzr) (by simpa using hok.zero_one) (fun i v hv => by simpa using hv)
  exact ⟨.pointer (some ⟨w.heap.size, 0, none⟩), w.alloc (.cells z.cells t), _, by simp [Instr.alloc, hz, newVar, newRow], ⟨h1, h2, new_ptr⟩, h3⟩

theorem box_sound {H : AHeap} (hH : HRel C w U ι H) {t : TypeId} {ti : TI} {x : AV} {u : Value} (hx : VRel w U ι x u) (hp : x.plain = true) (hl : x.cells.length = ti.size) :
    ∃ v w' ι', (Instr.box t u).run C.P w = .ok v w' ∧ Leaves C w U ι (H.push (.cells t ti.size [x.cells])) (.ptr H.next ti.size 0 0) v w' U ι' ∧ Reads w ι H (H.push (.cells t ti.size [x.cells])) w' ι' := by
  obtain ⟨hr, ho⟩ := hx.cells_rel hp
  obtain ⟨h1, h2, h3⟩ := push_cells hH (w' := w.alloc (.cells u.cells t)) (cs := u.cells) (t := t) (k := ti.size) (es := [x.cells]) (vs := u.cells.toList) rfl
    (by simp [hl]) (by simpa using hr) (by simpa using ho) (fun i v hv => by simpa using hv)
  exact ⟨.pointer (some ⟨w.heap.size, 0, none⟩), w.alloc (.cells u.cells t), _, by simp [Instr.box, newVar, newRow], ⟨h1, h2, new_ptr⟩, h3⟩

theorem chunk_len {k : Nat} : ∀ {n : Nat} {cs : List AV}, cs.length = n * k → (chunk k n cs).flatten = cs ∧ (∀ e, e ∈ chunk k n cs → e.length = k) ∧ (chunk k n cs).length = n
  | 0, cs, h => by
    have : cs = [] := List.eq_nil_of_length_eq_zero (by simpa using h)
    subst this; simp [chunk]
  | n + 1, cs, h => by
    have hd : (cs.drop k).length = n * k := by rw [List.length_drop, h, Nat.add_mul]; omega
    obtain ⟨h1, h2, h3⟩ := chunk_len hd
    have hk : k ≤ cs.length := by rw [h, Nat.add_mul]; omega
    refine ⟨by simp [chunk, h1], fun e he => ?_, by simp [chunk, h3]⟩
    simp only [chunk, List.mem_cons] at he
    rcases he with rfl | he
    · simp; omega
    · exact h2 e he

theorem zeros_cells (z : Array Value) (n : Nat) : ((Array.range (n * z.size)).map (fun i => z[i % z.size]!)).toList = (List.replicate n z.toList).flatten := by
  apply List.ext_getElem?
  intro i
  have hlen : (List.replicate n z.toList).flatten.length = n * z.size := by simp
  by_cases hi : i < n * z.size
  · have hz : 0 < z.size := by
      rcases Nat.eq_zero_or_pos z.size with h | h
      · rw [h] at hi; simp at hi
      · exact h
    have hm : i % z.size < z.size := Nat.mod_lt _ hz
    have gen : ∀ (n i : Nat), i < n * z.size → (List.replicate n z.toList).flatten[i]? = z.toList[i % z.size]? := by
      intro n
      induction n with
      | zero => intro i hi; simp at hi
      | succ n ih =>
        intro i hi
        rw [List.replicate_succ, List.flatten_cons]
        by_cases hlt : i < z.size
        · rw [List.getElem?_append_left (by simpa using hlt), Nat.mod_eq_of_lt hlt]
        · rw [List.getElem?_append_right (by simp; omega)]
          have := ih (i - z.size) (by rw [Nat.add_mul] at hi; omega)
          rw [show z.toList.length = z.size from by simp, this]
          rw [Nat.mod_eq_sub_mod (by omega : i ≥ z.size)]
    rw [gen n i hi]
    simp [hi, hm]
  · have r : (List.replicate n z.toList).flatten[i]? = none := List.getElem?_eq_none (by rw [hlen]; omega)
    rw [r]
    simp [hi]

theorem LsRel.replicate {cs : List AV} {vs : List Value} (h : LsRel w U ι cs vs) : ∀ n, LsRel w U ι (List.replicate n cs).flatten (List.replicate n vs).flatten
  | 0 => by simpa using LsRel.nil
  | n + 1 => by
    rw [List.replicate_succ, List.replicate_succ, List.flatten_cons, List.flatten_cons]
    exact h.append (LsRel.replicate h n)

theorem new_slc {H : AHeap} {w' : World} {t : TypeId} {k n cap : Nat} {cs : Array Value} (hw : w'.heap = w.heap.push (.cells cs t (0, 0))) (hn : n ≤ cap) (hm : cap * k ≤ cs.size) :
    VRel w' U (upd ι H.next (some w.heap.size)) (.slc H.next k 0 n) (.slice (some ⟨w.heap.size, 0, none⟩) n cap) := by
  refine .slc _ _ _ _ w.heap.size 0 cap cs.size t (by simp) (fun _ => by simp) hn ?_ (by omega)
  simp [World.shape?, hw]

theorem buildSlice_sound (hC : TOk C) {H : AHeap} (hH : HRel C w U ι H) {t elem : TypeId} {sz by_ : Nat} {zr : List AV} {eq : Option (List CK)} {te : TI} {len : Nat} {ps : List (Nat × AV)} {us : List (Nat × Value)} {cells : List AV}
    (hti : C.TT t = some { kind := .slice elem, size := sz, bytes := by_, zero := zr, eqk := eq }) (hte : C.TT elem = some te) (hle : len * te.size ≤ 16777216)
    (hl : us.length = ps.length) (hr : ∀ (i : Nat) (p : Nat × AV) (u : Nat × Value), ps[i]? = some p → us[i]? = some u → p.1 = u.1 ∧ VRel w U ι p.2 u.2)
    (hf : fillA (fun i => some (i * te.size, te.size)) (List.replicate len te.zero).flatten ps = some cells) :
    ∃ v w' ι', (Instr.buildSlice t len us.toArray).run C.P w = .ok v w' ∧ Leaves C w U ι (H.push (.cells elem te.size (chunk te.size len cells))) (.slc H.next te.size 0 len) v w' U ι' ∧ Reads w ι H (H.push (.cells elem te.size (chunk te.size len cells))) w' ι' := by
  have hk := (hC.tt _ _ hti).kind
  simp only [KOk] at hk
  have hok := hC.tt _ _ hte
  obtain ⟨z, hz, hzm, hzs⟩ := hok.run_zero (w := w)
  have hzr : LsRel w U ι te.zero z.cells.toList := LsRel.ofConsts hzm
  have hzr' := hzr.replicate len
  have hone : ∀ a, a ∈ (List.replicate len te.zero).flatten → a.one = true := by
    intro a ha
    simp only [List.mem_flatten, List.mem_replicate] at ha
    obtain ⟨l, ⟨_, rfl⟩, ha⟩ := ha
    exact hok.zero_one a ha
  obtain ⟨xs, hx, hxr, hxo, hxl⟩ := fill_sound (pc := fun i => some (i * te.size, te.size)) (fun i p hp => hp) hl hr hzr' hone hf
  have hlen : cells.length = len * te.size := by rw [hxl]; simp [hok.zero_len]
  obtain ⟨hfl, hck, hcl⟩ := chunk_len hlen
  obtain ⟨h1, h2, h3⟩ := push_cells hH (w' := w.alloc (.cells xs.toArray elem)) (cs := xs.toArray) (t := elem) (k := te.size) (es := chunk te.size len cells) (vs := xs) rfl hck (by rw [hfl]; exact hxr) (by rw [hfl]; exact hxo) (fun i v hv => by simpa using hv)
  refine ⟨.slice (some ⟨w.heap.size, 0, none⟩) len len, w.alloc (.cells xs.toArray elem), _, ?_, ⟨h1, h2, new_slc rfl (Nat.le_refl _) (by simp [hxr.1, hlen])⟩, h3⟩
  unfold Instr.buildSlice
  simp only [Sem.run_bind, run_underlying hk.1, Result.andThen_ok, hok.run_sizeOf]
  rw [if_neg (by omega)]
  by_cases h0 : len * te.size = 0
  · rw [if_pos h0]
    have hinit : (Array.range (len * te.size)).map (fun i => (#[] : Array Value)[i % (#[] : Array Value).size]!) = (List.replicate len z.cells.toList).flatten.toArray := by
      apply Array.ext'
      rw [h0]
      have : (List.replicate len z.cells.toList).flatten = [] := List.eq_nil_of_length_eq_zero (by simp [hzs, h0])
      rw [this]; simp
    simp only [Sem.run_bind, Sem.run_pure, Result.andThen_ok]
    rw [hinit, hx]
    simp [newRow]
  · rw [if_neg h0]
    have hinit : (Array.range (len * te.size)).map (fun i => z.cells[i % z.cells.size]!) = (List.replicate len z.cells.toList).flatten.toArray := by
      apply Array.ext'
      rw [← hzs]
      exact zeros_cells z.cells len
    simp only [Sem.run_bind, hz, Sem.run_pure, Result.andThen_ok]
    rw [hinit, hx]
    simp [newRow]

theorem range_sound (hC : TOk C) {H : AHeap} (hH : HRel C w U ι H) {t : TypeId} {sz by_ : Nat} {zr : List AV} {eq : Option (List CK)} {s : Bytes} {u : Value}
    (hti : C.TT t = some { kind := .str, size := sz, bytes := by_, zero := zr, eqk := eq }) (hx : VRel w U ι (.str s) u) :
    ∃ v w' ι', (Instr.range t u).run C.P w = .ok v w' ∧ Leaves C w U ι (H.push (.iter s 0)) (.ptr H.next 0 0 0) v w' U ι' ∧ Reads w ι H (H.push (.iter s 0)) w' ι' := by
  have hk := (hC.tt _ _ hti).kind
  simp only [KOk] at hk
  cases hx with
  | str _ b hb =>
    obtain ⟨h1, h2, h3⟩ := push_rel hH (w' := w.alloc (.stringIter b 0)) (o := .stringIter b 0) rfl (.iter s 0) ⟨b, hb, by rw [World.alloc, Array.getElem?_push]; simp⟩
    refine ⟨.pointer (some ⟨w.heap.size, 0, none⟩), w.alloc (.stringIter b 0), _, ?_, ⟨h1, h2, new_ptr⟩, h3⟩
    unfold Instr.range
    simp only [Sem.run_bind, run_underlying hk.1, Result.andThen_ok]
    simp

theorem makeSlice_sound (hC : TOk C) {H : AHeap} (hH : HRel C w U ι H) {t elem : TypeId} {sz by_ : Nat} {zr : List AV} {eq : Option (List CK)} {te : TI} {k1 k2 : IntKind} {n m : Int}
    (hti : C.TT t = some { kind := .slice elem, size := sz, bytes := by_, zero := zr, eqk := eq }) (hte : C.TT elem = some te) (h0 : 0 ≤ n) (hnm : n ≤ m) (hb : m * te.bytes ≤ (most : Int)) (hm : m ≤ (most : Int)) :
    ∃ v w' ι', (Instr.makeSlice t (.int k1 n) (.int k2 m)).run C.P w = .ok v w' ∧ Leaves C w U ι (H.push (.cells elem te.size (List.replicate n.toNat te.zero))) (.slc H.next te.size 0 n.toNat) v w' U ι' ∧ Reads w ι H (H.push (.cells elem te.size (List.replicate n.toNat te.zero))) w' ι' := by
  have hk := (hC.tt _ _ hti).kind
  simp only [KOk] at hk
  have hok := hC.tt _ _ hte
  obtain ⟨z, hz, hzm, hzs⟩ := hok.run_zero (w := w)
  obtain ⟨inf, hinf, hby, hsz⟩ := hok.run_bytes (w := w)
  have hzr : LsRel w U ι te.zero z.cells.toList := LsRel.ofConsts hzm
  have hone : ∀ a, a ∈ (List.replicate n.toNat te.zero).flatten → a.one = true := by
    intro a ha
    simp only [List.mem_flatten, List.mem_replicate] at ha
    obtain ⟨l, ⟨_, rfl⟩, ha⟩ := ha
    exact hok.zero_one a ha
  let cs : Array Value := (List.replicate m.toNat z.cells.toList).flatten.toArray
  have hpre : ∀ (i : Nat) (v : Value), (List.replicate n.toNat z.cells.toList).flatten[i]? = some v → cs[i]? = some v := by
    intro i v hv
    have : List.replicate m.toNat z.cells.toList = List.replicate n.toNat z.cells.toList ++ List.replicate (m.toNat - n.toNat) z.cells.toList := by
      rw [List.replicate_append_replicate]; congr 1; omega
    simp only [cs, this, List.flatten_append, List.getElem?_toArray]
    rw [List.getElem?_append_left (List.getElem?_eq_some_iff.mp hv).1]
    exact hv
  obtain ⟨h1, h2, h3⟩ := push_cells hH (w' := w.alloc (.cells cs elem)) (cs := cs) (t := elem) (k := te.size) (es := List.replicate n.toNat te.zero) (vs := (List.replicate n.toNat z.cells.toList).flatten) rfl
    (fun e he => by rw [(List.mem_replicate.mp he).2]; exact hok.zero_len) (hzr.replicate _) hone hpre
  have hcsz : cs.size = m.toNat * te.size := by simp [cs, hzs]
  refine ⟨.slice (some ⟨w.heap.size, 0, none⟩) n.toNat m.toNat, w.alloc (.cells cs elem), _, ?_, ⟨h1, h2, new_slc rfl (by omega) (by omega)⟩, h3⟩
  unfold Instr.makeSlice
  have hmost : (most : Int) = 140737488355328 := by decide
  rw [hmost] at hb hm
  have wn : IntKind.i64.wrap n = n := by
    unfold IntKind.wrap IntKind.bits IntKind.signed; simp; omega
  have wm : IntKind.i64.wrap m = m := by
    unfold IntKind.wrap IntKind.bits IntKind.signed; simp; omega
  have hmb : te.bytes * m ≤ 140737488355328 := by rw [Int.mul_comm]; exact hb
  have hnb : te.bytes * n ≤ 140737488355328 := by
    have : (te.bytes : Int) * n ≤ te.bytes * m := Int.mul_le_mul_of_nonneg_left hnm (by omega)
    omega
  simp only [Sem.run_bind, run_underlying hk.1, Result.andThen_ok, asInt, asIntOf, Sem.run_pure, hinf, hby, wn, wm]
  have c1 : ¬ (m < 0) := by omega
  have c2 : ¬ ((te.bytes : Int) * m > 2 ^ 48) := by omega
  have c3 : ¬ (n < 0) := by omega
  have c4 : ¬ (n > m) := by omega
  simp only [c1, c2, c3, c4, decide_false, Bool.or_self, Bool.false_eq_true, or_self, if_false, Sem.run_bind, run_askRoom, Result.andThen_ok, hok.run_sizeOf]
  by_cases h0 : m.toNat * te.size = 0
  · rw [if_pos h0]
    have hinit : (Array.range (m.toNat * te.size)).map (fun i => (#[] : Array Value)[i % (#[] : Array Value).size]!) = cs := by
      apply Array.ext'
      rw [h0]
      have : (List.replicate m.toNat z.cells.toList).flatten = [] := List.eq_nil_of_length_eq_zero (by simp [hzs, h0])
      simp [cs, this]
    simp only [Sem.run_bind, Sem.run_pure, Result.andThen_ok]
    rw [hinit]
    simp [newRow]
  · rw [if_neg h0]
    have hinit : (Array.range (m.toNat * te.size)).map (fun i => z.cells[i % z.cells.size]!) = cs := by
      apply Array.ext'
      rw [← hzs]
      exact zeros_cells z.cells m.toNat
    simp only [Sem.run_bind, hz, Sem.run_pure, Result.andThen_ok]
    rw [hinit]
    simp [newRow]

end Go.BX
