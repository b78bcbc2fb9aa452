import Derived.Test.YtmbagennmeahhaaBMem3
namespace Go.BX
set_option linter.unusedSimpArgs false
set_option linter.unusedVariables false

variable {C : Ctx} {w : World} {U : Nat → Prop} {ι : Nat → Option Nat}

theorem ones_cells {cs : List AV} {vs : List Value} (h : LsRel w U ι cs vs) (h1 : ∀ a, a ∈ cs → a.one = true) : ∀ v, v ∈ vs → v.oneCell' = true := by
  intro v hv
  obtain ⟨i, hi⟩ := List.getElem?_of_mem hv
  have hlt : i < cs.length := by rw [← h.1]; exact (List.getElem?_eq_some_iff.mp hi).1
  exact ((h.2 i _ v (List.getElem?_eq_getElem hlt) hi).one (h1 _ (List.getElem_mem hlt))).1

theorem splice_get {cs new : List AV} {off m : Nat} (h : off + new.length ≤ cs.length) : (splice cs off new)[m]? = if m < off then cs[m]? else if m < off + new.length then new[m - off]? else cs[m]? := by
  unfold splice
  by_cases h1 : m < off
  · rw [if_pos h1, List.append_assoc, List.getElem?_append_left (by simp; omega), List.getElem?_take, if_pos h1]
  · rw [if_neg h1]
    by_cases h2 : m < off + new.length
    · rw [if_pos h2, List.getElem?_append_left (by simp; omega), List.getElem?_append_right (by simp; omega)]
      congr 1; simp; omega
    · rw [if_neg h2, List.getElem?_append_right (by simp; omega), List.getElem?_drop]
      congr 1; simp; omega

theorem vsplice_get {cs new : List Value} {off m : Nat} (h : off + new.length ≤ cs.length) : (cs.take off ++ new ++ cs.drop (off + new.length))[m]? = if m < off then cs[m]? else if m < off + new.length then new[m - off]? else cs[m]? := by
  by_cases h1 : m < off
  · rw [if_pos h1, List.append_assoc, List.getElem?_append_left (by simp; omega), List.getElem?_take, if_pos h1]
  · rw [if_neg h1]
    by_cases h2 : m < off + new.length
    · rw [if_pos h2, List.getElem?_append_left (by simp; omega), List.getElem?_append_right (by simp; omega)]
      congr 1; simp; omega
    · rw [if_neg h2, List.getElem?_append_right (by simp; omega), List.getElem?_drop]
      congr 1; simp; omega

theorem store_sound (hC : TOk C) {H H' : AHeap} (hH : HRel C w U ι H) {t : TypeId} {p x : AV} {v u : Value} (hp : VRel w U ι p v) (hx : VRel w U ι x u) (h : storeA C H t p x = some H') :
    ∃ w', (Instr.storeAt t v u).run C.P w = .ok () w' ∧ Ext w U ι w' U ι ∧ HRel C w' U ι H' ∧ ∀ c, (∀ b, foot p = some (some b) → (H.at_ b).isDead = false → ι b ≠ some c) → w'.heap[c]? = w.heap[c]? := by
  unfold storeA at h
  split at h
  · cases h
  · rename_i ti hti
    split at h
    · rename_i b k i j
      split at h
      · rename_i t' k' es hbl
        split at h
        · rename_i hk
          subst hk
          split at h
          · rename_i e he
            split at h
            · rename_i hcond
              obtain ⟨hpl, hlen, hle⟩ := hcond
              cases h
              cases hp with
              | ptr _ _ _ _ c hι =>
                have hbr := hH.blk b c hι
                rw [hbl] at hbr
                obtain ⟨cs, hcs, hkk, hr⟩ := hbr
                obtain ⟨hcr, hco⟩ := hx.cells_rel hpl
                have hek : e.length = k := hkk e (List.mem_of_getElem? he)
                obtain ⟨hlr, hsz, _⟩ := brel_list hkk hr
                have hi : i < es.length := (List.getElem?_eq_some_iff.mp he).1
                have hus : u.cells.toList.length = ti.size := by rw [hcr.1, hlen]
                have hroom : i * k + j + u.cells.toList.length ≤ cs.size := by
                  have : (i + 1) * k ≤ es.length * k := Nat.mul_le_mul_right _ hi
                  rw [Nat.add_mul] at this
                  omega
                have hst := run_storeCells_at C.P c (i * k + j) t' u.cells.toList 0 cs w hcs (by simpa using hroom) (ones_cells hcr hco)
                simp only [Nat.add_zero] at hst
                have hdsz : (cs.toList.take (i * k + j) ++ u.cells.toList ++ cs.toList.drop (i * k + j + u.cells.toList.length)).toArray.size = cs.size := by
                  have e0 : u.cells.toList.length = u.cells.size := by simp
                  simp only [List.size_toArray, List.length_append, List.length_take, List.length_drop, Array.length_toList] at e0 hroom ⊢; omega
                obtain ⟨h1, h2⟩ := write_rel hH hι hcs hdsz (by rw [hbl]; rfl) (blk := .cells t' k (es.set i (splice e j x.cells))) (fun hm => by
                  refine ⟨_, setRow_heap w c cs _ t' _ hcs, fun e' he' => ?_, fun i' e' j' a he' ha => ?_⟩
                  · rcases List.mem_or_eq_of_mem_set he' with h | h
                    · exact hkk e' h
                    · rw [h, splice_len (by omega), hek]
                  · rw [List.getElem?_set] at he'
                    have hvg := @vsplice_get cs.toList u.cells.toList (i * k + j) (i' * k + j') (by simpa using hroom)
                    rw [List.getElem?_toArray, hvg]
                    by_cases hii : i = i'
                    · subst hii
                      rw [if_pos rfl, if_pos hi] at he'
                      cases he'
                      rw [splice_get (by omega)] at ha
                      by_cases c1 : j' < j
                      · rw [if_pos c1] at ha
                        rw [if_pos (by omega)]
                        obtain ⟨h1, v, hv, hvr⟩ := hr i e j' a he ha
                        exact ⟨h1, v, by rw [Array.getElem?_toList]; exact hv, hm hvr⟩
                      · rw [if_neg c1] at ha
                        rw [if_neg (by omega)]
                        by_cases c2 : j' < j + x.cells.length
                        · rw [if_pos c2] at ha
                          rw [if_pos (by omega)]
                          obtain ⟨v, hv, hvr⟩ := hcr.get ha
                          refine ⟨hco a (List.mem_of_getElem? ha), v, ?_, hm hvr⟩
                          rw [show i * k + j' - (i * k + j) = j' - j from by omega]
                          exact hv
                        · rw [if_neg c2] at ha
                          rw [if_neg (by omega)]
                          obtain ⟨h1, v, hv, hvr⟩ := hr i e j' a he ha
                          exact ⟨h1, v, by rw [Array.getElem?_toList]; exact hv, hm hvr⟩
                    · rw [if_neg hii] at he'
                      have hj' : j' < k := by rw [← hkk e' (List.mem_of_getElem? he')]; exact (List.getElem?_eq_some_iff.mp ha).1
                      obtain ⟨h1, v, hv, hvr⟩ := hr i' e' j' a he' ha
                      have hout : i' * k + j' < i * k + j ∨ i * k + j + u.cells.toList.length ≤ i' * k + j' := by
                        rcases Nat.lt_or_ge i' i with h | h
                        · left
                          have : (i' + 1) * k ≤ i * k := Nat.mul_le_mul_right _ h
                          rw [Nat.add_mul] at this; omega
                        · right
                          have : (i + 1) * k ≤ i' * k := Nat.mul_le_mul_right _ (by omega)
                          rw [Nat.add_mul] at this; omega
                      rcases hout with c1 | c1
                      · rw [if_pos c1]; exact ⟨h1, v, by rw [Array.getElem?_toList]; exact hv, hm hvr⟩
                      · rw [if_neg (by omega), if_neg (by omega)]; exact ⟨h1, v, by rw [Array.getElem?_toList]; exact hv, hm hvr⟩)
                refine ⟨_, ?_, h1, h2, fun d hd => setRow_other w c d _ (fun e => hd b rfl (by rw [hbl]; rfl) (by rw [e]; exact hι))⟩
                unfold Instr.storeAt storeVar
                simp only [Sem.run_bind, Instr.sureAddr, Sem.run_pure, Result.andThen_ok, (hC.tt _ _ hti).run_sizeOf]
                have hus' : u.cells.size = ti.size := by simpa using hus
                rw [if_neg (by simp [hus'])]
                exact hst
            · cases h
          · cases h
        · cases h
      · cases h
    · cases h

theorem drew_heap (w : World) : w.drew.heap = w.heap := rfl

theorem run_append_big {P : Program} (w : World) {t t' ty e : TypeId} {i : TypeInfo} {z : Value} (ht : P.underlying t = some (.slice e)) {d' : TypeDesc} (ht' : P.underlying t' = some d') (hd : ∀ k, d' ≠ .int k) (hi : P.info? e = some i) (hz : i.zero = some z)
    {base : Option Addr} {sLen sCap n : Nat} {x : Value} {olds news : Array Value} (hn : ∀ w', (Builtin.lenOf x).run P w' = .ok n w')
    (hold : ∀ w', w'.heap = w.heap → (Builtin.firstCells i.size sLen (.slice base sLen sCap)).run P w' = .ok olds w') (hnew : ∀ w', w'.heap = w.heap → (Builtin.firstCells i.size n x).run P w' = .ok news w')
    (hg : sCap < sLen + n) (hb : (sLen + n) * i.bytes ≤ 140737488355328) (hl : sLen + n ≤ 140737488355328) :
    (Builtin.append_ #[t, t'] ty #[.slice base sLen sCap, x]).run P w =
      .ok (.slice (some ⟨w.heap.size, 0, none⟩) (sLen + n) (grownCap w (sLen + n) sCap e)) (w.drew.alloc (.cells (olds ++ news ++ Builtin.zeroCells z.cells (grownCap w (sLen + n) sCap e - (sLen + n))) e)) := by
  have hng : ¬ (sLen + n ≤ sCap) := by omega
  have h63' : ¬ (9223372036854775807 < ((sLen : Int) + (n : Int))) := by omega
  have hfit := growslice_fits hg hb
  have h48' : ¬ (281474976710656 < Builtin.nextslicecap (sLen + n) sCap * i.bytes) := by omega
  have hzer : (d' matches .int _) = false := by cases d' <;> first | rfl | exact absurd rfl (hd _)
  have h1 := hold w.drew rfl
  have h2 := hnew w.drew rfl
  unfold Builtin.append_
  simp only [List.getElem?_toArray, List.getElem?_cons_zero, List.getElem?_cons_succ, Sem.run_bind, run_underlying ht, run_underlying ht', Result.andThen_ok, sizeOf, typeInfo, run_program, hi, Sem.run_pure, hzer, hn, Bool.false_eq_true, if_false, hng, or_false, false_or, not_false_eq_true, Bool.not_false, if_true]
  have hmax : IntKind.i64.max = 9223372036854775807 := by decide
  simp [h63', h48', hmax, hi, hz, zeroValue, typeInfo, Question.forced, h1, h2, newRow, grownCap, Builtin.zeroCells]

theorem run_append_zeros {P : Program} (w : World) {t t' ty e : TypeId} {i : TypeInfo} {z : Value} {k k' : IntKind} {N : Nat} (ht : P.underlying t = some (.slice e)) (ht' : P.underlying t' = some (.int k')) (hi : P.info? e = some i) (hz : i.zero = some z) (hzs : z.cells.size = i.size)
    (h0 : 0 < N) (hb : N * i.bytes ≤ 140737488355328) (hl : N ≤ 140737488355328) :
    (Builtin.append_ #[t, t'] ty #[.slice none 0 0, .int k (N : Int)]).run P w =
      .ok (.slice (some ⟨w.heap.size, 0, none⟩) N (grownCap w N 0 e)) (w.drew.alloc (.cells (#[] ++ Builtin.zeroCells z.cells N ++ Builtin.zeroCells z.cells (grownCap w N 0 e - N)) e)) := by
  have hng : ¬ (N ≤ 0) := by omega
  have wn : IntKind.i64.wrap (N : Int) = (N : Int) := by
    unfold IntKind.wrap IntKind.bits IntKind.signed; simp; omega
  have c1 : ¬ ((N : Int) < 0) := by omega
  have c2 : ¬ ((N : Int) * (i.bytes : Int) > 2 ^ 48) := by
    have h2 : ((N * i.bytes : Nat) : Int) ≤ ((140737488355328 : Nat) : Int) := Int.ofNat_le.mpr hb
    rw [Int.natCast_mul] at h2
    omega
  have h63' : ¬ (9223372036854775807 < (N : Int)) := by omega
  have hfit := growslice_fits (need := N) (old := 0) (bytes := i.bytes) h0 hb
  have h48' : ¬ (281474976710656 < Builtin.nextslicecap N 0 * i.bytes) := by omega
  have hmax : IntKind.i64.max = 9223372036854775807 := by decide
  have hzc : (if N * i.size = 0 then (#[] : Array Value) else Builtin.zeroCells z.cells N) = Builtin.zeroCells z.cells N := by
    split
    · rename_i h
      unfold Builtin.zeroCells
      rw [hzs, h]
      simp
    · rfl
  have hap : ∀ w' : World, (if N * i.size = 0 then (pure #[] : Sem (Array Value)) else do pure (Builtin.zeroCells (← zeroValue e).cells N)).run P w' = .ok (Builtin.zeroCells z.cells N) w' := by
    intro w'
    rw [← hzc]
    split <;> simp [zeroValue, typeInfo, hi, hz]
  unfold Builtin.append_
  simp only [List.getElem?_toArray, List.getElem?_cons_zero, List.getElem?_cons_succ, Sem.run_bind, run_underlying ht, run_underlying ht', Result.andThen_ok, sizeOf, typeInfo, run_program, hi, Sem.run_pure, asInt, asIntOf, wn, c1, c2, Int.toNat_natCast, Nat.zero_add, Bool.false_eq_true, if_false, if_true, hng, Bool.not_true]
  simp [h63', h48', hmax, hi, hz, zeroValue, typeInfo, Question.forced, newRow, grownCap, Builtin.firstCells, hap, c1, c2]
  try (intro h; rw [if_pos h] at hzc; rw [← hzc]; simp)

theorem appendZ_sound (hC : TOk C) {H H' : AHeap} (hH : HRel C w U ι H) {t t' ty : TypeId} {ik : IntKind} {sz' by_' : Nat} {zr' : List AV} {eq' : Option (List CK)} {d s r : AV} {vd vs : Value} (hd : VRel w U ι d vd) (hs : VRel w U ι s vs)
    (hti' : C.TT t' = some { kind := .int ik, size := sz', bytes := by_', zero := zr', eqk := eq' }) (h : appendZ C H t d s = some (r, H')) :
    ∃ v w' ι', (Builtin.append_ #[t, t'] ty #[vd, vs]).run C.P w = .ok v w' ∧ Leaves C w U ι H' r v w' U ι' ∧ Fresh H ι ι' ∧ ∀ c, c < w.heap.size → w'.heap[c]? = w.heap[c]? := by
  have hmost : (most : Int) = 140737488355328 := by decide
  unfold appendZ at h
  split at h
  · rename_i elem sz by_ zr eq kk n hti
    have hk := (hC.tt _ _ hti).kind
    have hk' := (hC.tt _ _ hti').kind
    simp only [KOk] at hk hk'
    split at h
    · rename_i te hte
      have hok := hC.tt _ _ hte
      obtain ⟨inf, hinf, hisz, hiby, z, hz, hzm, hzs, _⟩ := hok.info
      split at h
      · rename_i hcond
        obtain ⟨h0, hb, hl⟩ := hcond
        cases h
        cases hd
        cases hs
        obtain ⟨N, rfl⟩ : ∃ N : Nat, n = (N : Int) := ⟨n.toNat, by omega⟩
        rw [hmost] at hb hl
        have hb' : N * inf.bytes ≤ 140737488355328 := by
          rw [hiby]
          have h2 : ((N * te.bytes : Nat) : Int) ≤ ((140737488355328 : Nat) : Int) := by rw [Int.natCast_mul]; exact hb
          exact Int.ofNat_le.mp h2
        have hrun := run_append_zeros (P := C.P) w (ty := ty) (k := kk) (N := N) hk.1 hk'.1 hinf hz (by rw [hzs, hisz]) (by omega) hb' (by omega)
        have hge := grownCap_ge w N 0 elem
        have hzr : LsRel w U ι te.zero z.cells.toList := LsRel.ofConsts hzm
        have hone : ∀ a, a ∈ (List.replicate N te.zero).flatten → a.one = true := by
          intro a ha
          simp only [List.mem_flatten, List.mem_replicate] at ha
          obtain ⟨l, ⟨_, rfl⟩, ha⟩ := ha
          exact hok.zero_one a ha
        have hzl : (Builtin.zeroCells z.cells N).toList = (List.replicate N z.cells.toList).flatten := by
          unfold Builtin.zeroCells
          exact zeros_cells z.cells N
        have hpc := push_cells hH (t := elem) (k := te.size) (es := List.replicate N te.zero) (vs := (List.replicate N z.cells.toList).flatten) (cs := #[] ++ Builtin.zeroCells z.cells N ++ Builtin.zeroCells z.cells (grownCap w N 0 elem - N))
          (w' := w.drew.alloc (.cells (#[] ++ Builtin.zeroCells z.cells N ++ Builtin.zeroCells z.cells (grownCap w N 0 elem - N)) elem)) rfl
          (fun e he => by rw [(List.mem_replicate.mp he).2]; exact hok.zero_len) (hzr.replicate _) hone
          (fun i v hv => by
            rw [← Array.getElem?_toList]
            simp only [Array.toList_append, Array.toList_empty, List.nil_append]
            rw [hzl, List.getElem?_append_left (List.getElem?_eq_some_iff.mp hv).1]
            exact hv)
        obtain ⟨h1, h2, h3⟩ := hpc
        refine ⟨_, _, _, hrun, ⟨h1, by simpa using h2, ?_⟩, fun b c hb => h3.fresh b c hb, fun c hc => h3.all c hc⟩
        have := new_slc (w := w) (H := H) (ι := ι) (U := U) (n := N) (cap := grownCap w N 0 elem) (k := te.size) (cs := #[] ++ Builtin.zeroCells z.cells N ++ Builtin.zeroCells z.cells (grownCap w N 0 elem - N)) (t := elem) (w' := w.drew.alloc (.cells (#[] ++ Builtin.zeroCells z.cells N ++ Builtin.zeroCells z.cells (grownCap w N 0 elem - N)) elem)) rfl hge (by
          simp only [Array.size_append, size_zeroCells, hzs, List.size_toArray, List.length_nil, Nat.zero_add]
          rw [← Nat.add_mul]
          exact Nat.mul_le_mul_right _ (by omega))
        simpa using this
      · cases h
    · cases h
  · cases h

theorem append_sound (hC : TOk C) {H H' : AHeap} (hH : HRel C w U ι H) {t t' ty : TypeId} {ti' : TI} {d s r : AV} {vd vs : Value} (hd : VRel w U ι d vd) (hs : VRel w U ι s vs)
    (hti' : C.TT t' = some ti') (hni : ∀ k, ti'.kind ≠ .int k) (h : appendA C H t d s = some (r, H')) :
    ∃ v w' ι', (Builtin.append_ #[t, t'] ty #[vd, vs]).run C.P w = .ok v w' ∧ Leaves C w U ι H' r v w' U ι' ∧ Fresh H ι ι' ∧ ∀ c, c < w.heap.size → (∀ b, foot d = some (some b) → (H.at_ b).isDead = false → ι b ≠ some c) → w'.heap[c]? = w.heap[c]? := by
  have hmost : most = 140737488355328 := by decide
  unfold appendA at h
  split at h
  · rename_i elem sz by_ zr eq hti
    have hk := (hC.tt _ _ hti).kind
    simp only [KOk] at hk
    obtain ⟨d', hu', hdn⟩ : ∃ d', C.P.underlying t' = some d' ∧ ∀ k, d' ≠ .int k := by
      have hk' := (hC.tt _ _ hti').kind
      unfold KOk at hk'
      cases e : ti'.kind <;> rw [e] at hk' <;> first
        | exact absurd e (hni _)
        | exact ⟨_, hk'.1, by simp⟩
        | (obtain ⟨⟨_, hu⟩, _⟩ := hk'; exact ⟨_, hu, by simp⟩)
        | (obtain ⟨_, hu, _⟩ := hk'; exact ⟨_, hu, by simp⟩)
        | (obtain ⟨⟨_, _, _, hu⟩, _⟩ := hk'; exact ⟨_, hu, by simp⟩)
    have hzer : (d' matches .int _) = false := by cases d' <;> first | rfl | exact absurd rfl (hdn _)
    split at h
    · cases h
    · rename_i te hte
      have hok := hC.tt _ _ hte
      obtain ⟨inf, hinf, hisz, hiby, z, hz, hzm, hzs, _⟩ := hok.info
      split at h
      · cases h
      · rename_i new hnew
        obtain ⟨hnk, hnl, hn1, nvs, hnr, hnf, _⟩ := source_sound hH hs hnew
        have hnvl : nvs.length = new.length * te.size := by rw [hnr.1, flat_len hnk]
        -- growing
        have grow : ∀ (base : Option Addr) (sLen sCap : Nat) (olds : List Value) (oes : List (List AV)), vd = .slice base sLen sCap → sCap < sLen + new.length → (∀ e, e ∈ oes → e.length = te.size) → oes.length = sLen →
            LsRel w U ι oes.flatten olds → (∀ a, a ∈ oes.flatten → a.one = true) → (∀ w', w'.heap = w.heap → (Builtin.firstCells te.size sLen (.slice base sLen sCap)).run C.P w' = .ok olds.toArray w') →
            (sLen + new.length) * te.bytes ≤ most → sLen + new.length ≤ most → ∀ H0 : AHeap, HRel C w U ι H0 → H0.next = H.next →
              ∃ v w' ι', (Builtin.append_ #[t, t'] ty #[vd, vs]).run C.P w = .ok v w' ∧ Leaves C w U ι (H0.push (.cells elem te.size (oes ++ new))) (.slc H.next te.size 0 (sLen + new.length)) v w' U ι' ∧ Fresh H ι ι' ∧ ∀ c, c < w.heap.size → (∀ b, foot d = some (some b) → (H.at_ b).isDead = false → ι b ≠ some c) → w'.heap[c]? = w.heap[c]? := by
          intro base sLen sCap olds oes hvd hg hok' holen hor ho1 hof hb hl H0 hH0 hnx
          subst hvd
          have hrun := run_append_big (P := C.P) w (ty := ty) hk.1 hu' hdn hinf hz (n := new.length) (olds := olds.toArray) (news := nvs.toArray) hnl (by rw [hisz]; exact hof) (by rw [hisz]; exact hnf) hg (by rw [hiby, ← hmost]; exact hb) (by rw [← hmost]; exact hl)
          have hge := grownCap_ge w (sLen + new.length) sCap elem
          have holl : olds.length = sLen * te.size := by rw [hor.1, flat_len hok', holen]
          have hpc := push_cells hH0 (t := elem) (k := te.size) (es := oes ++ new) (vs := olds ++ nvs) (cs := olds.toArray ++ nvs.toArray ++ Builtin.zeroCells z.cells (grownCap w (sLen + new.length) sCap elem - (sLen + new.length)))
            (w' := w.drew.alloc (.cells (olds.toArray ++ nvs.toArray ++ Builtin.zeroCells z.cells (grownCap w (sLen + new.length) sCap elem - (sLen + new.length))) elem)) rfl
            (fun e he => by rcases List.mem_append.mp he with h | h; exact hok' e h; exact hnk e h) (by rw [List.flatten_append]; exact hor.append hnr)
            (fun a ha => by rw [List.flatten_append] at ha; rcases List.mem_append.mp ha with h | h; exact ho1 a h; exact hn1 a h)
            (fun i v hv => by
              rw [← Array.getElem?_toList]
              simp only [Array.toList_append]
              rw [List.getElem?_append_left (by have := (List.getElem?_eq_some_iff.mp hv).1; simpa using this)]
              exact hv)
          rw [hnx] at hpc
          obtain ⟨h1, h2, h3⟩ := hpc
          refine ⟨_, _, _, hrun, ⟨h1, h2, ?_⟩, fun b c hb => ?_, fun c hc _ => h3.all c hc⟩
          rotate_left
          · have := h3.fresh b c hb; rwa [hnx] at this
          rw [← hnx]
          refine new_slc (w := w) (H := H0) (cs := olds.toArray ++ nvs.toArray ++ Builtin.zeroCells z.cells (grownCap w (sLen + new.length) sCap elem - (sLen + new.length))) (t := elem) rfl hge ?_
          simp only [Array.size_append, List.size_toArray, size_zeroCells, holl, hnvl, Nat.zero_add, hzs]
          rw [← Nat.add_mul, ← Nat.add_mul]
          exact Nat.mul_le_mul_right _ (by omega)
        split at h
        · -- nil
          split at h
          · rename_i hne
            cases h
            cases hd
            subst hne
            have hnv : nvs = [] := List.eq_nil_of_length_eq_zero (by simpa using hnvl)
            refine ⟨.slice none 0 0, w, ι, ?_, ⟨Ext.refl _ _ _, hH, .nilS⟩, Fresh.refl _ _, fun _ _ _ => rfl⟩
            unfold Builtin.append_
            simp only [List.getElem?_toArray, List.getElem?_cons_zero, List.getElem?_cons_succ, Sem.run_bind, run_underlying hk.1, run_underlying hu', Result.andThen_ok, hok.run_sizeOf, Sem.run_pure, hzer, hnl, Bool.false_eq_true, if_false, hnf w rfl]
            simp [hnf w rfl, hnv, hnl]
            have := hnf w rfl
            simp only [List.length_nil] at this
            simp [this, hnv]
          · split at h
            · rename_i hne hb
              cases h
              cases hd
              have hpos : 0 < new.length := by
                rcases Nat.eq_zero_or_pos new.length with h | h
                · exact absurd (List.eq_nil_of_length_eq_zero h) hne
                · exact h
              have := grow none 0 0 [] [] rfl (by omega) (by simp) rfl LsRel.nil (by simp) (fun w' _ => by simp [Builtin.firstCells]) (by simpa using hb.1) (by simpa using hb.2) H hH rfl
              simpa using this
            · cases h
        · -- emp
          split at h
          · rename_i hne
            cases h
            subst hne
            cases hd with
            | emp a =>
              have hnv : nvs = [] := List.eq_nil_of_length_eq_zero (by simpa using hnvl)
              refine ⟨.slice (some a) 0 0, w, ι, ?_, ⟨Ext.refl _ _ _, hH, .emp a⟩, Fresh.refl _ _, fun _ _ _ => rfl⟩
              have := hnf w rfl
              simp only [List.length_nil] at this
              unfold Builtin.append_
              simp only [List.getElem?_toArray, List.getElem?_cons_zero, List.getElem?_cons_succ, Sem.run_bind, run_underlying hk.1, run_underlying hu', Result.andThen_ok, hok.run_sizeOf, Sem.run_pure, hzer, hnl, Bool.false_eq_true, if_false]
              simp [this, hnv, storeCells]
          · split at h
            · rename_i hne hb
              cases h
              cases hd with
              | emp a =>
                have hpos : 0 < new.length := by
                  rcases Nat.eq_zero_or_pos new.length with h | h
                  · exact absurd (List.eq_nil_of_length_eq_zero h) hne
                  · exact h
                have := grow (some a) 0 0 [] [] rfl (by omega) (by simp) rfl LsRel.nil (by simp) (fun w' _ => by simp [Builtin.firstCells, loadCells, loadCellsFrom]) (by simpa using hb.1) (by simpa using hb.2) H hH rfl
                simpa using this
            · cases h
        · -- a block
          rename_i b k n
          split at h
          · rename_i te' k' es hbl
            split at h
            · rename_i hcond
              obtain ⟨rfl, rfl, rfl, hnle, hb, hl⟩ := hcond
              cases hd with
              | slc _ _ _ _ c off cap m tt hι ho hncap hsh hm =>
                have hoff : off = 0 := by have := ho (.inr rfl); simpa using this
                subst hoff
                have hbr := hH.blk b c hι
                rw [hbl] at hbr
                obtain ⟨cs, hcs, hkk, hr⟩ := hbr
                have hmsz : te' = tt ∧ cs.size = m := by simpa [World.shape?, hcs] using hsh
                obtain ⟨rfl, rfl⟩ := hmsz
                obtain ⟨hlr, hlsz, hl1⟩ := brel_list hkk hr
                by_cases hroom : n + new.length ≤ cap
                · -- there is room
                  have hfit : n * te.size + nvs.length ≤ cs.size := by
                    rw [hnvl, ← Nat.add_mul]
                    have := Nat.mul_le_mul_right te.size hroom
                    omega
                  have hst := run_storeCells_at C.P c (n * te.size) te' nvs 0 cs w hcs (by simpa using hfit) (ones_cells hnr hn1)
                  simp only [Nat.add_zero] at hst
                  have hrun : (Builtin.append_ #[t, t'] ty #[.slice (some ⟨c, 0, none⟩) n cap, vs]).run C.P w = .ok (.slice (some ⟨c, 0, none⟩) (n + new.length) cap) (w.setRow c (cs.toList.take (n * te.size) ++ nvs ++ cs.toList.drop (n * te.size + nvs.length)).toArray) := by
                    unfold Builtin.append_
                    simp only [List.getElem?_toArray, List.getElem?_cons_zero, List.getElem?_cons_succ, Sem.run_bind, run_underlying hk.1, run_underlying hu', Result.andThen_ok, hok.run_sizeOf, Sem.run_pure, hzer, hnl, Bool.false_eq_true, if_false, hroom, if_true]
                    simp [hnf w rfl, Addr.add_eq, hst]
                  split at h
                  · rename_i hne
                    cases h
                    subst hne
                    have hnv : nvs = [] := List.eq_nil_of_length_eq_zero (by simpa using hnvl)
                    subst hnv
                    refine ⟨_, _, ι, hrun, ?_⟩
                    have hself : w.setRow c (cs.toList.take (n * te.size) ++ [] ++ cs.toList.drop (n * te.size + ([] : List Value).length)).toArray = w := by
                      simp only [List.append_nil, List.length_nil, Nat.add_zero, List.take_append_drop]
                      exact setRow_self w c cs te' _ hcs
                    rw [hself]
                    exact ⟨⟨Ext.refl _ _ _, hH, .slc _ _ _ _ c 0 cap cs.size te' hι (fun _ => by simp) hncap hsh (by omega)⟩, Fresh.refl _ _, fun _ _ _ => rfl⟩
                  · rename_i hne
                    cases h
                    have hdsz : (cs.toList.take (n * te.size) ++ nvs ++ cs.toList.drop (n * te.size + nvs.length)).toArray.size = cs.size := by
                      simp only [List.size_toArray, List.length_append, List.length_take, List.length_drop, Array.length_toList]; omega
                    -- the old block's place is taken by the new one
                    obtain ⟨h1, h2⟩ := write_rel hH hι hcs hdsz (by rw [hbl]; rfl) (blk := .dead) (fun _ => trivial)
                    generalize hw1 : w.setRow c (cs.toList.take (n * te.size) ++ nvs ++ cs.toList.drop (n * te.size + nvs.length)).toArray = w1 at hrun h1 h2
                    have hcs1 : w1.heap[c]? = some (.cells (cs.toList.take (n * te.size) ++ nvs ++ cs.toList.drop (n * te.size + nvs.length)).toArray te' (0, 0)) := by rw [← hw1]; exact setRow_heap w c cs _ te' _ hcs
                    have hmap : ∀ b' c', ι b' = some c' → upd ι H.next (some c) b' = some c' := fun b' c' hb' => by rw [upd_ne _ _ (Nat.ne_of_lt (hH.dom b' c' hb').1)]; exact hb'
                    have hinv : ∀ b' c', upd ι H.next (some c) b' = some c' → (b' = H.next ∧ c' = c) ∨ ι b' = some c' := fun b' c' hb' => by
                      by_cases e : b' = H.next
                      · subst e; rw [upd_same] at hb'; cases hb'; exact .inl ⟨rfl, rfl⟩
                      · rw [upd_ne _ _ e] at hb'; exact .inr hb'
                    have hmv : ∀ {a : AV} {v : Value}, VRel w U ι a v → VRel w1 U (upd ι H.next (some c)) a v := fun hv => (h1.mono hH hv).mono (fun _ h => h) (fun _ _ => rfl) (fun _ _ h => h) _ hmap
                    have hext : Ext w U ι w1 U (upd ι H.next (some c)) :=
                      { map := hmap
                        rng := fun b' c' hb' => by
                          rcases hinv b' c' hb' with ⟨_, rfl⟩ | hb'
                          · exact .inl ⟨b, hι⟩
                          · exact .inl ⟨b', hb'⟩
                        imm := h1.imm, new := h1.new, size := h1.size, kept := h1.kept, shape := h1.shape, env := h1.env }
                    have hbn : b ≠ H.next := Nat.ne_of_lt (hH.dom b c hι).1
                    refine ⟨_, w1, upd ι H.next (some c), hrun, ⟨hext, ⟨fun b' c' hb' => ?_, fun b1 b2 c' hb1 hb2 hd1 hd2 => ?_, fun c' hc' => ?_, fun b' c' hb' => ?_⟩, ?_⟩, fun b' c' hb' => (hinv b' c' hb').symm.imp id (fun h => Nat.le_of_eq h.1.symm), fun c' _ hc' => by rw [← hw1]; exact setRow_other w c c' _ (fun e => hc' b rfl (by rw [hbl]; rfl) (by rw [e]; exact hι))⟩
                    · rcases hinv b' c' hb' with ⟨rfl, rfl⟩ | hb'
                      · exact ⟨by simp [AHeap.push, AHeap.set], (h2.dom b c' hι).2⟩
                      · have := h2.dom b' c' hb'; simp only [AHeap.set] at this; exact ⟨by simp only [AHeap.push, AHeap.set]; omega, this.2⟩
                    · have other : ∀ b', ι b' = some c → (((H.set b .dead).push (.cells te' te.size (es.take n ++ new))).at_ b').isDead = false → b' = H.next → True := fun _ _ _ _ => trivial
                      have notlive : ∀ b', b' ≠ H.next → ι b' = some c → (((H.set b .dead).push (.cells te' te.size (es.take n ++ new))).at_ b').isDead = false → False := by
                        intro b' hne' hb' hdd
                        simp only [AHeap.push, AHeap.set, upd_isDead hne'] at hdd
                        by_cases e : b' = b
                        · subst e; simp [Blk.isDead] at hdd
                        · rw [upd_isDead e] at hdd
                          exact e (hH.inj b' b c hb' hι hdd (by rw [hbl]; rfl))
                      rcases hinv b1 c' hb1 with ⟨rfl, rfl⟩ | hb1' <;> rcases hinv b2 _ hb2 with ⟨rfl, e2⟩ | hb2'
                      · rfl
                      · exact (notlive b2 (Nat.ne_of_lt (hH.dom b2 _ hb2').1) hb2' hd2).elim
                      · subst e2; exact (notlive b1 (Nat.ne_of_lt (hH.dom b1 _ hb1').1) hb1' hd1).elim
                      · have n1 := Nat.ne_of_lt (hH.dom b1 _ hb1').1
                        have n2 := Nat.ne_of_lt (hH.dom b2 _ hb2').1
                        simp only [AHeap.push, AHeap.set, upd_isDead n1, upd_isDead n2] at hd1 hd2
                        by_cases e1 : b1 = b
                        · subst e1; simp [Blk.isDead] at hd1
                        · by_cases e2 : b2 = b
                          · subst e2; simp [Blk.isDead] at hd2
                          · rw [upd_isDead e1] at hd1; rw [upd_isDead e2] at hd2
                            exact hH.inj b1 b2 c' hb1' hb2' hd1 hd2
                    · have := h2.imm c' hc'
                      refine ⟨this.1, fun b' hb' => ?_⟩
                      rcases hinv b' c' hb' with ⟨_, rfl⟩ | hb'
                      · exact this.2 b hι
                      · exact this.2 b' hb'
                    · rcases hinv b' c' hb' with ⟨rfl, rfl⟩ | hb'
                      · simp only [AHeap.push, AHeap.set, upd_same]
                        have htk : ((es.take n).flatten) = es.flatten.take (n * te.size) := flat_take n hkk
                        have hns : n * te.size ≤ es.length * te.size := Nat.mul_le_mul_right _ hnle
                        refine cells_brel (vs := cs.toList.take (n * te.size) ++ nvs) hcs1 (fun e he => ?_) ?_ (fun a ha => ?_) (fun i v hv => ?_)
                        · rcases List.mem_append.mp he with h | h
                          · exact hkk e (List.mem_of_mem_take h)
                          · exact hnk e h
                        · rw [List.flatten_append, htk]
                          have hl2 := (hlr.take (n * te.size)).append hnr
                          rw [List.take_take, Nat.min_eq_left hns] at hl2
                          exact hl2.mono hmv
                        · rw [List.flatten_append, htk] at ha
                          rcases List.mem_append.mp ha with h | h
                          · exact hl1 a (List.mem_of_mem_take h)
                          · exact hn1 a h
                        · rw [List.getElem?_toArray, List.getElem?_append_left (List.getElem?_eq_some_iff.mp hv).1]
                          exact hv
                      · have hne' := Nat.ne_of_lt (hH.dom b' c' hb').1
                        simp only [AHeap.push]
                        rw [upd_ne _ _ (by simpa [AHeap.set] using hne')]
                        exact (h2.blk b' c' hb').mono (fun hv => hv.mono (fun _ h => h) (fun _ _ => rfl) (fun _ _ h => h) _ hmap) hmap rfl
                    · refine .slc _ _ _ _ c 0 cap cs.size te' (by simp) (fun _ => by simp) hroom ?_ (by omega)
                      rw [h1.shape c (hH.dom b c hι).2]; exact hsh
                · -- it grows
                  split at h
                  · rename_i hne; subst hne; simp at hroom; omega
                  · rename_i hne
                    cases h
                    have hns : n * te.size ≤ es.length * te.size := Nat.mul_le_mul_right _ hnle
                    have holds : LsRel w U ι (es.take n).flatten (cs.toList.take (n * te.size)) := by
                      rw [flat_take n hkk]
                      have := hlr.take (n * te.size)
                      rwa [List.take_take, Nat.min_eq_left hns] at this
                    -- the old block is given up
                    have hdead : HRel C w U ι (H.set b .dead) := by
                      refine ⟨fun b' c' hb' => by simpa [AHeap.set] using hH.dom b' c' hb', fun b1 b2 c' hb1 hb2 hd1 hd2 => ?_, hH.imm, fun b' c' hb' => ?_⟩
                      · have live : ∀ b', ((H.set b .dead).at_ b').isDead = false → (H.at_ b').isDead = false := by
                          intro b' h'
                          by_cases e : b' = b
                          · subst e; simp [AHeap.set, Blk.isDead] at h'
                          · simp only [AHeap.set, upd_isDead e] at h'; exact h'
                        exact hH.inj b1 b2 c' hb1 hb2 (live b1 hd1) (live b2 hd2)
                      · by_cases e : b' = b
                        · subst e; simp only [AHeap.set, upd_same]; trivial
                        · simp only [AHeap.set]; rw [upd_ne _ _ e]; exact hH.blk b' c' hb'
                    have := grow (some ⟨c, 0, none⟩) n cap (cs.toList.take (n * te.size)) (es.take n) rfl (by omega) (fun e he => hkk e (List.mem_of_mem_take he)) (by simp; omega) holds
                      (fun a ha => hl1 a (by rw [flat_take n hkk] at ha; exact List.mem_of_mem_take ha))
                      (fun w' hw' => by
                        refine run_firstCells_some (P := C.P) w' te.size n ⟨c, 0, none⟩ n cap _ (by rw [List.length_take]; simp; omega) (fun j u hu => ?_)
                        rw [Addr.add_eq, cell_of_heap (w := w) (by rw [hw'])]
                        rw [List.getElem?_take] at hu
                        split at hu
                        · simp only [World.cell?, hcs, Option.isSome_none, Nat.zero_add]
                          rw [← Array.getElem?_toList]; exact hu
                        · cases hu)
                      hb hl (H.set b .dead) hdead rfl
                    exact this
            · cases h
          · cases h
        · cases h
  · cases h

end Go.BX
