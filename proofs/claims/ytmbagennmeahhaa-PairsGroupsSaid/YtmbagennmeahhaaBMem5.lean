import Derived.Test.YtmbagennmeahhaaBMem4
namespace Go.BX
set_option linter.unusedSimpArgs false
set_option linter.unusedVariables false

variable {C : Ctx} {w : World} {U : Nat → Prop} {ι : Nat → Option Nat}

theorem bytesOf_spec : ∀ {es : List (List AV)} {s : Bytes}, bytesOf es = some s → ∃ ns : List Int, es = ns.map (fun n => [.int .u8 n]) ∧ s = ns.map (fun n => UInt8.ofNat n.toNat)
  | [], s, h => by simp [bytesOf] at h; subst h; exact ⟨[], rfl, rfl⟩
  | e :: es, s, h => by
    simp only [bytesOf] at h
    split at h
    · rename_i b bs hb hbs
      cases h
      obtain ⟨ns, rfl, rfl⟩ := bytesOf_spec hbs
      unfold byteOf at hb
      split at hb
      · rename_i n; cases hb; exact ⟨n :: ns, rfl, rfl⟩
      · cases hb
    · cases h

theorem ints_rel : ∀ {ns : List Int} {vs : List Value}, LsRel w U ι (ns.map fun n => AV.int .u8 n) vs → vs = ns.map (Value.int .u8)
  | [], vs, h => by simpa using h.cases_nil
  | n :: ns, vs, h => by
    obtain ⟨v, us, rfl, hv, hus⟩ := h.cases_cons
    cases hv
    rw [ints_rel hus]; rfl

theorem flat_ints (ns : List Int) : (ns.map fun n => [AV.int .u8 n]).flatten = ns.map fun n => AV.int .u8 n := by
  induction ns with
  | nil => rfl
  | cons n ns ih => simp only [List.map_cons, List.flatten_cons] at ih ⊢; rw [ih]; rfl

theorem foldl_push (ns : List Int) : ∀ (b : ByteArray), (ns.foldl (fun r n => r.push (UInt8.ofNat n.toNat)) b).data.toList = b.data.toList ++ ns.map (fun n => UInt8.ofNat n.toNat) := by
  induction ns with
  | nil => intro b; simp
  | cons c s ih => intro b; rw [List.foldl_cons, ih]; simp [ByteArray.push]

theorem conv_sound (hC : TOk C) {H : AHeap} (hH : HRel C w U ι H) {s d : TypeId} {x r : AV} {v : Value} (hx : VRel w U ι x v) (h : convA C H s d x = some r) :
    ∃ u, (Go.convert s d v).run C.P w = .ok u w ∧ VRel w U ι r u := by
  unfold convA at h
  split at h
  · rename_i si di hsi hdi
    have hks := (hC.tt _ _ hsi).kind
    have hkd := (hC.tt _ _ hdi).kind
    unfold KOk at hks hkd
    split at h
    · rename_i k0 k k1 n e1 e2
      cases h
      rw [e1] at hks; rw [e2] at hkd
      cases hx
      exact ⟨_, by simp [Go.convert, run_underlying hks.1, run_underlying hkd.1, Conv.intToInt], .int _ _⟩
    · rename_i k0 k1 n e1 e2
      rw [e1] at hks; rw [e2] at hkd
      split at h
      · rename_i hf
        cases h
        cases hx
        have hf' := fits_iff.mp hf
        exact ⟨.float .f64 (FloatKind.f64.nearest n), by simp [Go.convert, run_underlying hks.1, run_underlying hkd.1, Conv.intToFloat], .flt _ _ (Flt.fint_nearest n hf'.1 hf'.2)⟩
      · cases h
    · rename_i k n e1 e2
      rw [e1] at hks; rw [e2] at hkd
      split at h
      · rename_i hr
        cases h
        cases hx with
        | flt _ b hb =>
          have hti := Flt.toInt_int hb
          refine ⟨.int k n, ?_, .int _ _⟩
          simp only [Go.convert, Sem.run_bind, run_underlying hks.1, run_underlying hkd.1, Result.andThen_ok]
          have : (FloatKind.f64.decode b).toInt .zero = some n := hti
          simp [Conv.floatToInt, this, hr]
      · cases h
    · rename_i b e1 e2
      cases h
      rw [e1] at hks; rw [e2] at hkd
      cases hx with
      | str _ p hp => exact ⟨.string p, by simp [Go.convert, run_underlying hks.1, run_underlying hkd.1], .str _ _ hp⟩
    · rename_i el e1 e2
      rw [e1] at hks; rw [e2] at hkd
      split at h
      · rename_i es sz by_ zr eq hel hes
        simp only [Option.map_eq_some_iff] at h
        obtain ⟨s', hs', rfl⟩ := h
        have hke := (hC.tt _ _ hel).kind
        simp only [KOk] at hke
        obtain ⟨hk, a, cap, vs, rfl, hr, h1, hor⟩ := elems_sound hH hx hes
        obtain ⟨ns, rfl, rfl⟩ := bytesOf_spec hs'
        have hfl := flat_ints ns
        rw [hfl] at hr
        have hvs := ints_rel hr
        rcases hor with ⟨rfl, he⟩ | ⟨ad, rfl, hc⟩
        · have : ns = [] := by simpa using he
          subst this
          refine ⟨.string .empty, ?_, .str _ _ rfl⟩
          rw [run_convert_bytes_string w s d el _ _ _ hks.1 hke.1 hkd.1]
          simp [Conv.bytesToString]
        · refine ⟨.string (ns.foldl (fun r n => r.push (UInt8.ofNat n.toNat)) ByteArray.empty), ?_, .str _ _ (by rw [foldl_push]; rfl)⟩
          rw [run_convert_bytes_string w s d el _ _ _ hks.1 hke.1 hkd.1]
          refine run_bytesToString w ad _ cap ns ?_
          have := run_loadCells_list (P := C.P) w ad vs hc
          rw [hvs] at this
          simpa using this
      · cases h
    · cases h
  · cases h

theorem copy_sound (hC : TOk C) {H H' : AHeap} (hH : HRel C w U ι H) {t t' ty : TypeId} {d s r : AV} {vd vs : Value} (hd : VRel w U ι d vd) (hs : VRel w U ι s vs)
    (h : copyA C H t d s = some (r, H')) : ∃ v w', (Builtin.copy_ #[t, t'] ty #[vd, vs]).run C.P w = .ok v w' ∧ Leaves C w U ι H' r v w' U ι := by
  unfold copyA at h
  split at h
  · rename_i elem sz by_ zr eq hti
    have hk := (hC.tt _ _ hti).kind
    simp only [KOk] at hk
    split at h
    · cases h
    · rename_i te hte
      have hok := hC.tt _ _ hte
      split at h
      · rename_i b k i n new hnew
        obtain ⟨hnk, hnl, hn1, nvs, hnr, _, hnf⟩ := source_sound hH hs hnew
        split at h
        · rename_i t2 k' es hbl
          split at h
          · rename_i hcond
            obtain ⟨rfl, rfl, hle⟩ := hcond
            cases h
            cases hd with
            | slc _ _ _ _ c off cap m tt hι ho hncap hsh hm =>
              have hbr := hH.blk b c hι
              rw [hbl] at hbr
              obtain ⟨cs, hcs, hkk, hr⟩ := hbr
              obtain ⟨hlr, hlsz, hl1⟩ := brel_list hkk hr
              have hmin : min new.length n ≤ new.length := Nat.min_le_left _ _
              have hfc := hnf (min new.length n) hmin w rfl
              have hlen : (nvs.take (min new.length n * te.size)).length = min new.length n * te.size := by
                rw [List.length_take, hnr.1, flat_len hnk, Nat.min_eq_left (Nat.mul_le_mul_right _ hmin)]
              have hrl : LsRel w U ι (new.take (min new.length n)).flatten (nvs.take (min new.length n * te.size)) := by
                rw [flat_take _ hnk]; exact hnr.take _
              by_cases hz : min new.length n = 0
              · -- nothing is copied
                refine ⟨.int .i64 ((min new.length n : Nat) : Int), w, ?_, ?_⟩
                · unfold Builtin.copy_
                  have e0 : nvs.take (min new.length n * te.size) = [] := by rw [hz]; simp
                  rw [e0] at hfc
                  simp only [List.getElem?_toArray, List.getElem?_cons_zero, List.getElem?_cons_succ, Sem.run_bind, run_underlying hk.1, Result.andThen_ok, hnl, hok.run_sizeOf]
                  rw [show Nat.min new.length n = min new.length n from rfl, hfc]
                  simp [storeCells, goInt]
                · have e1 : es.take i ++ new.take (min new.length n) ++ es.drop (i + min new.length n) = es := by rw [hz]; simp
                  rw [e1]
                  have e2 : H.set b (.cells t2 te.size es) = H := by
                    unfold AHeap.set
                    congr 1
                    funext x
                    by_cases e : x = b
                    · subst e; rw [upd_same, hbl]
                    · rw [upd_ne _ _ e]
                  rw [e2]
                  exact ⟨Ext.refl _ _ _, hH, .int _ _⟩
              · have hn0 : n ≠ 0 := by rintro rfl; simp at hz
                have hoff := ho (.inl hn0)
                subst hoff
                have hfit : i * te.size + (nvs.take (min new.length n * te.size)).length ≤ cs.size := by
                  rw [hlen, ← Nat.add_mul]
                  have : (i + min new.length n) * te.size ≤ es.length * te.size := Nat.mul_le_mul_right _ (by omega)
                  omega
                have hone : ∀ v, v ∈ nvs.take (min new.length n * te.size) → v.oneCell' = true := ones_cells hrl (fun a ha => hn1 a (by rw [flat_take _ hnk] at ha; exact List.mem_of_mem_take ha))
                have hst := run_storeCells_at C.P c (i * te.size) t2 (nvs.take (min new.length n * te.size)) 0 cs w hcs (by simpa using hfit) hone
                simp only [Nat.add_zero] at hst
                have hdsz : (cs.toList.take (i * te.size) ++ nvs.take (min new.length n * te.size) ++ cs.toList.drop (i * te.size + (nvs.take (min new.length n * te.size)).length)).toArray.size = cs.size := by
                  simp only [List.size_toArray, List.length_append, List.length_take, List.length_drop, Array.length_toList] at hfit ⊢; omega
                have hes' : ∀ e, e ∈ es.take i ++ new.take (min new.length n) ++ es.drop (i + min new.length n) → e.length = te.size := by
                  intro e he
                  simp only [List.mem_append] at he
                  rcases he with (he | he) | he
                  · exact hkk e (List.mem_of_mem_take he)
                  · exact hnk e (List.mem_of_mem_take he)
                  · exact hkk e (List.mem_of_mem_drop he)
                obtain ⟨h1, h2⟩ := write_rel hH hι hcs hdsz (by rw [hbl]; rfl) (blk := .cells t2 te.size (es.take i ++ new.take (min new.length n) ++ es.drop (i + min new.length n))) (fun hmv => by
                  have hflat : (es.take i ++ new.take (min new.length n) ++ es.drop (i + min new.length n)).flatten = es.flatten.take (i * te.size) ++ new.flatten.take (min new.length n * te.size) ++ es.flatten.drop ((i + min new.length n) * te.size) := by
                    rw [List.flatten_append, List.flatten_append, flat_take _ hkk, flat_take _ hnk, flat_drop _ hkk]
                  refine cells_brel (vs := (cs.toList.take (es.length * te.size)).take (i * te.size) ++ nvs.take (min new.length n * te.size) ++ (cs.toList.take (es.length * te.size)).drop ((i + min new.length n) * te.size)) (setRow_heap w c cs _ t2 _ hcs) hes' ?_ (fun a ha => ?_) (fun j v hv => ?_)
                  · rw [hflat]
                    exact (((hlr.take _).append (hnr.take _)).append (hlr.drop _)).mono hmv
                  · rw [hflat] at ha
                    simp only [List.mem_append] at ha
                    rcases ha with (ha | ha) | ha
                    · exact hl1 a (List.mem_of_mem_take ha)
                    · exact hn1 a (List.mem_of_mem_take ha)
                    · exact hl1 a (List.mem_of_mem_drop ha)
                  · have hile : i * te.size ≤ es.length * te.size := Nat.mul_le_mul_right _ (by omega)
                    have e1 : (cs.toList.take (es.length * te.size)).take (i * te.size) = cs.toList.take (i * te.size) := by rw [List.take_take, Nat.min_eq_left hile]
                    rw [e1] at hv
                    rw [List.getElem?_toArray, hlen]
                    rw [List.getElem?_append] at hv ⊢
                    split at hv
                    · rename_i hlt; rw [if_pos hlt]; exact hv
                    · rename_i hlt
                      rw [if_neg hlt]
                      rw [List.getElem?_drop, List.getElem?_take] at hv
                      split at hv
                      · rw [List.getElem?_drop, ← Nat.add_mul]; exact hv
                      · cases hv)
                refine ⟨.int .i64 ((min new.length n : Nat) : Int), _, ?_, h1, h2, .int _ _⟩
                unfold Builtin.copy_
                simp only [List.getElem?_toArray, List.getElem?_cons_zero, List.getElem?_cons_succ, Sem.run_bind, run_underlying hk.1, Result.andThen_ok, hnl, hok.run_sizeOf]
                rw [show Nat.min new.length n = min new.length n from rfl, hfc]
                simp only [Result.andThen_ok, Sem.run_bind]
                rw [hst]
                simp [goInt]
          · cases h
        · cases h
      · rename_i new hnew
        obtain ⟨hnk, hnl, hn1, nvs, hnr, _, hnf⟩ := source_sound hH hs hnew
        cases h
        cases hd
        refine ⟨.int .i64 0, w, ?_, Ext.refl _ _ _, hH, .int _ _⟩
        have hfc := hnf 0 (Nat.zero_le _) w rfl
        unfold Builtin.copy_
        simp only [List.getElem?_toArray, List.getElem?_cons_zero, List.getElem?_cons_succ, Sem.run_bind, run_underlying hk.1, Result.andThen_ok, hnl, hok.run_sizeOf]
        rw [show Nat.min new.length 0 = 0 from Nat.min_zero _, hfc]
        simp [goInt]
      · cases h
  · cases h

theorem next_sound {H H' : AHeap} (hH : HRel C w U ι H) {b k s0 : Nat} {s : Bytes} {pos : Nat} {ty : TypeId} {u : Value} (hx : VRel w U ι (.ptr b k 0 0) u) (hbl : H.at_ b = .iter s pos) (hlt : pos < s.length) :
    ∃ w', (Instr.next u true ty).run C.P w = .ok (.tuple #[.bool true, .int .i64 pos, .int .i32 (Utf8.decode ⟨s.toArray⟩ pos).1]) w' ∧ Ext w U ι w' U ι ∧ HRel C w' U ι (H.set b (.iter s (pos + (Utf8.decode ⟨s.toArray⟩ pos).2))) := by
  cases hx with
  | ptr _ _ _ _ c hι =>
    have hbr := hH.blk b c hι
    rw [hbl] at hbr
    obtain ⟨bs, hbs, hc⟩ := hbr
    have hbse : bs = ⟨s.toArray⟩ := by subst hbs; simp
    subst hbse
    have hclt := (hH.dom b c hι).2
    let w' : World := { w with heap := w.heap.setIfInBounds c (.stringIter ⟨s.toArray⟩ (pos + (Utf8.decode ⟨s.toArray⟩ pos).2)) }
    have hsame : w'.heap[c]? = some (.stringIter ⟨s.toArray⟩ (pos + (Utf8.decode ⟨s.toArray⟩ pos).2)) := by simp [w', hclt]
    have hother : ∀ d, d ≠ c → w'.heap[d]? = w.heap[d]? := fun d hd => by simp [w', Array.getElem?_setIfInBounds, Ne.symm hd]
    have hsh : ∀ d, w'.shape? d = w.shape? d := fun d => by
      by_cases e : d = c
      · subst e; unfold World.shape?; rw [hsame, hc]
      · exact shape_of_heap (hother d e)
    have hext : Ext w U ι w' U ι :=
      { map := fun _ _ h => h, rng := fun b _ h => .inl ⟨b, h⟩, imm := fun _ h => h, new := fun _ h => .inl h, size := by simp [w']
        kept := fun d _ hn => hother d (fun e => hn b (by rw [e]; exact hι))
        shape := fun d _ => hsh d, env := ⟨rfl, rfl, rfl⟩ }
    refine ⟨w', ?_, hext, fun b' c' h => ?_, fun b1 b2 c' h1 h2 d1 d2 => ?_, fun c' h => ?_, fun b' c' h => ?_⟩
    · unfold Instr.next
      have hsz : pos < (⟨s.toArray⟩ : ByteArray).size := hlt
      have hg : (getObj c).run C.P w = .ok (.stringIter ⟨s.toArray⟩ pos) w := by simp only [getObj, Sem.run, hc]
      simp only [Nat.zero_mul, Nat.add_zero, Sem.run_bind, hg, Result.andThen_ok, hsz, if_true]
      have hset : (setObj c (.stringIter ⟨s.toArray⟩ (pos + (Utf8.decode ⟨s.toArray⟩ pos).2))).run C.P w = .ok () w' := by simp only [setObj, Sem.run, hc]; rfl
      simp only [hset, Result.andThen_ok, Sem.run_pure, goInt]
    · have := hH.dom b' c' h; exact ⟨by simpa [AHeap.set] using this.1, by simpa [w'] using this.2⟩
    · have live : ∀ b', ((H.set b (.iter s (pos + (Utf8.decode ⟨s.toArray⟩ pos).2))).at_ b').isDead = false → (H.at_ b').isDead = false := by
        intro b' h'
        by_cases e : b' = b
        · subst e; rw [hbl]; rfl
        · simp only [AHeap.set, upd_isDead e] at h'; exact h'
      exact hH.inj b1 b2 c' h1 h2 (live b1 d1) (live b2 d2)
    · have := hH.imm c' h; exact ⟨by simpa [w'] using this.1, this.2⟩
    · by_cases e : b' = b
      · subst e
        rw [hι] at h; cases h
        simp only [AHeap.set, upd_same]
        exact ⟨_, hbs, hsame⟩
      · simp only [AHeap.set]
        rw [upd_ne _ _ e]
        by_cases hdd : (H.at_ b').isDead = true
        · cases hx : H.at_ b' <;> rw [hx] at hdd <;> simp [Blk.isDead] at hdd
          trivial
        · have hne : c' ≠ c := by
            rintro rfl
            exact e (hH.inj b' b _ h hι (by simpa using hdd) (by rw [hbl]; rfl))
          exact (hH.blk b' c' h).mono (fun hv => hext.mono hH hv) (fun _ _ h => h) (hother c' hne)

end Go.BX
