import Derived.Test.YtckhmpcmlochpaaKRVChoice1
import Derived.Defers
import Derived.RangeFuncRecord
import Derived.Below
namespace Go.BX
set_option linter.unusedSimpArgs false
set_option linter.unusedVariables false
variable {C : Ctx} {w : World} {U : Nat → Prop} {ι : Nat → Option Nat}
theorem bytesOf_spec : ∀ {es : List (List AV)} {s : Bytes}, bytesOf es = some s → ∃ ns : List Int, es = ns.map (fun n => [.int .u8 n]) ∧ s = ns.map (fun n => UInt8.ofNat n.toNat)
  | [], s, h => by simp [bytesOf] at h; subst h; exact ⟨[], rfl, rfl⟩
  | e :: es, s, h => by
    simp only [bytesOf] at h
    split at h
    · rename_i b bs hb hbs
      cases h
      obtain ⟨ns, rfl, rfl⟩ := bytesOf_spec hbs
      unfold byteOf at hb
      split at hb
      · rename_i n; cases hb; exact ⟨n :: ns, rfl, rfl⟩
      · cases hb
    · cases h
theorem ints_rel : ∀ {ns : List Int} {vs : List Value}, LsRel w U ι (ns.map fun n => AV.int .u8 n) vs → vs = ns.map (Value.int .u8)
  | [], vs, h => by simpa using h.cases_nil
  | n :: ns, vs, h => by
    obtain ⟨v, us, rfl, hv, hus⟩ := h.cases_cons
    cases hv
    rw [ints_rel hus]; rfl
theorem flat_ints (ns : List Int) : (ns.map fun n => [AV.int .u8 n]).flatten = ns.map fun n => AV.int .u8 n := by
  induction ns with
  | nil => rfl
  | cons n ns ih => simp only [List.map_cons, List.flatten_cons] at ih ⊢; rw [ih]; rfl
theorem foldl_push (ns : List Int) : ∀ (b : ByteArray), (ns.foldl (fun r n => r.push (UInt8.ofNat n.toNat)) b).data.toList = b.data.toList ++ ns.map (fun n => UInt8.ofNat n.toNat) := by
  induction ns with
  | nil => intro b; simp
  | cons c s ih => intro b; rw [List.foldl_cons, ih]; simp [ByteArray.push]
theorem conv_sound (hC : TOk C) {H : AHeap} (hH : HRel C w U ι H) {s d : TypeId} {x r : AV} {v : Value} (hx : VRel w U ι x v) (h : convA C H s d x = some r) :
    ∃ u, (Go.convert s d v).run C.P w = .ok u w ∧ VRel w U ι r u := by
  unfold convA at h
  split at h
  · rename_i si di hsi hdi
    have hks := (hC.tt _ _ hsi).kind
    have hkd := (hC.tt _ _ hdi).kind
    unfold KOk at hks hkd
    split at h
    · rename_i k0 k k1 n e1 e2
      cases h
      rw [e1] at hks; rw [e2] at hkd
      cases hx
      exact ⟨_, by simp [Go.convert, run_underlying hks.1, run_underlying hkd.1, Conv.intToInt], .int _ _⟩
    · rename_i k0 k1 n e1 e2
      rw [e1] at hks; rw [e2] at hkd
      split at h
      · rename_i hf
        cases h
        cases hx
        have hf' := fits_iff.mp hf
        exact ⟨.float .f64 (FloatKind.f64.nearest n), by simp [Go.convert, run_underlying hks.1, run_underlying hkd.1, Conv.intToFloat], .flt _ _ (Flt.fint_nearest n hf'.1 hf'.2)⟩
      · cases h
    · rename_i k n e1 e2
      rw [e1] at hks; rw [e2] at hkd
      split at h
      · rename_i hr
        cases h
        cases hx with
        | flt _ b hb =>
          have hti := Flt.toInt_int hb
          refine ⟨.int k n, ?_, .int _ _⟩
          simp only [Go.convert, Sem.run_bind, run_underlying hks.1, run_underlying hkd.1, Result.andThen_ok]
          have : (FloatKind.f64.decode b).toInt .zero = some n := hti
          simp [Conv.floatToInt, this, hr]
      · cases h
    · rename_i b e1 e2
      cases h
      rw [e1] at hks; rw [e2] at hkd
      cases hx with
      | str _ p hp => exact ⟨.string p, by simp [Go.convert, run_underlying hks.1, run_underlying hkd.1], .str _ _ hp⟩
    · rename_i el e1 e2
      rw [e1] at hks; rw [e2] at hkd
      split at h
      · rename_i es sz by_ zr eq hel hes
        simp only [Option.map_eq_some_iff] at h
        obtain ⟨s', hs', rfl⟩ := h
        have hke := (hC.tt _ _ hel).kind
        simp only [KOk] at hke
        obtain ⟨hk, a, cap, vs, rfl, hr, h1, hor⟩ := elems_sound hH hx hes
        obtain ⟨ns, rfl, rfl⟩ := bytesOf_spec hs'
        have hfl := flat_ints ns
        rw [hfl] at hr
        have hvs := ints_rel hr
        rcases hor with ⟨rfl, he⟩ | ⟨ad, rfl, hc⟩
        · have : ns = [] := by simpa using he
          subst this
          refine ⟨.string .empty, ?_, .str _ _ rfl⟩
          rw [run_convert_bytes_string w s d el _ _ _ hks.1 hke.1 hkd.1]
          simp [Conv.bytesToString]
        · refine ⟨.string (ns.foldl (fun r n => r.push (UInt8.ofNat n.toNat)) ByteArray.empty), ?_, .str _ _ (by rw [foldl_push]; rfl)⟩
          rw [run_convert_bytes_string w s d el _ _ _ hks.1 hke.1 hkd.1]
          refine run_bytesToString w ad _ cap ns ?_
          have := run_loadCells_list (P := C.P) w ad vs hc
          rw [hvs] at this
          simpa using this
      · cases h
    · cases h
  · cases h
theorem copy_sound (hC : TOk C) {H H' : AHeap} (hH : HRel C w U ι H) {t t' ty : TypeId} {d s r : AV} {vd vs : Value} (hd : VRel w U ι d vd) (hs : VRel w U ι s vs)
    (h : copyA C H t d s = some (r, H')) : ∃ v w', (Builtin.copy_ #[t, t'] ty #[vd, vs]).run C.P w = .ok v w' ∧ Leaves C w U ι H' r v w' U ι := by
  unfold copyA at h
  split at h
  · rename_i elem sz by_ zr eq hti
    have hk := (hC.tt _ _ hti).kind
    simp only [KOk] at hk
    split at h
    · cases h
    · rename_i te hte
      have hok := hC.tt _ _ hte
      split at h
      · rename_i b k i n new hnew
        obtain ⟨hnk, hnl, hn1, nvs, hnr, _, hnf⟩ := source_sound hH hs hnew
        split at h
        · rename_i t2 k' es hbl
          split at h
          · rename_i hcond
            obtain ⟨rfl, rfl, hle⟩ := hcond
            cases h
            cases hd with
            | slc _ _ _ _ c off cap m tt hι ho hncap hsh hm =>
              have hbr := hH.blk b c hι
              rw [hbl] at hbr
              obtain ⟨cs, hcs, hkk, hr⟩ := hbr
              obtain ⟨hlr, hlsz, hl1⟩ := brel_list hkk hr
              have hmin : min new.length n ≤ new.length := Nat.min_le_left _ _
              have hfc := hnf (min new.length n) hmin w rfl
              have hlen : (nvs.take (min new.length n * te.size)).length = min new.length n * te.size := by
                rw [List.length_take, hnr.1, flat_len hnk, Nat.min_eq_left (Nat.mul_le_mul_right _ hmin)]
              have hrl : LsRel w U ι (new.take (min new.length n)).flatten (nvs.take (min new.length n * te.size)) := by
                rw [flat_take _ hnk]; exact hnr.take _
              by_cases hz : min new.length n = 0
              · -- nothing is copied
                refine ⟨.int .i64 ((min new.length n : Nat) : Int), w, ?_, ?_⟩
                · unfold Builtin.copy_
                  have e0 : nvs.take (min new.length n * te.size) = [] := by rw [hz]; simp
                  rw [e0] at hfc
                  simp only [List.getElem?_toArray, List.getElem?_cons_zero, List.getElem?_cons_succ, Sem.run_bind, run_underlying hk.1, Result.andThen_ok, hnl, hok.run_sizeOf]
                  rw [show Nat.min new.length n = min new.length n from rfl, hfc]
                  simp [storeCells, goInt]
                · have e1 : es.take i ++ new.take (min new.length n) ++ es.drop (i + min new.length n) = es := by rw [hz]; simp
                  rw [e1]
                  have e2 : H.set b (.cells t2 te.size es) = H := by
                    unfold AHeap.set
                    congr 1
                    funext x
                    by_cases e : x = b
                    · subst e; rw [upd_same, hbl]
                    · rw [upd_ne _ _ e]
                  rw [e2]
                  exact ⟨Ext.refl _ _ _, hH, .int _ _⟩
              · have hn0 : n ≠ 0 := by rintro rfl; simp at hz
                have hoff := ho (.inl hn0)
                subst hoff
                have hfit : i * te.size + (nvs.take (min new.length n * te.size)).length ≤ cs.size := by
                  rw [hlen, ← Nat.add_mul]
                  have : (i + min new.length n) * te.size ≤ es.length * te.size := Nat.mul_le_mul_right _ (by omega)
                  omega
                have hone : ∀ v, v ∈ nvs.take (min new.length n * te.size) → v.oneCell' = true := ones_cells hrl (fun a ha => hn1 a (by rw [flat_take _ hnk] at ha; exact List.mem_of_mem_take ha))
                have hst := run_storeCells_at C.P c (i * te.size) t2 (nvs.take (min new.length n * te.size)) 0 cs w hcs (by simpa using hfit) hone
                simp only [Nat.add_zero] at hst
                have hdsz : (cs.toList.take (i * te.size) ++ nvs.take (min new.length n * te.size) ++ cs.toList.drop (i * te.size + (nvs.take (min new.length n * te.size)).length)).toArray.size = cs.size := by
                  simp only [List.size_toArray, List.length_append, List.length_take, List.length_drop, Array.length_toList] at hfit ⊢; omega
                have hes' : ∀ e, e ∈ es.take i ++ new.take (min new.length n) ++ es.drop (i + min new.length n) → e.length = te.size := by
                  intro e he
                  simp only [List.mem_append] at he
                  rcases he with (he | he) | he
                  · exact hkk e (List.mem_of_mem_take he)
                  · exact hnk e (List.mem_of_mem_take he)
                  · exact hkk e (List.mem_of_mem_drop he)
                obtain ⟨h1, h2⟩ := write_rel hH hι hcs hdsz (by rw [hbl]; rfl) (blk := .cells t2 te.size (es.take i ++ new.take (min new.length n) ++ es.drop (i + min new.length n))) (fun hmv => by
                  have hflat : (es.take i ++ new.take (min new.length n) ++ es.drop (i + min new.length n)).flatten = es.flatten.take (i * te.size) ++ new.flatten.take (min new.length n * te.size) ++ es.flatten.drop ((i + min new.length n) * te.size) := by
                    rw [List.flatten_append, List.flatten_append, flat_take _ hkk, flat_take _ hnk, flat_drop _ hkk]
                  refine cells_brel (vs := (cs.toList.take (es.length * te.size)).take (i * te.size) ++ nvs.take (min new.length n * te.size) ++ (cs.toList.take (es.length * te.size)).drop ((i + min new.length n) * te.size)) (setRow_heap w c cs _ t2 _ hcs) hes' ?_ (fun a ha => ?_) (fun j v hv => ?_)
                  · rw [hflat]
                    exact (((hlr.take _).append (hnr.take _)).append (hlr.drop _)).mono hmv
                  · rw [hflat] at ha
                    simp only [List.mem_append] at ha
                    rcases ha with (ha | ha) | ha
                    · exact hl1 a (List.mem_of_mem_take ha)
                    · exact hn1 a (List.mem_of_mem_take ha)
                    · exact hl1 a (List.mem_of_mem_drop ha)
                  · have hile : i * te.size ≤ es.length * te.size := Nat.mul_le_mul_right _ (by omega)
                    have e1 : (cs.toList.take (es.length * te.size)).take (i * te.size) = cs.toList.take (i * te.size) := by rw [List.take_take, Nat.min_eq_left hile]
                    rw [e1] at hv
                    rw [List.getElem?_toArray, hlen]
                    rw [List.getElem?_append] at hv ⊢
                    split at hv
                    · rename_i hlt; rw [if_pos hlt]; exact hv
                    · rename_i hlt
                      rw [if_neg hlt]
                      rw [List.getElem?_drop, List.getElem?_take] at hv
                      split at hv
                      · rw [List.getElem?_drop, ← Nat.add_mul]; exact hv
                      · cases hv)
                refine ⟨.int .i64 ((min new.length n : Nat) : Int), _, ?_, h1, h2, .int _ _⟩
                unfold Builtin.copy_
                simp only [List.getElem?_toArray, List.getElem?_cons_zero, List.getElem?_cons_succ, Sem.run_bind, run_underlying hk.1, Result.andThen_ok, hnl, hok.run_sizeOf]
                rw [show Nat.min new.length n = min new.length n from rfl, hfc]
                simp only [Result.andThen_ok, Sem.run_bind]
                rw [hst]
                simp [goInt]
          · cases h
        · cases h
      · rename_i new hnew
        obtain ⟨hnk, hnl, hn1, nvs, hnr, _, hnf⟩ := source_sound hH hs hnew
        cases h
        cases hd
        refine ⟨.int .i64 0, w, ?_, Ext.refl _ _ _, hH, .int _ _⟩
        have hfc := hnf 0 (Nat.zero_le _) w rfl
        unfold Builtin.copy_
        simp only [List.getElem?_toArray, List.getElem?_cons_zero, List.getElem?_cons_succ, Sem.run_bind, run_underlying hk.1, Result.andThen_ok, hnl, hok.run_sizeOf]
        rw [show Nat.min new.length 0 = 0 from Nat.min_zero _, hfc]
        simp [goInt]
      · cases h
  · cases h
theorem next_sound {H H' : AHeap} (hH : HRel C w U ι H) {b k s0 : Nat} {s : Bytes} {pos : Nat} {ty : TypeId} {u : Value} (hx : VRel w U ι (.ptr b k 0 0) u) (hbl : H.at_ b = .iter s pos) (hlt : pos < s.length) :
    ∃ w', (Instr.next u true ty).run C.P w = .ok (.tuple #[.bool true, .int .i64 pos, .int .i32 (Utf8.decode ⟨s.toArray⟩ pos).1]) w' ∧ Ext w U ι w' U ι ∧ HRel C w' U ι (H.set b (.iter s (pos + (Utf8.decode ⟨s.toArray⟩ pos).2))) := by
  cases hx with
  | ptr _ _ _ _ c hι =>
    have hbr := hH.blk b c hι
    rw [hbl] at hbr
    obtain ⟨bs, hbs, hc⟩ := hbr
    have hbse : bs = ⟨s.toArray⟩ := by subst hbs; simp
    subst hbse
    have hclt := (hH.dom b c hι).2
    let w' : World := { w with heap := w.heap.setIfInBounds c (.stringIter ⟨s.toArray⟩ (pos + (Utf8.decode ⟨s.toArray⟩ pos).2)) }
    have hsame : w'.heap[c]? = some (.stringIter ⟨s.toArray⟩ (pos + (Utf8.decode ⟨s.toArray⟩ pos).2)) := by simp [w', hclt]
    have hother : ∀ d, d ≠ c → w'.heap[d]? = w.heap[d]? := fun d hd => by simp [w', Array.getElem?_setIfInBounds, Ne.symm hd]
    have hsh : ∀ d, w'.shape? d = w.shape? d := fun d => by
      by_cases e : d = c
      · subst e; unfold World.shape?; rw [hsame, hc]
      · exact shape_of_heap (hother d e)
    have hext : Ext w U ι w' U ι :=
      { map := fun _ _ h => h, rng := fun b _ h => .inl ⟨b, h⟩, imm := fun _ h => h, new := fun _ h => .inl h, size := by simp [w']
        kept := fun d _ hn => hother d (fun e => hn b (by rw [e]; exact hι))
        shape := fun d _ => hsh d, env := ⟨rfl, rfl, rfl⟩ }
    refine ⟨w', ?_, hext, fun b' c' h => ?_, fun b1 b2 c' h1 h2 d1 d2 => ?_, fun c' h => ?_, fun b' c' h => ?_⟩
    · unfold Instr.next
      have hsz : pos < (⟨s.toArray⟩ : ByteArray).size := hlt
      have hg : (getObj c).run C.P w = .ok (.stringIter ⟨s.toArray⟩ pos) w := by simp only [getObj, Sem.run, hc]
      simp only [Nat.zero_mul, Nat.add_zero, Sem.run_bind, hg, Result.andThen_ok, hsz, if_true]
      have hset : (setObj c (.stringIter ⟨s.toArray⟩ (pos + (Utf8.decode ⟨s.toArray⟩ pos).2))).run C.P w = .ok () w' := by simp only [setObj, Sem.run, hc]; rfl
      simp only [hset, Result.andThen_ok, Sem.run_pure, goInt]
    · have := hH.dom b' c' h; exact ⟨by simpa [AHeap.set] using this.1, by simpa [w'] using this.2⟩
    · have live : ∀ b', ((H.set b (.iter s (pos + (Utf8.decode ⟨s.toArray⟩ pos).2))).at_ b').isDead = false → (H.at_ b').isDead = false := by
        intro b' h'
        by_cases e : b' = b
        · subst e; rw [hbl]; rfl
        · simp only [AHeap.set, upd_isDead e] at h'; exact h'
      exact hH.inj b1 b2 c' h1 h2 (live b1 d1) (live b2 d2)
    · have := hH.imm c' h; exact ⟨by simpa [w'] using this.1, this.2⟩
    · by_cases e : b' = b
      · subst e
        rw [hι] at h; cases h
        simp only [AHeap.set, upd_same]
        exact ⟨_, hbs, hsame⟩
      · simp only [AHeap.set]
        rw [upd_ne _ _ e]
        by_cases hdd : (H.at_ b').isDead = true
        · cases hx : H.at_ b' <;> rw [hx] at hdd <;> simp [Blk.isDead] at hdd
          trivial
        · have hne : c' ≠ c := by
            rintro rfl
            exact e (hH.inj b' b _ h hι (by simpa using hdd) (by rw [hbl]; rfl))
          exact (hH.blk b' c' h).mono (fun hv => hext.mono hH hv) (fun _ _ h => h) (hother c' hne)
theorem strMap_is {P : Program} {t : TypeId} (h : strMap P t = true) : ∃ k v, P.underlying t = some (.map k v) ∧ P.underlying k = some .string := by
  unfold strMap at h
  split at h
  · rename_i k v hk
    split at h
    · rename_i hs; exact ⟨k, v, hk, hs⟩
    · cases h
  · cases h
theorem run_und {P : Program} {t : TypeId} {d : TypeDesc} {w : World} (h : P.underlying t = some d) : (underlying t).run P w = .ok d w := run_underlying h w
theorem makeMap_sound {H : AHeap} (hH : HRel C w U ι H) {t : TypeId} :
    ∃ v w' ι', (Instr.makeMap t none).run C.P w = .ok v w' ∧ Leaves C w U ι (H.push (.mp [])) (.mpp H.next) v w' U ι' ∧ Reads w ι H (H.push (.mp [])) w' ι' := by
  obtain ⟨h1, h2, h3⟩ := push_rel hH (w' := w.alloc (.map #[] 0)) (o := .map #[] 0) rfl (.mp []) ⟨#[], 0, by rw [World.alloc, Array.getElem?_push]; simp, rfl⟩
  refine ⟨.map (some w.heap.size), w.alloc (.map #[] 0), _, ?_, ⟨h1, h2, .mpp _ _ (upd_same _ _ _)⟩, h3⟩
  unfold Instr.makeMap
  simp
theorem find_now {es : List MapEntry} {l : List (Bytes × Bytes)} {kk : Bytes} {kb : ByteArray} (hk : kb.data.toList = kk) (h : es.map (fun e => (e.key, e.val)) = l.map fun p => (Value.string ⟨p.1.toArray⟩, Value.string ⟨p.2.toArray⟩)) (i : Nat) :
    (getK l kk = none → Instr.findNow .string (.string kb) es i = some none) ∧ (∀ v, getK l kk = some v → ∃ j, Instr.findNow .string (.string kb) es i = some (some (j, .string ⟨v.toArray⟩))) := by
  induction es generalizing l i with
  | nil =>
    cases l with
    | nil => exact ⟨fun _ => rfl, fun v hv => by cases hv⟩
    | cons p l => cases h
  | cons e es ih =>
    cases l with
    | nil => cases h
    | cons p l =>
      rw [List.map_cons, List.map_cons, List.cons.injEq, Prod.mk.injEq] at h
      obtain ⟨⟨h1, h2⟩, h3⟩ := h
      have ih := ih h3 (i + 1)
      have hs : Instr.sameNow .string (.string kb) e.key = some (kk == p.1) := by
        rw [h1]
        show some (kb == ⟨p.1.toArray⟩) = _
        congr 1
        subst hk
        show (kb.data == p.1.toArray) = _
        rw [Bool.eq_iff_iff, beq_iff_eq, beq_iff_eq]
        constructor
        · intro h4; rw [h4]
        · intro h4; rw [← h4]
      have hg : getK (p :: l) kk = if kk == p.1 then some p.2 else getK l kk := rfl
      rw [hg]
      have hf : Instr.findNow .string (.string kb) (e :: es) i = (match Instr.sameNow .string (.string kb) e.key with | some true => some (some (i, e.val)) | some false => Instr.findNow .string (.string kb) es (i + 1) | none => none) := rfl
      rw [hf, hs]
      cases hb : (kk == p.1) with
      | true =>
        rw [if_pos rfl]
        refine ⟨fun h => (by cases h), fun v hv => ?_⟩
        cases hv
        exact ⟨i, by rw [h2]⟩
      | false =>
        rw [if_neg (by decide)]
        exact ih
theorem insert_sound {H : AHeap} (hH : HRel C w U ι H) {t : TypeId} {b : Nat} {kk v : Bytes} {es : List (Bytes × Bytes)} {um uk uv : Value} (hm : VRel w U ι (.mpp b) um) (hk : VRel w U ι (.str kk) uk) (hv : VRel w U ι (.str v) uv) (hbl : H.at_ b = .mp es) (ht : strMap C.P t = true) (hno : getK es kk = none) :
    ∃ w', (Instr.mapUpdate t um uk uv).run C.P w = .ok () w' ∧ Ext w U ι w' U ι ∧ HRel C w' U ι (H.set b (.mp (es ++ [(kk, v)]))) := by
  obtain ⟨kt, vt, hmt, hkt⟩ := strMap_is ht
  cases hm with
  | mpp _ c hι =>
    cases hk with
    | str _ kb hkb =>
      cases hv with
      | str _ vb hvb =>
        have hbr := hH.blk b c hι
        rw [hbl] at hbr
        obtain ⟨ents, ck, hc, hents⟩ := hbr
        have hclt := (hH.dom b c hι).2
        let o : Obj := .map (ents.push { key := .string kb, val := .string vb, born := ck }) (ck + 1)
        let w' : World := { w with heap := w.heap.setIfInBounds c o }
        have hsame : w'.heap[c]? = some o := by simp [w', hclt]
        have hother : ∀ d, d ≠ c → w'.heap[d]? = w.heap[d]? := fun d hd => by simp [w', Array.getElem?_setIfInBounds, Ne.symm hd]
        have hsh : ∀ d, w'.shape? d = w.shape? d := fun d => by
          by_cases e : d = c
          · subst e; unfold World.shape?; rw [hsame, hc]
          · exact shape_of_heap (hother d e)
        have hext : Ext w U ι w' U ι :=
          { map := fun _ _ h => h, rng := fun b _ h => .inl ⟨b, h⟩, imm := fun _ h => h, new := fun _ h => .inl h, size := by simp [w']
            kept := fun d _ hn => hother d (fun e => hn b (by rw [e]; exact hι))
            shape := fun d _ => hsh d, env := ⟨rfl, rfl, rfl⟩ }
        refine ⟨w', ?_, hext, fun b' c' h => ?_, fun b1 b2 c' h1 h2 d1 d2 => ?_, fun c' h => ?_, fun b' c' h => ?_⟩
        · unfold Instr.mapUpdate
          have hg : (getObj c).run C.P w = .ok (.map ents ck) w := by simp only [getObj, Sem.run, hc]
          have hck : (Instr.checkKey false 10000 kt (.string kb)).run C.P w = .ok () w := by
            show (do match ← underlying kt, Value.string kb with | _, _ => _ : Sem Unit).run C.P w = _
            simp only [Sem.run_bind, run_und hkt, Result.andThen_ok, Sem.run_pure]
          have hfn := (find_now (i := 0) hkb hents).1 hno
          have hfk : (Instr.findKey kt (.string kb) ents.toList).run C.P w = .ok none w := by
            unfold Instr.findKey
            simp only [Sem.run_bind, run_und hkt, Result.andThen_ok, hfn, Sem.run_pure]
          have hset : (setObj c o).run C.P w = .ok () w' := by simp only [setObj, Sem.run, hc]; rfl
          simp only [Sem.run_bind, run_und hmt, Result.andThen_ok, hg, hck, hfk]
          exact hset
        · have := hH.dom b' c' h; exact ⟨by simpa [AHeap.set] using this.1, by simpa [w'] using this.2⟩
        · have live : ∀ b', ((H.set b (.mp (es ++ [(kk, v)]))).at_ b').isDead = false → (H.at_ b').isDead = false := by
            intro b' h'
            by_cases e : b' = b
            · subst e; rw [hbl]; rfl
            · simp only [AHeap.set, upd_isDead e] at h'; exact h'
          exact hH.inj b1 b2 c' h1 h2 (live b1 d1) (live b2 d2)
        · have := hH.imm c' h; exact ⟨by simpa [w'] using this.1, this.2⟩
        · by_cases e : b' = b
          · subst e
            rw [hι] at h; cases h
            simp only [AHeap.set, upd_same]
            refine ⟨_, _, hsame, ?_⟩
            rw [Array.toList_push, List.map_append, hents, List.map_append, ← hkb, ← hvb]
            rfl
          · simp only [AHeap.set]
            rw [upd_ne _ _ e]
            by_cases hdd : (H.at_ b').isDead = true
            · cases hx : H.at_ b' <;> rw [hx] at hdd <;> simp [Blk.isDead] at hdd
              trivial
            · have hne : c' ≠ c := by
                rintro rfl
                exact e (hH.inj b' b _ h hι (by simpa using hdd) (by rw [hbl]; rfl))
              exact (hH.blk b' c' h).mono (fun hv => hext.mono hH hv) (fun _ _ h => h) (hother c' hne)
theorem lookup_sound {H : AHeap} (hH : HRel C w U ι H) {t : TypeId} {b : Nat} {kk v : Bytes} {es : List (Bytes × Bytes)} {um uk : Value} (hm : VRel w U ι (.mpp b) um) (hk : VRel w U ι (.str kk) uk) (hbl : H.at_ b = .mp es) (ht : strMap C.P t = true) (hg : getK es kk = some v) :
    ∃ u, (Instr.lookup t um uk false).run C.P w = .ok u w ∧ VRel w U ι (.str v) u := by
  obtain ⟨kt, vt, hmt, hkt⟩ := strMap_is ht
  cases hm with
  | mpp _ c hι =>
    cases hk with
    | str _ kb hkb =>
      have hbr := hH.blk b c hι
      rw [hbl] at hbr
      obtain ⟨ents, ck, hc, hents⟩ := hbr
      refine ⟨.string ⟨v.toArray⟩, ?_, .str _ _ rfl⟩
      unfold Instr.lookup
      have hgo : (getObj c).run C.P w = .ok (.map ents ck) w := by simp only [getObj, Sem.run, hc]
      have hck : (Instr.checkKey ents.isEmpty 10000 kt (.string kb)).run C.P w = .ok () w := by
        show (do match ← underlying kt, Value.string kb with | _, _ => _ : Sem Unit).run C.P w = _
        simp only [Sem.run_bind, run_und hkt, Result.andThen_ok, Sem.run_pure]
      obtain ⟨j, hfn⟩ := (find_now (i := 0) hkb hents).2 v hg
      have hfk : (Instr.findKey kt (.string kb) ents.toList).run C.P w = .ok (some (j, .string ⟨v.toArray⟩)) w := by
        unfold Instr.findKey
        simp only [Sem.run_bind, run_und hkt, Result.andThen_ok, hfn, Sem.run_pure]
      simp only [Sem.run_bind, run_und hmt, Result.andThen_ok, hgo, hck, hfk, Sem.run_pure, Bool.false_eq_true, if_false]
end Go.BX

namespace Go.BX
set_option linter.unusedSimpArgs false
set_option linter.unusedVariables false
variable {C : Ctx} {w : World} {U : Nat → Prop} {ι : Nat → Option Nat}
def Still (U : Nat → Prop) (ι : Nat → Option Nat) : Nat → Prop := fun c => U c ∨ ∃ b, ι b = some c
theorem freeze1_one {H : AHeap} {d : Nat} {a r : AV} (h : freeze1 H d a = some r) (h1 : a.one = true) : r.one = true := by
  unfold freeze1 at h
  split at h
  · split at h
    · simp only [Option.map_eq_some_iff] at h; obtain ⟨_, _, rfl⟩ := h; rfl
    · cases h
  · split at h
    · cases h; exact h1
    · cases h
theorem freeze1_sound {H : AHeap} (hH : HRel C w U ι H) : ∀ (d : Nat) {a r : AV} {v : Value}, VRel w U ι a v → freeze1 H d a = some r → VRel w (Still U ι) (fun _ => none) r v := by
  have mono : ∀ {a : AV} {v : Value} {ι' : Nat → Option Nat}, VRel w U ι' a v → VRel w (Still U ι) ι' a v := fun hv => hv.mono (fun _ h => .inl h) (fun _ _ => rfl) (fun _ _ h => h) _ (fun _ _ h => h)
  intro d
  induction d with
  | zero =>
    intro a r v hv h
    have : a.flat1 = true ∧ r = a := by
      cases a <;> simp [freeze1] at h <;> first | exact ⟨h.1, h.2.symm⟩ | (simp [AV.flat1] at h; done) | (obtain ⟨h1, rfl⟩ := h; exact ⟨h1, rfl⟩)
    obtain ⟨hf, rfl⟩ := this
    exact mono (hv.flat1 hf _)
  | succ d ih =>
    intro a r v hv h
    by_cases hs : ∃ b k i n, a = .slc b k i n
    · obtain ⟨b, k, i, n, rfl⟩ := hs
      simp only [freeze1] at h
      split at h
      · rename_i es hes
        simp only [Option.map_eq_some_iff] at h
        obtain ⟨fs, hfs, rfl⟩ := h
        obtain ⟨hk, a, cap, vs, hva, hr, h1, hor⟩ := elems_sound hH hv hes
        have hlen := mapO_len hfs
        have hfk : ∀ e, e ∈ fs → e.length = k := by
          intro e he
          obtain ⟨p, hp⟩ := List.getElem?_of_mem he
          obtain ⟨e0, he0, hm⟩ := mapO_get' hfs p e hp
          rw [mapO_len hm]
          exact hk e0 (List.mem_of_getElem? he0)
        cases hv with
        | slc _ _ _ _ c off cap' m t hb ho hn hsh hm =>
          simp only [Value.slice.injEq] at hva
          obtain ⟨rfl, hn', rfl⟩ := hva
          rw [hn', ← hlen]
          rcases hor with ⟨h0, _⟩ | ⟨ad, had, hc⟩
          · cases h0
          · cases had
            refine .vec fs ⟨c, off, none⟩ k cap' (fun p q => vs.getD (p * k + q) undef) (by rw [hlen, ← hn']; exact hn) hfk (fun _ => .inr ⟨b, hb⟩) (fun _ => rfl) (fun p q hp hq => ?_) (fun e he x hx => ?_) (fun p e q x he hx => ?_)
            · have hlt : p * k + q < vs.length := by
                rw [hr.1, flat_len hk]
                have : (p + 1) * k ≤ es.length * k := Nat.mul_le_mul_right _ (by rw [hlen] at hp; exact hp)
                rw [Nat.add_mul] at this; omega
              have := hc (p * k + q) _ (List.getElem?_eq_getElem hlt)
              rw [Addr.add_eq, ← Nat.add_assoc] at this
              rw [this]
              simp [List.getD, List.getElem?_eq_getElem hlt]
            · obtain ⟨p, hp⟩ := List.getElem?_of_mem he
              obtain ⟨e0, he0, hm⟩ := mapO_get' hfs p e hp
              obtain ⟨q, hq⟩ := List.getElem?_of_mem hx
              obtain ⟨x0, hx0, hf0⟩ := mapO_get' hm q x hq
              exact freeze1_one hf0 (h1 x0 (by rw [List.mem_flatten]; exact ⟨e0, List.mem_of_getElem? he0, List.mem_of_getElem? hx0⟩))
            · obtain ⟨e0, he0, hm⟩ := mapO_get' hfs p e he
              obtain ⟨x0, hx0, hf0⟩ := mapO_get' hm q x hx
              have hidx : es.flatten[p * k + q]? = some x0 := by
                have hget : ∀ (es : List (List AV)) (p : Nat) (e0 : List AV), (∀ e, e ∈ es → e.length = k) → es[p]? = some e0 → ∀ (q : Nat) (x0 : AV), e0[q]? = some x0 → es.flatten[p * k + q]? = some x0 := by
                  intro es
                  induction es with
                  | nil => intro p e0 _ h; simp at h
                  | cons y es ih =>
                    intro p e0 hk he j a ha
                    have hx : y.length = k := hk y (by simp)
                    cases p with
                    | zero =>
                      simp at he; subst he
                      have hj : j < y.length := (List.getElem?_eq_some_iff.mp ha).1
                      simp only [List.flatten_cons, Nat.zero_mul, Nat.zero_add]
                      rw [List.getElem?_append_left hj]; exact ha
                    | succ i =>
                      simp at he
                      have := ih i e0 (fun e he => hk e (by simp [he])) he j a ha
                      simp only [List.flatten_cons]
                      rw [List.getElem?_append_right (by rw [hx, Nat.add_mul]; omega), hx]
                      rw [show (i + 1) * k + j - k = i * k + j from by rw [Nat.add_mul]; omega]
                      exact this
                exact hget es p e0 hk he0 q x0 hx0
              obtain ⟨u, hu, hur⟩ := hr.get hidx
              have : vs.getD (p * k + q) undef = u := by simp [List.getD, hu]
              rw [this]
              exact ih hur hf0
      · cases h
    · have : a.flat1 = true ∧ r = a := by
        cases a <;> first | (exact absurd ⟨_, _, _, _, rfl⟩ hs) | (simp [freeze1] at h; first | (obtain ⟨h1, rfl⟩ := h; exact ⟨h1, rfl⟩) | (simp [AV.flat1] at h; done))
      obtain ⟨hf, rfl⟩ := this
      exact mono (hv.flat1 hf _)
theorem freeze2_sound {H : AHeap} (hH : HRel C w U ι H) {a r : AV} {v : Value} (hv : VRel w U ι a v) (h : freeze2 H a = some r) : VRel w (Still U ι) (fun _ => none) r v := by
  have mono : ∀ {a : AV} {v : Value} {ι' : Nat → Option Nat}, VRel w U ι' a v → VRel w (Still U ι) ι' a v := fun hv => hv.mono (fun _ h => .inl h) (fun _ _ => rfl) (fun _ _ h => h) _ (fun _ _ h => h)
  unfold freeze2 at h
  split at h
  · rename_i cs
    simp only [Option.map_eq_some_iff] at h
    obtain ⟨ds, hds, rfl⟩ := h
    cases hv with
    | agg _ vs hl h1 hr =>
      refine .agg ds vs (by rw [hl, mapO_len hds]) (fun a ha => ?_) (fun i a v ha hv => ?_)
      · obtain ⟨p, hp⟩ := List.getElem?_of_mem ha
        obtain ⟨a0, ha0, hf⟩ := mapO_get' hds p a hp
        exact freeze1_one hf (h1 a0 (List.mem_of_getElem? ha0))
      · obtain ⟨a0, ha0, hf⟩ := mapO_get' hds i a ha
        exact freeze1_sound hH 4 (hr i a0 v ha0 hv) hf
  · split at h
    · rename_i hf
      cases h
      exact mono (hv.flat2 hf _)
    · cases h
  · exact freeze1_sound hH 4 hv h
theorem freeze_sound {H : AHeap} (hH : HRel C w U ι H) {a r : AV} {v : Value} (hv : VRel w U ι a v) (h : freeze H a = some r) : VRel w (Still U ι) (fun _ => none) r v := by
  unfold freeze at h
  split at h
  · simp only [Option.map_eq_some_iff] at h
    obtain ⟨ds, hds, rfl⟩ := h
    cases hv with
    | tuple _ vs hl hr =>
      refine .tuple ds vs (by rw [hl, mapO_len hds]) (fun i a v ha hv => ?_)
      obtain ⟨a0, ha0, hf⟩ := mapO_get' hds i a ha
      exact freeze2_sound hH (hr i a0 v ha0 hv) hf
  · exact freeze2_sound hH hv h
end Go.BX

namespace Go.BX
set_option linter.unusedSimpArgs false
set_option linter.unusedVariables false
section
variable {P : Program} {fn : FuncId} {tmps : Array Value} {k : List Item} {ds : List Deferred} {kd : CallKind} {ro : Option Nat} {cs : List Frame} {w : World}
abbrev rf (fn : FuncId) (tmps : Array Value) (todo : List Item) (ds : List Deferred) (kd : CallKind) (ro : Option Nat) : Frame := { fn := fn, tmps := tmps, todo := todo, defers := ds, mode := .run, kind := kd, roundOf := ro }
theorem st_skip : step P (lone (rf fn tmps (.code .skip :: k) ds kd ro) cs w) = .next (lone (rf fn tmps k ds kd ro) cs w) := step_lone_go (by simp [stepG, stepG.exec])
theorem st_label {l : Nat} : step P (lone (rf fn tmps (.code (.label l) :: k) ds kd ro) cs w) = .next (lone (rf fn tmps k ds kd ro) cs w) := step_lone_go (by simp [stepG, stepG.exec])
theorem st_inBlock {id : Nat} : step P (lone (rf fn tmps (.inBlock id :: k) ds kd ro) cs w) = .next (lone (rf fn tmps k ds kd ro) cs w) := step_lone_go (by simp [stepG, stepG.exec])
theorem st_inScope {c : Code} : step P (lone (rf fn tmps (.inScope c :: k) ds kd ro) cs w) = .next (lone (rf fn tmps k ds kd ro) cs w) := step_lone_go (by simp [stepG, stepG.exec])
theorem st_seq {a b : Code} : step P (lone (rf fn tmps (.code (.seq a b) :: k) ds kd ro) cs w) = .next (lone (rf fn tmps (.code a :: .code b :: k) ds kd ro) cs w) := step_lone_go (by simp [stepG, stepG.exec])
theorem st_block {id : Nat} {c : Code} : step P (lone (rf fn tmps (.code (.block id c) :: k) ds kd ro) cs w) = .next (lone (rf fn tmps (.code c :: .inBlock id :: k) ds kd ro) cs w) := step_lone_go (by simp [stepG, stepG.exec])
theorem st_loop {c : Code} : step P (lone (rf fn tmps (.code (.loop c) :: k) ds kd ro) cs w) = .next (lone (rf fn tmps (.code c :: .inLoop c :: k) ds kd ro) cs w) := step_lone_go (by simp [stepG, stepG.exec])
theorem st_inLoop {c : Code} : step P (lone (rf fn tmps (.inLoop c :: k) ds kd ro) cs w) = .next (lone (rf fn tmps (.code c :: .inLoop c :: k) ds kd ro) cs w) := step_lone_go (by simp [stepG, stepG.exec])
theorem st_scope {c : Code} : step P (lone (rf fn tmps (.code (.scope c) :: k) ds kd ro) cs w) = .next (lone (rf fn tmps (.code c :: .inScope c :: k) ds kd ro) cs w) := step_lone_go (by simp [stepG, stepG.exec])
theorem st_cond {c : Operand} {a b : Code} {t : Bool} (h : (rf fn tmps (.code (.cond c a b) :: k) ds kd ro).eval c = .bool t) :
    step P (lone (rf fn tmps (.code (.cond c a b) :: k) ds kd ro) cs w) = .next (lone (rf fn tmps (.code (if t then a else b) :: k) ds kd ro) cs w) := step_lone_go (by simp [stepG, stepG.exec, h])
theorem st_exit {id : Nat} {k' : List Item} (h : exitTo id k = some k') : step P (lone (rf fn tmps (.code (.exit id) :: k) ds kd ro) cs w) = .next (lone (rf fn tmps k' ds kd ro) cs w) := step_lone_go (by simp [stepG, stepG.exec, h])
theorem st_goto {l : Nat} {k' : List Item} (h : gotoIn l k = some k') : step P (lone (rf fn tmps (.code (.goto l) :: k) ds kd ro) cs w) = .next (lone (rf fn tmps k' ds kd ro) cs w) := step_lone_go (by simp [stepG, stepG.exec, h])
theorem st_region {id : Nat} {ops : Array Oper} : step P (lone (rf fn tmps (.code (.region id ops false) :: k) ds kd ro) cs w) = .next (lone (rf fn tmps (.inRegion ops (List.range ops.size) :: k) ds kd ro) cs w) := step_lone_go (by simp [stepG, stepG.exec])
theorem st_region_draw {id : Nat} {ops : Array Oper} : step P (lone (rf fn tmps (.code (.region id ops true) :: k) ds kd ro) cs w) =
    .next (lone (rf fn tmps (.inRegion ops (Region.schedule (P.follows .mixedOrders) ops (w.tape w.drawn (.order fn id))) :: k) ds kd ro) cs w.drew) :=
  step_lone_go (by simp [stepG, stepG.exec, choose, Sem.run, Question.forced, Question.cut])
theorem st_region_end {ops : Array Oper} : step P (lone (rf fn tmps (.inRegion ops [] :: k) ds kd ro) cs w) = .next (lone (rf fn tmps k ds kd ro) cs w) := step_lone_go (by simp [stepG, stepG.exec])
theorem st_ret_normal : step P (lone (rf fn tmps (.code .ret :: k) ds kd none) cs w) = .next (lone { rf fn tmps (.code .ret :: k) ds kd none with mode := .returning } cs w) := step_lone_go (by simp [stepG, stepG.exec])
theorem st_end_normal : step P (lone (rf fn tmps [] ds kd none) cs w) = .next (lone { rf fn tmps [] ds kd none with mode := .returning } cs w) := step_lone_go (by simp [stepG, stepG.exec])
theorem eval_rf {todo : List Item} : (rf fn tmps todo ds kd ro).eval = ({ tmps := tmps, defers := ds } : Act).eval := by funext x; cases x <;> rfl
def putV (tmps : Array Value) (dst : Option Nat) (v : Value) : Array Value :=
  match dst with
  | some d => tmps.setIfInBounds d v
  | none => tmps
theorem finish_rf {ops : Array Oper} {i : Nat} {rest : List Nat} {v : Value} : (rf fn tmps (.inRegion ops (i :: rest) :: k) ds kd ro).finish v = rf fn (putV tmps ((ops[i]?).bind (·.dst)) v) (.inRegion ops rest :: k) ds kd ro := by
  cases h : (ops[i]?).bind (·.dst) <;> simp [Frame.finish, h, putV]
theorem st_op_skip {ops : Array Oper} {i : Nat} {rest : List Nat} (h : ((ops[i]?).map (Region.wanted · (yielded ops tmps))).getD false = false) :
    step P (lone (rf fn tmps (.inRegion ops (i :: rest) :: k) ds kd ro) cs w) = .next (lone (rf fn (putV tmps ((ops[i]?).bind (·.dst)) undef) (.inRegion ops rest :: k) ds kd ro) cs w) := by
  rw [← finish_rf]
  exact step_lone_go (by simp only [stepG, stepG.exec, h]; simp)
theorem stepG_op {ops : Array Oper} {i : Nat} {rest : List Nat} {o : Oper} (ho : ops[i]? = some o) (hw : Region.wanted o (yielded ops tmps) = true) (hd : ro = none ∨ isDefer o.op = false) :
    stepG P true { frame := rf fn tmps (.inRegion ops (i :: rest) :: k) ds kd ro, callers := cs, status := .running, dying := none } w =
      stepG.apply P true (rf fn tmps (.inRegion ops (i :: rest) :: k) ds kd ro) cs none (execOp ({ tmps := tmps, defers := ds } : Act).eval o) w := by
  have he := @eval_rf fn tmps ds kd ro (.inRegion ops (i :: rest) :: k)
  simp only [stepG, stepG.exec, ho, hw, Option.map_some, Option.getD_some, if_true, stepG.oper, Frame.oper?, he]
  rcases hd with rfl | hd
  · rfl
  · cases ro with
    | none => rfl
    | some l =>
      obtain ⟨dst, op, ty, pos, after, guard⟩ := o
      cases op <;> first | rfl | (simp [isDefer] at hd)
variable {ops : Array Oper} {i : Nat} {rest : List Nat} {o : Oper}
theorem st_op_value (ho : ops[i]? = some o) (hw : Region.wanted o (yielded ops tmps) = true) (hd : ro = none ∨ isDefer o.op = false) {v : Value} {w' : World}
    (h : (execOp ({ tmps := tmps, defers := ds } : Act).eval o).run P w = .ok (.value v) w' ∨ ((execOp ({ tmps := tmps, defers := ds } : Act).eval o).run P w = .ok .skip w' ∧ v = undef)) :
    step P (lone (rf fn tmps (.inRegion ops (i :: rest) :: k) ds kd ro) cs w) = .next (lone (rf fn (putV tmps o.dst v) (.inRegion ops rest :: k) ds kd ro) cs w') := by
  have hf := @finish_rf fn tmps k ds kd ro ops i rest v
  rw [ho, Option.bind_some] at hf
  rw [← hf]
  refine step_lone_go ?_
  rw [stepG_op ho hw hd]
  rcases h with h | ⟨h, rfl⟩ <;> simp [stepG.apply, Sem.runT_eq, h, GStep.bare_after]
theorem st_op_defer (ho : ops[i]? = some o) (hw : Region.wanted o (yielded ops tmps) = true) {d : Deferred} {w' : World}
    (h : (execOp ({ tmps := tmps, defers := ds } : Act).eval o).run P w = .ok (.defer d) w') :
    step P (lone (rf fn tmps (.inRegion ops (i :: rest) :: k) ds kd none) cs w) = .next (lone (rf fn (putV tmps o.dst undef) (.inRegion ops rest :: k) (d :: ds) kd none) cs w') := by
  have hf := @finish_rf fn tmps k (d :: ds) kd none ops i rest undef
  rw [ho, Option.bind_some] at hf
  rw [← hf]
  refine step_lone_go ?_
  rw [stepG_op ho hw (.inl rfl)]
  simp [stepG.apply, Sem.runT_eq, h, GStep.bare_after]
theorem st_op_enter (ho : ops[i]? = some o) (hw : Region.wanted o (yielded ops tmps) = true) (hd : ro = none ∨ isDefer o.op = false) {f : FuncId} {args : Array Value} {w' : World}
    (h : (execOp ({ tmps := tmps, defers := ds } : Act).eval o).run P w = .ok (.enter f args) w') :
    step P (lone (rf fn tmps (.inRegion ops (i :: rest) :: k) ds kd ro) cs w) = .next (lone (Frame.enter P f args .normal) (rf fn tmps (.inRegion ops (i :: rest) :: k) ds kd ro :: cs) w') := by
  refine step_lone_go ?_
  rw [stepG_op ho hw hd]
  simp [stepG.apply, Sem.runT_eq, h, GStep.bare_after]
theorem st_op_round (ho : ops[i]? = some o) (hw : Region.wanted o (yielded ops tmps) = true) (hd : ro = none ∨ isDefer o.op = false) {l : Nat} {f : FuncId} {ts : Array Value} {assign body : Code} {w' : World}
    (h : (execOp ({ tmps := tmps, defers := ds } : Act).eval o).run P w = .ok (.round l f ts assign body) w') :
    step P (lone (rf fn tmps (.inRegion ops (i :: rest) :: k) ds kd ro) cs w) = .next (lone (Frame.round l f ts assign body .normal) (rf fn tmps (.inRegion ops (i :: rest) :: k) ds kd ro :: cs) w') := by
  refine step_lone_go ?_
  rw [stepG_op ho hw hd]
  simp [stepG.apply, Sem.runT_eq, h, GStep.bare_after]
end
end Go.BX

namespace Go.BX
set_option linter.unusedSimpArgs false
set_option linter.unusedVariables false
variable {C : Ctx} {w : World} {U : Nat → Prop} {ι : Nat → Option Nat}
def Post (C : Ctx) (w : World) (U : Nat → Prop) (ι : Nat → Option Nat) (H H' : AHeap) (r : AV) (v : Value) (w' : World) : Prop := ∃ U' ι', BX.Leaves C w U ι H' r v w' U' ι' ∧ Fresh H ι ι'
def InvN (P : Program) (f : FuncId) (vs : List Value) (w : World) (R : Value → World → Prop) : Prop :=
  (∃ v w', (callFunc f vs.toArray).run P w = .ok (.value v) w' ∧ R v w') ∨
  ((callFunc f vs.toArray).run P w = .ok (.enter f vs.toArray) w ∧ ∀ (c : Frame) (cs : List Frame), ∃ v w', R v w' ∧ Steps P (lone (Frame.enter P f vs.toArray .normal) (c :: cs) w) (lone (c.finish v) cs w'))
def InvD (P : Program) (f : FuncId) (vs : List Value) (w : World) (R : Value → World → Prop) : Prop :=
  (callFunc f vs.toArray).run P w = .ok (.enter f vs.toArray) w ∧ ∀ (c : Frame) (cs : List Frame), c.mode = .returning → ∃ v w', R v w' ∧ Steps P (lone (Frame.enter P f vs.toArray .deferred) (c :: cs) w) (lone c cs w')
structure SimCl (C : Ctx) (cl : Cl) : Prop where
  call : ∀ f args H r H', cl.call f args H = some (r, H') → ∀ w U ι vs, HRel C w U ι H → LsRel w U ι args vs → InvN C.P f vs w (Post C w U ι H H' r)
  callD : ∀ f args H r H', C.ext f = none → cl.call f args H = some (r, H') → ∀ w U ι vs, HRel C w U ι H → LsRel w U ι args vs → InvD C.P f vs w (Post C w U ι H H' r)
  round : ∀ l args H r H', cl.round l args H = some (r, H') → ∀ w U ι vs c, HRel C w U ι H → LsRel w U ι args vs → ι l = some c →
    ∃ f ts assign body, (Instr.yield c vs.toArray).run C.P w = .ok (.round c f ts assign body) w ∧
      ∀ (c0 : Frame) (cs : List Frame), ∃ v w', Post C w U ι H H' r v w' ∧ Steps C.P (lone (Frame.round c f ts assign body .normal) (c0 :: cs) w) (lone (c0.finish v) cs w')
theorem InvN.mono {P : Program} {f : FuncId} {vs : List Value} {R R' : Value → World → Prop} (h : InvN P f vs w R) (hr : ∀ v w', R v w' → R' v w') : InvN P f vs w R' := by
  rcases h with ⟨v, w', h1, h2⟩ | ⟨h1, h2⟩
  · exact .inl ⟨v, w', h1, hr _ _ h2⟩
  · exact .inr ⟨h1, fun c cs => let ⟨v, w', hR, hs⟩ := h2 c cs; ⟨v, w', hr _ _ hR, hs⟩⟩
theorem HRel.kept {H : AHeap} (hH : HRel C w U ι H) {w' : World} {U' : Nat → Prop} (hm : ∀ {a : AV} {v : Value}, VRel w U ι a v → VRel w' U' ι a v) (hall : ∀ c, c < w.heap.size → w'.heap[c]? = w.heap[c]?) (hsz : w.heap.size ≤ w'.heap.size)
    (hU : ∀ c, U' c → c < w'.heap.size ∧ ∀ b, ι b ≠ some c) : HRel C w' U' ι H :=
  ⟨fun b c hb => ⟨(hH.dom b c hb).1, Nat.lt_of_lt_of_le (hH.dom b c hb).2 hsz⟩, hH.inj, hU, fun b c hb => (hH.blk b c hb).mono hm (fun _ _ h => h) (hall c (hH.dom b c hb).2)⟩
structure PureLeaves (C : Ctx) (w : World) (U : Nat → Prop) (ι : Nat → Option Nat) (H : AHeap) (r : AV) (v : Value) (w' : World) (U' : Nat → Prop) : Prop where
  lv : BX.Leaves C w U ι H r v w' U' ι
  all : ∀ c, c < w.heap.size → w'.heap[c]? = w.heap[c]?
theorem pure_leaves {H H1 : AHeap} (hH : HRel C w U ι H) {r0 r : AV} {v : Value} {w' : World} {U1 : Nat → Prop} {ι1 : Nat → Option Nat} (h : BX.Leaves C w U (fun _ => none) H1 r0 v w' U1 ι1) (hf : freeze H1 r0 = some r) :
    PureLeaves C w U ι H r v w' (Still U1 ι1) := by
  have hall : ∀ c, c < w.heap.size → w'.heap[c]? = w.heap[c]? := fun c hc => h.ext.kept c hc (fun b hb => by cases hb)
  have hnew : ∀ c, Still U1 ι1 c → U c ∨ w.heap.size ≤ c := by
    intro c hc
    rcases hc with hc | ⟨b, hb⟩
    · exact h.ext.new c hc
    · rcases h.ext.rng b c hb with ⟨b0, hb0⟩ | hle
      · cases hb0
      · exact .inr hle
  have hlt : ∀ c, Still U1 ι1 c → c < w'.heap.size := by
    intro c hc
    rcases hc with hc | ⟨b, hb⟩
    · exact (h.heap.imm c hc).1
    · exact (h.heap.dom b c hb).2
  have hext : Ext w U ι w' (Still U1 ι1) ι :=
    { map := fun _ _ h => h, rng := fun b _ h => .inl ⟨b, h⟩, imm := fun c hc => .inl (h.ext.imm c hc), new := hnew, size := h.ext.size, kept := fun c hc _ => hall c hc, shape := fun c hc => shape_of_heap (hall c hc), env := h.ext.env }
  refine ⟨⟨hext, ?_, ?_⟩, hall⟩
  · refine hH.kept (fun hv => hext.mono hH hv) hall h.ext.size (fun c hc => ⟨hlt c hc, fun b hb => ?_⟩)
    rcases hnew c hc with hU | hle
    · exact (hH.imm c hU).2 b hb
    · have := (hH.dom b c hb).2; omega
  · exact (freeze_sound h.heap h.val hf).mono (fun _ h => h) (fun _ _ => rfl) (fun _ _ h => h) ι (fun _ _ h => by cases h)
theorem empty_rel {H : AHeap} (hH : HRel C w U ι H) : HRel C w U (fun _ => none) AHeap.empty :=
  ⟨(fun b c h => by cases h), (fun b b' c h => by cases h), (fun c hc => ⟨(hH.imm c hc).1, (fun b hb => by cases hb)⟩), (fun b c h => by cases h)⟩
theorem solid1_rel {a : AV} {v : Value} (h : VRel w U ι a v) (hs : a.solid1 = true) : ∀ (w' : World) (U' : Nat → Prop) (ι' : Nat → Option Nat), VRel w' U' ι' a v := by
  intro w' U' ι'
  cases h <;> first | (simp [AV.solid1] at hs; done) | (constructor <;> assumption) | constructor
theorem solid2_rel {a : AV} {v : Value} (h : VRel w U ι a v) (hs : a.solid2 = true) : ∀ (w' : World) (U' : Nat → Prop) (ι' : Nat → Option Nat), VRel w' U' ι' a v := by
  intro w' U' ι'
  cases h with
  | agg cs vs hl h1 h =>
    simp only [AV.solid2, List.all_eq_true] at hs
    exact .agg cs vs hl h1 fun i a v ha hv => solid1_rel (h i a v ha hv) (hs a (List.mem_of_getElem? ha)) w' U' ι'
  | _ => exact solid1_rel (w := w) (U := U) (ι := ι) (by first | (constructor <;> assumption) | constructor) (by simpa [AV.solid2] using hs) w' U' ι'
theorem solid_rel {a : AV} {v : Value} (h : VRel w U ι a v) (hs : a.solid = true) : ∀ (w' : World) (U' : Nat → Prop) (ι' : Nat → Option Nat), VRel w' U' ι' a v := by
  intro w' U' ι'
  cases h with
  | tuple cs vs hl h =>
    simp only [AV.solid, List.all_eq_true] at hs
    exact .tuple cs vs hl fun i a v ha hv => solid2_rel (h i a v ha hv) (hs a (List.mem_of_getElem? ha)) w' U' ι'
  | _ => exact solid2_rel (w := w) (U := U) (ι := ι) (by first | (constructor <;> assumption) | constructor) (by simpa [AV.solid] using hs) w' U' ι'
theorem freezes_rel {H : AHeap} (hH : HRel C w U ι H) : ∀ {args args' : List AV} {vs : List Value}, LsRel w U ι args vs → mapO (freeze H) args = some args' → LsRel w (Still U ι) (fun _ => none) args' vs := by
  intro args
  induction args with
  | nil => intro args' vs ha h; simp only [mapO, Option.some.injEq] at h; subst h; obtain rfl := ha.cases_nil; exact LsRel.nil
  | cons a args ih =>
    intro args' vs ha h
    obtain ⟨v, us, rfl, hv, ha'⟩ := ha.cases_cons
    simp only [mapO] at h
    split at h
    · rename_i y ys hy hys
      cases h
      exact LsRel.cons (freeze_sound hH hv hy) (ih ha' hys)
    · cases h
theorem flat_at {k : Nat} : ∀ (es : List (List AV)) (p : Nat) (e0 : List AV), (∀ e, e ∈ es → e.length = k) → es[p]? = some e0 → ∀ (q : Nat) (x0 : AV), e0[q]? = some x0 → es.flatten[p * k + q]? = some x0 := by
  intro es
  induction es with
  | nil => intro p e0 _ h; simp at h
  | cons y es ih =>
    intro p e0 hk he j a ha
    have hx : y.length = k := hk y (by simp)
    cases p with
    | zero =>
      simp at he; subst he
      have hj : j < y.length := (List.getElem?_eq_some_iff.mp ha).1
      simp only [List.flatten_cons, Nat.zero_mul, Nat.zero_add]
      rw [List.getElem?_append_left hj]; exact ha
    | succ i =>
      simp at he
      have := ih i e0 (fun e he => hk e (by simp [he])) he j a ha
      simp only [List.flatten_cons]
      rw [List.getElem?_append_right (by rw [hx, Nat.add_mul]; omega), hx]
      rw [show (i + 1) * k + j - k = i * k + j from by rw [Nat.add_mul]; omega]
      exact this
theorem made1_sound {H : AHeap} {U0 : Nat → Prop} (hH : HRel C w U ι H) {a r : AV} {v : Value} (hv : VRel w U ι a v) (h : made1 H a = some r) : VRel w (Still U0 ι) (fun _ => none) r v := by
  unfold made1 at h
  split at h
  · rename_i hs
    cases h
    exact solid2_rel hv hs _ _ _
  · split at h
    · rename_i b k i n _
      split at h
      · rename_i es hes
        split at h
        · rename_i hall
          cases h
          simp only [List.all_eq_true] at hall
          obtain ⟨hk, a, cap, vs, hva, hr, h1, hor⟩ := elems_sound hH hv hes
          cases hv with
          | slc _ _ _ _ c off cap' m t hb ho hn hsh hm =>
            simp only [Value.slice.injEq] at hva
            obtain ⟨rfl, hn', rfl⟩ := hva
            rw [hn']
            rcases hor with ⟨h0, _⟩ | ⟨ad, had, hc⟩
            · cases h0
            · cases had
              refine .vec es ⟨c, off, none⟩ k cap' (fun p q => vs.getD (p * k + q) undef) (by rw [← hn']; exact hn) hk (fun _ => .inr ⟨b, hb⟩) (fun _ => rfl) (fun p q hp hq => ?_) (fun e he x hx => ?_) (fun p e q x he hx => ?_)
              · have hlt : p * k + q < vs.length := by
                  rw [hr.1, flat_len hk]
                  have : (p + 1) * k ≤ es.length * k := Nat.mul_le_mul_right _ hp
                  rw [Nat.add_mul] at this; omega
                have := hc (p * k + q) _ (List.getElem?_eq_getElem hlt)
                rw [Addr.add_eq, ← Nat.add_assoc] at this
                rw [this]
                simp [List.getD, List.getElem?_eq_getElem hlt]
              · exact h1 x (by rw [List.mem_flatten]; exact ⟨e, he, hx⟩)
              · have hidx := flat_at (k := k) es p e hk he q x hx
                obtain ⟨u, hu, hur⟩ := hr.get hidx
                have : vs.getD (p * k + q) undef = u := by simp [List.getD, hu]
                rw [this]
                exact solid1_rel hur (hall e (List.mem_of_getElem? he) x (List.mem_of_getElem? hx)) _ _ _
        · cases h
      · cases h
    · cases h
theorem madeT_sound {H : AHeap} {U0 : Nat → Prop} (hH : HRel C w U ι H) {a r : AV} {v : Value} (hv : VRel w U ι a v) (h : madeT H a = some r) : VRel w (Still U0 ι) (fun _ => none) r v := by
  unfold madeT at h
  split at h
  · simp only [Option.map_eq_some_iff] at h
    obtain ⟨ds, hds, rfl⟩ := h
    cases hv with
    | tuple _ vs hl hr =>
      refine .tuple ds vs (by rw [hl, mapO_len hds]) (fun i a v ha hv => ?_)
      obtain ⟨a0, ha0, hf⟩ := mapO_get' hds i a ha
      exact made1_sound hH (hr i a0 v ha0 hv) hf
  · exact made1_sound hH hv h
theorem callF_sound {cl : Cl} (hs : SimCl C cl) {f : FuncId} {args : List AV} {H H' : AHeap} {r : AV} (h : callF C cl f args H = some (r, H')) {vs : List Value} (hH : HRel C w U ι H) (ha : LsRel w U ι args vs) :
    InvN C.P f vs w (fun v w' => ∃ U' ι', BX.Leaves C w U ι H' r v w' U' ι' ∧ Fresh H ι ι' ∧ (C.pure f = true → H' = H ∧ ι' = ι ∧ ∀ c, c < w.heap.size → w'.heap[c]? = w.heap[c]?)) := by
  unfold callF at h
  split at h
  · rename_i hp
    split at h
    · rename_i hflat
      split at h
      · rename_i r0 H1 hc
        simp only [Option.map_eq_some_iff] at h
        obtain ⟨r1, hfz, he⟩ := h
        cases he
        have ha' : LsRel w U (fun _ => none) args vs := ⟨ha.1, fun i a v hia hiv => (ha.2 i a v hia hiv).flat (by
          simp only [List.all_eq_true] at hflat
          exact hflat a (List.mem_of_getElem? hia)) _⟩
        refine (hs.call f args AHeap.empty r0 H1 hc w U (fun _ => none) vs (empty_rel hH) ha').mono ?_
        rintro v w' ⟨U1, ι1, hl, _⟩
        have hpl := pure_leaves hH hl hfz
        exact ⟨_, ι, hpl.lv, Fresh.refl _ _, fun _ => ⟨rfl, rfl, hpl.all⟩⟩
      · cases h
    · split at h
      · rename_i args' hargs
        split at h
        · rename_i r0 H1 hc
          split at h
          · rename_i r1 hfz
            split at h
            · rename_i hsol
              cases h
              have hfr := freezes_rel hH ha hargs
              have hemp : HRel C w (Still U ι) (fun _ => none) AHeap.empty := ⟨(fun b c h => by cases h), (fun b b' c h => by cases h), (fun c hc => ⟨by
                rcases hc with hc | ⟨b, hb⟩
                · exact (hH.imm c hc).1
                · exact (hH.dom b c hb).2, (fun b hb => by cases hb)⟩), (fun b c h => by cases h)⟩
              refine (hs.call f args' AHeap.empty r0 H1 hc w (Still U ι) (fun _ => none) vs hemp hfr).mono ?_
              rintro v w' ⟨U1, ι1, hl, _⟩
              have hall : ∀ c, c < w.heap.size → w'.heap[c]? = w.heap[c]? := fun c hc => hl.ext.kept c hc (fun b hb => by cases hb)
              have hext : Ext w U ι w' U ι :=
                { map := fun _ _ h => h, rng := fun b _ h => .inl ⟨b, h⟩, imm := fun _ h => h, new := fun _ h => .inl h, size := hl.ext.size, kept := fun c hc _ => hall c hc, shape := fun c hc => shape_of_heap (hall c hc), env := hl.ext.env }
              have hv := freeze_sound hl.heap hl.val hfz
              exact ⟨U, ι, ⟨hext, hH.kept (fun hv => hext.mono hH hv) hall hl.ext.size (fun c hc => ⟨Nat.lt_of_lt_of_le (hH.imm c hc).1 hl.ext.size, (hH.imm c hc).2⟩), solid_rel hv hsol _ _ _⟩, Fresh.refl _ _, fun _ => ⟨rfl, rfl, hall⟩⟩
            · simp only [Option.map_eq_some_iff] at h
              obtain ⟨r2, hmd, he⟩ := h
              cases he
              have hfr := freezes_rel hH ha hargs
              have hemp : HRel C w (Still U ι) (fun _ => none) AHeap.empty := ⟨(fun b c h => by cases h), (fun b b' c h => by cases h), (fun c hc => ⟨by
                rcases hc with hc | ⟨b, hb⟩
                · exact (hH.imm c hc).1
                · exact (hH.dom b c hb).2, (fun b hb => by cases hb)⟩), (fun b c h => by cases h)⟩
              refine (hs.call f args' AHeap.empty r0 H1 hc w (Still U ι) (fun _ => none) vs hemp hfr).mono ?_
              rintro v w' ⟨U1, ι1, hl, _⟩
              have hall : ∀ c, c < w.heap.size → w'.heap[c]? = w.heap[c]? := fun c hc => hl.ext.kept c hc (fun b hb => by cases hb)
              have hnew1 : ∀ b c, ι1 b = some c → w.heap.size ≤ c := fun b c hb => by
                rcases hl.ext.rng b c hb with ⟨b0, hb0⟩ | hle
                · cases hb0
                · exact hle
              have hext : Ext w U ι w' (Still U ι1) ι :=
                { map := fun _ _ h => h, rng := fun b _ h => .inl ⟨b, h⟩, imm := fun _ h => .inl h, new := fun c hc => hc.elim .inl (fun ⟨b, hb⟩ => .inr (hnew1 b c hb)), size := hl.ext.size, kept := fun c hc _ => hall c hc, shape := fun c hc => shape_of_heap (hall c hc), env := hl.ext.env }
              have hv := madeT_sound (U0 := U) hl.heap hl.val hmd
              refine ⟨Still U ι1, ι, ⟨hext, hH.kept (fun hv => hext.mono hH hv) hall hl.ext.size (fun c hc => ?_), hv.mono (fun _ h => h) (fun _ _ => rfl) (fun _ _ h => h) ι (fun _ _ h => by cases h)⟩, Fresh.refl _ _, fun _ => ⟨rfl, rfl, hall⟩⟩
              rcases hc with hc | ⟨b, hb⟩
              · exact ⟨Nat.lt_of_lt_of_le (hH.imm c hc).1 hl.ext.size, (hH.imm c hc).2⟩
              · refine ⟨(hl.heap.dom b c hb).2, fun b' hb' => ?_⟩
                have h1 := hnew1 b c hb
                have h2 := (hH.dom b' c hb').2
                omega
          · cases h
        · cases h
      · cases h
  · rename_i hp
    refine (hs.call f args H r H' h w U ι vs hH ha).mono ?_
    rintro v w' ⟨U1, ι1, hl, hfr⟩
    exact ⟨U1, ι1, hl, hfr, fun hp' => absurd hp' hp⟩
inductive DRel (w : World) (U : Nat → Prop) (ι : Nat → Option Nat) : ADef → Deferred → Prop
  | call {a args fn first cap vs} (hv : VRel w U ι a (.func fn first cap)) (ha : LsRel w U ι args vs) : DRel w U ι (.call a args) { target := .fn fn cap, args := first ++ vs.toArray }
  | collected {b c} (h : ι b = some c) : DRel w U ι (.collected b) { target := .collected c, args := #[] }
inductive DsRel (w : World) (U : Nat → Prop) (ι : Nat → Option Nat) : List ADef → List Deferred → Prop
  | nil : DsRel w U ι [] []
  | cons {a d az ds} (h : DRel w U ι a d) (hs : DsRel w U ι az ds) : DsRel w U ι (a :: az) (d :: ds)
theorem DsRel.mono {w' : World} {U' : Nat → Prop} {ι' : Nat → Option Nat} (hm : ∀ {a : AV} {v : Value}, VRel w U ι a v → VRel w' U' ι' a v) (hι : ∀ b c, ι b = some c → ι' b = some c) {az : List ADef} {ds : List Deferred} (h : DsRel w U ι az ds) : DsRel w' U' ι' az ds := by
  induction h with
  | nil => exact .nil
  | cons h _ ih =>
    refine .cons ?_ ih
    cases h with
    | call hv ha => exact .call (hm hv) (ha.mono hm)
    | collected h => exact .collected (hι _ _ h)
section
variable {ops : Array Oper} {i : Nat} {o : Oper} {fn : FuncId} {tmps : Array Value} {ds : List Deferred} {kd : CallKind} {ro : Option Nat}
theorem op_call (ho : ops[i]? = some o) (hw : Region.wanted o (yielded ops tmps) = true) (hd : ro = none ∨ isDefer o.op = false) {f : FuncId} {vs : List Value} {R : Value → World → Prop}
    (hx : (execOp ({ tmps := tmps, defers := ds } : Act).eval o).run C.P w = (callFunc f vs.toArray).run C.P w) (h : InvN C.P f vs w R) (rest : List Nat) (k : List Item) (cs : List Frame) :
    ∃ v w', R v w' ∧ Steps C.P (lone (rf fn tmps (.inRegion ops (i :: rest) :: k) ds kd ro) cs w) (lone (rf fn (putV tmps o.dst v) (.inRegion ops rest :: k) ds kd ro) cs w') := by
  rcases h with ⟨v, w', h1, h2⟩ | ⟨h1, h2⟩
  · exact ⟨v, w', h2, .one (st_op_value ho hw hd (.inl (by rw [hx, h1])))⟩
  · obtain ⟨v, w', hR, hsteps⟩ := h2 (rf fn tmps (.inRegion ops (i :: rest) :: k) ds kd ro) cs
    refine ⟨v, w', hR, Steps.trans (.one (st_op_enter ho hw hd (by rw [hx, h1]))) ?_⟩
    have hf := @finish_rf fn tmps k ds kd ro ops i rest v
    rw [ho, Option.bind_some] at hf
    rw [← hf]
    exact hsteps
structure OpFacts (C : Ctx) (op : Op) (T : Nat → AV) (H H' : AHeap) (ι ι' : Nat → Option Nat) (w w' : World) : Prop where
  reader : cls C.pure op ≠ .writer → Reads w ι H H' w' ι'
  inert : cls C.pure op = .inert → H' = H
  writes : ∀ t, fwT op = some t → ∀ c, c < w.heap.size → (∀ b, foot (T t) = some (some b) → (H.at_ b).isDead = false → ι b ≠ some c) → w'.heap[c]? = w.heap[c]?
theorem fwT_writer {pure : FuncId → Bool} {op : Op} {t : Nat} (h : fwT op = some t) : cls pure op = .writer := by
  unfold fwT at h
  split at h
  · rfl
  · rfl
  · cases h
theorem OpFacts.of_reader {C : Ctx} {op : Op} {T : Nat → AV} {H H' : AHeap} {ι ι' : Nat → Option Nat} {w w' : World} (hc : cls C.pure op ≠ .writer) (hr : Reads w ι H H' w' ι') (hi : cls C.pure op = .inert → H' = H) : OpFacts C op T H H' ι ι' w w' :=
  ⟨fun _ => hr, hi, fun t ht => absurd (fwT_writer ht) hc⟩
theorem OpFacts.of_writer {C : Ctx} {op : Op} {T : Nat → AV} {H H' : AHeap} {ι ι' : Nat → Option Nat} {w w' : World} (hc : cls C.pure op = .writer) (hf : fwT op = none) : OpFacts C op T H H' ι ι' w w' :=
  ⟨fun h => absurd hc h, (fun h => by rw [hc] at h; cases h), (fun t ht => by rw [hf] at ht; cases ht)⟩
theorem OpFacts.of_skip {C : Ctx} {op : Op} {T : Nat → AV} {H : AHeap} {ι : Nat → Option Nat} {w : World} : OpFacts C op T H H ι ι w w :=
  ⟨fun _ => ⟨fun _ _ => rfl, Nat.le_refl _, fun _ _ => rfl, fun b c h => .inl h⟩, fun _ => rfl, fun _ _ _ _ _ => rfl⟩
theorem prim_sound (hC : TOk C) {T : Nat → AV} {H H' : AHeap} {r : AV} (hH : HRel C w U ι H) (hT : TRel w U ι T tmps) (h : prim C T H o.op = some (r, H')) :
    ∃ v w' ι', ((execOp ({ tmps := tmps, defers := ds } : Act).eval o).run C.P w = .ok (.value v) w' ∨ ((execOp ({ tmps := tmps, defers := ds } : Act).eval o).run C.P w = .ok .skip w' ∧ v = undef)) ∧
      BX.Leaves C w U ι H' r v w' U ι' ∧ Fresh H ι ι' ∧ OpFacts C o.op T H H' ι ι' w w' := by
  have hself : Reads w ι H H w ι := ⟨fun _ _ => rfl, Nat.le_refl _, fun _ _ => rfl, fun b c h => .inl h⟩
  unfold prim at h
  split at h
  · rename_i hin
    simp only [Option.map_eq_some_iff] at h
    obtain ⟨r', hr', he⟩ := h
    cases he
    obtain ⟨v, hv, hvr⟩ := primP_sound (a := { tmps := tmps, defers := ds }) hC hT hr'
    exact ⟨v, w, ι, .inl hv, ⟨Ext.refl _ _ _, hH, hvr⟩, Fresh.refl _ _, OpFacts.of_skip⟩
  · rename_i hin
    have ho' : ∀ (s : Sem Value) (v : Value) (w' : World), s.run C.P w = .ok v w' → (do pure (.value (← s)) : Sem Next).run C.P w = .ok (.value v) w' := by
      intro s v w' hs; simp [hs]
    obtain ⟨dst, op, ty, pos, after, guard⟩ := o
    simp only at h hin ⊢
    let act : Act := { tmps := tmps, defers := ds }
    cases op <;> simp only [primM, reduceCtorEq] at h
    case alloc t =>
      split at h
      · rename_i ti hti
        cases h
        obtain ⟨v, w', ι', hr, hl, hrd⟩ := alloc_sound hC hH hti
        exact ⟨v, w', ι', .inl (ho' _ _ _ hr), hl, hrd.fresh, OpFacts.of_reader (by simp [cls]) hrd (fun hc => by simp [cls] at hc)⟩
      · cases h
    case box t x =>
      split at h
      · rename_i ti v hti hv
        split at h
        · rename_i hc
          cases h
          obtain ⟨u, w', ι', hr, hl, hrd⟩ := box_sound (t := t) hH (ev_sound (a := act) hT hv) hc.1 hc.2
          exact ⟨u, w', ι', .inl (ho' _ _ _ hr), hl, hrd.fresh, OpFacts.of_reader (by simp [cls]) hrd (fun hc => by simp [cls] at hc)⟩
        · cases h
      · cases h
    case buildSlice t len parts =>
      split at h
      · rename_i elem sz by_ zr eq ps hti hps
        split at h
        · rename_i te hte
          split at h
          · rename_i hle
            split at h
            · rename_i cells hf
              cases h
              obtain ⟨hl, hr⟩ := parts_sound (a := act) hT hps
              obtain ⟨u, w', ι', hrun, hlv, hrd⟩ := buildSlice_sound (us := parts.toList.map fun (i, x) => (i, act.eval x)) hC hH hti hte hle (by simp [hl]) (fun i p u hp hu => by
                rw [List.getElem?_map] at hu
                simp only [Option.map_eq_some_iff] at hu
                obtain ⟨q, hq, rfl⟩ := hu
                exact hr i p q hp hq) hf
              refine ⟨u, w', ι', .inl (ho' _ _ _ ?_), hlv, hrd.fresh, OpFacts.of_reader (by simp [cls]) hrd (fun hc => by simp [cls] at hc)⟩
              have e : (parts.map fun (i, x) => (i, act.eval x)) = (parts.toList.map fun (i, x) => (i, act.eval x)).toArray := Array.ext' (by simp)
              rw [← hrun, ← e]
            · cases h
          · cases h
        · cases h
      · cases h
    case load t x =>
      split at h
      · rename_i p hp
        simp only [Option.map_eq_some_iff] at h
        obtain ⟨r', hr', he⟩ := h
        cases he
        obtain ⟨u, hu, hur⟩ := load_sound hC hH (ev_sound (a := act) hT hp) hr'
        exact ⟨u, w, ι, .inl (ho' _ _ _ hu), ⟨Ext.refl _ _ _, hH, hur⟩, Fresh.refl _ _, OpFacts.of_skip⟩
      · cases h
    case store t a x =>
      split at h
      · rename_i p v hp hv
        simp only [Option.map_eq_some_iff] at h
        obtain ⟨H1, hH1, he⟩ := h
        cases he
        obtain ⟨w', hr, he, hh, hkept⟩ := store_sound hC hH (ev_sound (a := act) hT hp) (ev_sound (a := act) hT hv) hH1
        exact ⟨undef, w', ι, .inr ⟨by show (do Instr.storeAt t _ _; pure .skip : Sem Next).run C.P w = _; simp only [Sem.run_bind]; rw [show (Instr.storeAt t (act.eval a) (act.eval x)).run C.P w = _ from hr]; rfl, rfl⟩, ⟨he, hh, .undef⟩, Fresh.refl _ _, ⟨fun hc => absurd rfl hc, fun hc => (by simp [cls] at hc), fun t' ht' c _ hc => hkept c (fun b hb hlv => hc b (by
          cases a <;> simp only [fwT, reduceCtorEq, Option.some.injEq] at ht'
          subst ht'
          simp only [ev, Option.some.injEq] at hp
          rw [hp]; exact hb) hlv)⟩⟩
      · cases h
    case convert s d x =>
      split at h
      · rename_i p hp
        simp only [Option.map_eq_some_iff] at h
        obtain ⟨r', hr', he⟩ := h
        cases he
        obtain ⟨u, hu, hur⟩ := conv_sound hC hH (ev_sound (a := act) hT hp) hr'
        exact ⟨u, w, ι, .inl (ho' _ _ _ hu), ⟨Ext.refl _ _ _, hH, hur⟩, Fresh.refl _ _, OpFacts.of_skip⟩
      · cases h
    case makeSlice t l c =>
      split at h
      · rename_i elem sz by_ zr eq k1 n k2 m hti hl hc
        split at h
        · rename_i te hte
          split at h
          · rename_i hcond
            cases h
            have h1 := ev_sound (a := act) hT hl
            have h2 := ev_sound (a := act) hT hc
            generalize hvl : act.eval l = vl at h1
            generalize hvc : act.eval c = vc at h2
            cases h1; cases h2
            obtain ⟨u, w', ι', hrun, hlv, hrd⟩ := makeSlice_sound (k1 := k1) (k2 := k2) hC hH hti hte hcond.1 hcond.2.1 hcond.2.2.1 hcond.2.2.2
            refine ⟨u, w', ι', .inl (ho' _ _ _ ?_), hlv, hrd.fresh, OpFacts.of_reader (by simp [cls]) hrd (fun hc => by simp [cls] at hc)⟩
            rw [show (({ tmps := tmps, defers := ds } : Act).eval l) = _ from hvl, show (({ tmps := tmps, defers := ds } : Act).eval c) = _ from hvc]
            exact hrun
          · cases h
        · cases h
      · cases h
    case range t x =>
      split at h
      · rename_i sz by_ zr eq s hti hx
        cases h
        obtain ⟨u, w', ι', hrun, hlv, hrd⟩ := range_sound hC hH hti (ev_sound (a := act) hT hx)
        exact ⟨u, w', ι', .inl (ho' _ _ _ hrun), hlv, hrd.fresh, OpFacts.of_reader (by simp [cls]) hrd (fun hc => by simp [cls] at hc)⟩
      · cases h
    case next it isS =>
      cases isS <;> simp only [reduceCtorEq] at h
      split at h
      · rename_i b kk hx
        have h1 := ev_sound (a := act) hT hx
        split at h
        · rename_i s p hbl
          split at h
          · rename_i hlt
            cases h
            obtain ⟨w', hrun, he, hh⟩ := next_sound (s0 := 0) (H' := H) (ty := ty) hH h1 hbl hlt
            refine ⟨_, w', ι, .inl (ho' _ _ _ hrun), ⟨he, hh, ?_⟩, Fresh.refl _ _, OpFacts.of_writer rfl rfl⟩
            exact .tuple _ [_, _, _] rfl (LsRel.cons (.bool _) (LsRel.cons (.int _ _) (LsRel.cons (.int _ _) LsRel.nil))).2
          · rename_i hlt
            cases h
            generalize hvx : act.eval it = vx at h1
            cases h1 with
            | ptr _ _ _ _ c hι =>
              have hbr := hH.blk b c hι
              rw [hbl] at hbr
              obtain ⟨bs, hbs, hc⟩ := hbr
              refine ⟨.tuple #[.bool false], w, ι, .inl (ho' _ _ _ ?_), ⟨Ext.refl _ _ _, hH, .tuple _ [_] rfl (LsRel.cons (.bool _) LsRel.nil).2⟩, Fresh.refl _ _, OpFacts.of_skip⟩
              rw [show (({ tmps := tmps, defers := ds } : Act).eval it) = _ from hvx]
              have hg : (getObj c).run C.P w = .ok (.stringIter bs p) w := by simp only [getObj, Sem.run, hc]
              have hnlt : ¬ p < bs.size := by subst hbs; simpa using hlt
              unfold Instr.next
              simp only [Nat.zero_mul, Nat.add_zero, Sem.run_bind, hg, Result.andThen_ok, hnlt, if_false, Sem.run_pure]
        · cases h
      · cases h
    case makeMap t r =>
      cases r with
      | some r => cases h
      | none =>
        simp only at h
        split at h
        · cases h
          obtain ⟨u, w', ι', hrun, hlv, hrd⟩ := makeMap_sound (C := C) hH (t := t)
          exact ⟨u, w', ι', .inl (ho' _ _ _ hrun), hlv, hrd.fresh, OpFacts.of_writer rfl rfl⟩
        · cases h
    case insert t m k x =>
      split at h
      · rename_i b kk v hm hk hx
        split at h
        · rename_i es hbl
          split at h
          · rename_i hcond
            cases h
            obtain ⟨w', hrun, he, hh⟩ := insert_sound hH (ev_sound (a := act) hT hm) (ev_sound (a := act) hT hk) (ev_sound (a := act) hT hx) hbl hcond.1 hcond.2
            exact ⟨undef, w', ι, .inr ⟨by show (do Instr.mapUpdate t _ _ _; pure .skip : Sem Next).run C.P w = _; simp only [Sem.run_bind]; rw [show (Instr.mapUpdate t (act.eval m) (act.eval k) (act.eval x)).run C.P w = _ from hrun]; rfl, rfl⟩, ⟨he, hh, .undef⟩, Fresh.refl _ _, OpFacts.of_writer rfl rfl⟩
          · cases h
        · cases h
      · cases h
    case lookup t m k ok =>
      cases ok <;> simp only [reduceCtorEq] at h
      split at h
      · rename_i b kk hm hk
        split at h
        · rename_i es hbl
          split at h
          · rename_i hcond
            simp only [Option.map_eq_some_iff] at h
            obtain ⟨v, hg, he⟩ := h
            cases he
            obtain ⟨u, hu, hur⟩ := lookup_sound hH (ev_sound (a := act) hT hm) (ev_sound (a := act) hT hk) hbl hcond hg
            exact ⟨u, w, ι, .inl (ho' _ _ _ hu), ⟨Ext.refl _ _ _, hH, hur⟩, Fresh.refl _ _, OpFacts.of_skip⟩
          · cases h
        · cases h
      · cases h
end
end Go.BX

namespace Go.BX
set_option linter.unusedSimpArgs false
set_option linter.unusedVariables false
variable {C : Ctx} {w : World} {U : Nat → Prop} {ι : Nat → Option Nat}
variable {ops : Array Oper} {i : Nat} {o : Oper} {fn : FuncId} {tmps : Array Value} {ds : List Deferred} {kd : CallKind} {ro : Option Nat}
theorem builtinM_sound (hC : TOk C) {H H' : AHeap} (hH : HRel C w U ι H) {b : Builtin} {ts : List TypeId} {ty : TypeId} {consts : Array Bool} {args : List AV} {vs : List Value} {r : AV} (ha : LsRel w U ι args vs) (h : builtinM C H b ts args = some (r, H')) :
    ∃ v w' ι', (Go.builtin b ts.toArray ty consts vs.toArray).run C.P w = .ok (.value v) w' ∧ BX.Leaves C w U ι H' r v w' U ι' ∧ Fresh H ι ι' ∧ ∀ d ds, args = d :: ds → b = .append → ∀ c, c < w.heap.size → (∀ b', foot d = some (some b') → (H.at_ b').isDead = false → ι b' ≠ some c) → w'.heap[c]? = w.heap[c]? := by
  unfold builtinM at h
  split at h
  · rename_i t t' d s
    obtain ⟨v, _, rfl, hv, h0⟩ := ha.cases_cons
    obtain ⟨v2, _, rfl, hv2, h02⟩ := h0.cases_cons
    obtain rfl := h02.cases_nil
    split at h
    · rename_i ik sz by_ zr eq hti
      obtain ⟨u, w', ι', hrun, hl, hf, hkept⟩ := appendZ_sound (ty := ty) hC hH hv hv2 hti h
      exact ⟨u, w', ι', by simp [Go.builtin, hrun], hl, hf, fun d' ds' e _ c hc _ => hkept c hc⟩
    · rename_i ti hni hti
      obtain ⟨u, w', ι', hrun, hl, hf, hkept⟩ := append_sound (ty := ty) hC hH hv hv2 hti (fun k e => by
        obtain ⟨kind, sz, by_, zr, eq⟩ := ti
        simp only at e
        subst e
        exact hni _ _ _ _ _ rfl) h
      exact ⟨u, w', ι', by simp [Go.builtin, hrun], hl, hf, fun d' ds' e _ => by cases e; exact hkept⟩
    · cases h
  · rename_i t t' d s
    obtain ⟨v, _, rfl, hv, h0⟩ := ha.cases_cons
    obtain ⟨v2, _, rfl, hv2, h02⟩ := h0.cases_cons
    obtain rfl := h02.cases_nil
    obtain ⟨u, w', hrun, hl⟩ := copy_sound (t' := t') (ty := ty) hC hH hv hv2 h
    exact ⟨u, w', ι, by simp [Go.builtin, hrun], hl, Fresh.refl _ _, fun _ _ _ e => by cases e⟩
  · cases h
theorem wanted_sound {T : Nat → AV} {nt : Nat} {ao : AO} (hs : stripOp nt ops o = some ao) (hT : ∀ t, t ∈ usesOf ops o → VRel w U ι (T t) (tmps.getD t undef)) {b : Bool} (h : wantedA T ao.guard = some b) : Region.wanted o (yielded ops tmps) = b := by
  unfold stripOp at hs
  split at hs
  · unfold Region.wanted
    cases hg : o.guard with
    | none => rw [hg] at hs; simp only [Option.some.injEq] at hs; subst hs; simp [wantedA] at h; subst h; rfl
    | some p =>
      obtain ⟨j, want⟩ := p
      rw [hg] at hs
      simp only at hs
      split at hs
      · rename_i t ht
        simp only [Option.some.injEq] at hs
        subst hs
        simp only [wantedA] at h
        have hv := hT t (by unfold usesOf; simp [hg, ht])
        have hy : yielded ops tmps j = match tmps[t]? with | some (.bool b) => some b | _ => none := by
          unfold yielded
          unfold dstOf at ht
          rw [ht]; rfl
        show (yielded ops tmps j == some want) = b
        rw [hy]
        have hget : tmps.getD t undef = (tmps[t]?).getD undef := by simp [Array.getD_eq_getD_getElem?]
        rw [hget] at hv
        generalize tmps[t]? = x at hv
        generalize T t = a at hv h
        cases x with
        | none =>
          simp only [Option.getD_none, undef] at hv
          cases hv <;> simp at h <;> subst h <;> rfl
        | some v =>
          simp only [Option.getD_some] at hv
          cases hv <;> simp at h <;> subst h <;> first | rfl | (rename_i b; cases b <;> cases want <;> rfl)
      · cases hs
  · cases hs
theorem evalL {a : Act} {c : Call} : (c.args.map a.eval) = (c.args.toList.map a.eval).toArray := Array.ext' (by simp)
theorem opRun_sound (hC : TOk C) {cl : Cl} (hs : SimCl C cl) {T : Nat → AV} {az az' : List ADef} {H H' : AHeap} {r : AV} (hH : HRel C w U ι H) (hT : TRel w U ι T tmps) (hD : DsRel w U ι az ds)
    (ho : ops[i]? = some o) (hw : Region.wanted o (yielded ops tmps) = true) (h : opRun C cl ro.isSome T az H o.op = some (r, az', H')) (rest : List Nat) (k : List Item) (cs : List Frame) :
    ∃ v w' ds' U' ι', Steps C.P (lone (rf fn tmps (.inRegion ops (i :: rest) :: k) ds kd ro) cs w) (lone (rf fn (putV tmps o.dst v) (.inRegion ops rest :: k) ds' kd ro) cs w') ∧
      BX.Leaves C w U ι H' r v w' U' ι' ∧ Fresh H ι ι' ∧ DsRel w' U' ι' az' ds' ∧ OpFacts C o.op T H H' ι ι' w w' ∧ (isDefer o.op = false → ds' = ds ∧ az' = az) := by
  let act : Act := { tmps := tmps, defers := ds }
  have keepD : ∀ {w' : World} {U' : Nat → Prop} {ι' : Nat → Option Nat}, Ext w U ι w' U' ι' → DsRel w' U' ι' az ds := fun he => hD.mono (fun hv => he.mono hH hv) he.map
  unfold opRun at h
  split at h
  · -- a call
    rename_i c hop
    have hnd : isDefer o.op = false := by rw [hop]; rfl
    split at h
    · rename_i v0 H0 hcall
      simp only [Option.some.injEq, Prod.mk.injEq] at h
      obtain ⟨rfl, rfl, rfl⟩ := h
      unfold opCall at hcall
      split at hcall
      · cases hcall
      · rename_i args hargs
        have ha := evs_sound (a := act) hT hargs
        have hmv : (c.args.map act.eval) = (c.args.toList.map act.eval).toArray := evalL
        split at hcall
        · -- a builtin
          rename_i b hcal
          unfold builtinA at hcall
          have hex : ∀ x w1, (Go.builtin b c.argTypes.toList.toArray o.type (c.args.map fun | .const _ => true | _ => false) (c.args.toList.map act.eval).toArray).run C.P w = .ok (.value x) w1 → (execOp act.eval o).run C.P w = .ok (.value x) w1 := by
            intro x w1 hx
            obtain ⟨dst, op, ty, pos, after, guard⟩ := o
            simp only at hop
            subst hop
            obtain ⟨callee, cargs, argTypes⟩ := c
            simp only at hcal
            subst hcal
            simp only [execOp, resolve, Sem.run_bind, Sem.run_pure, Result.andThen_ok, invoke]
            have e1 : argTypes.toList.toArray = argTypes := by simp
            rw [e1] at hx
            rw [← hx, ← hmv]
            rfl
          split at hcall
          · rename_i hin
            simp only [Option.map_eq_some_iff] at hcall
            obtain ⟨r', hr', he⟩ := hcall
            cases he
            obtain ⟨v, hv, hvr⟩ := builtinP_sound (ty := o.type) (consts := (c.args.map fun | .const _ => true | _ => false)) hC ha hr'
            refine ⟨v, w, ds, U, ι, .one (st_op_value ho hw (.inr hnd) (.inl (hex _ _ hv))), ⟨Ext.refl _ _ _, hH, hvr⟩, Fresh.refl _ _, hD, OpFacts.of_skip, fun _ => ⟨rfl, rfl⟩⟩
          · rename_i hin
            obtain ⟨v, w', ι', hv, hl, hfr', hkept⟩ := builtinM_sound (ty := o.type) (consts := (c.args.map fun | .const _ => true | _ => false)) hC hH ha hcall
            have hcls : cls C.pure o.op = .writer := by
              rw [hop]
              obtain ⟨callee, cargs, argTypes⟩ := c
              simp only at hcal
              subst hcal
              simp [cls, hin]
            refine ⟨v, w', ds, U, ι', .one (st_op_value ho hw (.inr hnd) (.inl (hex _ _ hv))), hl, hfr', keepD hl.ext, ⟨fun hc => absurd hcls hc, (fun hc => by rw [hcls] at hc; cases hc), fun t ht d hcl hcf => ?_⟩, fun _ => ⟨rfl, rfl⟩⟩
            obtain ⟨callee, cargs, argTypes⟩ := c
            simp only at hcal
            subst hcal
            rw [hop] at ht
            unfold fwT at ht
            split at ht
            · rename_i heq; cases heq
            · rename_i heq
              cases heq
              split at ht
              · rename_i t' rest hrest
                cases ht
                simp only [hrest, evs] at hargs
                split at hargs
                · rename_i v1 vs1 hv1 _
                  cases hargs
                  simp only [ev, Option.some.injEq] at hv1
                  subst hv1
                  exact hkept _ _ rfl rfl d hcl hcf
                · cases hargs
              · cases ht
            · cases ht
        · cases hcall
        · -- a function
          rename_i x hcal
          split at hcall
          · rename_i fv hfv
            have hfr := ev_sound (a := act) hT hfv
            unfold callV at hcall
            split at hcall
            · rename_i f first caps
              generalize hxv : act.eval x = xv at hfr
              cases hfr with
              | fn _ _ _ us zs hl1 hl2 hr1 hr2 =>
                have hall : LsRel w U ι (first ++ args ++ caps) (us ++ c.args.toList.map act.eval ++ zs) := LsRel.append (LsRel.append (show LsRel w U ι first us from ⟨hl1, hr1⟩) ha) ⟨hl2, hr2⟩
                have hinv := callF_sound hs hcall hH hall
                have hex : (execOp act.eval o).run C.P w = (callFunc f (us ++ c.args.toList.map act.eval ++ zs).toArray).run C.P w := by
                  obtain ⟨dst, op, ty, pos, after, guard⟩ := o
                  simp only at hop
                  subst hop
                  obtain ⟨callee, cargs, argTypes⟩ := c
                  simp only at hcal
                  subst hcal
                  simp only [execOp, resolve, Sem.run_bind, hxv, Deferred.ofValue, Sem.run_pure, Result.andThen_ok, invoke]
                  congr 2
                  apply Array.ext'
                  simp
                obtain ⟨v, w', ⟨U', ι', hl, hfr', hp⟩, hst⟩ := op_call (kd := kd) (fn := fn) ho hw (.inr hnd) hex hinv rest k cs
                refine ⟨v, w', ds, U', ι', hst, hl, hfr', keepD hl.ext, ⟨fun hc => ?_, fun hc => ?_, fun t ht => ?_⟩, fun _ => ⟨rfl, rfl⟩⟩
                rotate_right
                · exfalso
                  rw [hop] at ht
                  obtain ⟨callee, cargs, argTypes⟩ := c
                  simp only at hcal
                  subst hcal
                  simp [fwT] at ht
                · -- a reader: the function is pure
                  have hpure : C.pure f = true := by
                    rw [hop] at hc
                    obtain ⟨callee, cargs, argTypes⟩ := c
                    simp only at hcal
                    subst hcal
                    cases x with
                    | func g =>
                      simp only [ev, Option.some.injEq, AV.fn.injEq] at hfv
                      obtain ⟨rfl, _, _⟩ := hfv
                      by_cases hpp : C.pure g = true
                      · exact hpp
                      · simp [cls, hpp] at hc
                    | _ => simp [cls] at hc
                  obtain ⟨rfl, rfl, hall'⟩ := hp hpure
                  exact ⟨hall', Nat.le_refl _, fun _ _ => rfl, fun b c h => .inl h⟩
                · exfalso
                  rw [hop] at hc
                  obtain ⟨callee, cargs, argTypes⟩ := c
                  simp only at hcal
                  subst hcal
                  cases x <;> simp [cls] at hc
                  split at hc <;> cases hc
            · rename_i l
              generalize hxv : act.eval x = xv at hfr
              cases hfr with
              | yld _ lc hlc =>
                obtain ⟨f, ts, assign, body, hy, hgo⟩ := hs.round l args H _ _ hcall w U ι _ lc hH ha hlc
                have hex : (execOp act.eval o).run C.P w = .ok (.round lc f ts assign body) w := by
                  obtain ⟨dst, op, ty, pos, after, guard⟩ := o
                  simp only at hop
                  subst hop
                  obtain ⟨callee, cargs, argTypes⟩ := c
                  simp only at hcal
                  subst hcal
                  simp only [execOp, resolve, Sem.run_bind, hxv, Deferred.ofValue, Sem.run_pure, Result.andThen_ok, invoke]
                  rw [← hy, ← hmv]
                  congr 2
                  simp
                obtain ⟨v, w', ⟨U', ι', hl, hfr'⟩, hst⟩ := hgo (rf fn tmps (.inRegion ops (i :: rest) :: k) ds kd ro) cs
                have hf := @finish_rf fn tmps k ds kd ro ops i rest v
                rw [ho, Option.bind_some] at hf
                rw [hf] at hst
                have hcls : cls C.pure o.op = .writer := by
                  rw [hop]
                  obtain ⟨callee, cargs, argTypes⟩ := c
                  simp only at hcal
                  subst hcal
                  cases x <;> first | rfl | (simp [ev] at hfv)
                refine ⟨v, w', ds, U', ι', Steps.trans (.one (st_op_round ho hw (.inr hnd) hex)) hst, hl, hfr', keepD hl.ext, OpFacts.of_writer hcls (by
                  rw [hop]
                  obtain ⟨callee, cargs, argTypes⟩ := c
                  simp only at hcal
                  subst hcal
                  rfl), fun _ => ⟨rfl, rfl⟩⟩
            · cases hcall
          · cases hcall
    · cases h
  · -- a deferred call
    rename_i c hop
    split at h
    · cases h
    · rename_i hro
      have hro' : ro = none := by cases ro <;> simp at hro; rfl
      subst hro'
      split at h
      · rename_i x args hcal hargs
        split at h
        · rename_i f first caps hfv
          simp only [Option.some.injEq, Prod.mk.injEq] at h
          obtain ⟨rfl, rfl, rfl⟩ := h
          have ha := evs_sound (a := act) hT hargs
          have hfr := ev_sound (a := act) hT hfv
          have hmv : (c.args.map act.eval) = (c.args.toList.map act.eval).toArray := evalL
          have hcls : cls C.pure o.op = .writer := by rw [hop]; rfl
          generalize hxv : act.eval x = xv at hfr
          cases hfr with
            | fn _ _ _ us zs hl1 hl2 hr1 hr2 =>
              have hex : (execOp act.eval o).run C.P w = .ok (.defer { target := .fn (.func f) zs.toArray, args := us.toArray ++ (c.args.toList.map act.eval).toArray }) w := by
                obtain ⟨dst, op, ty, pos, after, guard⟩ := o
                simp only at hop
                subst hop
                obtain ⟨callee, cargs, argTypes⟩ := c
                simp only at hcal
                subst hcal
                simp only [execOp, resolve, Sem.run_bind, hxv, Deferred.ofValue, Sem.run_pure, Result.andThen_ok]
                rw [hmv]
              exact ⟨undef, w, _, U, ι, .one (st_op_defer ho hw hex), ⟨Ext.refl _ _ _, hH, .undef⟩, Fresh.refl _ _, .cons (.call (.fn _ _ _ us zs hl1 hl2 hr1 hr2) ha) hD, OpFacts.of_writer hcls (by rw [hop]; rfl), fun hc => by simp [hop, isDefer] at hc⟩
        · cases h
      · cases h
  · -- no call
    rename_i hnc hnd
    split at h
    · rename_i v0 H0 hp
      simp only [Option.some.injEq, Prod.mk.injEq] at h
      obtain ⟨rfl, rfl, rfl⟩ := h
      have hisd : isDefer o.op = false := by
        cases hop : o.op <;> first | rfl | exact absurd hop (hnd _)
      obtain ⟨v, w', ι', hex, hl, hfr', hf⟩ := prim_sound (ds := ds) hC hH hT hp
      exact ⟨v, w', ds, U, ι', .one (st_op_value ho hw (.inr hisd) hex), hl, hfr', keepD hl.ext, hf, fun _ => ⟨rfl, rfl⟩⟩
    · cases h
end Go.BX

namespace Go.BX
set_option linter.unusedSimpArgs false
set_option linter.unusedVariables false
variable {C : Ctx}
structure NextMono (cl : Cl) : Prop where
  call : ∀ f args H r H', cl.call f args H = some (r, H') → H.next ≤ H'.next
  round : ∀ l args H r H', cl.round l args H = some (r, H') → H.next ≤ H'.next
theorem appendZ_next {H H' : AHeap} {t : TypeId} {d s r : AV} (h : appendZ C H t d s = some (r, H')) : H.next ≤ H'.next := by
  unfold appendZ at h
  split at h
  · split at h
    · split at h
      · cases h
        exact Nat.le_succ _
      · cases h
    · cases h
  · cases h
theorem appendZ_kept {H H' : AHeap} {t : TypeId} {d s r : AV} {b : Nat} (hlt : b < H.next) (h : appendZ C H t d s = some (r, H')) : H'.at_ b = H.at_ b := by
  unfold appendZ at h
  split at h
  · split at h
    · split at h
      · cases h
        show upd H.at_ H.next _ b = _
        rw [upd_ne _ _ (Nat.ne_of_lt hlt)]
      · cases h
    · cases h
  · cases h
theorem appendA_next {H H' : AHeap} {t : TypeId} {d s r : AV} (h : appendA C H t d s = some (r, H')) : H.next ≤ H'.next := by
  unfold appendA at h
  repeat' split at h
  all_goals (first | (simp only [Option.some.injEq, Prod.mk.injEq] at h; obtain ⟨_, rfl⟩ := h; simp [AHeap.push, AHeap.set]) | cases h)
theorem copyA_next {H H' : AHeap} {t : TypeId} {d s r : AV} (h : copyA C H t d s = some (r, H')) : H.next ≤ H'.next := by
  unfold copyA at h
  repeat' split at h
  all_goals (first | (simp only [Option.some.injEq, Prod.mk.injEq] at h; obtain ⟨_, rfl⟩ := h; simp [AHeap.push, AHeap.set]) | cases h)
theorem storeA_next {H H' : AHeap} {t : TypeId} {p v : AV} (h : storeA C H t p v = some H') : H.next ≤ H'.next := by
  unfold storeA at h
  repeat' split at h
  all_goals (first | (simp only [Option.some.injEq] at h; subst h; simp [AHeap.set]) | cases h)
def Grows (H H' : AHeap) : Prop := H.next ≤ H'.next ∧ ∀ b, b < H.next → H'.at_ b = H.at_ b
theorem Grows.refl (H : AHeap) : Grows H H := ⟨Nat.le_refl _, fun _ _ => rfl⟩
theorem Grows.push (H : AHeap) (b : Blk) : Grows H (H.push b) := ⟨by simp [AHeap.push], fun x hx => by simp only [AHeap.push]; exact upd_ne _ _ (Nat.ne_of_lt hx)⟩
theorem Grows.trans {H H1 H2 : AHeap} (h : Grows H H1) (h' : Grows H1 H2) : Grows H H2 := ⟨Nat.le_trans h.1 h'.1, fun b hb => by rw [h'.2 b (Nat.lt_of_lt_of_le hb h.1), h.2 b hb]⟩
theorem prim_abs {T : Nat → AV} {H H' : AHeap} {op : Op} {r : AV} (h : prim C T H op = some (r, H')) : H.next ≤ H'.next ∧ (cls C.pure op ≠ .writer → Grows H H') ∧ (cls C.pure op = .inert → H' = H ∧ ∀ H2, prim C T H2 op = some (r, H2)) := by
  unfold prim at h
  split at h
  · rename_i hin
    simp only [Option.map_eq_some_iff] at h
    obtain ⟨r', hr', he⟩ := h
    cases he
    exact ⟨Nat.le_refl _, fun _ => Grows.refl _, fun _ => ⟨rfl, fun H2 => by unfold prim; rw [if_pos hin, hr']; rfl⟩⟩
  · rename_i hin
    have key : H.next ≤ H'.next ∧ (cls C.pure op ≠ .writer → Grows H H') := by
      cases op <;> simp only [primM, reduceCtorEq] at h
      case store t a x =>
        split at h
        · simp only [Option.map_eq_some_iff] at h
          obtain ⟨H1, hH1, he⟩ := h
          cases he
          exact ⟨storeA_next hH1, fun hc => absurd rfl hc⟩
        · cases h
      case load t x =>
        split at h
        · simp only [Option.map_eq_some_iff] at h
          obtain ⟨_, _, he⟩ := h
          cases he
          exact ⟨Nat.le_refl _, fun _ => Grows.refl _⟩
        · cases h
      case convert s d x =>
        split at h
        · simp only [Option.map_eq_some_iff] at h
          obtain ⟨_, _, he⟩ := h
          cases he
          exact ⟨Nat.le_refl _, fun _ => Grows.refl _⟩
        · cases h
      case next it isS =>
        cases isS <;> simp only [reduceCtorEq] at h
        repeat' split at h
        all_goals (first | (simp only [Option.some.injEq, Prod.mk.injEq] at h; obtain ⟨_, rfl⟩ := h; exact ⟨by simp [AHeap.set], fun hc => absurd rfl hc⟩) | cases h)
      case makeMap t r =>
        cases r with
        | some r => cases h
        | none =>
          simp only at h
          split at h
          · cases h; exact ⟨(Grows.push _ _).1, fun _ => Grows.push _ _⟩
          · cases h
      case insert t m k x =>
        repeat' split at h
        all_goals (first | (cases h; exact ⟨by simp [AHeap.set], fun hc => absurd rfl hc⟩) | cases h)
      case lookup t m k ok =>
        cases ok <;> simp only [reduceCtorEq] at h
        repeat' split at h
        all_goals (first | (simp only [Option.map_eq_some_iff] at h; obtain ⟨_, _, he⟩ := h; cases he; exact ⟨Nat.le_refl _, fun _ => Grows.refl _⟩) | cases h)
      all_goals
        repeat' split at h
        all_goals (first | (simp only [Option.some.injEq, Prod.mk.injEq] at h; obtain ⟨_, rfl⟩ := h; exact ⟨(Grows.push _ _).1, fun _ => Grows.push _ _⟩) | cases h)
    refine ⟨key.1, key.2, fun hc => ?_⟩
    exfalso
    cases op <;> first | (simp [inertOp] at hin; done) | (simp only [primM, reduceCtorEq] at h; done) | (simp [cls] at hc; done) | skip
    all_goals (simp only [primM, reduceCtorEq] at h)
theorem callF_next {cl : Cl} (hn : NextMono cl) {f : FuncId} {args : List AV} {H H' : AHeap} {r : AV} (h : callF C cl f args H = some (r, H')) : H.next ≤ H'.next ∧ (C.pure f = true → H' = H) := by
  unfold callF at h
  split at h
  · split at h
    · split at h
      · simp only [Option.map_eq_some_iff] at h
        obtain ⟨_, _, he⟩ := h
        cases he
        exact ⟨Nat.le_refl _, fun _ => rfl⟩
      · cases h
    · split at h
      · split at h
        · split at h
          · split at h
            · cases h
              exact ⟨Nat.le_refl _, fun _ => rfl⟩
            · simp only [Option.map_eq_some_iff] at h
              obtain ⟨_, _, he⟩ := h
              cases he
              exact ⟨Nat.le_refl _, fun _ => rfl⟩
          · cases h
        · cases h
      · cases h
  · rename_i hp
    exact ⟨hn.call _ _ _ _ _ h, fun hp' => absurd hp' hp⟩
theorem callV_next {cl : Cl} (hn : NextMono cl) {v : AV} {args : List AV} {H H' : AHeap} {r : AV} (h : callV C cl v args H = some (r, H')) : H.next ≤ H'.next := by
  unfold callV at h
  split at h
  · exact (callF_next hn h).1
  · exact hn.round _ _ _ _ _ h
  · cases h
theorem builtinA_next {H H' : AHeap} {b : Builtin} {ts : List TypeId} {args : List AV} {r : AV} (h : builtinA C H b ts args = some (r, H')) : H.next ≤ H'.next ∧ (inertB b = true → H' = H ∧ ∀ H2, builtinA C H2 b ts args = some (r, H2)) := by
  unfold builtinA at h
  split at h
  · rename_i hin
    simp only [Option.map_eq_some_iff] at h
    obtain ⟨r', hr', he⟩ := h
    cases he
    exact ⟨Nat.le_refl _, fun _ => ⟨rfl, fun H2 => by unfold builtinA; rw [if_pos hin, hr']; rfl⟩⟩
  · rename_i hin
    refine ⟨?_, fun hc => absurd hc hin⟩
    unfold builtinM at h
    split at h
    · split at h
      · exact appendZ_next h
      · exact appendA_next h
      · cases h
    · exact copyA_next h
    · cases h
theorem opRun_abs {cl : Cl} (hn : NextMono cl) {ir : Bool} {T : Nat → AV} {az az' : List ADef} {H H' : AHeap} {op : Op} {r : AV} (h : opRun C cl ir T az H op = some (r, az', H')) :
    H.next ≤ H'.next ∧ (cls C.pure op ≠ .writer → Grows H H') ∧ (cls C.pure op = .inert → H' = H ∧ ∀ H2, opRun C cl ir T az H2 op = some (r, az', H2)) := by
  unfold opRun at h
  split at h
  · rename_i c
    split at h
    · rename_i v0 H0 hcall
      simp only [Option.some.injEq, Prod.mk.injEq] at h
      obtain ⟨rfl, rfl, rfl⟩ := h
      have hcall' := hcall
      unfold opCall at hcall
      split at hcall
      · cases hcall
      · rename_i args hargs
        obtain ⟨callee, cargs, argTypes⟩ := c
        split at hcall
        · rename_i b hcal
          simp only at hcal
          subst hcal
          obtain ⟨h1, h2⟩ := builtinA_next hcall
          have hg : inertB b = true → Grows H H0 := fun hb => by rw [(h2 hb).1]; exact Grows.refl _
          refine ⟨h1, fun hc => hg (by simp only [cls] at hc; split at hc; assumption; exact absurd rfl hc), fun hc => ?_⟩
          have hb : inertB b = true := by simp only [cls] at hc; split at hc; assumption; cases hc
          refine ⟨(h2 hb).1, fun H2 => ?_⟩
          simp only [opRun, opCall, hargs, (h2 hb).2 H2]
        · cases hcall
        · rename_i x hcal
          simp only at hcal
          subst hcal
          split at hcall
          · rename_i fv hfv
            have h1 := callV_next hn hcall
            refine ⟨h1, fun hc => ?_, fun hc => ?_⟩
            · cases x <;> first | (simp only [cls] at hc; exact absurd rfl hc) | skip
              rename_i g
              simp only [ev, Option.some.injEq] at hfv
              subst hfv
              have hp : C.pure g = true := by simp only [cls] at hc; split at hc; assumption; exact absurd rfl hc
              unfold callV at hcall
              rw [(callF_next hn hcall).2 hp]
              exact Grows.refl _
            · exfalso
              cases x <;> simp only [cls] at hc <;> first | (cases hc; done) | (split at hc <;> cases hc)
          · cases hcall
    · cases h
  · rename_i c
    split at h
    · cases h
    · split at h
      · split at h
        · simp only [Option.some.injEq, Prod.mk.injEq] at h
          obtain ⟨rfl, rfl, rfl⟩ := h
          exact ⟨Nat.le_refl _, fun _ => Grows.refl _, fun hc => by simp [cls] at hc⟩
        · cases h
      · cases h
  · rename_i op' hnc hnd
    split at h
    · rename_i v0 H0 hp
      simp only [Option.some.injEq, Prod.mk.injEq] at h
      obtain ⟨rfl, rfl, rfl⟩ := h
      obtain ⟨h1, h2, h3⟩ := prim_abs hp
      refine ⟨h1, h2, fun hc => ⟨(h3 hc).1, fun H2 => ?_⟩⟩
      have := (h3 hc).2 H2
      unfold opRun
      split
      · rename_i c; exact absurd rfl (hnc c)
      · rename_i c; exact absurd rfl (hnd c)
      · rw [this]
    · cases h
theorem ev_congr {T T' : Nat → AV} {x : Operand} (h : ∀ t, t ∈ opTmps [x] → T t = T' t) : ev T x = ev T' x := by
  cases x with
  | tmp t => simp only [ev]; rw [h t (by simp [opTmps])]
  | _ => rfl
theorem opTmps_mem {x : Operand} {xs : List Operand} (h : x ∈ xs) {t : Nat} (ht : t ∈ opTmps [x]) : t ∈ opTmps xs := by
  cases x with
  | tmp s =>
    simp [opTmps] at ht
    subst ht
    unfold opTmps
    rw [List.mem_filterMap]
    exact ⟨.tmp t, h, rfl⟩
  | _ => simp [opTmps] at ht
theorem evs_congr {T T' : Nat → AV} : ∀ {xs : List Operand}, (∀ t, t ∈ opTmps xs → T t = T' t) → evs T xs = evs T' xs
  | [], _ => rfl
  | x :: xs, h => by
    have h1 := ev_congr (x := x) (T := T) (T' := T') (fun t ht => h t (opTmps_mem (by simp) ht))
    have h2 := evs_congr (xs := xs) (T := T) (T' := T') (fun t ht => h t (by
      unfold opTmps at ht ⊢
      rw [List.filterMap_cons]
      split
      · exact ht
      · exact List.mem_cons_of_mem _ ht))
    simp only [evs, h1, h2]
theorem parts_congr {T T' : Nat → AV} : ∀ {xs : List (Nat × Operand)}, (∀ t, t ∈ opTmps (xs.map (·.2)) → T t = T' t) → parts_ T xs = parts_ T' xs
  | [], _ => rfl
  | (i, x) :: xs, h => by
    have h1 := ev_congr (x := x) (T := T) (T' := T') (fun t ht => h t (opTmps_mem (by simp) ht))
    have h2 := parts_congr (xs := xs) (T := T) (T' := T') (fun t ht => h t (by
      unfold opTmps at ht ⊢
      rw [List.map_cons, List.filterMap_cons]
      split
      · exact ht
      · exact List.mem_cons_of_mem _ ht))
    simp only [parts_, h1, h2]
theorem evo_congr {T T' : Nat → AV} {x : Option Operand} (h : ∀ t, t ∈ opTmps x.toList → T t = T' t) : evo T x = evo T' x := by
  cases x with
  | none => rfl
  | some y => simp only [evo, ev_congr (x := y) (T := T) (T' := T') (fun t ht => h t ht)]
theorem opRun_congr {cl : Cl} {ir : Bool} {T T' : Nat → AV} {az : List ADef} {H : AHeap} {op : Op} (h : ∀ t, t ∈ opTmps op.operands.toList → T t = T' t) : opRun C cl ir T az H op = opRun C cl ir T' az H op := by
  have one : ∀ x, x ∈ op.operands.toList → ev T x = ev T' x := fun x hx => ev_congr (fun t ht => h t (opTmps_mem hx ht))
  cases op with
  | call c =>
    have h1 : evs T c.args.toList = evs T' c.args.toList := evs_congr (fun t ht => h t (by
      unfold opTmps at ht ⊢
      rw [List.mem_filterMap] at ht ⊢
      obtain ⟨x, hx, hxt⟩ := ht
      exact ⟨x, by simp only [Op.operands, Call.operands, Array.toList_append, List.mem_append]; exact .inr hx, hxt⟩))
    simp only [opRun, opCall, h1]
    obtain ⟨callee, cargs, argTypes⟩ := c
    cases callee with
    | value f =>
      have := one f (by simp [Op.operands, Call.operands])
      simp only [this]
    | _ => rfl
  | defer c =>
    have h1 : evs T c.args.toList = evs T' c.args.toList := evs_congr (fun t ht => h t (by
      unfold opTmps at ht ⊢
      rw [List.mem_filterMap] at ht ⊢
      obtain ⟨x, hx, hxt⟩ := ht
      exact ⟨x, by simp only [Op.operands, Call.operands, Array.toList_append, List.mem_append]; exact .inr hx, hxt⟩))
    obtain ⟨callee, cargs, argTypes⟩ := c
    cases callee with
    | value f =>
      have h2 := one f (by simp [Op.operands, Call.operands])
      have h1' : evs T cargs.toList = evs T' cargs.toList := h1
      cases hv : evs T' cargs.toList <;> (simp only [opRun, h1', hv, h2]; try rfl)
    | _ =>
      have h1' : evs T cargs.toList = evs T' cargs.toList := h1
      simp only [opRun, h1']
      try rfl
  | move x => (simp only [opRun, prim, inertOp, primP, primM, one x (by simp [Op.operands])]; try rfl)
  | assign x => (simp only [opRun, prim, inertOp, primP, primM, one x (by simp [Op.operands])]; try rfl)
  | pick c a b => (simp only [opRun, prim, inertOp, primP, primM, one c (by simp [Op.operands]), one a (by simp [Op.operands]), one b (by simp [Op.operands])]; try rfl)
  | build t ps =>
    have := parts_congr (xs := ps.toList) (T := T) (T' := T') (fun t ht => h t (by simpa [Op.operands] using ht))
    (simp only [opRun, prim, inertOp, primP, primM, this]; try rfl)
  | buildSlice t n ps =>
    have := parts_congr (xs := ps.toList) (T := T) (T' := T') (fun t ht => h t (by simpa [Op.operands] using ht))
    (simp only [opRun, prim, inertOp, primP, primM, this]; try rfl)
  | box t x => (simp only [opRun, prim, inertOp, primP, primM, one x (by simp [Op.operands])]; try rfl)
  | load t x => (simp only [opRun, prim, inertOp, primP, primM, one x (by simp [Op.operands])]; try rfl)
  | store t a v => (simp only [opRun, prim, inertOp, primP, primM, one a (by simp [Op.operands]), one v (by simp [Op.operands])]; try rfl)
  | nilCheck x => (simp only [opRun, prim, inertOp, primP, primM, one x (by simp [Op.operands])]; try rfl)
  | binOp op t a v yt => (simp only [opRun, prim, inertOp, primP, primM, one a (by simp [Op.operands]), one v (by simp [Op.operands])]; try rfl)
  | unOp op t x => (simp only [opRun, prim, inertOp, primP, primM, one x (by simp [Op.operands])]; try rfl)
  | convert s d x => (simp only [opRun, prim, inertOp, primP, primM, one x (by simp [Op.operands])]; try rfl)
  | makeFunc fn first caps =>
    have h1 : evs T first.toList = evs T' first.toList := evs_congr (fun t ht => h t (by
      unfold opTmps at ht ⊢
      rw [List.mem_filterMap] at ht ⊢
      obtain ⟨x, hx, hxt⟩ := ht
      exact ⟨x, by simp only [Op.operands, Array.toList_append, List.mem_append]; exact .inl hx, hxt⟩))
    have h2 : evs T caps.toList = evs T' caps.toList := evs_congr (fun t ht => h t (by
      unfold opTmps at ht ⊢
      rw [List.mem_filterMap] at ht ⊢
      obtain ⟨x, hx, hxt⟩ := ht
      exact ⟨x, by simp only [Op.operands, Array.toList_append, List.mem_append]; exact .inr hx, hxt⟩))
    cases fn <;> (simp only [opRun, prim, inertOp, primP, primM, h1, h2]; try rfl)
  | makeSlice t a v => (simp only [opRun, prim, inertOp, primP, primM, one a (by simp [Op.operands]), one v (by simp [Op.operands])]; try rfl)
  | slice t x lo hi mx =>
    have hx := one x (by simp [Op.operands])
    have h1 : evo T lo = evo T' lo := evo_congr (fun t ht => h t (by
      unfold opTmps at ht ⊢
      rw [List.mem_filterMap] at ht ⊢
      obtain ⟨x, hx, hxt⟩ := ht
      exact ⟨x, by cases lo <;> simp [Op.operands] at hx ⊢; simp [hx], hxt⟩))
    have h2 : evo T hi = evo T' hi := evo_congr (fun t ht => h t (by
      unfold opTmps at ht ⊢
      rw [List.mem_filterMap] at ht ⊢
      obtain ⟨x, hx, hxt⟩ := ht
      exact ⟨x, by cases hi <;> simp [Op.operands] at hx ⊢; simp [hx], hxt⟩))
    have h3 : evo T mx = evo T' mx := evo_congr (fun t ht => h t (by
      unfold opTmps at ht ⊢
      rw [List.mem_filterMap] at ht ⊢
      obtain ⟨x, hx, hxt⟩ := ht
      exact ⟨x, by cases mx <;> simp [Op.operands] at hx ⊢; simp [hx], hxt⟩))
    (simp only [opRun, prim, inertOp, primP, primM, hx, h1, h2, h3]; try rfl)
  | fieldAddr s x f => (simp only [opRun, prim, inertOp, primP, primM, one x (by simp [Op.operands])]; try rfl)
  | field s x f => (simp only [opRun, prim, inertOp, primP, primM, one x (by simp [Op.operands])]; try rfl)
  | indexAddr t a v => (simp only [opRun, prim, inertOp, primP, primM, one a (by simp [Op.operands]), one v (by simp [Op.operands])]; try rfl)
  | index t a v => (simp only [opRun, prim, inertOp, primP, primM, one a (by simp [Op.operands]), one v (by simp [Op.operands])]; try rfl)
  | range t x => (simp only [opRun, prim, inertOp, primP, primM, one x (by simp [Op.operands])]; try rfl)
  | next it b => cases b <;> (simp only [opRun, prim, inertOp, primP, primM, one it (by simp [Op.operands])]; try rfl)
  | extract x i => (simp only [opRun, prim, inertOp, primP, primM, one x (by simp [Op.operands])]; try rfl)
  | makeMap t r => cases r <;> rfl
  | insert t m k x => (simp only [opRun, prim, inertOp, primP, primM, one m (by simp [Op.operands]), one k (by simp [Op.operands]), one x (by simp [Op.operands])]; try rfl)
  | lookup t m k ok => cases ok <;> (simp only [opRun, prim, inertOp, primP, primM, one m (by simp [Op.operands]), one k (by simp [Op.operands])]; try rfl)
  | _ => rfl
theorem load_abs {cl : Cl} {ir : Bool} {T : Nat → AV} {az az' : List ADef} {H H' : AHeap} {op : Op} {r : AV} {t : Nat} (ht : ldT op = some t) (h : opRun C cl ir T az H op = some (r, az', H')) :
    H' = H ∧ ∀ H2, (∀ b, foot (T t) = some (some b) → H2.at_ b = H.at_ b) → opRun C cl ir T az H2 op = some (r, az', H2) := by
  unfold ldT at ht
  split at ht
  · rename_i ty t'
    cases ht
    simp only [opRun, prim, inertOp, primM, ev, Bool.false_eq_true, if_false] at h
    split at h
    · rename_i v0 H0 hv
      simp only [Option.map_eq_some_iff] at hv
      obtain ⟨x, hx, he⟩ := hv
      cases he
      simp only [Option.some.injEq, Prod.mk.injEq] at h
      obtain ⟨rfl, rfl, rfl⟩ := h
      refine ⟨rfl, fun H2 h2 => ?_⟩
      have hl : loadA C H2 ty (T t) = loadA C H ty (T t) := by
        unfold loadA
        split
        · rfl
        · split
          · rename_i b k i j he
            rw [h2 b (by rw [he]; rfl)]
          · rfl
          · rfl
      simp only [opRun, prim, inertOp, primM, ev, Bool.false_eq_true, if_false, hl, hx, Option.map_some]
    · cases h
  · cases ht
theorem appendA_kept {H H' : AHeap} {t : TypeId} {d s r : AV} {b : Nat} {f : Option Nat} (hf : foot d = some f) (hb : f ≠ some b) (hlt : b < H.next) (h : appendA C H t d s = some (r, H')) : H'.at_ b = H.at_ b := by
  unfold appendA at h
  split at h
  · split at h
    · cases h
    · split at h
      · cases h
      · split at h
        · split at h
          · cases h; rfl
          · split at h
            · cases h; simp only [AHeap.push]; exact upd_ne _ _ (Nat.ne_of_lt hlt)
            · cases h
        · split at h
          · cases h; rfl
          · split at h
            · cases h; simp only [AHeap.push]; exact upd_ne _ _ (Nat.ne_of_lt hlt)
            · cases h
        · rename_i b0 k n
          simp only [foot, Option.some.injEq] at hf
          subst hf
          have hne : b ≠ b0 := fun e => hb (by rw [e])
          split at h
          · split at h
            · split at h
              · cases h; rfl
              · cases h
                simp only [AHeap.push, AHeap.set]
                rw [upd_ne _ _ (Nat.ne_of_lt hlt), upd_ne _ _ hne]
            · cases h
          · cases h
        · cases h
  · cases h
theorem storeA_kept {H H' : AHeap} {t : TypeId} {p v : AV} {b : Nat} {f : Option Nat} (hf : foot p = some f) (hb : f ≠ some b) (h : storeA C H t p v = some H') : H'.at_ b = H.at_ b := by
  unfold storeA at h
  split at h
  · cases h
  · split at h
    · rename_i b0 k i j
      simp only [foot, Option.some.injEq] at hf
      subst hf
      have hne : b ≠ b0 := fun e => hb (by rw [e])
      split at h
      · split at h
        · split at h
          · split at h
            · cases h
              simp only [AHeap.set]
              exact upd_ne _ _ hne
            · cases h
          · cases h
        · cases h
      · cases h
    · cases h
theorem fw_abs {cl : Cl} {ir : Bool} {T : Nat → AV} {az az' : List ADef} {H H' : AHeap} {op : Op} {r : AV} {t b : Nat} {f : Option Nat} (ht : fwT op = some t) (hf : foot (T t) = some f) (hb : f ≠ some b) (hlt : b < H.next) (h : opRun C cl ir T az H op = some (r, az', H')) : H'.at_ b = H.at_ b := by
  unfold fwT at ht
  split at ht
  · rename_i ty t' x
    cases ht
    simp only [opRun, prim, inertOp, primM, ev, Bool.false_eq_true, if_false] at h
    split at h
    · rename_i v0 H0 hv
      split at hv
      · rename_i p v hp hvv
        simp only [Option.some.injEq] at hp
        subst hp
        simp only [Option.map_eq_some_iff] at hv
        obtain ⟨H1, hH1, he⟩ := hv
        cases he
        simp only [Option.some.injEq, Prod.mk.injEq] at h
        obtain ⟨rfl, rfl, rfl⟩ := h
        exact storeA_kept hf hb hH1
      · cases hv
    · cases h
  · rename_i args _
    split at ht
    · rename_i t' rest hrest
      cases ht
      simp only [opRun, opCall, hrest, evs] at h
      split at h
      · rename_i v0 H0 hv
        split at hv
        · cases hv
        · rename_i args' hargs
          split at hargs
          · rename_i v1 vs1 hv1 hvs1
            cases hargs
            simp only [ev, Option.some.injEq] at hv1
            subst hv1
            simp only [Option.some.injEq, Prod.mk.injEq] at h
            obtain ⟨rfl, rfl, rfl⟩ := h
            unfold builtinA at hv
            simp only [inertB, Bool.false_eq_true, if_false] at hv
            unfold builtinM at hv
            split at hv
            · rename_i heq
              simp only [List.cons.injEq] at heq
              obtain ⟨he1, _⟩ := heq
              subst he1
              split at hv
              · exact appendZ_kept hlt hv
              · exact appendA_kept hf hb hlt hv
              · cases hv
            · rename_i hb' _ _; cases hb'
            · cases hv
          · cases hargs
      · cases h
    · cases ht
  · cases ht
end Go.BX

namespace Go.BX
set_option linter.unusedSimpArgs false
set_option linter.unusedVariables false
variable {C : Ctx} {w : World} {U : Nat → Prop} {ι : Nat → Option Nat}
variable {ops : Array Oper} {i : Nat} {o : Oper} {fn : FuncId} {tmps : Array Value} {ds : List Deferred} {kd : CallKind} {ro : Option Nat}
theorem strip_spec {nt : Nat} {ao : AO} (h : stripOp nt ops o = some ao) : ao.dst = o.dst ∧ ao.op = o.op ∧ (∀ d, o.dst = some d → d < nt) ∧ (ao.guard = none ∧ o.guard = none ∨ ∃ j b t, o.guard = some (j, b) ∧ dstOf ops j = some t ∧ ao.guard = some (t, b)) := by
  unfold stripOp at h
  split at h
  · rename_i hd
    have hdd : ∀ d, o.dst = some d → d < nt := fun d e => by unfold dstOk at hd; rw [e] at hd; simpa using hd
    split at h
    · rename_i hg; cases h; exact ⟨rfl, rfl, hdd, .inl ⟨rfl, hg⟩⟩
    · rename_i j b hg
      split at h
      · rename_i t ht; cases h; exact ⟨rfl, rfl, hdd, .inr ⟨j, b, t, hg, ht, rfl⟩⟩
      · cases h
  · cases h
theorem opRes_sound (hC : TOk C) {cl : Cl} (hs : SimCl C cl) {nt : Nat} {ao : AO} (hst : stripOp nt ops o = some ao) {T : Nat → AV} {az az' : List ADef} {H H' : AHeap} {r : AV} (hH : HRel C w U ι H) (hT : TRel w U ι T tmps) (hD : DsRel w U ι az ds)
    (ho : ops[i]? = some o) (h : opRes C cl ro.isSome ao T az H = some (r, az', H')) (rest : List Nat) (k : List Item) (cs : List Frame) :
    ∃ v w' ds' U' ι', Steps C.P (lone (rf fn tmps (.inRegion ops (i :: rest) :: k) ds kd ro) cs w) (lone (rf fn (putV tmps o.dst v) (.inRegion ops rest :: k) ds' kd ro) cs w') ∧
      BX.Leaves C w U ι H' r v w' U' ι' ∧ Fresh H ι ι' ∧ DsRel w' U' ι' az' ds' ∧ OpFacts C o.op T H H' ι ι' w w' ∧ (isDefer o.op = false → ds' = ds ∧ az' = az) := by
  obtain ⟨hdst, hop, hlt, hg⟩ := strip_spec hst
  unfold opRes at h
  split at h
  · rename_i hw
    rw [hop] at h
    exact opRun_sound hC hs hH hT hD ho (wanted_sound hst (fun t _ => hT t) hw) h rest k cs
  · rename_i hw
    simp only [Option.some.injEq, Prod.mk.injEq] at h
    obtain ⟨rfl, rfl, rfl⟩ := h
    have hwf := wanted_sound hst (fun t _ => hT t) hw
    refine ⟨undef, w, ds, U, ι, .one ?_, ⟨Ext.refl _ _ _, hH, .undef⟩, Fresh.refl _ _, hD, OpFacts.of_skip, fun _ => ⟨rfl, rfl⟩⟩
    have := @st_op_skip C.P fn tmps k ds kd ro cs w ops i rest (by rw [ho]; simp [hwf])
    rw [ho, Option.bind_some] at this
    exact this
  · cases h
theorem opRes_abs {cl : Cl} (hn : NextMono cl) {ir : Bool} {ao : AO} {T : Nat → AV} {az az' : List ADef} {H H' : AHeap} {r : AV} (h : opRes C cl ir ao T az H = some (r, az', H')) :
    H.next ≤ H'.next ∧ (cls C.pure ao.op ≠ .writer → Grows H H') ∧ (cls C.pure ao.op = .inert → H' = H ∧ ∀ H2, opRes C cl ir ao T az H2 = some (r, az', H2)) := by
  unfold opRes at h
  split at h
  · rename_i hw
    obtain ⟨h1, h2, h3⟩ := opRun_abs hn h
    refine ⟨h1, h2, fun hc => ⟨(h3 hc).1, fun H2 => ?_⟩⟩
    unfold opRes
    rw [hw]
    exact (h3 hc).2 H2
  · rename_i hw
    simp only [Option.some.injEq, Prod.mk.injEq] at h
    obtain ⟨rfl, rfl, rfl⟩ := h
    exact ⟨Nat.le_refl _, fun _ => Grows.refl _, fun _ => ⟨rfl, fun H2 => by unfold opRes; rw [hw]⟩⟩
  · cases h
theorem opRes_load {cl : Cl} {ir : Bool} {ao : AO} {T : Nat → AV} {az az' : List ADef} {H H' : AHeap} {r : AV} {t : Nat} (ht : ldT ao.op = some t) (h : opRes C cl ir ao T az H = some (r, az', H')) :
    H' = H ∧ ∀ H2, (∀ b, foot (T t) = some (some b) → H2.at_ b = H.at_ b) → opRes C cl ir ao T az H2 = some (r, az', H2) := by
  unfold opRes at h
  split at h
  · rename_i hw
    obtain ⟨h1, h2⟩ := load_abs ht h
    exact ⟨h1, fun H2 h3 => by unfold opRes; rw [hw]; exact h2 H2 h3⟩
  · rename_i hw
    simp only [Option.some.injEq, Prod.mk.injEq] at h
    obtain ⟨rfl, rfl, rfl⟩ := h
    exact ⟨rfl, fun H2 _ => by unfold opRes; rw [hw]⟩
  · cases h
theorem opRes_fw {cl : Cl} {ir : Bool} {ao : AO} {T : Nat → AV} {az az' : List ADef} {H H' : AHeap} {r : AV} {t b : Nat} {f : Option Nat} (ht : fwT ao.op = some t) (hf : foot (T t) = some f) (hb : f ≠ some b) (hlt : b < H.next) (h : opRes C cl ir ao T az H = some (r, az', H')) : H'.at_ b = H.at_ b := by
  unfold opRes at h
  split at h
  · exact fw_abs ht hf hb hlt h
  · simp only [Option.some.injEq, Prod.mk.injEq] at h
    obtain ⟨rfl, rfl, rfl⟩ := h
    rfl
  · cases h
theorem opRes_congr {cl : Cl} {ir : Bool} {nt : Nat} {ao : AO} (hst : stripOp nt ops o = some ao) {T T' : Nat → AV} {az : List ADef} {H : AHeap} (h : ∀ t, t ∈ usesOf ops o → T t = T' t) : opRes C cl ir ao T az H = opRes C cl ir ao T' az H := by
  obtain ⟨hdst, hop, hlt, hg⟩ := strip_spec hst
  have hw : wantedA T ao.guard = wantedA T' ao.guard := by
    rcases hg with ⟨h1, h2⟩ | ⟨j, b, t, h1, h2, h3⟩
    · rw [h1]; rfl
    · rw [h3]; simp only [wantedA]
      rw [h t (by unfold usesOf; simp [h1, h2])]
  unfold opRes
  rw [hw, opRun_congr (T := T) (T' := T') (fun t ht => h t (by unfold usesOf; rw [List.mem_append]; left; rw [← hop]; exact ht))]
theorem opRes_as {cl : Cl} {ir : Bool} {ao : AO} {T : Nat → AV} {az az' : List ADef} {H H' : AHeap} {r : AV} (h : opRes C cl ir ao T az H = some (r, az', H')) (hd : isDefer ao.op = false) : az' = az := by
  unfold opRes at h
  split at h
  · unfold opRun at h
    split at h
    · split at h
      · simp only [Option.some.injEq, Prod.mk.injEq] at h; exact h.2.1.symm
      · cases h
    · rename_i c hop; rw [hop] at hd; simp [isDefer] at hd
    · split at h
      · simp only [Option.some.injEq, Prod.mk.injEq] at h; exact h.2.1.symm
      · cases h
  · simp only [Option.some.injEq, Prod.mk.injEq] at h; exact h.2.1.symm
  · cases h
theorem putV_size (tmps : Array Value) (d : Option Nat) (v : Value) : (putV tmps d v).size = tmps.size := by cases d <;> simp [putV]
theorem put_rel {T : Nat → AV} (hT : TRel w U ι T tmps) {d : Option Nat} (hd : ∀ x, d = some x → x < tmps.size) {a : AV} {v : Value} (h : VRel w U ι a v) : TRel w U ι (putA T d a) (putV tmps d v) := by
  cases d with
  | none => exact hT
  | some x =>
    have hx := hd x rfl
    intro t
    simp only [putA, putV]
    by_cases e : t = x
    · subst e
      rw [upd_same]
      simpa [Array.getD_eq_getD_getElem?, hx] using h
    · rw [upd_ne _ _ e]
      have := hT t
      simpa [Array.getD_eq_getD_getElem?, Array.getElem?_setIfInBounds, Ne.symm e] using this
theorem region_text (hC : TOk C) {cl : Cl} (hs : SimCl C cl) (hn : NextMono cl) {nt : Nat} : ∀ (aos : List AO) (i : Nat) (w : World) (U : Nat → Prop) (ι : Nat → Option Nat) (tmps : Array Value) (ds : List Deferred) (T T' : Nat → AV) (az az' : List ADef) (H H' : AHeap),
    (∀ j ao, aos[j]? = some ao → ∃ o, ops[i + j]? = some o ∧ stripOp nt ops o = some ao) → nt ≤ tmps.size → HRel C w U ι H → TRel w U ι T tmps → DsRel w U ι az ds → runOps C cl ro.isSome aos T az H = some (T', az', H') → ∀ (k : List Item) (cs : List Frame),
      ∃ tmps' w' ds' U' ι', Steps C.P (lone (rf fn tmps (.inRegion ops (List.range' i aos.length) :: k) ds kd ro) cs w) (lone (rf fn tmps' k ds' kd ro) cs w') ∧
        Ext w U ι w' U' ι' ∧ HRel C w' U' ι' H' ∧ TRel w' U' ι' T' tmps' ∧ DsRel w' U' ι' az' ds' ∧ Fresh H ι ι' ∧ tmps'.size = tmps.size ∧ H.next ≤ H'.next := by
  intro aos
  induction aos with
  | nil =>
    intro i w U ι tmps ds T T' az az' H H' _ _ hH hT hD h k cs
    simp only [runOps, Option.some.injEq, Prod.mk.injEq] at h
    obtain ⟨rfl, rfl, rfl⟩ := h
    exact ⟨tmps, w, ds, U, ι, .one st_region_end, Ext.refl _ _ _, hH, hT, hD, Fresh.refl _ _, rfl, Nat.le_refl _⟩
  | cons ao aos ih =>
    intro i w U ι tmps ds T T' az az' H H' hal hnt hH hT hD h k cs
    obtain ⟨o, ho, hst⟩ := hal 0 ao rfl
    simp only [Nat.add_zero] at ho
    simp only [runOps] at h
    split at h
    · rename_i r as1 H1 hr
      obtain ⟨hdst, hop, hlt, _⟩ := strip_spec hst
      obtain ⟨v, w1, ds1, U1, ι1, hsteps, hl, hf, hd1, hof, _⟩ := opRes_sound (fn := fn) (kd := kd) hC hs hst hH hT hD ho hr (List.range' (i + 1) aos.length) k cs
      have hT1 : TRel w1 U1 ι1 (putA T ao.dst r) (putV tmps o.dst v) := by
        rw [hdst]
        exact put_rel (hT.mono (fun hv => hl.ext.mono hH hv)) (fun x hx => Nat.lt_of_lt_of_le (hlt x hx) hnt) hl.val
      have hnx : H.next ≤ H1.next := (opRes_abs hn hr).1
      obtain ⟨tmps', w', ds', U', ι', hsteps', he, hh, ht, hd, hfr, hsz, hnx'⟩ := ih (i + 1) w1 U1 ι1 (putV tmps o.dst v) ds1 (putA T ao.dst r) T' as1 az' H1 H' (fun j ao' hj => by
        obtain ⟨o', ho', hst'⟩ := hal (j + 1) ao' (by simpa using hj)
        exact ⟨o', by rw [← ho']; congr 1; omega, hst'⟩) (by rw [putV_size]; exact hnt) hl.heap hT1 hd1 h k cs
      refine ⟨tmps', w', ds', U', ι', Steps.trans (by rw [List.length_cons, List.range'_succ]; exact hsteps) hsteps', hl.ext.trans he, hh, ht, hd, fun b c hb => ?_, by rw [hsz, putV_size], Nat.le_trans hnx hnx'⟩
      rcases hfr b c hb with hb | hb
      · exact hf b c hb
      · exact .inr (Nat.le_trans hnx hb)
    · cases h
end Go.BX

namespace Go.BX
set_option linter.unusedSimpArgs false
set_option linter.unusedVariables false
set_option linter.unusedSectionVars false
set_option linter.unnecessarySimpa false
variable {C : Ctx} {cl : Cl} {ir : Bool} {ops : Array Oper} {nt : Nat} {az : List ADef} {Ts : Nat → Nat → AV} {Hs : Nat → AHeap} {vs : Nat → AV}
theorem slots_spec {x y : Oper} (h : slotsOk ops x y = true) : (∀ d, x.dst = some d → d ∉ usesOf ops y ∧ y.dst ≠ some d) ∧ (∀ d, y.dst = some d → d ∉ usesOf ops x) := by
  unfold slotsOk at h
  simp only [Bool.and_eq_true] at h
  obtain ⟨h1, h2⟩ := h
  refine ⟨fun d hd => ?_, fun d hd => ?_⟩
  · rw [hd] at h1
    simp only [Bool.and_eq_true, Bool.not_eq_true', List.contains_eq_mem, decide_eq_false_iff_not, beq_eq_false_iff_ne] at h1
    exact h1
  · rw [hd] at h2
    simpa using h2
theorem commute_spec {pure : FuncId → Bool} {x y : Oper} (h : commute pure ops x y = true) :
    slotsOk ops x y = true ∧ (cls pure x.op = .writer → cls pure y.op = .inert) ∧ (cls pure y.op = .writer → cls pure x.op = .inert) := by
  unfold commute at h
  simp only [Bool.and_eq_true] at h
  obtain ⟨⟨⟨⟨⟨h1, h2⟩, h3⟩, h4⟩, h5⟩, h6⟩ := h
  refine ⟨by unfold slotsOk; rw [Bool.and_eq_true]; exact ⟨h1, h2⟩, fun hc => ?_, fun hc => ?_⟩
  · rw [hc] at h5
    simpa using h5
  · rw [hc] at h6
    simpa using h6
theorem ldT_reader {pure : FuncId → Bool} {op : Op} {t : Nat} (h : ldT op = some t) : cls pure op = .reader := by
  unfold ldT at h
  split at h
  · rfl
  · cases h
theorem ldT_uses {o : Oper} {t : Nat} (h : ldT o.op = some t) : t ∈ usesOf ops o := by
  unfold ldT at h
  split at h
  · rename_i heq
    cases h
    unfold usesOf
    rw [heq]
    simp [opTmps, Op.operands]
  · cases h
structure Trace (C : Ctx) (cl : Cl) (ir : Bool) (ops : Array Oper) (nt : Nat) (az : List ADef) (Ts : Nat → Nat → AV) (Hs : Nat → AHeap) (vs : Nat → AV) : Prop where
  op : ∀ i o, ops[i]? = some o → ∃ ao, stripOp nt ops o = some ao ∧ opRes C cl ir ao (Ts i) az (Hs i) = some (vs i, az, Hs (i + 1)) ∧ Ts (i + 1) = putA (Ts i) o.dst (vs i)
  dyn : ∀ j o c t, ops[j]? = some o → (chks C.pure ops)[j]? = some c → t ∈ c → ∃ t', adT o.op = some t' ∧ apartA (Ts j t) (Ts j t') = true
theorem trace_of : ∀ (aos : List AO) (chk : List (List Nat)) (T : Nat → AV) (az az' : List ADef) (H : AHeap) (T' : Nat → AV) (H' : AHeap), runOps C cl ir aos T az H = some (T', az', H') → dynA C cl ir aos chk T az H = true → (∀ ao, ao ∈ aos → isDefer ao.op = false) →
    az' = az ∧ ∃ (Ts : Nat → Nat → AV) (Hs : Nat → AHeap) (vs : Nat → AV), Ts 0 = T ∧ Hs 0 = H ∧ Ts aos.length = T' ∧ Hs aos.length = H' ∧ (∀ i ao, aos[i]? = some ao → opRes C cl ir ao (Ts i) az (Hs i) = some (vs i, az, Hs (i + 1)) ∧ Ts (i + 1) = putA (Ts i) ao.dst (vs i)) ∧
      ∀ i ao c t, aos[i]? = some ao → chk[i]? = some c → t ∈ c → ∃ t', adT ao.op = some t' ∧ apartA (Ts i t) (Ts i t') = true := by
  intro aos
  induction aos with
  | nil =>
    intro chk T az az' H T' H' h _ _
    simp only [runOps, Option.some.injEq, Prod.mk.injEq] at h
    obtain ⟨rfl, rfl, rfl⟩ := h
    exact ⟨rfl, fun _ => T, fun _ => H, fun _ => .undef, rfl, rfl, rfl, rfl, fun i ao h => by simp at h, fun i ao c t h => by simp at h⟩
  | cons ao aos ih =>
    intro chk T az az' H T' H' h hdy hd
    simp only [runOps] at h
    split at h
    · rename_i r as1 H1 hr
      have e1 := opRes_as hr (hd ao (by simp))
      subst e1
      have hdy' : dynA C cl ir aos chk.tail (putA T ao.dst r) as1 H1 = true ∧ ∀ c t, chk[0]? = some c → t ∈ c → ∃ t', adT ao.op = some t' ∧ apartA (T t) (T t') = true := by
        cases chk with
        | nil => exact ⟨by cases aos <;> rfl, fun c t h => by simp at h⟩
        | cons c chk =>
          simp only [dynA, hr, Bool.and_eq_true, List.all_eq_true] at hdy
          refine ⟨hdy.2, fun c' t hc' ht => ?_⟩
          simp only [List.getElem?_cons_zero, Option.some.injEq] at hc'
          subst hc'
          have := hdy.1 t ht
          split at this
          · rename_i t' ht'
            exact ⟨t', ht', this⟩
          · cases this
      obtain ⟨e2, Ts, Hs, vs, hT0, hH0, hTn, hHn, hop, hdd⟩ := ih _ _ _ _ _ _ _ h hdy'.1 (fun a ha => hd a (by simp [ha]))
      refine ⟨e2, fun | 0 => T | i + 1 => Ts i, fun | 0 => H | i + 1 => Hs i, fun | 0 => r | i + 1 => vs i, rfl, rfl, hTn, hHn, fun i a ha => ?_, fun i a c t ha hc ht => ?_⟩
      · cases i with
        | zero =>
          simp only [List.getElem?_cons_zero, Option.some.injEq] at ha
          subst ha
          subst hH0
          exact ⟨hr, hT0⟩
        | succ i => exact hop i a (by simpa using ha)
      · cases i with
        | zero =>
          simp only [List.getElem?_cons_zero, Option.some.injEq] at ha
          subst ha
          exact hdy'.2 c t hc ht
        | succ i => exact hdd i a c t (by simpa using ha) (by cases chk <;> simpa using hc) ht
    · cases h
namespace Trace
variable (tr : Trace C cl ir ops nt az Ts Hs vs)
include tr
theorem next1 (hn : NextMono cl) {i : Nat} (hi : i < ops.size) : (Hs i).next ≤ (Hs (i + 1)).next := by
  obtain ⟨ao, _, hr, _⟩ := tr.op i _ (Array.getElem?_eq_getElem hi)
  exact (opRes_abs hn hr).1
theorem next (hn : NextMono cl) {i j : Nat} (hij : i ≤ j) (hj : j ≤ ops.size) : (Hs i).next ≤ (Hs j).next := by
  induction j with
  | zero => have : i = 0 := by omega
            subst this; exact Nat.le_refl _
  | succ j ih =>
    by_cases e : i = j + 1
    · subst e; exact Nat.le_refl _
    · exact Nat.le_trans (ih (by omega) (by omega)) (tr.next1 hn (by omega))
theorem grows (hn : NextMono cl) {i j : Nat} (hij : i ≤ j) (hj : j ≤ ops.size) (hw : ∀ l o, i ≤ l → l < j → ops[l]? = some o → cls C.pure o.op ≠ .writer) : Grows (Hs i) (Hs j) := by
  induction j with
  | zero => have : i = 0 := by omega
            subst this; exact Grows.refl _
  | succ j ih =>
    by_cases e : i = j + 1
    · subst e; exact Grows.refl _
    · refine (ih (by omega) (by omega) (fun l o hl hlj ho => hw l o hl (by omega) ho)).trans ?_
      have hlt : j < ops.size := by omega
      obtain ⟨ao, hst, hr, _⟩ := tr.op j _ (Array.getElem?_eq_getElem hlt)
      refine (opRes_abs hn hr).2.1 ?_
      rw [(strip_spec hst).2.1]
      exact hw j _ (by omega) (by omega) (Array.getElem?_eq_getElem hlt)
theorem find (hn : NextMono cl) {a m b : Nat} (ham : a ≤ m) (hm : m ≤ ops.size) (h1 : (Hs a).next ≤ b) (h2 : b < (Hs m).next) : ∃ j, a ≤ j ∧ j < m ∧ (Hs j).next ≤ b ∧ b < (Hs (j + 1)).next := by
  induction m with
  | zero => have : a = 0 := by omega
            subst this; omega
  | succ m ih =>
    by_cases e : a = m + 1
    · subst e; omega
    · by_cases hb : b < (Hs m).next
      · obtain ⟨j, h3, h4, h5, h6⟩ := ih (by omega) (by omega) hb
        exact ⟨j, h3, by omega, h5, h6⟩
      · exact ⟨m, by omega, by omega, by omega, h2⟩
theorem slot {i t : Nat} (hi : i ≤ ops.size) : (∃ j, j < i ∧ dstOf ops j = some t ∧ (∀ l, j < l → l < i → dstOf ops l ≠ some t) ∧ Ts i t = vs j) ∨ ((∀ j, j < i → dstOf ops j ≠ some t) ∧ Ts i t = Ts 0 t) := by
  induction i with
  | zero => exact .inr ⟨fun j hj => by omega, rfl⟩
  | succ i ih =>
    have hlt : i < ops.size := by omega
    obtain ⟨ao, hst, hr, hT⟩ := tr.op i _ (Array.getElem?_eq_getElem hlt)
    have hd : dstOf ops i = ops[i].dst := by unfold dstOf; rw [Array.getElem?_eq_getElem hlt]; rfl
    by_cases e : ops[i].dst = some t
    · refine .inl ⟨i, by omega, by rw [hd, e], fun l h1 h2 => by omega, ?_⟩
      rw [hT, e]; simp [putA]
    · have hTt : Ts (i + 1) t = Ts i t := by
        rw [hT]
        cases hdd : ops[i].dst with
        | none => rfl
        | some d => simp only [putA]; exact upd_ne _ _ (fun h => e (by rw [hdd, h]))
      rcases ih (by omega) with ⟨j, h1, h2, h3, h4⟩ | ⟨h1, h2⟩
      · refine .inl ⟨j, by omega, h2, fun l hl1 hl2 => ?_, by rw [hTt, h4]⟩
        by_cases el : l = i
        · subst el; rw [hd]; exact e
        · exact h3 l hl1 (by omega)
      · refine .inr ⟨fun j hj => ?_, by rw [hTt, h2]⟩
        by_cases el : j = i
        · subst el; rw [hd]; exact e
        · exact h1 j (by omega)
end Trace
def res (Hs : Nat → AHeap) (ι : Nat → Option Nat) (m : Nat) : Nat → Option Nat := fun b => if b < (Hs m).next then ι b else none
theorem res_some {ι : Nat → Option Nat} {m b c : Nat} (h : res Hs ι m b = some c) : b < (Hs m).next ∧ ι b = some c := by
  unfold res at h
  split at h
  · exact ⟨by assumption, h⟩
  · cases h
theorem res_of {ι : Nat → Option Nat} {m b c : Nat} (h : b < (Hs m).next) (h' : ι b = some c) : res Hs ι m b = some c := by
  unfold res; rw [if_pos h]; exact h'
def NT (Ts : Nat → Nat → AV) (l : Nat) (y : Oper) (b : Nat) : Prop := ∃ t f, fwT y.op = some t ∧ foot (Ts l t) = some f ∧ f ≠ some b
theorem Trace.nt_kept (tr : Trace C cl ir ops nt az Ts Hs vs) {l : Nat} {y : Oper} (hy : ops[l]? = some y) {b : Nat} (h : NT Ts l y b) (hlt : b < (Hs l).next) : (Hs (l + 1)).at_ b = (Hs l).at_ b := by
  obtain ⟨t, f, h1, h2, h3⟩ := h
  obtain ⟨ao, hst, hr, _⟩ := tr.op l y hy
  exact opRes_fw (by rw [(strip_spec hst).2.1]; exact h1) h2 h3 hlt hr
theorem Trace.kept (tr : Trace C cl ir ops nt az Ts Hs vs) (hn : NextMono cl) {i j b : Nat} (hij : i ≤ j) (hj : j ≤ ops.size) (hb : b < (Hs i).next) (hw : ∀ l y, i ≤ l → l < j → ops[l]? = some y → cls C.pure y.op = .writer → NT Ts l y b) : (Hs j).at_ b = (Hs i).at_ b := by
  induction j with
  | zero => have : i = 0 := by omega
            subst this; rfl
  | succ j ih =>
    by_cases e : i = j + 1
    · subst e; rfl
    · have h1 := ih (by omega) (by omega) (fun l y hl hlj hy hc => hw l y hl (by omega) hy hc)
      have hlt : j < ops.size := by omega
      have hbj : b < (Hs j).next := Nat.lt_of_lt_of_le hb (tr.next hn (by omega) (by omega))
      rw [← h1]
      by_cases hc : cls C.pure ops[j].op = .writer
      · exact tr.nt_kept (Array.getElem?_eq_getElem hlt) (hw j _ (by omega) (by omega) (Array.getElem?_eq_getElem hlt) hc) hbj
      · obtain ⟨ao, hst, hr, _⟩ := tr.op j _ (Array.getElem?_eq_getElem hlt)
        exact ((opRes_abs hn hr).2.1 (by rw [(strip_spec hst).2.1]; exact hc)).2 b hbj
theorem Trace.still (tr : Trace C cl ir ops nt az Ts Hs vs) {t : Nat} : ∀ {i j : Nat}, i ≤ j → j ≤ ops.size → (∀ l, i ≤ l → l < j → dstOf ops l ≠ some t) → Ts j t = Ts i t := by
  intro i j hij hj h
  induction j with
  | zero => have : i = 0 := by omega
            subst this; rfl
  | succ j ih =>
    by_cases e : i = j + 1
    · subst e; rfl
    · rw [← ih (by omega) (by omega) (fun l h1 h2 => h l h1 (by omega))]
      have hlt : j < ops.size := by omega
      obtain ⟨ao, hst, hr, hT⟩ := tr.op j _ (Array.getElem?_eq_getElem hlt)
      have hd : dstOf ops j = ops[j].dst := by unfold dstOf; rw [Array.getElem?_eq_getElem hlt]; rfl
      rw [hT]
      cases hdd : ops[j].dst with
      | none => rfl
      | some d => exact upd_ne _ _ (fun h' => h j (by omega) (by omega) (by rw [hd, hdd, h']))
structure PairOk (C : Ctx) (ops : Array Oper) (Ts : Nat → Nat → AV) (i : Nat) (x : Oper) (j : Nat) (y : Oper) : Prop where
  s1 : ∀ d, x.dst = some d → d ∉ usesOf ops y ∧ y.dst ≠ some d
  s2 : ∀ d, y.dst = some d → d ∉ usesOf ops x
  kinds : ((cls C.pure x.op = .writer → cls C.pure y.op = .inert) ∧ (cls C.pure y.op = .writer → cls C.pure x.op = .inert)) ∨
    (∃ t f, ldT x.op = some t ∧ foot (Ts i t) = some f ∧ ∀ b, f = some b → NT Ts j y b) ∨ (∃ t f, ldT y.op = some t ∧ foot (Ts j t) = some f ∧ ∀ b, f = some b → NT Ts i x b)
theorem apart_spec {a b : AV} (h : apartA a b = true) : ∃ f g, foot a = some f ∧ foot b = some g ∧ ∀ x, f = some x → g ≠ some x := by
  unfold apartA at h
  split at h
  · rename_i x y h1 h2
    exact ⟨_, _, h1, h2, fun z hz e => by cases hz; cases e; simp at h⟩
  · rename_i x y hne h1 h2
    exact ⟨_, _, h1, h2, fun z hz e => by subst hz; subst e; exact hne z z rfl rfl⟩
  · cases h
theorem Trace.pair (tr : Trace C cl ir ops nt az Ts Hs vs) (hd : drawOk C.pure ops = true) {i j : Nat} (hij : i < j) {x y : Oper} (hx : ops[i]? = some x) (hy : ops[j]? = some y) :
    ((masks ops.toList #[]).getD j 0).testBit i = true ∨ PairOk C ops Ts i x j y := by
  rcases drawOk_pair hd hij hx hy with h | h | ⟨h, hc⟩
  · exact .inl h
  · obtain ⟨h1, h2⟩ := commute_spec h
    exact .inr ⟨(slots_spec h1).1, (slots_spec h1).2, .inl h2⟩
  · right
    unfold look at h
    simp only [Bool.and_eq_true] at h
    obtain ⟨⟨h1, h2⟩, h3⟩ := h
    have hjlt : j < ops.size := (Array.getElem?_eq_some_iff.mp hy).1
    split at h3
    · rename_i t ht
      obtain ⟨c, hcj, htc⟩ := hc t ht
      obtain ⟨t', ht', hap⟩ := tr.dyn j y c t hy hcj htc
      have hst : Ts j t = Ts i t := tr.still (by omega) (by omega) (fun l hl1 hl2 => by
        rw [List.all_eq_true] at h3
        have := h3 l (List.mem_range.mpr hl2)
        simp only [Bool.or_eq_true, decide_eq_true_eq, Bool.not_eq_true', beq_eq_false_iff_ne] at this
        rcases this with h | h
        · omega
        · exact h)
      rw [hst] at hap
      obtain ⟨f, g, hf, hg, hfg⟩ := apart_spec hap
      refine ⟨(slots_spec h1).1, (slots_spec h1).2, .inr ?_⟩
      simp only [Bool.or_eq_true, Bool.and_eq_true] at h2
      rcases h2 with ⟨h4, h5⟩ | ⟨h4, h5⟩
      · obtain ⟨tx, htx⟩ := Option.isSome_iff_exists.mp h4
        obtain ⟨ty, hty⟩ := Option.isSome_iff_exists.mp h5
        have e1 : tx = t := by unfold adT at ht; rw [htx] at ht; simpa using ht
        have e2 : ty = t' := by
          unfold adT at ht'
          split at ht'
          · rename_i z hz
            have e4 := ldT_reader (pure := C.pure) hz
            rw [fwT_writer hty] at e4
            cases e4
          · rw [hty] at ht'; simpa using ht'
        subst e1; subst e2
        exact .inl ⟨tx, f, htx, hf, fun b hb => ⟨ty, g, hty, hg, hfg b hb⟩⟩
      · obtain ⟨tx, htx⟩ := Option.isSome_iff_exists.mp h4
        obtain ⟨ty, hty⟩ := Option.isSome_iff_exists.mp h5
        have e2 : ty = t' := by unfold adT at ht'; rw [hty] at ht'; simpa using ht'
        have e1 : tx = t := by
          unfold adT at ht
          split at ht
          · rename_i z hz
            have e4 := ldT_reader (pure := C.pure) hz
            rw [fwT_writer htx] at e4
            cases e4
          · rw [htx] at ht; simpa using ht
        subst e1; subst e2
        exact .inr ⟨ty, g, hty, hg, fun b hb => ⟨tx, f, htx, hf, fun e => hfg b e hb⟩⟩
    · cases h3
structure Inv (C : Ctx) (ops : Array Oper) (az : List ADef) (Ts : Nat → Nat → AV) (Hs : Nat → AHeap) (vs : Nat → AV) (ds : List Deferred) (S : Nat → Prop) (w : World) (U : Nat → Prop) (ι : Nat → Option Nat) (tmps : Array Value) : Prop where
  dom : ∀ b c, ι b = some c → b < (Hs ops.size).next ∧ c < w.heap.size
  imm : ∀ c, U c → c < w.heap.size ∧ ∀ b, ι b ≠ some c
  slot : ∀ t, (∃ i, i < ops.size ∧ S i ∧ dstOf ops i = some t ∧ (∀ j, S j → dstOf ops j = some t → j ≤ i) ∧ VRel w U (res Hs ι (i + 1)) (vs i) (tmps.getD t undef)) ∨
    ((∀ i, S i → dstOf ops i ≠ some t) ∧ VRel w U (res Hs ι 0) (Ts 0 t) (tmps.getD t undef))
  inj : ∀ m, m ≤ ops.size → (∀ i o, ops[i]? = some o → cls C.pure o.op = .writer → (S i ↔ i < m)) → ∀ b b' c, res Hs ι m b = some c → res Hs ι m b' = some c → ((Hs m).at_ b).isDead = false → ((Hs m).at_ b').isDead = false → b = b'
  blk : ∀ m, m ≤ ops.size → ∀ b c, res Hs ι m b = some c → (∀ l y, ops[l]? = some y → cls C.pure y.op = .writer → (¬ S l ∧ l < m ∨ S l ∧ m ≤ l) → NT Ts l y b) → BRel C w U (res Hs ι m) c ((Hs m).at_ b)
  unm : ∀ i, i < ops.size → ¬ S i → ∀ b, (Hs i).next ≤ b → b < (Hs (i + 1)).next → ι b = none
  dfr : DsRel w U (res Hs ι 0) az ds
theorem Inv.heap {ds : List Deferred} {S : Nat → Prop} {w : World} {U : Nat → Prop} {ι : Nat → Option Nat} {tmps : Array Value} (inv : Inv C ops az Ts Hs vs ds S w U ι tmps) (m : Nat) (hm : m ≤ ops.size) (hw : ∀ i o, ops[i]? = some o → cls C.pure o.op = .writer → (S i ↔ i < m)) : HRel C w U (res Hs ι m) (Hs m) :=
  ⟨fun b c hb => ⟨(res_some hb).1, (inv.dom b c (res_some hb).2).2⟩, inv.inj m hm hw, fun c hc => ⟨(inv.imm c hc).1, fun b hb => (inv.imm c hc).2 b (res_some hb).2⟩, fun b c hb => inv.blk m hm b c hb (fun l y hy hc h => by
    rcases h with ⟨h1, h2⟩ | ⟨h1, h2⟩
    · exact absurd ((hw l y hy hc).mpr h2) h1
    · have := (hw l y hy hc).mp h1; omega)⟩
theorem inv_step (hC : TOk C) (hs : SimCl C cl) (hn : NextMono cl) (hd : drawOk C.pure ops = true) {fn : FuncId} {kd : CallKind} {ro : Option Nat} (tr : Trace C cl ro.isSome ops nt az Ts Hs vs) {ds : List Deferred} {S : Nat → Prop} {w : World} {U : Nat → Prop} {ι : Nat → Option Nat} {tmps : Array Value} (hS : Closed ops S) {i : Nat} {o : Oper} (ho : ops[i]? = some o) (hiS : ¬ S i)
    (hrdy : ∀ e, e ∈ o.after.toList → Region.binds .any e = true → S e.on) (inv : Inv C ops az Ts Hs vs ds S w U ι tmps) (hnt : nt ≤ tmps.size) (rest : List Nat) (k : List Item) (cs : List Frame) :
    ∃ v w' U' ι', Steps C.P (lone (rf fn tmps (.inRegion ops (i :: rest) :: k) ds kd ro) cs w) (lone (rf fn (putV tmps o.dst v) (.inRegion ops rest :: k) ds kd ro) cs w') ∧
      Inv C ops az Ts Hs vs ds (fun j => S j ∨ j = i) w' U' ι' (putV tmps o.dst v) ∧ Closed ops (fun j => S j ∨ j = i) ∧ Ext w U ι w' U' ι' ∧ (∀ b c, ι' b = some c → ι b = some c ∨ (Hs 0).next ≤ b) := by
  have hi : i < ops.size := (Array.getElem?_eq_some_iff.mp ho).1
  have hcl : Closed ops (fun j => S j ∨ j = i) := by
    intro j o' ho' hj e he hb
    rcases hj with hj | rfl
    · exact .inl (hS j o' ho' hj e he hb)
    · rw [ho] at ho'; cases ho'
      exact .inl (hrdy e he hb)
  have P1 : ∀ j y, j < i → ops[j]? = some y → ¬ S j → PairOk C ops Ts j y i o := fun j y hj hy hSj => by
    rcases tr.pair hd hj hy ho with h | h
    · rcases mask_closed hcl h (.inr rfl) with h | h
      · exact absurd h hSj
      · omega
    · exact h
  have P2 : ∀ j y, i < j → ops[j]? = some y → S j → PairOk C ops Ts i o j y := fun j y hj hy hSj => by
    rcases tr.pair hd hj ho hy with h | h
    · exact absurd (mask_closed hS h hSj) hiS
    · exact h
  have hget : ∀ j d, dstOf ops j = some d → ∃ y, ops[j]? = some y ∧ y.dst = some d := fun j d h => by
    unfold dstOf at h
    cases hy : ops[j]? with
    | none => rw [hy] at h; cases h
    | some y => rw [hy] at h; exact ⟨y, rfl, h⟩
  have ldne : ∀ {y : Oper} {t : Nat}, ldT y.op = some t → cls C.pure y.op = .writer → False := fun h h' => by
    rw [ldT_reader (pure := C.pure) h] at h'; cases h'
  have W1 : cls C.pure o.op ≠ .inert → (∀ t, ldT o.op ≠ some t) → ∀ j y, j < i → ops[j]? = some y → cls C.pure y.op = .writer → S j := fun h1 h2 j y hj hy hw => by
    refine Classical.byContradiction fun hSj => ?_
    rcases (P1 j y hj hy hSj).kinds with h | ⟨t, f, h, _⟩ | ⟨t, f, h, _⟩
    · exact h1 (h.1 hw)
    · exact ldne h hw
    · exact h2 t h
  have W2 : cls C.pure o.op ≠ .inert → (∀ t, ldT o.op ≠ some t) → ∀ j y, i < j → ops[j]? = some y → cls C.pure y.op = .writer → ¬ S j := fun h1 h2 j y hj hy hw hSj => by
    rcases (P2 j y hj hy hSj).kinds with h | ⟨t, f, h, _⟩ | ⟨t, f, h, _⟩
    · exact h1 (h.2 hw)
    · exact h2 t h
    · exact ldne h hw
  have noalloc : ∀ j y, ops[j]? = some y → (cls C.pure y.op = .inert ∨ ∃ t, ldT y.op = some t) → Hs (j + 1) = Hs j := fun j y hy h => by
    obtain ⟨ao', hst', hr', _⟩ := tr.op j y hy
    have e := (strip_spec hst').2.1
    rcases h with h | ⟨t, h⟩
    · exact ((opRes_abs hn hr').2.2 (by rw [e]; exact h)).1
    · exact (opRes_load (by rw [e]; exact h) hr').1
  have W3 : cls C.pure o.op = .writer → ∀ j y, i < j → ops[j]? = some y → S j → Hs (j + 1) = Hs j := fun hw j y hj hy hSj => by
    rcases (P2 j y hj hy hSj).kinds with h | ⟨t, f, h, _⟩ | ⟨t, f, h, _⟩
    · exact noalloc j y hy (.inl (h.1 hw))
    · exact (ldne h hw).elim
    · exact noalloc j y hy (.inr ⟨t, h⟩)
  obtain ⟨ao, hst, hr, hT1⟩ := tr.op i o ho
  obtain ⟨_, hop, hlt, _⟩ := strip_spec hst
  have hnd := drawOk_defer hd ho
  let T2 : Nat → AV := fun t => if t ∈ usesOf ops o then Ts i t else .any
  have hr2 : opRes C cl ro.isSome ao T2 az (Hs i) = some (vs i, az, Hs (i + 1)) := by
    rw [← hr]
    exact opRes_congr hst (fun t ht => by simp [T2, ht])
  have hUk : ∀ c, U c → c < w.heap.size := fun c hc => (inv.imm c hc).1
  have hresm : ∀ m m', m ≤ m' → m' ≤ ops.size → ∀ b c, res Hs ι m b = some c → res Hs ι m' b = some c := fun m m' hm hm' b c h => by
    obtain ⟨h1, h2⟩ := res_some h
    exact res_of (Nat.lt_of_lt_of_le h1 (tr.next hn hm hm')) h2
  have hup : ∀ {m m' : Nat} {a : AV} {v : Value}, m ≤ m' → m' ≤ ops.size → VRel w U (res Hs ι m) a v → VRel w U (res Hs ι m') a v := fun hm hm' hv =>
    hv.mono (fun _ h => h) (fun _ _ => rfl) (fun _ _ h => h) _ (hresm _ _ hm hm')
  have hT2 : TRel w U (res Hs ι i) T2 tmps := by
    intro t
    simp only [T2]
    split
    · rename_i hu
      rcases tr.slot (i := i) (t := t) (by omega) with ⟨j, h1, h2, h3, h4⟩ | ⟨h1, h2⟩
      · have hSj : S j := by
          refine Classical.byContradiction fun hSj => ?_
          obtain ⟨y, hy, hyd⟩ := hget j t h2
          exact ((P1 j y h1 hy hSj).s1 t hyd).1 hu
        rcases inv.slot t with ⟨j', h5, h6, h7, h8, h9⟩ | ⟨h5, _⟩
        · have hj' : j' = j := by
            have hle := h8 j hSj h2
            by_cases e : j' = j
            · exact e
            · obtain ⟨y, hy, hyd⟩ := hget j' t h7
              by_cases hji : j' < i
              · exact absurd h7 (h3 j' (by omega) hji)
              · have hne : j' ≠ i := fun e => hiS (e ▸ h6)
                exact absurd hu ((P2 j' y (by omega) hy h6).s2 t hyd)
          subst hj'
          rw [h4]
          exact hup (by omega) (by omega) h9
        · exact absurd h2 (h5 j hSj)
      · rw [h2]
        rcases inv.slot t with ⟨j', h5, h6, h7, h8, h9⟩ | ⟨_, h6⟩
        · obtain ⟨y, hy, hyd⟩ := hget j' t h7
          by_cases hji : j' < i
          · exact absurd h7 (h1 j' hji)
          · have hne : j' ≠ i := fun e => hiS (e ▸ h6)
            exact absurd hu ((P2 j' y (by omega) hy h6).s2 t hyd)
        · exact hup (by omega) (by omega) h6
    · exact .any _
  have hD : DsRel w U (res Hs ι i) az ds := inv.dfr.mono (fun hv => hup (by omega) (by omega) hv) (hresm 0 i (by omega) (by omega))
  obtain ⟨v, w', U', ι1, hsteps, hext, hinn, himm1, hdom1, hval, hfresh, hrd, hhp, hwr⟩ : ∃ v w' U' ι1, Steps C.P (lone (rf fn tmps (.inRegion ops (i :: rest) :: k) ds kd ro) cs w) (lone (rf fn (putV tmps o.dst v) (.inRegion ops rest :: k) ds kd ro) cs w') ∧
      Ext w U (res Hs ι i) w' U' ι1 ∧ ((cls C.pure o.op = .inert ∨ ∃ t, ldT o.op = some t) → Hs (i + 1) = Hs i) ∧ (∀ c, U' c → c < w'.heap.size ∧ ∀ b, ι1 b ≠ some c) ∧ (∀ b c, ι1 b = some c → b < (Hs (i + 1)).next ∧ c < w'.heap.size) ∧ VRel w' U' ι1 (vs i) v ∧
      (∀ b c, ι1 b = some c → res Hs ι i b = some c ∨ (Hs i).next ≤ b) ∧ (cls C.pure o.op ≠ .writer → (∀ c, c < w.heap.size → w'.heap[c]? = w.heap[c]?) ∧ ∀ b c, ι1 b = some c → res Hs ι i b = some c ∨ w.heap.size ≤ c) ∧
      (¬ (cls C.pure o.op = .inert ∨ ∃ t, ldT o.op = some t) → HRel C w' U' ι1 (Hs (i + 1))) ∧ (∀ t, fwT o.op = some t → ∀ c, c < w.heap.size → (∀ b, foot (Ts i t) = some (some b) → ((Hs i).at_ b).isDead = false → res Hs ι i b ≠ some c) → w'.heap[c]? = w.heap[c]?) := by
    by_cases hin : cls C.pure o.op = .inert ∨ ∃ t, ldT o.op = some t
    · -- what asks for no heap, or for one block
      have hstl := noalloc i o ho hin
      let HD : AHeap := { next := (Hs i).next, at_ := fun b => if ∃ t, ldT o.op = some t ∧ foot (Ts i t) = some (some b) then (Hs i).at_ b else .dead }
      have hHD : HRel C w U (res Hs ι i) HD := by
        refine ⟨fun b c hb => ⟨(res_some hb).1, (inv.dom b c (res_some hb).2).2⟩, fun b b' c _ _ h h' => ?_, fun c hc => ⟨hUk c hc, fun b hb => (inv.imm c hc).2 b (res_some hb).2⟩, fun b c hb => ?_⟩
        · by_cases c1 : ∃ t, ldT o.op = some t ∧ foot (Ts i t) = some (some b)
          · by_cases c2 : ∃ t, ldT o.op = some t ∧ foot (Ts i t) = some (some b')
            · obtain ⟨t, h1, h2⟩ := c1
              obtain ⟨t', h3, h4⟩ := c2
              rw [h1] at h3; cases h3
              rw [h2] at h4
              simpa using h4
            · simp only [HD, if_neg c2, Blk.isDead] at h'
              cases h'
          · simp only [HD, if_neg c1, Blk.isDead] at h
            cases h
        · simp only [HD]
          split
          · rename_i hc
            obtain ⟨t, h1, h2⟩ := hc
            refine inv.blk i (by omega) b c hb (fun l y hy hw h => ?_)
            rcases h with ⟨h3, h4⟩ | ⟨h3, h4⟩
            · rcases (P1 l y h4 hy h3).kinds with h | ⟨t', f, h, _⟩ | ⟨t', f, h, h5, h6⟩
              · have e4 := h.1 hw
                rw [ldT_reader (pure := C.pure) h1] at e4; cases e4
              · exact (ldne h hw).elim
              · rw [h1] at h; cases h
                rw [h2] at h5; cases h5
                exact h6 b rfl
            · have hne : l ≠ i := fun e => hiS (e ▸ h3)
              rcases (P2 l y (by omega) hy h3).kinds with h | ⟨t', f, h, h5, h6⟩ | ⟨t', f, h, _⟩
              · have e4 := h.2 hw
                rw [ldT_reader (pure := C.pure) h1] at e4; cases e4
              · rw [h1] at h; cases h
                rw [h2] at h5; cases h5
                exact h6 b rfl
              · exact (ldne h hw).elim
          · trivial
      have hrun : opRes C cl ro.isSome ao T2 az HD = some (vs i, az, HD) := by
        rcases hin with hin | ⟨t, ht⟩
        · exact ((opRes_abs hn hr2).2.2 (by rw [hop]; exact hin)).2 HD
        · refine (opRes_load (by rw [hop]; exact ht) hr2).2 HD (fun b hb => ?_)
          have hu := ldT_uses (ops := ops) ht
          simp only [T2, if_pos hu] at hb
          simp only [HD]
          rw [if_pos ⟨t, ht, hb⟩]
      obtain ⟨v, w', ds', U', ι', hst', hl, hf, _, hof, hdd⟩ := opRes_sound (fn := fn) (kd := kd) hC hs hst hHD hT2 hD ho hrun rest k cs
      obtain ⟨rfl, _⟩ := hdd hnd
      have hnw : cls C.pure o.op ≠ .writer := fun h => by
        rcases hin with hin | ⟨t, ht⟩
        · rw [hin] at h; cases h
        · exact ldne ht h
      have hrd := hof.reader hnw
      refine ⟨v, w', U', ι', hst', hl.ext, fun _ => hstl, hl.heap.imm, fun b c hb => ?_, hl.val, fun b c hb => hf b c hb, fun _ => ⟨hrd.all, fun b c hb => (hrd.new b c hb).imp id (·.2)⟩, fun h => absurd hin h, fun t ht => absurd (fwT_writer ht) hnw⟩
      have := hl.heap.dom b c hb
      rw [hstl]
      exact this
    · have h1 : cls C.pure o.op ≠ .inert := fun h => hin (.inl h)
      have h2 : ∀ t, ldT o.op ≠ some t := fun t h => hin (.inr ⟨t, h⟩)
      have hHi : HRel C w U (res Hs ι i) (Hs i) := by
        refine inv.heap i (by omega) (fun j y hy hyw => ⟨fun hSj => ?_, fun hji => W1 h1 h2 j y hji hy hyw⟩)
        refine Classical.byContradiction fun hge => ?_
        have hne : j ≠ i := fun e => hiS (e ▸ hSj)
        exact W2 h1 h2 j y (by omega) hy hyw hSj
      obtain ⟨v, w', ds', U', ι', hst', hl, hf, _, hof, hdd⟩ := opRes_sound (fn := fn) (kd := kd) hC hs hst hHi hT2 hD ho hr2 rest k cs
      obtain ⟨rfl, _⟩ := hdd hnd
      refine ⟨v, w', U', ι', hst', hl.ext, fun h => absurd h hin, hl.heap.imm, hl.heap.dom, hl.val, fun b c hb => hf b c hb, fun h => ⟨(hof.reader h).all, fun b c hb => ((hof.reader h).new b c hb).imp id (·.2)⟩, fun _ => hl.heap, fun t ht c hc hb => hof.writes t ht c hc (fun b hfb hlv => hb b ?_ hlv)⟩
      simp only [T2] at hfb
      split at hfb
      · exact hfb
      · cases hfb
  let ι2 : Nat → Option Nat := fun b => if (Hs i).next ≤ b ∧ b < (Hs (i + 1)).next then ι1 b else ι b
  have hin2 : ∀ b, (Hs i).next ≤ b → b < (Hs (i + 1)).next → ι2 b = ι1 b := fun b h1 h2 => by simp only [ι2]; rw [if_pos ⟨h1, h2⟩]
  have hout2 : ∀ b, ¬ ((Hs i).next ≤ b ∧ b < (Hs (i + 1)).next) → ι2 b = ι b := fun b h => by simp only [ι2]; rw [if_neg h]
  have hmap2 : ∀ b c, ι b = some c → ι2 b = some c := fun b c hb => by
    by_cases h : (Hs i).next ≤ b ∧ b < (Hs (i + 1)).next
    · rw [inv.unm i hi hiS b h.1 h.2] at hb; cases hb
    · rw [hout2 b h]; exact hb
  have hcase2 : ∀ b c, ι2 b = some c → (((Hs i).next ≤ b ∧ b < (Hs (i + 1)).next) ∧ ι1 b = some c) ∨ (¬ ((Hs i).next ≤ b ∧ b < (Hs (i + 1)).next) ∧ ι b = some c) := fun b c hb => by
    by_cases h : (Hs i).next ≤ b ∧ b < (Hs (i + 1)).next
    · exact .inl ⟨h, by rw [← hin2 b h.1 h.2]; exact hb⟩
    · exact .inr ⟨h, by rw [← hout2 b h]; exact hb⟩
  have hnx := tr.next1 hn hi
  have hmap1 : ∀ b c, ι1 b = some c → res Hs ι2 (i + 1) b = some c := fun b c hb => by
    have h1 := (hdom1 b c hb).1
    refine res_of h1 ?_
    by_cases h : (Hs i).next ≤ b
    · rw [hin2 b h h1]; exact hb
    · rcases hfresh b c hb with h' | h'
      · exact hmap2 b c (res_some h').2
      · exact absurd h' h
  have hmap1' : ∀ b c, res Hs ι2 (i + 1) b = some c → ι1 b = some c := fun b c hb => by
    obtain ⟨h1, h2⟩ := res_some hb
    rcases hcase2 b c h2 with ⟨_, h⟩ | ⟨h, h3⟩
    · exact h
    · exact hext.map b c (res_of (by omega) h3)
  have hext2 : Ext w U ι w' U' ι2 := {
    map := hmap2
    rng := fun b c hb => by
      rcases hcase2 b c hb with ⟨_, h⟩ | ⟨_, h⟩
      · rcases hext.rng b c h with ⟨b0, hb0⟩ | h
        · exact .inl ⟨b0, (res_some hb0).2⟩
        · exact .inr h
      · exact .inl ⟨b, h⟩
    imm := hext.imm
    new := hext.new
    size := hext.size
    kept := fun c hc hb => hext.kept c hc (fun b h => hb b (res_some h).2)
    shape := hext.shape, env := hext.env }
  have hkU : ∀ c, U c → w'.heap[c]? = w.heap[c]? := fun c hc => hext2.kept c (hUk c hc) (inv.imm c hc).2
  have hsh : ∀ c x, w.shape? c = some x → w'.shape? c = some x := fun c x h => by rw [hext2.shape c (shape_lt h)]; exact h
  have hvm : ∀ {m : Nat} {a : AV} {v : Value}, VRel w U (res Hs ι m) a v → VRel w' U' (res Hs ι2 m) a v := fun hv =>
    hv.mono hext2.imm hkU hsh _ (fun b c h => res_of (res_some h).1 (hmap2 b c (res_some h).2))
  have hdomn : ∀ b c, ι2 b = some c → b < (Hs ops.size).next ∧ c < w'.heap.size := fun b c hb => by
    rcases hcase2 b c hb with ⟨⟨_, h1⟩, h⟩ | ⟨_, h⟩
    · exact ⟨Nat.lt_of_lt_of_le h1 (tr.next hn (by omega) (Nat.le_refl _)), (hdom1 b c h).2⟩
    · have := inv.dom b c h
      exact ⟨this.1, Nat.lt_of_lt_of_le this.2 hext.size⟩
  have himm2 : ∀ c, U' c → c < w'.heap.size ∧ ∀ b, ι2 b ≠ some c := fun c hc => by
    refine ⟨(himm1 c hc).1, fun b hb => ?_⟩
    rcases hcase2 b c hb with ⟨_, h⟩ | ⟨_, h⟩
    · exact (himm1 c hc).2 b h
    · rcases hext.new c hc with hU | hle
      · exact (inv.imm c hU).2 b h
      · have := (inv.dom b c h).2; omega
  have hdi : dstOf ops i = o.dst := by unfold dstOf; rw [ho]; rfl
  have hm1 : ∀ m, i < m → m ≤ ops.size → ∀ b c, ι1 b = some c → res Hs ι2 m b = some c := fun m h1 h2 b c h => by
    have := hmap1 b c h
    exact res_of (Nat.lt_of_lt_of_le (res_some this).1 (tr.next hn (by omega) h2)) (res_some this).2
  have hlow : cls C.pure o.op = .writer → ∀ m, m ≤ ops.size → ∀ b c, res Hs ι2 m b = some c → b < (Hs (i + 1)).next := fun hw m hm b c hb => by
    refine Classical.byContradiction fun hge => ?_
    obtain ⟨h1, h2⟩ := res_some hb
    rcases hcase2 b c h2 with ⟨h, _⟩ | ⟨_, h⟩
    · exact hge h.2
    · have him : i + 1 ≤ m := by
        refine Classical.byContradiction fun hlt' => ?_
        have := tr.next hn (i := m) (j := i + 1) (by omega) (by omega)
        omega
      obtain ⟨j, h3, h4, h5, h6⟩ := tr.find hn (a := i + 1) (m := m) him hm (by omega) h1
      have hjs : j < ops.size := by omega
      by_cases hSj : S j
      · rw [W3 hw j _ (by omega) (Array.getElem?_eq_getElem hjs) hSj] at h6
        omega
      · rw [inv.unm j hjs hSj b h5 h6] at h; cases h
  have hnew : cls C.pure o.op ≠ .writer → ∀ m, m ≤ ops.size → ∀ b c, res Hs ι2 m b = some c → res Hs ι m b = some c ∨ ((Hs i).next ≤ b ∧ b < (Hs (i + 1)).next ∧ ι1 b = some c ∧ w.heap.size ≤ c ∧ i < m ∧ ¬ (cls C.pure o.op = .inert ∨ ∃ t, ldT o.op = some t)) := fun hnw m hm b c hb => by
    obtain ⟨h1, h2⟩ := res_some hb
    rcases hcase2 b c h2 with ⟨⟨h3, h4⟩, h⟩ | ⟨_, h⟩
    · have him : i < m := by
        refine Classical.byContradiction fun hge => ?_
        have := tr.next hn (i := m) (j := i) (by omega) (by omega)
        omega
      refine .inr ⟨h3, h4, h, ?_, him, fun h5 => ?_⟩
      · rcases (hrd hnw).2 b c h with h5 | h5
        · have := (res_some h5).1; omega
        · exact h5
      · rw [hinn h5] at h4; omega
    · exact .inl (res_of h1 h)
  refine ⟨v, w', U', ι2, hsteps, ⟨hdomn, himm2, fun t => ?_, fun m hm hw => ?_, fun m hm b c hb hcond => ?_, fun j hj hSj b hb1 hb2 => ?_, ?_⟩, hcl, hext2, fun b c hb => ?_⟩
  · -- slots
    by_cases e : o.dst = some t
    · refine .inl ⟨i, hi, .inr rfl, by rw [hdi, e], fun j hj hjd => ?_, ?_⟩
      · rcases hj with hj | rfl
        · refine Classical.byContradiction fun hlt' => ?_
          obtain ⟨y, hy, hyd⟩ := hget j t hjd
          exact ((P2 j y (by omega) hy hj).s1 t e).2 hyd
        · exact Nat.le_refl _
      · have htl : t < tmps.size := Nat.lt_of_lt_of_le (hlt t e) hnt
        have e3 : (putV tmps o.dst v).getD t undef = v := by rw [e]; simp [putV, Array.getD_eq_getD_getElem?, htl]
        rw [e3]
        exact hval.mono (fun _ h => h) (fun _ _ => rfl) (fun _ _ h => h) _ hmap1
    · have e3 : (putV tmps o.dst v).getD t undef = tmps.getD t undef := by
        cases hdd : o.dst with
        | none => rfl
        | some d =>
          have : t ≠ d := fun h => e (by rw [hdd, h])
          simp [putV, Array.getD_eq_getD_getElem?, Array.getElem?_setIfInBounds, Ne.symm this]
      rw [e3]
      rcases inv.slot t with ⟨j, h1, h2, h3, h4, h5⟩ | ⟨h1, h2⟩
      · refine .inl ⟨j, h1, .inl h2, h3, fun l hl hld => ?_, hvm h5⟩
        rcases hl with hl | rfl
        · exact h4 l hl hld
        · rw [hdi] at hld; exact absurd hld e
      · refine .inr ⟨fun l hl => ?_, hvm h2⟩
        rcases hl with hl | rfl
        · exact h1 l hl
        · rw [hdi]; exact e
  · -- no two live blocks are one
    intro b b' c hb hb' hd1 hd2
    by_cases hwo : cls C.pure o.op = .writer
    · have him : i < m := (hw i o ho hwo).mp (.inr rfl)
      have hni : ¬ (cls C.pure o.op = .inert ∨ ∃ t, ldT o.op = some t) := fun h => by
        rcases h with h | ⟨t, h⟩
        · rw [hwo] at h; cases h
        · exact ldne h hwo
      have hH1 := hhp hni
      have hg : Grows (Hs (i + 1)) (Hs m) := tr.grows hn (by omega) hm (fun l y hl1 hl2 hy hyw => by
        rcases (hw l y hy hyw).mpr hl2 with h | h
        · exact W2 (fun h => hni (.inl h)) (fun t h => hni (.inr ⟨t, h⟩)) l y (by omega) hy hyw h
        · omega)
      have l1 := hlow hwo m hm b c hb
      have l2 := hlow hwo m hm b' c hb'
      rw [hg.2 b l1] at hd1
      rw [hg.2 b' l2] at hd2
      exact hH1.inj b b' c (hmap1' b c (res_of l1 (res_some hb).2)) (hmap1' b' c (res_of l2 (res_some hb').2)) hd1 hd2
    · have hw' : ∀ j y, ops[j]? = some y → cls C.pure y.op = .writer → (S j ↔ j < m) := fun j y hy hyw => ⟨fun h => (hw j y hy hyw).mp (.inl h), fun h => by
        rcases (hw j y hy hyw).mpr h with h | rfl
        · exact h
        · rw [ho] at hy; cases hy; exact absurd hyw hwo⟩
      have same : i < m → ¬ (cls C.pure o.op = .inert ∨ ∃ t, ldT o.op = some t) → Grows (Hs (i + 1)) (Hs m) := fun him hni => tr.grows hn (by omega) hm (fun l y hl1 hl2 hy hyw => W2 (fun h => hni (.inl h)) (fun t h => hni (.inr ⟨t, h⟩)) l y (by omega) hy hyw ((hw' l y hy hyw).mpr hl2))
      rcases hnew hwo m hm b c hb with h | ⟨h1, h2, h3, h4, h5, h6⟩ <;> rcases hnew hwo m hm b' c hb' with h' | ⟨h1', h2', h3', h4', h5', h6'⟩
      · exact inv.inj m hm hw' b b' c h h' hd1 hd2
      · have := (inv.dom b c (res_some h).2).2; omega
      · have := (inv.dom b' c (res_some h').2).2; omega
      · rw [(same h5 h6).2 b h2] at hd1
        rw [(same h5 h6).2 b' h2'] at hd2
        exact (hhp h6).inj b b' c h3 h3' hd1 hd2
  · -- the blocks
    by_cases hwo : cls C.pure o.op = .writer
    · have hni : ¬ (cls C.pure o.op = .inert ∨ ∃ t, ldT o.op = some t) := fun h => by
        rcases h with h | ⟨t, h⟩
        · rw [hwo] at h; cases h
        · exact ldne h hwo
      have w1 := W1 (fun h => hni (.inl h)) (fun t h => hni (.inr ⟨t, h⟩))
      have w2 := W2 (fun h => hni (.inl h)) (fun t h => hni (.inr ⟨t, h⟩))
      by_cases him : i < m
      · have l1 := hlow hwo m hm b c hb
        have hι1 := hmap1' b c (res_of l1 (res_some hb).2)
        have hsame : (Hs m).at_ b = (Hs (i + 1)).at_ b := tr.kept hn (by omega) hm l1 (fun l y hl1 hl2 hy hyw => hcond l y hy hyw (.inl ⟨fun h => by
          rcases h with h | h
          · exact w2 l y (by omega) hy hyw h
          · omega, hl2⟩))
        rw [hsame]
        exact ((hhp hni).blk b c hι1).mono (fun hv => hv.mono (fun _ h => h) (fun _ _ => rfl) (fun _ _ h => h) _ (hm1 m him hm)) (hm1 m him hm) rfl
      · obtain ⟨hb1, hb2⟩ := res_some hb
        have hbi : b < (Hs i).next := Nat.lt_of_lt_of_le hb1 (tr.next hn (by omega) (by omega))
        have hιb : ι b = some c := by
          rcases hcase2 b c hb2 with ⟨h, _⟩ | ⟨_, h⟩
          · omega
          · exact h
        have hold := inv.blk m hm b c (res_of hb1 hιb) (fun l y hy hyw h => hcond l y hy hyw (by
          rcases h with ⟨h1, h2⟩ | ⟨h1, h2⟩
          · exact .inl ⟨fun h => by
              rcases h with h | h
              · exact h1 h
              · omega, h2⟩
          · exact .inr ⟨.inl h1, h2⟩))
        by_cases hdead : ((Hs m).at_ b).isDead = true
        · cases hx : (Hs m).at_ b <;> rw [hx] at hdead <;> simp [Blk.isDead] at hdead
          trivial
        · obtain ⟨t, f, ht, hf, hne⟩ := hcond i o ho hwo (.inr ⟨.inr rfl, by omega⟩)
          have hsame : (Hs i).at_ b = (Hs m).at_ b := tr.kept hn (by omega) (by omega) hb1 (fun l y hl1 hl2 hy hyw => hcond l y hy hyw (.inr ⟨.inl (w1 l y hl2 hy hyw), hl1⟩))
          have hkept : w'.heap[c]? = w.heap[c]? := hwr t ht c (inv.dom b c hιb).2 (fun b0 hb0 hd0 hι0 => by
            rw [hf] at hb0
            simp only [Option.some.injEq] at hb0
            have hb0d : b0 ≠ b := fun e => hne (by rw [hb0, e])
            exact hb0d (inv.inj i (by omega) (fun j y hy hyw => ⟨fun hSj => by
                refine Classical.byContradiction fun hge => ?_
                have hne : j ≠ i := fun e => hiS (e ▸ hSj)
                exact w2 j y (by omega) hy hyw hSj, fun hji => w1 j y hji hy hyw⟩) b0 b c hι0 (res_of hbi hιb) hd0 (by rw [hsame]; simpa using hdead)))
          exact hold.mono (fun hv => hvm hv) (fun b c h => res_of (res_some h).1 (hmap2 b c (res_some h).2)) hkept
    · have hcond' : ∀ l y, ops[l]? = some y → cls C.pure y.op = .writer → (¬ S l ∧ l < m ∨ S l ∧ m ≤ l) → NT Ts l y b := fun l y hy hyw h => hcond l y hy hyw (by
        rcases h with ⟨h1, h2⟩ | ⟨h1, h2⟩
        · exact .inl ⟨fun h => by
            rcases h with h | rfl
            · exact h1 h
            · rw [ho] at hy; cases hy; exact absurd hyw hwo, h2⟩
        · exact .inr ⟨.inl h1, h2⟩)
      rcases hnew hwo m hm b c hb with h | ⟨h1, h2, h3, h4, h5, h6⟩
      · exact (inv.blk m hm b c h hcond').mono (fun hv => hvm hv) (fun b c h => res_of (res_some h).1 (hmap2 b c (res_some h).2)) ((hrd hwo).1 c (inv.dom b c (res_some h).2).2)
      · have hsame : (Hs m).at_ b = (Hs (i + 1)).at_ b := tr.kept hn (by omega) hm h2 (fun l y hl1 hl2 hy hyw => by
          by_cases hSl : S l
          · exact absurd hSl (W2 (fun h => h6 (.inl h)) (fun t h => h6 (.inr ⟨t, h⟩)) l y (by omega) hy hyw)
          · exact hcond' l y hy hyw (.inl ⟨hSl, hl2⟩))
        rw [hsame]
        exact ((hhp h6).blk b c h3).mono (fun hv => hv.mono (fun _ h => h) (fun _ _ => rfl) (fun _ _ h => h) _ (hm1 m h5 hm)) (hm1 m h5 hm) rfl
  · -- what is not mapped
    have hne : j ≠ i := fun e => hSj (.inr e)
    have hnS : ¬ S j := fun h => hSj (.inl h)
    rw [hout2 b (fun h => by
      rcases Nat.lt_or_gt_of_ne hne with h1 | h1
      · have := tr.next hn (i := j + 1) (j := i) (by omega) (by omega); omega
      · have := tr.next hn (i := i + 1) (j := j) (by omega) (by omega); omega)]
    exact inv.unm j hj hnS b hb1 hb2
  · exact inv.dfr.mono (fun hv => hvm hv) (fun b c h => res_of (res_some h).1 (hmap2 b c (res_some h).2))
  · rcases hcase2 b c hb with ⟨⟨h, _⟩, _⟩ | ⟨_, h⟩
    · exact .inr (Nat.le_trans (tr.next hn (by omega) (by omega)) h)
    · exact .inl h
end Go.BX

namespace Go.BX
set_option linter.unusedSimpArgs false
set_option linter.unusedVariables false
set_option linter.unusedSectionVars false
set_option linter.unnecessarySimpa false
variable {C : Ctx} {cl : Cl} {ops : Array Oper} {nt : Nat} {az : List ADef} {Ts : Nat → Nat → AV} {Hs : Nat → AHeap} {vs : Nat → AV}
theorem filt_lt {p q : Nat → Bool} (h : ∀ x, q x = true → p x = true) {i : Nat} (hp : p i = true) (hq : q i = false) : ∀ {l : List Nat}, i ∈ l → (l.filter q).length < (l.filter p).length := by
  have hle : ∀ l : List Nat, (l.filter q).length ≤ (l.filter p).length := by
    intro l
    induction l with
    | nil => simp
    | cons x l ih =>
      simp only [List.filter_cons]
      by_cases h1 : q x = true
      · rw [if_pos h1, if_pos (h x h1)]; simpa using ih
      · rw [if_neg h1]
        split
        · simp only [List.length_cons]; omega
        · exact ih
  intro l
  induction l with
  | nil => intro h; simp at h
  | cons x l ih =>
    intro hm
    simp only [List.filter_cons]
    by_cases e : i = x
    · subst e
      rw [if_pos hp, if_neg (by simp [hq])]
      have := hle l
      simp only [List.length_cons]; omega
    · have hm' : i ∈ l := by simpa [e] using hm
      have := ih hm'
      by_cases h1 : q x = true
      · rw [if_pos h1, if_pos (h x h1)]; simpa using this
      · rw [if_neg h1]
        split
        · simp only [List.length_cons]; omega
        · exact this
theorem listed_set {listed : Array Bool} {n i j : Nat} (hsz : listed.size = n) (hi : i < n) {d : Bool} : (listed.setIfInBounds i true).getD j d = if j = i then true else listed.getD j d := by
  simp only [Array.getD_eq_getD_getElem?, Array.getElem?_setIfInBounds, hsz]
  by_cases e : j = i
  · subst e; simp [hi]
  · simp [e, Ne.symm e]
theorem listed_all {pure : FuncId → Bool} (hd : drawOk pure ops = true) {listed : Array Bool} (hsz : listed.size = ops.size) (h : Region.ready .any ops listed = []) : ∀ j, j < ops.size → listed.getD j false = true := by
  intro j
  induction j using Nat.strongRecOn with
  | ind j ih =>
    intro hj
    refine Classical.byContradiction fun hn => ?_
    have hm : j ∈ Region.ready .any ops listed := by
      unfold Region.ready
      rw [List.mem_filter]
      refine ⟨List.mem_range.mpr hj, ?_⟩
      have hjl : j < listed.size := by omega
      have e1 : listed.getD j true = false := by
        simp [Array.getD_eq_getD_getElem?, hjl] at hn ⊢
        exact hn
      rw [e1, Array.getElem?_eq_getElem hj]
      simp only [Bool.not_false, Bool.true_and, Option.map_some, Option.getD_some, Array.all_eq_true']
      intro e he
      by_cases hb : Region.binds .any e = true
      · have hlt := drawOk_edge hd (Array.getElem?_eq_getElem hj) (by simpa using he) hb
        rw [ih e.on hlt (by omega)]
        simp
      · simp [hb]
    rw [h] at hm
    cases hm
theorem draw_go (hC : TOk C) (hs : SimCl C cl) (hn : NextMono cl) (hd : drawOk C.pure ops = true) {fn : FuncId} {kd : CallKind} {ro : Option Nat} (tr : Trace C cl ro.isSome ops nt az Ts Hs vs) {ds : List Deferred} : ∀ (fuel t : Nat) (listed : Array Bool) (w : World) (U : Nat → Prop) (ι : Nat → Option Nat) (tmps : Array Value),
    listed.size = ops.size → ((List.range ops.size).filter fun j => !listed.getD j true).length ≤ fuel → Closed ops (fun j => listed.getD j false = true) → Inv C ops az Ts Hs vs ds (fun j => listed.getD j false = true) w U ι tmps → nt ≤ tmps.size → ∀ (k : List Item) (cs : List Frame),
      ∃ tmps' w' U' ι', Steps C.P (lone (rf fn tmps (.inRegion ops (Region.linearise.go .any ops fuel t listed []) :: k) ds kd ro) cs w) (lone (rf fn tmps' k ds kd ro) cs w') ∧
        (∃ S : Nat → Prop, (∀ j, j < ops.size → S j) ∧ Inv C ops az Ts Hs vs ds S w' U' ι' tmps') ∧ Ext w U ι w' U' ι' ∧ (∀ b c, ι' b = some c → ι b = some c ∨ (Hs 0).next ≤ b) ∧ tmps'.size = tmps.size := by
  intro fuel
  induction fuel with
  | zero =>
    intro t listed w U ι tmps hsz hle _ inv _ k cs
    refine ⟨tmps, w, U, ι, .one (by simpa [Region.linearise.go] using st_region_end), ⟨_, fun j hj => ?_, inv⟩, Ext.refl _ _ _, fun b c h => .inl h, rfl⟩
    have hnil : (List.range ops.size).filter (fun j => !listed.getD j true) = [] := List.length_eq_zero_iff.mp (by omega)
    have := (List.filter_eq_nil_iff.mp hnil) j (List.mem_range.mpr hj)
    have hjl : j < listed.size := by omega
    simp [Array.getD_eq_getD_getElem?, hjl] at this ⊢
    exact this
  | succ fuel ih =>
    intro t listed w U ι tmps hsz hle hcl inv hnt k cs
    simp only [Region.linearise.go]
    change ∃ tmps' w' U' ι', Steps C.P (lone (rf fn tmps (.inRegion ops (match (Region.ready .any ops listed)[t % (Region.ready .any ops listed).length]? with
      | some i => Region.linearise.go .any ops fuel (t / (Region.ready .any ops listed).length) (listed.setIfInBounds i true) [i]
      | none => [].reverse) :: k) ds kd ro) cs w) _ ∧ _
    cases hi : (Region.ready .any ops listed)[t % (Region.ready .any ops listed).length]? with
    | none =>
      have hnil : Region.ready .any ops listed = [] := by
        cases hr : Region.ready .any ops listed with
        | nil => rfl
        | cons x xs =>
          rw [hr] at hi
          have hlt : t % (x :: xs).length < (x :: xs).length := Nat.mod_lt _ (by simp)
          simp at hi
          simp at hlt
          omega
      exact ⟨tmps, w, U, ι, .one (by simpa using st_region_end), ⟨_, listed_all hd hsz hnil, inv⟩, Ext.refl _ _ _, fun b c h => .inl h, rfl⟩
    | some i =>
      simp only []
      rw [linearise_go_acc, List.reverse_singleton, List.singleton_append]
      have hm := List.mem_of_getElem? hi
      unfold Region.ready at hm
      rw [List.mem_filter] at hm
      obtain ⟨hlt, hm⟩ := hm
      rw [List.mem_range] at hlt
      rw [Array.getElem?_eq_getElem hlt] at hm
      simp only [Bool.and_eq_true, Option.map_some, Option.getD_some, Array.all_eq_true', Bool.not_eq_true'] at hm
      have hil : i < listed.size := by omega
      have hiS : ¬ (listed.getD i false = true) := by
        have := hm.1
        simp [Array.getD_eq_getD_getElem?, hil] at this ⊢
        exact this
      obtain ⟨v, w1, U1, ι1, hsteps, inv1, hcl1, hext1, hfr1⟩ := inv_step (fn := fn) (kd := kd) hC hs hn hd tr hcl (Array.getElem?_eq_getElem hlt) hiS (fun e he hb => by
        have := hm.2 e (by simpa using he)
        simpa [hb] using this) inv hnt (Region.linearise.go .any ops fuel (t / (Region.ready .any ops listed).length) (listed.setIfInBounds i true) []) k cs
      have hS : (fun j => (listed.setIfInBounds i true).getD j false = true) = (fun j => listed.getD j false = true ∨ j = i) := by
        funext j
        rw [listed_set hsz hlt]
        by_cases e : j = i <;> simp [e]
      obtain ⟨tmps', w', U', ι', hsteps', hinv', hext', hfr', hsz'⟩ := ih (t / (Region.ready .any ops listed).length) (listed.setIfInBounds i true) w1 U1 ι1 (putV tmps ops[i].dst v) (by simp [hsz]) (by
        have := filt_lt (p := fun j => !listed.getD j true) (q := fun j => !(listed.setIfInBounds i true).getD j true) (fun x hx => by
          rw [listed_set hsz hlt] at hx
          split at hx
          · simp at hx
          · exact hx) (i := i) (by simp only [hm.1, Bool.not_false]) (by rw [listed_set hsz hlt]; simp) (List.mem_range.mpr hlt)
        omega) (by rw [hS]; exact hcl1) (by rw [hS]; exact inv1) (by rw [putV_size]; exact hnt) k cs
      refine ⟨tmps', w', U', ι', hsteps.trans hsteps', hinv', hext1.trans hext', fun b c hb => ?_, by rw [hsz', putV_size]⟩
      rcases hfr' b c hb with h | h
      · exact hfr1 b c h
      · exact .inr h
theorem mapO_get2 {α β : Type} {f : α → Option β} : ∀ {xs : List α} {ys : List β}, mapO f xs = some ys → xs.length = ys.length ∧ (∀ (i : Nat) (x : α), xs[i]? = some x → ∃ y, f x = some y ∧ ys[i]? = some y) ∧ (∀ (i : Nat) (y : β), ys[i]? = some y → ∃ x, xs[i]? = some x ∧ f x = some y) := by
  intro xs
  induction xs with
  | nil => intro ys h; simp only [mapO, Option.some.injEq] at h; subst h; simp
  | cons x xs ih =>
    intro ys h
    simp only [mapO] at h
    split at h
    · rename_i y ys' hy hys
      cases h
      obtain ⟨h1, h2, h3⟩ := ih hys
      refine ⟨by simp [h1], fun i z hz => ?_, fun i z hz => ?_⟩
      · cases i with
        | zero => simp at hz; subst hz; exact ⟨y, hy, rfl⟩
        | succ i => simpa using h2 i z (by simpa using hz)
      · cases i with
        | zero => simp at hz; subst hz; exact ⟨x, rfl, hy⟩
        | succ i => simpa using h3 i z (by simpa using hz)
    · cases h
theorem HRel.heapEq {H : AHeap} {w w' : World} {U : Nat → Prop} {ι : Nat → Option Nat} (hH : HRel C w U ι H) (h : w'.heap = w.heap) (henv : w'.os = w.os ∧ w'.tape = w.tape ∧ w'.output = w.output := by exact ⟨rfl, rfl, rfl⟩) : Ext w U ι w' U ι ∧ HRel C w' U ι H := by
  have hext : Ext w U ι w' U ι := ⟨fun _ _ h => h, fun b c h => .inl ⟨b, h⟩, fun _ h => h, fun _ h => .inl h, by rw [h]; exact Nat.le_refl _, fun c _ _ => by rw [h], fun c _ => shape_of_heap (by rw [h]), henv⟩
  exact ⟨hext, fun b c hb => by rw [h]; exact hH.dom b c hb, hH.inj, fun c hc => by rw [h]; exact hH.imm c hc, fun b c hb => (hH.blk b c hb).mono (fun hv => hext.mono hH hv) (fun _ _ h => h) (by rw [h])⟩
theorem region_draw (hC : TOk C) (hs : SimCl C cl) (hn : NextMono cl) (hmix : C.P.follows .mixedOrders = true) (hd : drawOk C.pure ops = true) {fn : FuncId} {kd : CallKind} {ro : Option Nat} {id : Nat} {aos : List AO} (hst : mapO (stripOp nt ops) ops.toList = some aos)
    {w : World} {U : Nat → Prop} {ι : Nat → Option Nat} {tmps : Array Value} {ds : List Deferred} {T T' : Nat → AV} {az az' : List ADef} {H H' : AHeap} (hnt : nt ≤ tmps.size) (hH : HRel C w U ι H) (hT : TRel w U ι T tmps) (hD : DsRel w U ι az ds) (h : runOps C cl ro.isSome aos T az H = some (T', az', H')) (hdy : dynA C cl ro.isSome aos (chks C.pure ops) T az H = true) (k : List Item) (cs : List Frame) :
      ∃ tmps' w' ds' U' ι', Steps C.P (lone (rf fn tmps (.code (.region id ops true) :: k) ds kd ro) cs w) (lone (rf fn tmps' k ds' kd ro) cs w') ∧
        Ext w U ι w' U' ι' ∧ HRel C w' U' ι' H' ∧ TRel w' U' ι' T' tmps' ∧ DsRel w' U' ι' az' ds' ∧ Fresh H ι ι' ∧ tmps'.size = tmps.size := by
  obtain ⟨hlen, hfw, hbw⟩ := mapO_get2 hst
  have hlen' : aos.length = ops.size := by simpa using hlen.symm
  obtain ⟨rfl, Ts, Hs, vs, hT0, hH0, hTn, hHn, hop, hdd⟩ := trace_of aos _ _ _ _ _ _ _ h hdy (fun ao hao => by
    obtain ⟨i, hi⟩ := List.getElem?_of_mem hao
    obtain ⟨o, ho, hs'⟩ := hbw i ao hi
    rw [(strip_spec hs').2.1]
    exact drawOk_defer hd (by simpa using ho))
  have tr : Trace C cl ro.isSome ops nt az' Ts Hs vs := ⟨fun i o ho => by
    obtain ⟨ao, h1, h2⟩ := hfw i o (by simpa using ho)
    have := hop i ao h2
    rw [(strip_spec h1).1] at this
    exact ⟨ao, h1, this⟩, fun j o c t ho hc ht => by
    obtain ⟨ao, h1, h2⟩ := hfw j o (by simpa using ho)
    have := hdd j ao c t h2 hc ht
    rw [(strip_spec h1).2.1] at this
    exact this⟩
  have hw : (w.drew).heap = w.heap := rfl
  obtain ⟨hext0, hH1⟩ := hH.heapEq hw
  have hres0 : ∀ m, m ≤ ops.size → res Hs ι m = ι := fun m hm => by
    funext b
    unfold res
    split
    · rfl
    · rename_i hge
      cases hb : ι b with
      | none => rfl
      | some c =>
        have h1 := (hH.dom b c hb).1
        have h2 := tr.next hn (i := 0) (j := m) (by omega) hm
        rw [hH0] at h2
        omega
  have inv0 : Inv C ops az' Ts Hs vs ds (fun j => (Array.replicate ops.size false).getD j false = true) w.drew U ι tmps := by
    have hF : ∀ j, ¬ ((Array.replicate ops.size false).getD j false = true) := fun j => by
      simp only [Array.getD_eq_getD_getElem?, Array.getElem?_replicate]
      split <;> simp
    refine ⟨fun b c hb => ?_, hH1.imm, fun t => .inr ⟨fun i hi => absurd hi (hF i), ?_⟩, fun m hm hwr => ?_, fun m hm b c hb hcond => ?_, fun i hi _ b hb1 hb2 => ?_, ?_⟩
    · have h1 := hH1.dom b c hb
      have h2 := tr.next hn (i := 0) (j := ops.size) (by omega) (Nat.le_refl _)
      rw [hH0] at h2
      exact ⟨by omega, h1.2⟩
    · rw [hres0 0 (by omega), hT0]
      exact hext0.mono hH (hT t)
    · rw [hres0 m hm]
      have hg := tr.grows hn (i := 0) (j := m) (by omega) hm (fun l o _ hl ho hc => absurd ((hwr l o ho hc).mpr hl) (hF l))
      rw [hH0] at hg
      intro b b' c hb hb' h1 h2
      rw [hg.2 b (hH.dom b c hb).1] at h1
      rw [hg.2 b' (hH.dom b' c hb').1] at h2
      exact hH1.inj b b' c hb hb' h1 h2
    · rw [hres0 m hm] at hb ⊢
      have hsame : (Hs m).at_ b = (Hs 0).at_ b := tr.kept hn (by omega) hm (by rw [hH0]; exact (hH.dom b c hb).1) (fun l y _ hl hy hyw => hcond l y hy hyw (.inl ⟨hF l, hl⟩))
      rw [hsame, hH0]
      exact hH1.blk b c hb
    · cases hb : ι b with
      | none => rfl
      | some c =>
        have h1 := (hH.dom b c hb).1
        have h2 := tr.next hn (i := 0) (j := i) (by omega) (by omega)
        rw [hH0] at h2
        omega
    · rw [hres0 0 (by omega)]
      exact hD.mono (fun hv => hext0.mono hH hv) (fun _ _ h => h)
  have hcl0 : Closed ops (fun j => (Array.replicate ops.size false).getD j false = true) := by
    intro j o _ hj
    exfalso
    simp only [Array.getD_eq_getD_getElem?, Array.getElem?_replicate] at hj
    split at hj <;> simp at hj
  obtain ⟨tmps', w', U', ι', hsteps, ⟨S, hS, inv⟩, hext, hfr, hsz⟩ := draw_go (fn := fn) (kd := kd) hC hs hn hd tr ops.size (w.tape w.drawn (.order fn id)) (Array.replicate ops.size false) w.drew U ι tmps (by simp) (by
    have := List.length_filter_le (fun j => !(Array.replicate ops.size false).getD j true) (List.range ops.size)
    simpa using this) hcl0 inv0 hnt k cs
  have hresn : ∀ m, res Hs ι' m = fun b => if b < (Hs m).next then ι' b else none := fun _ => rfl
  have hrn : res Hs ι' ops.size = ι' := by
    funext b
    unfold res
    split
    · rfl
    · rename_i hge
      cases hb : ι' b with
      | none => rfl
      | some c => exact absurd (inv.dom b c hb).1 hge
  have hvr : ∀ {m : Nat} {a : AV} {v : Value}, VRel w' U' (res Hs ι' m) a v → VRel w' U' ι' a v := fun hv => hv.mono (fun _ h => h) (fun _ _ => rfl) (fun _ _ h => h) _ (fun b c h => (res_some h).2)
  refine ⟨tmps', w', ds, U', ι', Steps.trans (.one st_region_draw) ?_, hext0.trans hext, ?_, fun t => ?_, inv.dfr.mono hvr (fun b c h => (res_some h).2), fun b c hb => by rw [← hH0]; exact hfr b c hb, hsz⟩
  · simp only [Region.schedule, hmix, Bool.true_or, if_true]
    exact hsteps
  · have := inv.heap ops.size (Nat.le_refl _) (fun i o ho _ => ⟨fun _ => (Array.getElem?_eq_some_iff.mp ho).1, fun h => hS i h⟩)
    rw [hrn] at this
    rw [← hHn, hlen']
    exact this
  · rw [← hTn, hlen']
    rcases tr.slot (i := ops.size) (t := t) (Nat.le_refl _) with ⟨j, h1, h2, h3, h4⟩ | ⟨h1, h2⟩
    · rcases inv.slot t with ⟨j', h5, h6, h7, h8, h9⟩ | ⟨h5, _⟩
      · have hle := h8 j (hS j h1) h2
        have : j' = j := by
          by_cases e : j' = j
          · exact e
          · exact absurd h7 (h3 j' (by omega) h5)
        subst this
        rw [h4]
        exact hvr h9
      · exact absurd h2 (h5 j (hS j h1))
    · rcases inv.slot t with ⟨j', h5, h6, h7, h8, h9⟩ | ⟨_, h6⟩
      · exact absurd h7 (h1 j' h5)
      · rw [h2]; exact hvr h6
end Go.BX

namespace Go.BX
set_option linter.unusedSimpArgs false
set_option linter.unusedVariables false
set_option linter.unusedSectionVars false
section
variable {P : Program} {fn : FuncId} {tmps : Array Value} {k : List Item} {ds : List Deferred} {kd : CallKind} {ro : Option Nat} {cs : List Frame} {w w' : World} {c : Frame} {l : Nat} {v : Value}
theorem st_round_end (hr : (Instr.endRound l none).run P w = .ok v w') : step P (lone (rf fn tmps [] ds .normal (some l)) (c :: cs) w) = .next (lone (c.finish v) cs w') :=
  step_lone_go (by simp [stepG, stepG.exec, Sem.runT_eq, hr, doReturn])
theorem st_round_ret (hr : (Instr.endRound l (some .ret)).run P w = .ok v w') : step P (lone (rf fn tmps (.code .ret :: k) ds .normal (some l)) (c :: cs) w) = .next (lone (c.finish v) cs w') :=
  step_lone_go (by simp [stepG, stepG.exec, Sem.runT_eq, hr, doReturn])
theorem st_round_exit {id : Nat} (hx : exitTo id k = none) (hr : (Instr.endRound l (some (.exit id))).run P w = .ok v w') : step P (lone (rf fn tmps (.code (.exit id) :: k) ds .normal (some l)) (c :: cs) w) = .next (lone (c.finish v) cs w') :=
  step_lone_go (by simp [stepG, stepG.exec, Sem.runT_eq, hx, hr, doReturn])
theorem st_round_goto {id : Nat} (hx : gotoIn id k = none) (hr : (Instr.endRound l (some (.goto id))).run P w = .ok v w') : step P (lone (rf fn tmps (.code (.goto id) :: k) ds .normal (some l)) (c :: cs) w) = .next (lone (c.finish v) cs w') :=
  step_lone_go (by simp [stepG, stepG.exec, Sem.runT_eq, hx, hr, doReturn])
theorem st_beginRound (hr : (Instr.beginRound l).run P w = .ok () w') : step P (lone (rf fn tmps (.beginRound :: k) ds kd (some l)) cs w) = .next (lone (rf fn tmps k ds kd (some l)) cs w') :=
  step_lone_go (by simp [stepG, stepG.exec, stepG.apply, Sem.runT_eq, hr, Result.andThen, Frame.finish])
theorem st_endLoop {jump : Option Code} (hr : (Instr.endLoop l).run P w = .ok jump w') : step P (lone (rf fn tmps (.endRangeFunc l :: k) ds kd ro) cs w) = .next (lone (rf fn tmps ((jump.map Item.code).toList ++ k) ds kd ro) cs w') :=
  step_lone_go (by simp [stepG, stepG.exec, Sem.runT_eq, hr])
theorem st_collected {b : Nat} {az : Array Value} {todo : List Item} (hr : (Instr.takeDeferred b).run P w = .ok [] w') :
    step P (lone { rf fn tmps todo ({ target := .collected b, args := az } :: ds) kd none with mode := .returning } cs w) = .next (lone { rf fn tmps todo ds kd none with mode := .returning } cs w') :=
  step_lone_go (by simp [stepG, unwind, Sem.runT_eq, hr])
theorem st_rangeFunc {f : Operand} {ps : Array Tmp} {assign body : Code} {mark : List Deferred} {w1 : World} {nx : Next} {fr' : Frame} {cs' : List Frame}
    (hl : (Instr.enterLoop fn tmps ps assign body ro).run P w = .ok (l, mark) w1)
    (hx : (do let d ← resolve (rf fn tmps (.inRangeFunc l :: k) (mark ++ ds) kd ro).eval { callee := .value f, args := #[.const (.func (.yield l) #[] #[])], argTypes := #[] } 0; invoke d.target d.args : Sem Next).run P w1 = .ok nx w')
    (hn : (∃ v, nx = .value v ∧ fr' = rf fn tmps (.endRangeFunc l :: k) (mark ++ ds) kd ro ∧ cs' = cs) ∨ (∃ g args, nx = .enter g args ∧ fr' = Frame.enter P g args .normal ∧ cs' = rf fn tmps (.inRangeFunc l :: k) (mark ++ ds) kd ro :: cs)) :
    step P (lone (rf fn tmps (.code (.rangeFunc f ps assign body) :: k) ds kd ro) cs w) = .next (lone fr' cs' w') := by
  refine step_lone_go ?_
  rcases hn with ⟨v, rfl, rfl, rfl⟩ | ⟨g, args, rfl, rfl, rfl⟩
  · simp only [stepG, stepG.exec, Sem.runT_eq, hl, GStep.bare_after, stepG.apply]
    rw [show ({ fn := fn, tmps := tmps, todo := .inRangeFunc l :: k, defers := mark ++ ds, mode := .run, kind := kd, roundOf := ro } : Frame).eval = (rf fn tmps (.inRangeFunc l :: k) (mark ++ ds) kd ro).eval from rfl, hx]
    simp [Frame.finish]
  · simp only [stepG, stepG.exec, Sem.runT_eq, hl, GStep.bare_after, stepG.apply]
    rw [show ({ fn := fn, tmps := tmps, todo := .inRangeFunc l :: k, defers := mark ++ ds, mode := .run, kind := kd, roundOf := ro } : Frame).eval = (rf fn tmps (.inRangeFunc l :: k) (mark ++ ds) kd ro).eval from rfl, hx]
    simp
end
variable {pure : FuncId → Bool} {nt : Nat}
theorem exit_rel {id : Nat} {items : List Item} {az : List AItem} (h : IsRel pure nt items az) :
    (∀ k', exitA id az = some k' → ∃ t', exitTo id items = some t' ∧ IsRel pure nt t' k') ∧ (exitA id az = none → exitTo id items = none) := by
  induction h with
  | nil => exact ⟨fun k' h => by simp [exitA] at h, fun _ => rfl⟩
  | cons h hs ih =>
    cases h with
    | inBlock i =>
      simp only [exitA, exitTo]
      by_cases e : (i == id) = true
      · rw [if_pos e, if_pos e]
        exact ⟨fun k' h => ⟨_, rfl, (by cases h; exact hs)⟩, fun h => nomatch h⟩
      · rw [if_neg e, if_neg e]
        exact ih
    | _ => simpa only [exitA, exitTo] using ih
theorem find_rel {l : Nat} : ∀ {c : Code} {a : AC}, CRel pure nt c a → (∀ r, findL a l = some r → ∃ r', findLabel c l = some r' ∧ CRel pure nt r' r) ∧ (findL a l = none → findLabel c l = none)
  | .seq x y, a, h => by
    simp only [CRel, strip] at h
    split at h
    · rename_i x' y' hx hy
      cases h
      have ihx := find_rel (l := l) (show CRel pure nt x x' from hx)
      have ihy := find_rel (l := l) (show CRel pure nt y y' from hy)
      simp only [findL, findLabel]
      cases hf : findL x' l with
      | none =>
        simp only [ihx.2 hf]
        exact ihy
      | some r =>
        obtain ⟨r', hr', hrr⟩ := ihx.1 r hf
        simp only [hr']
        refine ⟨fun z hz => ?_, fun hz => nomatch hz⟩
        cases hz
        refine ⟨_, rfl, ?_⟩
        simp only [CRel, strip] at hrr ⊢
        rw [hrr, hy]
    · cases h
  | .label l', a, h => by
    simp only [CRel, strip, Option.some.injEq] at h
    subst h
    simp only [findL, findLabel]
    by_cases e : (l' == l) = true
    · rw [if_pos e, if_pos e]
      exact ⟨fun r h => ⟨.skip, rfl, by cases h; rfl⟩, fun h => nomatch h⟩
    · rw [if_neg e, if_neg e]
      exact ⟨fun r h => (nomatch h), fun _ => rfl⟩
  | .skip, a, h | .exit _, a, h | .goto _, a, h | .ret, a, h | .refuse _, a, h => by
    simp only [CRel, strip, Option.some.injEq] at h
    subst h
    exact ⟨fun r h => by simp [findL] at h, fun _ => by simp [findLabel]⟩
  | .region _ ops draw, a, h => by
    simp only [CRel, strip] at h
    split at h
    · cases h
    · simp only [Option.map_eq_some_iff] at h
      obtain ⟨x, _, rfl⟩ := h
      exact ⟨fun r h => by simp [findL] at h, fun _ => by simp [findLabel]⟩
  | .cond c x y, a, h => by
    simp only [CRel, strip] at h
    split at h
    · cases h; exact ⟨fun r h => by simp [findL] at h, fun _ => by simp [findLabel]⟩
    · cases h
  | .block _ x, a, h | .loop x, a, h | .scope x, a, h => by
    simp only [CRel, strip, Option.map_eq_some_iff] at h
    obtain ⟨x, _, rfl⟩ := h
    exact ⟨fun r h => by simp [findL] at h, fun _ => by simp [findLabel]⟩
  | .rangeFunc f ps x y, a, h => by
    simp only [CRel, strip] at h
    split at h
    · split at h
      · cases h; exact ⟨fun r h => by simp [findL] at h, fun _ => by simp [findLabel]⟩
      · cases h
    · cases h
theorem goto_rel {l : Nat} {items : List Item} {az : List AItem} (h : IsRel pure nt items az) :
    (∀ k', gotoA l az = some k' → ∃ t', gotoIn l items = some t' ∧ IsRel pure nt t' k') ∧ (gotoA l az = none → gotoIn l items = none) := by
  induction h with
  | nil => exact ⟨fun k' h => by simp [gotoA] at h, fun _ => rfl⟩
  | cons h hs ih =>
    cases h with
    | inScope hc =>
      simp only [gotoA, gotoIn]
      have := find_rel (l := l) hc
      cases hf : findL _ l with
      | none => rw [hf] at this; simp only [this.2 rfl]; exact ih
      | some r =>
        obtain ⟨r', h1, h2⟩ := this.1 r hf
        simp only [h1]
        refine ⟨fun z hz => ?_, fun hz => nomatch hz⟩
        cases hz
        exact ⟨_, rfl, .cons (.code h2) (.cons (.inScope hc) hs)⟩
    | _ => simpa only [gotoA, gotoIn] using ih
theorem jump_inv {c : Code} {a : AC} (h : CRel pure nt c a) (hj : jumpOk (some a) = true) : (a = .ret ∧ c = .ret) ∨ (∃ id, a = .exit id ∧ c = .exit id) ∨ (∃ l, a = .goto l ∧ c = .goto l) := by
  unfold CRel at h
  cases c <;> simp only [strip, Option.some.injEq, Option.map_eq_some_iff] at h
  case region => split at h <;> simp only [reduceCtorEq, Option.map_eq_some_iff] at h; obtain ⟨x, _, rfl⟩ := h; simp [jumpOk] at hj
  case seq => split at h <;> cases h; simp [jumpOk] at hj
  case cond => split at h <;> cases h; simp [jumpOk] at hj
  case rangeFunc => split at h <;> first | (cases h; done) | (split at h <;> cases h; simp [jumpOk] at hj)
  case block => obtain ⟨x, _, rfl⟩ := h; simp [jumpOk] at hj
  case loop => obtain ⟨x, _, rfl⟩ := h; simp [jumpOk] at hj
  case scope => obtain ⟨x, _, rfl⟩ := h; simp [jumpOk] at hj
  case exit id => subst h; exact .inr (.inl ⟨id, rfl, rfl⟩)
  case goto id => subst h; exact .inr (.inr ⟨id, rfl, rfl⟩)
  case ret => subst h; exact .inl ⟨rfl, rfl⟩
  all_goals (subst h; simp [jumpOk] at hj)
theorem jump_crel {c : Code} {a : AC} {nt' : Nat} (h : CRel pure nt c a) (hj : jumpOk (some a) = true) : CRel pure nt' c a := by
  rcases jump_inv h hj with ⟨rfl, rfl⟩ | ⟨id, rfl, rfl⟩ | ⟨id, rfl, rfl⟩ <;> rfl
variable {C : Ctx} {w : World} {U : Nat → Prop} {ι : Nat → Option Nat}
theorem set_rel {H : AHeap} (hH : HRel C w U ι H) {b c : Nat} (hι : ι b = some c) {o' : Obj} (hlive : (H.at_ b).isDead = false) (hsh : (w.putObj c o').shape? c = w.shape? c) {blk : Blk}
    (hB : (w.putObj c o').heap[c]? = some o' → Ext w U ι (w.putObj c o') U ι → BRel C (w.putObj c o') U ι c blk) : Ext w U ι (w.putObj c o') U ι ∧ HRel C (w.putObj c o') U ι (H.set b blk) := by
  have hclt := (hH.dom b c hι).2
  have hsame := World.putObj_heap_same (w := w) (o := o') hclt
  have hother : ∀ d, d ≠ c → (w.putObj c o').heap[d]? = w.heap[d]? := fun d hd => World.putObj_heap_other hd
  have hsz : (w.putObj c o').heap.size = w.heap.size := by simp [World.putObj]
  have hext : Ext w U ι (w.putObj c o') U ι :=
    { map := fun _ _ h => h, rng := fun b _ h => .inl ⟨b, h⟩, imm := fun _ h => h, new := fun _ h => .inl h, size := by omega
      kept := fun d _ hn => hother d (fun e => hn b (by rw [e]; exact hι))
      env := ⟨rfl, rfl, rfl⟩, shape := fun d _ => by
        by_cases e : d = c
        · subst e; exact hsh
        · exact shape_of_heap (hother d e) }
  refine ⟨hext, fun b' c' h => ?_, fun b1 b2 c' h1 h2 d1 d2 => ?_, fun c' h => ?_, fun b' c' h => ?_⟩
  · have := hH.dom b' c' h; exact ⟨by simpa [AHeap.set] using this.1, by rw [hsz]; exact this.2⟩
  · have live : ∀ b', ((H.set b blk).at_ b').isDead = false → (H.at_ b').isDead = false := by
      intro b' h'
      by_cases e : b' = b
      · subst e; exact hlive
      · simp only [AHeap.set, upd_isDead e] at h'; exact h'
    exact hH.inj b1 b2 c' h1 h2 (live b1 d1) (live b2 d2)
  · have := hH.imm c' h; exact ⟨by rw [hsz]; exact this.1, this.2⟩
  · by_cases e : b' = b
    · subst e
      rw [hι] at h; cases h
      simp only [AHeap.set, upd_same]
      exact hB hsame hext
    · simp only [AHeap.set]
      rw [upd_ne _ _ e]
      by_cases hdd : (H.at_ b').isDead = true
      · cases hx : H.at_ b' <;> rw [hx] at hdd <;> simp [Blk.isDead] at hdd
        trivial
      · have hne : c' ≠ c := by
          rintro rfl
          exact e (hH.inj b' b _ h hι (by simpa using hdd) hlive)
        exact (hH.blk b' c' h).mono (fun hv => hext.mono hH hv) (fun _ _ h => h) (hother c' hne)
end Go.BX

namespace Go.BX
set_option linter.unusedSimpArgs false
set_option linter.unusedVariables false
structure ExtOk (C : Ctx) : Prop where
  mono : ∀ f g args H r H', C.ext f = some g → g args H = some (r, H') → H.next ≤ H'.next
  sound : ∀ f g args H r H', C.ext f = some g → g args H = some (r, H') → ∀ w U ι vs, HRel C w U ι H → LsRel w U ι args vs → InvN C.P f vs w (Post C w U ι H H' r)
variable {C : Ctx}
def ExMono (ex : AFr → List AItem → AHeap → Option (AV × AHeap)) : Prop := ∀ fr items H r H', ex fr items H = some (r, H') → H.next ≤ H'.next
theorem clMk_mono (hx : ExtOk C) {ex : AFr → List AItem → AHeap → Option (AV × AHeap)} (h : ExMono ex) : NextMono (clMk C ex) where
  call := fun f args H r H' hc => by
    simp only [clMk] at hc
    split at hc
    · rename_i g hg; exact hx.mono f g args H r H' hg hc
    · split at hc
      · exact h _ _ _ _ _ hc
      · cases hc
  round := fun l args H r H' hc => by
    simp only [clMk] at hc
    split at hc
    · split at hc
      · exact h _ _ _ _ _ hc
      · cases hc
    · cases hc
theorem runOps_mono {cl : Cl} (hn : NextMono cl) {ir : Bool} : ∀ {aos : List AO} {T T' : Nat → AV} {az az' : List ADef} {H H' : AHeap}, runOps C cl ir aos T az H = some (T', az', H') → H.next ≤ H'.next := by
  intro aos
  induction aos with
  | nil => intro T T' az az' H H' h; simp only [runOps, Option.some.injEq, Prod.mk.injEq] at h; obtain ⟨_, _, rfl⟩ := h; exact Nat.le_refl _
  | cons o aos ih =>
    intro T T' az az' H H' h
    simp only [runOps] at h
    split at h
    · rename_i v ds' H1 hr
      exact Nat.le_trans (opRes_abs hn hr).1 (ih h)
    · cases h
theorem runDefers_mono {cl : Cl} (hn : NextMono cl) : ∀ {az : List ADef} {H H' : AHeap}, runDefers C cl az H = some H' → H.next ≤ H'.next := by
  intro az
  induction az with
  | nil => intro H H' h; simp only [runDefers, Option.some.injEq] at h; subst h; exact Nat.le_refl _
  | cons a az ih =>
    intro H H' h
    cases a with
    | collected b =>
      simp only [runDefers] at h
      split at h
      · have := ih h; simpa [AHeap.set] using this
      · cases h
    | call v args =>
      cases v with
      | fn f first caps =>
        simp only [runDefers] at h
        split at h
        · cases h
        · split at h
          · rename_i hc; exact Nat.le_trans (hn.call _ _ _ _ _ hc) (ih h)
          · cases h
      | _ => simp [runDefers] at h
theorem callF_mono {cl : Cl} (hn : NextMono cl) {f : FuncId} {args : List AV} {H H' : AHeap} {r : AV} (h : callF C cl f args H = some (r, H')) : H.next ≤ H'.next := by
  unfold callF at h
  split at h
  · split at h
    · split at h
      · simp only [Option.map_eq_some_iff] at h
        obtain ⟨_, _, he⟩ := h
        cases he
        exact Nat.le_refl _
      · cases h
    · split at h
      · split at h
        · split at h
          · split at h
            · cases h; exact Nat.le_refl _
            · simp only [Option.map_eq_some_iff] at h
              obtain ⟨_, _, he⟩ := h
              cases he
              exact Nat.le_refl _
          · cases h
        · cases h
      · cases h
  · exact hn.call _ _ _ _ _ h
theorem leaveA_mono {cl : Cl} (hn : NextMono cl) {fr : AFr} {jump : Option AC} {H H' : AHeap} {r : AV} (h : leaveA C cl fr jump H = some (r, H')) : H.next ≤ H'.next := by
  unfold leaveA at h
  split at h
  · split at h
    · split at h
      · rename_i H1 hd
        split at h
        · simp only [Option.map_eq_some_iff] at h
          obtain ⟨_, _, he⟩ := h
          cases he
          exact runDefers_mono hn hd
        · cases h
      · cases h
    · cases h
  · split at h
    · cases h; exact Nat.le_refl _
    · cases h
theorem enterLoopA_mono {fr : AFr} {ps : List Nat} {a b : AC} {H H' : AHeap} {l : Nat} {m : List ADef} (h : enterLoopA fr ps a b H = some (l, m, H')) : H.next ≤ H'.next := by
  unfold enterLoopA at h
  split at h
  · cases h; simp only [AHeap.push]; omega
  · split at h
    · cases h; simp only [AHeap.push]; omega
    · cases h
theorem stepA_mono (hx : ExtOk C) {ex : AFr → List AItem → AHeap → Option (AV × AHeap)} (he : ExMono ex) : ExMono (stepA C ex) := by
  intro fr items H r H' h
  have hn := clMk_mono hx he
  unfold stepA at h
  split at h
  · exact leaveA_mono hn h
  · exact he _ _ _ _ _ h
  · exact he _ _ _ _ _ h
  · exact he _ _ _ _ _ h
  · split at h
    · split at h
      · split at h
        · have := he _ _ _ _ _ h; simpa [AHeap.set] using this
        · cases h
      · cases h
    · cases h
  · exact he _ _ _ _ _ h
  · exact he _ _ _ _ _ h
  · split at h
    · rename_i hr
      split at h
      · exact Nat.le_trans (runOps_mono hn hr) (he _ _ _ _ _ h)
      · cases h
    · cases h
  · exact he _ _ _ _ _ h
  · split at h
    · exact he _ _ _ _ _ h
    · cases h
  · exact he _ _ _ _ _ h
  · exact he _ _ _ _ _ h
  · exact he _ _ _ _ _ h
  · split at h
    · exact he _ _ _ _ _ h
    · exact leaveA_mono hn h
  · split at h
    · exact he _ _ _ _ _ h
    · exact leaveA_mono hn h
  · exact leaveA_mono hn h
  · cases h
  · split at h
    · rename_i hel
      have h1 := enterLoopA_mono hel
      split at h
      · cases h
      · rename_i hc
        have h2 := callF_mono hn hc
        split at h
        · split at h
          · cases h
          · have := he _ _ _ _ _ h
            simp only [AHeap.set] at this
            omega
        · cases h
    · cases h
theorem exec_mono (hx : ExtOk C) : ∀ n, ExMono (exec C n)
  | 0 => fun fr items H r H' h => by simp [exec] at h
  | n + 1 => stepA_mono hx (exec_mono hx n)
end Go.BX

namespace Go.BX
set_option linter.unusedSimpArgs false
set_option linter.unusedVariables false
variable {C : Ctx} {w : World} {U : Nat → Prop} {ι : Nat → Option Nat}
def Ends (C : Ctx) (fn : FuncId) (tmps : Array Value) (todo : List Item) (ds : List Deferred) (kd : CallKind) (ro : Option Nat) (cs : List Frame) (w : World) (R : Value → World → Prop) : Prop :=
  ∃ v w', R v w' ∧ match ro with
    | none => ∃ tmps' todo' fnn, Steps C.P (lone (rf fn tmps todo ds kd none) cs w) (lone { rf fn tmps' todo' [] kd none with mode := .returning } cs w') ∧ C.P.funcs[fn]? = some fnn ∧ (results fnn tmps').run C.P w' = .ok v w'
    | some c => ∀ c0 cs', cs = c0 :: cs' → kd = .normal → Steps C.P (lone (rf fn tmps todo ds .normal (some c)) cs w) (lone (c0.finish v) cs' w')
theorem Ends.head {fn : FuncId} {tmps tmps1 : Array Value} {todo todo1 : List Item} {ds ds1 : List Deferred} {kd : CallKind} {ro : Option Nat} {cs : List Frame} {w1 : World} {R : Value → World → Prop} (hs : Steps C.P (lone (rf fn tmps todo ds kd ro) cs w) (lone (rf fn tmps1 todo1 ds1 kd ro) cs w1))
    (h : Ends C fn tmps1 todo1 ds1 kd ro cs w1 R) : Ends C fn tmps todo ds kd ro cs w R := by
  obtain ⟨v, w', hR, h⟩ := h
  refine ⟨v, w', hR, ?_⟩
  cases ro with
  | none => obtain ⟨t', k', fnn, h1, h2⟩ := h; exact ⟨t', k', fnn, hs.trans h1, h2⟩
  | some c => intro c0 cs' e hk; subst hk; exact hs.trans (h c0 cs' e rfl)
theorem Ends.mono {fn : FuncId} {tmps : Array Value} {todo : List Item} {ds : List Deferred} {kd : CallKind} {ro : Option Nat} {cs : List Frame} {R R' : Value → World → Prop} (h : Ends C fn tmps todo ds kd ro cs w R) (hr : ∀ v w', R v w' → R' v w') : Ends C fn tmps todo ds kd ro cs w R' := by
  obtain ⟨v, w', hR, h⟩ := h
  exact ⟨v, w', hr _ _ hR, h⟩
theorem Post.of {H H1 H' : AHeap} {r : AV} {v : Value} {w1 w' : World} {U1 : Nat → Prop} {ι1 : Nat → Option Nat} (he : Ext w U ι w1 U1 ι1) (hf : Fresh H ι ι1) (hn : H.next ≤ H1.next) (h : Post C w1 U1 ι1 H1 H' r v w') : Post C w U ι H H' r v w' := by
  obtain ⟨U', ι', hl, hf'⟩ := h
  refine ⟨U', ι', ⟨he.trans hl.ext, hl.heap, hl.val⟩, fun b c hb => ?_⟩
  rcases hf' b c hb with h | h
  · exact hf b c h
  · exact .inr (Nat.le_trans hn h)
def RoRel (ι : Nat → Option Nat) : Option Nat → Option Nat → Prop
  | none, none => True
  | some l, some c => ι l = some c
  | _, _ => False
theorem RoRel.mono {ι' : Nat → Option Nat} (h : ∀ b c, ι b = some c → ι' b = some c) {a b : Option Nat} (hr : RoRel ι a b) : RoRel ι' a b := by
  cases a <;> cases b <;> first | exact hr | exact h _ _ hr
theorem RoRel.isSome {a b : Option Nat} (hr : RoRel ι a b) : a.isSome = b.isSome := by
  cases a <;> cases b <;> first | rfl | exact hr.elim
def Sound (C : Ctx) (ex : AFr → List AItem → AHeap → Option (AV × AHeap)) : Prop :=
  ∀ fr items H r H', ex fr items H = some (r, H') → ∀ nt w U ι tmps todo ds ro, IsRel C.pure nt todo items → nt ≤ tmps.size → HRel C w U ι H → TRel w U ι fr.T tmps → DsRel w U ι fr.defers ds → RoRel ι fr.round ro →
    ∀ kd cs, Ends C fr.fn tmps todo ds kd ro cs w (Post C w U ι H H' r)
theorem run_enter {f : FuncId} {fi : FI} (h : FIok C f fi) (args : Array Value) (w : World) : (callFunc f args).run C.P w = .ok (.enter f args) w := by
  obtain ⟨fn, c, hf, hb, _, _, _, hn⟩ := h.fn
  have hn' : ¬ fn.name = "runtime.NumGoroutine" := by simpa using hn
  simp [callFunc, program, Sem.run_bind, Sem.run, hf, hb, hn']
theorem frame_enter {f : FuncId} {fi : FI} (h : FIok C f fi) (args : Array Value) (kd : CallKind) : ∃ c, strip C.pure fi.ntmps c = some fi.body ∧ Frame.enter C.P f args kd = rf f (args ++ Array.replicate (fi.ntmps - args.size) undef) [.code c] [] kd none := by
  obtain ⟨fn, c, hf, hb, hs, hnt, _, _⟩ := h.fn
  exact ⟨c, hs, by simp [Frame.enter, hf, hb, hnt]⟩
theorem enter_rel {args : List AV} {vs : List Value} (h : LsRel w U ι args vs) (n : Nat) : TRel w U ι (enterT args) (vs.toArray ++ Array.replicate n undef) := by
  intro t
  unfold enterT
  rcases Nat.lt_or_ge t args.length with ht | ht
  · have hv : t < vs.length := by rw [h.1]; exact ht
    rw [List.getElem?_eq_getElem ht]
    have e : (vs.toArray ++ Array.replicate n undef).getD t undef = vs[t] := by
      simp [Array.getD_eq_getD_getElem?, Array.getElem?_append, hv]
    rw [e]
    exact h.2 t _ _ (List.getElem?_eq_getElem ht) (List.getElem?_eq_getElem hv)
  · rw [List.getElem?_eq_none ht]
    have hv : ¬ t < vs.length := by rw [h.1]; omega
    have e : (vs.toArray ++ Array.replicate n undef).getD t undef = undef := by
      simp only [Array.getD_eq_getD_getElem?, Array.getElem?_append, List.size_toArray, hv, if_false, Array.getElem?_replicate]
      split <;> rfl
    rw [e]
    exact .undef
theorem put_fold : ∀ {ps : List Nat} {args : List AV} {us : List Value} {T : Nat → AV} {tmps : Array Value}, ps.length = args.length → LsRel w U ι args us → TRel w U ι T tmps → (∀ t, t ∈ ps → t < tmps.size) →
    TRel w U ι (foldPut T ps args) ((ps.zip us).foldl (fun tmps (t, a) => tmps.setIfInBounds t a) tmps) ∧ ((ps.zip us).foldl (fun (tmps : Array Value) (t, a) => tmps.setIfInBounds t a) tmps).size = tmps.size := by
  intro ps
  induction ps with
  | nil => intro args us T tmps _ _ hT _; exact ⟨by cases args <;> simpa [foldPut] using hT, by simp⟩
  | cons p ps ih =>
    intro args us T tmps hl ha hT hlt
    cases args with
    | nil => simp at hl
    | cons a args =>
      obtain ⟨v, us', rfl, hv, ha'⟩ := ha.cases_cons
      have h1 : TRel w U ι (upd T p a) (tmps.setIfInBounds p v) := put_rel (d := some p) hT (fun x hx => by cases hx; exact hlt p (by simp)) hv
      obtain ⟨h2, h3⟩ := ih (by simpa using hl) ha' h1 (fun t ht => by rw [Array.size_setIfInBounds]; exact hlt t (by simp [ht]))
      exact ⟨h2, by simpa using h3⟩
theorem simCl_of (hx : ExtOk C) (hF : ∀ f fi, C.FT f = some fi → FIok C f fi) {ex : AFr → List AItem → AHeap → Option (AV × AHeap)} (h : Sound C ex) : SimCl C (clMk C ex) where
  call := fun f args H r H' hc w U ι vs hH ha => by
    simp only [clMk] at hc
    split at hc
    · rename_i g hg; exact hx.sound f g args H r H' hg hc w U ι vs hH ha
    · split at hc
      · rename_i fi hfi
        have hok := hF f fi hfi
        refine .inr ⟨run_enter hok _ _, fun c cs => ?_⟩
        obtain ⟨cd, hs, he⟩ := frame_enter hok vs.toArray .normal
        obtain ⟨v, w', hR, tmps', todo', fnn, hst, hfn, hres⟩ := h _ _ _ _ _ hc fi.ntmps w U ι (vs.toArray ++ Array.replicate (fi.ntmps - vs.toArray.size) undef) [.code cd] [] none (.cons (.code hs) .nil) (by simp; omega) hH (enter_rel ha _) .nil trivial .normal (c :: cs)
        refine ⟨v, w', hR, ?_⟩
        rw [he]
        exact hst.trans (.one (step_leave_returned ⟨rfl, rfl, rfl, fnn, hfn, hres⟩))
      · cases hc
  callD := fun f args H r H' hext hc w U ι vs hH ha => by
    simp only [clMk] at hc
    rw [hext] at hc
    simp only at hc
    split at hc
    · rename_i fi hfi
      have hok := hF f fi hfi
      refine ⟨run_enter hok _ _, fun c cs hm => ?_⟩
      obtain ⟨cd, hs, he⟩ := frame_enter hok vs.toArray .deferred
      obtain ⟨v, w', hR, tmps', todo', fnn, hst, hfn, hres⟩ := h _ _ _ _ _ hc fi.ntmps w U ι (vs.toArray ++ Array.replicate (fi.ntmps - vs.toArray.size) undef) [.code cd] [] none (.cons (.code hs) .nil) (by simp; omega) hH (enter_rel ha _) .nil trivial .deferred (c :: cs)
      refine ⟨v, w', hR, ?_⟩
      rw [he]
      refine hst.trans (.one ?_)
      rw [step_going_returned rfl ⟨rfl, rfl, fnn, hfn, hres⟩]
      have : ({ c with mode := settle c.mode } : Frame) = c := by rw [hm, ← hm]; simp [settle, hm]; rw [← hm]
      rw [this]
    · cases hc
  round := fun l args H r H' hc w U ι vs c hH ha hl => by
    simp only [clMk] at hc
    split at hc
    · rename_i L hL
      split at hc
      · rename_i hlen
        have hb := hH.blk l c hl
        rw [hL] at hb
        obtain ⟨R, nt, hR, hLR⟩ := hb
        have hsz : vs.toArray.size = R.params.size := by
          have := ha.1; rw [hLR.params] at hlen; simp at hlen ⊢; omega
        obtain ⟨hT, hsz'⟩ := put_fold (ps := L.params) (tmps := R.tmps) hlen.symm ha hLR.T (fun t ht => Nat.lt_of_lt_of_le (hLR.lt t ht) hLR.size)
        refine ⟨R.fn, (R.params.zip vs.toArray).foldl (fun tmps (t, a) => tmps.setIfInBounds t a) R.tmps, R.assign, R.body, ?_, fun c0 cs => ?_⟩
        · have hg : (Instr.getLoop c).run C.P w = .ok R w := by simp [Instr.getLoop, getObj, Sem.run_bind, Sem.run, hR]
          unfold Instr.yield
          simp only [Sem.run_bind, hg, Result.andThen_ok, hsz, ne_eq, not_true_eq_false, if_false, Sem.run_pure]
        · have e : (R.params.zip vs.toArray).foldl (fun tmps (t, a) => tmps.setIfInBounds t a) R.tmps = (L.params.zip vs).foldl (fun tmps (t, a) => tmps.setIfInBounds t a) R.tmps := by
            rw [← Array.foldl_toList, hLR.params]; simp
          rw [e]
          obtain ⟨v, w', hR', hst⟩ := h _ _ _ _ _ hc nt w U ι _ [.code R.assign, .beginRound, .code R.body] [] (some c) (.cons (.code hLR.assign) (.cons .beginRound (.cons (.code hLR.body) .nil))) (by rw [hsz']; exact hLR.size) hH hT .nil hl .normal (c0 :: cs)
          refine ⟨v, w', hR', ?_⟩
          have := hst c0 cs rfl rfl
          rw [hLR.fn] at this
          exact this
      · cases hc
    · cases hc
end Go.BX

namespace Go.BX
set_option linter.unusedSimpArgs false
set_option linter.unusedVariables false
variable {C : Ctx} {w : World} {U : Nat → Prop} {ι : Nat → Option Nat}
theorem loadVar_of {t : TypeId} {H : AHeap} {p r : AV} {v u : Value} (hC : TOk C) (hH : HRel C w U ι H) (hp : VRel w U ι p v) (h : loadA C H t p = some r) : ∃ u, (do loadVar t (← asAddr v) : Sem Value).run C.P w = .ok u w ∧ VRel w U ι r u := by
  obtain ⟨u, hu, hr⟩ := load_sound hC hH hp h
  refine ⟨u, ?_, hr⟩
  unfold loadA at h
  split at h
  · cases h
  · split at h
    · cases hp with
      | ptr _ _ _ _ c hι => simpa [Instr.loadAt, Instr.sureAddr, asAddr, Sem.run_bind] using hu
    · cases hp with
      | vptr _ c o _ _ _ ys hk hU hc h1 hr => simpa [Instr.loadAt, Instr.sureAddr, asAddr, Sem.run_bind] using hu
    · cases h
def resF (tmps : Array Value) : ResultVar → Sem Value
  | .tmp t => pure (tmps.getD t undef)
  | .cell a t => do loadVar t (← asAddr (tmps.getD a undef))
theorem results_sound (hC : TOk C) {H : AHeap} (hH : HRel C w U ι H) {T : Nat → AV} {tmps : Array Value} (hT : TRel w U ι T tmps) : ∀ {rs : List ResultVar} {vs : List AV}, resultsA C T H rs = some vs →
    ∃ us, (rs.mapM (resF tmps)).run C.P w = .ok us w ∧ LsRel w U ι vs us := by
  intro rs
  induction rs with
  | nil => intro vs h; simp only [resultsA, Option.some.injEq] at h; subst h; exact ⟨[], by simp, LsRel.nil⟩
  | cons r rs ih =>
    intro vs h
    cases r with
    | tmp t =>
      simp only [resultsA, Option.map_eq_some_iff] at h
      obtain ⟨vs', h', rfl⟩ := h
      obtain ⟨us, hus, hr⟩ := ih h'
      exact ⟨tmps.getD t undef :: us, by simp only [List.mapM_cons, Sem.run_bind, resF, Sem.run_pure, Result.andThen_ok, hus], LsRel.cons (hT t) hr⟩
    | cell a t =>
      simp only [resultsA] at h
      split at h
      · rename_i v vs' hv hvs
        cases h
        obtain ⟨us, hus, hr⟩ := ih hvs
        obtain ⟨u, hu, hur⟩ := loadVar_of (u := undef) hC hH (hT a) hv
        refine ⟨u :: us, ?_, LsRel.cons hur hr⟩
        have hu' : (resF tmps (.cell a t)).run C.P w = .ok u w := hu
        simp only [List.mapM_cons, Sem.run_bind, hu', Sem.run_pure, Result.andThen_ok, hus]
      · cases h
theorem run_results (hC : TOk C) {H : AHeap} (hH : HRel C w U ι H) {T : Nat → AV} {tmps : Array Value} (hT : TRel w U ι T tmps) {fn : Func} {vs : List AV} (h : resultsA C T H fn.results.toList = some vs) :
    ∃ v, (results fn tmps).run C.P w = .ok v w ∧ VRel w U ι (oneOf vs) v := by
  obtain ⟨us, hus, hr⟩ := results_sound hC hH hT h
  have he : results fn tmps = (do let vs ← fn.results.mapM (resF tmps); pure (if h : vs.size = 1 then vs[0] else .tuple vs)) := by
    unfold results
    congr
  have hrun : (results fn tmps).run C.P w = .ok (if h : us.toArray.size = 1 then us.toArray[0] else .tuple us.toArray) w := by
    rw [he, Array.mapM_eq_mapM_toList]
    simp only [Sem.run_bind, map_eq_pure_bind]
    rw [hus]
    simp only [Result.andThen_ok, Sem.run_pure]
  refine ⟨_, hrun, ?_⟩
  have hl := hr.1
  rcases vs with _ | ⟨a, vs⟩
  · obtain rfl := hr.cases_nil
    exact .tuple [] [] rfl hr.2
  · obtain ⟨u, us', rfl, hu, hr'⟩ := hr.cases_cons
    rcases vs with _ | ⟨b, vs⟩
    · obtain rfl := hr'.cases_nil
      simpa [oneOf] using hu
    · obtain ⟨x, us'', rfl, hx, hr''⟩ := hr'.cases_cons
      have := VRel.tuple _ _ hr.1 hr.2
      simpa [oneOf] using this
theorem run_getLoop {P : Program} {c : Nat} {R : Loop} (h : w.heap[c]? = some (.loop R)) : (Instr.getLoop c).run P w = .ok R w := by
  simp [Instr.getLoop, getObj, Sem.run_bind, Sem.run, h]
theorem run_setLoop {P : Program} {c : Nat} {R R' : Loop} (h : w.heap[c]? = some (.loop R)) : (setObj c (.loop R')).run P w = .ok () (w.putObj c (.loop R')) := by
  simp only [setObj, Sem.run, h, World.putObj]
theorem runDefers_sound {cl : Cl} (hs : SimCl C cl) (hn : NextMono cl) : ∀ {az : List ADef} {H H' : AHeap} {w : World} {U : Nat → Prop} {ι : Nat → Option Nat} {ds : List Deferred}, runDefers C cl az H = some H' → HRel C w U ι H → DsRel w U ι az ds →
    ∀ (fn : FuncId) (tmps : Array Value) (todo : List Item) (kd : CallKind) (cs : List Frame), ∃ w' U' ι', Steps C.P (lone { rf fn tmps todo ds kd none with mode := .returning } cs w) (lone { rf fn tmps todo [] kd none with mode := .returning } cs w') ∧
      Ext w U ι w' U' ι' ∧ HRel C w' U' ι' H' ∧ Fresh H ι ι' ∧ H.next ≤ H'.next := by
  intro az
  induction az with
  | nil =>
    intro H H' w U ι ds h hH hD fn tmps todo kd cs
    simp only [runDefers, Option.some.injEq] at h
    subst h
    cases hD
    exact ⟨w, U, ι, Steps.refl _ _, Ext.refl _ _ _, hH, Fresh.refl _ _, Nat.le_refl _⟩
  | cons a az ih =>
    intro H H' w U ι ds h hH hD fn tmps todo kd cs
    cases hD with
    | cons hd hds =>
      cases hd with
      | collected hb =>
        rename_i b c
        simp only [runDefers] at h
        split at h
        · rename_i hat
          have hbr := hH.blk b c hb
          rw [hat] at hbr
          have hbr' : w.heap[c]? = some (.deferred (some [])) := hbr
          obtain ⟨he, hh⟩ := set_rel (o' := .deferred none) (blk := .dead) hH hb (by rw [hat]; rfl) (by
            unfold World.shape?
            rw [World.putObj_heap_same (hH.dom b c hb).2, hbr']) (fun _ _ => trivial)
          obtain ⟨w', U', ι', hst, he', hh', hf', hn'⟩ := ih h hh (hds.mono (fun hv => he.mono hH hv) he.map) fn tmps todo kd cs
          have hrun : (Instr.takeDeferred c).run C.P w = .ok [] (w.putObj c (.deferred none)) := by
            simp only [Instr.takeDeferred, getObj, setObj, Sem.run_bind, Sem.run, hbr', Result.andThen_ok, World.putObj]
            rfl
          exact ⟨w', U', ι', Steps.head (st_collected hrun) hst, he.trans he', hh', hf', hn'⟩
        · cases h
      | call hv ha =>
        rename_i v args fv first' cap vs'
        cases hv with
        | any _ => simp [runDefers] at h
        | yld _ _ _ => simp [runDefers] at h
        | fn f fs cps us zs hl1 hl2 hr1 hr2 =>
          simp only [runDefers] at h
          split at h
          · cases h
          · rename_i hext
            have hext' : C.ext f = none := by simpa using hext
            split at h
            · rename_i r1 H1 hc
              have hall : LsRel w U ι (fs ++ args ++ cps) (us ++ vs' ++ zs) := LsRel.append (LsRel.append ⟨hl1, hr1⟩ ha) ⟨hl2, hr2⟩
              obtain ⟨hent, hgo⟩ := hs.callD f _ H r1 H1 hext' hc w U ι _ hH hall
              obtain ⟨v1, w1, ⟨U1, ι1, hl, hf1⟩, hst1⟩ := hgo { rf fn tmps todo _ kd none with mode := .returning } cs rfl
              have hn1 := hn.call _ _ _ _ _ hc
              obtain ⟨w', U', ι', hst, he', hh', hf', hn'⟩ := ih h hl.heap (hds.mono (fun hv => hl.ext.mono hH hv) hl.ext.map) fn tmps todo kd cs
              refine ⟨w', U', ι', Steps.head (step_defer (by simp) rfl rfl (f := f) (args := (us ++ vs' ++ zs).toArray) ?_) (hst1.trans hst), hl.ext.trans he', hh', fun b c hb => ?_, Nat.le_trans hn1 hn'⟩
              · simp only [invoke]
                rw [← hent]
                congr 2
                apply Array.ext'
                simp
              · rcases hf' b c hb with h | h
                · exact hf1 b c h
                · exact .inr (Nat.le_trans hn1 h)
            · cases h
theorem leave_sound (hC : TOk C) (hF : ∀ f fi, C.FT f = some fi → FIok C f fi) {cl : Cl} (hs : SimCl C cl) (hn : NextMono cl) {fr : AFr} {jump : Option AC} {jc : Option Code} {H H' : AHeap} {r : AV} (h : leaveA C cl fr jump H = some (r, H'))
    (hj : (jump = none ∧ jc = none) ∨ ∃ a c, jump = some a ∧ jc = some c ∧ jumpOk (some a) = true ∧ ∀ nt, CRel C.pure nt c a) {tmps : Array Value} {todo : List Item} {ds : List Deferred} {ro : Option Nat} {kd : CallKind} {cs : List Frame}
    (hret : isRetA jump = true → step C.P (lone (rf fr.fn tmps todo ds kd none) cs w) = .next (lone { rf fr.fn tmps todo ds kd none with mode := .returning } cs w))
    (hrnd : ∀ l v w' c0 cs', (Instr.endRound l jc).run C.P w = .ok v w' → step C.P (lone (rf fr.fn tmps todo ds .normal (some l)) (c0 :: cs') w) = .next (lone (c0.finish v) cs' w'))
    (hH : HRel C w U ι H) (hT : TRel w U ι fr.T tmps) (hD : DsRel w U ι fr.defers ds) (hro : RoRel ι fr.round ro) : Ends C fr.fn tmps todo ds kd ro cs w (Post C w U ι H H' r) := by
  unfold leaveA at h
  split at h
  · rename_i hr0
    rw [hr0] at hro
    cases ro with
    | some _ => exact hro.elim
    | none =>
      split at h
      · rename_i hir
        split at h
        · rename_i H1 hd
          split at h
          · rename_i fi hfi
            simp only [Option.map_eq_some_iff] at h
            obtain ⟨vs, hvs, he⟩ := h
            cases he
            obtain ⟨w', U', ι', hst, hext, hh, hf, hnx⟩ := runDefers_sound hs hn hd hH hD fr.fn tmps todo kd cs
            obtain ⟨fnn, c, hfn, _, _, _, hres, _⟩ := (hF _ _ hfi).fn
            rw [← hres] at hvs
            obtain ⟨v, hv, hvr⟩ := run_results hC hh (hT.mono (fun hv => hext.mono hH hv)) hvs
            exact ⟨v, w', ⟨U', ι', ⟨hext, hh, hvr⟩, hf⟩, tmps, todo, fnn, Steps.head (hret hir) hst, hfn, hv⟩
          · cases h
        · cases h
      · cases h
  · rename_i l hr0
    rw [hr0] at hro
    cases ro with
    | none => exact hro.elim
    | some c =>
      have hι : ι l = some c := hro
      split at h
      · rename_i L hL
        cases h
        have hb := hH.blk l c hι
        rw [hL] at hb
        obtain ⟨R, nt, hR, hLR⟩ := hb
        have hsome : jump.isNone = jc.isNone := by
          rcases hj with ⟨rfl, rfl⟩ | ⟨a, cc, rfl, rfl, _⟩ <;> rfl
        obtain ⟨he, hh⟩ := set_rel (o' := .loop { R with state := if jc.isNone then .ready else .done, pending := jc }) (blk := .loop { L with state := if jump.isNone then .ready else .done, pending := jump }) hH hι (by rw [hL]; rfl) (by
            unfold World.shape?
            rw [World.putObj_heap_same (hH.dom l c hι).2, hR]) (fun hsame hext => ⟨_, nt, hsame, {
              size := hLR.size
              state := by
                show LSRel (if jump.isNone then .ready else .done) (if jc.isNone then .ready else .done)
                rw [hsome]; cases jc.isNone <;> trivial
              pending := by
                rcases hj with ⟨rfl, rfl⟩ | ⟨a, cc, rfl, rfl, _, hcr⟩
                · exact .inl ⟨rfl, rfl⟩
                · exact .inr ⟨a, cc, rfl, rfl, hcr nt⟩
              fn := hLR.fn, T := hLR.T.mono (fun hv => hext.mono hH hv), params := hLR.params, assign := hLR.assign, body := hLR.body, lt := hLR.lt, defers := hLR.defers }⟩)
        have hrun : (Instr.endRound c jc).run C.P w = .ok (.bool jc.isNone) (w.putObj c (.loop { R with state := if jc.isNone then .ready else .done, pending := jc })) := by
          simp only [Instr.endRound, Sem.run_bind, run_getLoop hR, run_setLoop hR, Result.andThen_ok, Sem.run_pure]
        refine ⟨.bool jc.isNone, _, ⟨U, ι, ⟨he, hh, by rw [hsome]; exact .bool _⟩, Fresh.refl _ _⟩, fun c0 cs' e hk => ?_⟩
        subst hk; subst e
        exact .one (hrnd c _ _ c0 cs' hrun)
      · cases h
end Go.BX

namespace Go.BX
set_option linter.unusedSimpArgs false
set_option linter.unusedVariables false
variable {C : Ctx} {w : World} {U : Nat → Prop} {ι : Nat → Option Nat}
def CInv (pure : FuncId → Bool) (nt : Nat) (c : Code) : AC → Prop
  | .skip => c = .skip
  | .region aos chk => ∃ id ops draw, c = .region id ops draw ∧ (draw = true → drawOk pure ops = true ∧ chk = chks pure ops) ∧ mapO (stripOp nt ops) ops.toList = some aos
  | .seq a b => ∃ x y, c = .seq x y ∧ CRel pure nt x a ∧ CRel pure nt y b
  | .cond e a b => ∃ x y, c = .cond e x y ∧ CRel pure nt x a ∧ CRel pure nt y b
  | .block id a => ∃ x, c = .block id x ∧ CRel pure nt x a
  | .loop a => ∃ x, c = .loop x ∧ CRel pure nt x a
  | .rangeFunc f ps a b => ∃ qs x y, c = .rangeFunc f qs x y ∧ qs.toList = ps ∧ CRel pure nt x a ∧ CRel pure nt y b ∧ ∀ t, t ∈ ps → t < nt
  | .exit id => c = .exit id
  | .scope a => ∃ x, c = .scope x ∧ CRel pure nt x a
  | .label l => c = .label l
  | .goto l => c = .goto l
  | .ret => c = .ret
  | .refuse => True
theorem crel_inv {pure : FuncId → Bool} {nt : Nat} {c : Code} {a : AC} (h : CRel pure nt c a) : CInv pure nt c a := by
  unfold CRel at h
  cases c <;> simp only [strip, Option.some.injEq, Option.map_eq_some_iff] at h
  case region id ops draw =>
    split at h
    · cases h
    · rename_i hd
      simp only [Option.map_eq_some_iff] at h
      obtain ⟨x, hx, rfl⟩ := h
      exact ⟨id, ops, draw, rfl, fun e => by subst e; exact ⟨by simpa using hd, by simp⟩, hx⟩
  case seq x y => split at h <;> cases h; exact ⟨x, y, rfl, by assumption, by assumption⟩
  case cond e x y => split at h <;> cases h; exact ⟨x, y, rfl, by assumption, by assumption⟩
  case rangeFunc f qs x y =>
    split at h
    · split at h <;> cases h
      rename_i hlt
      exact ⟨qs, x, y, rfl, rfl, by assumption, by assumption, fun t ht => by
        simp only [List.all_eq_true, decide_eq_true_eq] at hlt
        exact hlt t ht⟩
    · cases h
  case block id x => obtain ⟨y, hy, rfl⟩ := h; exact ⟨x, rfl, hy⟩
  case loop x => obtain ⟨y, hy, rfl⟩ := h; exact ⟨x, rfl, hy⟩
  case scope x => obtain ⟨y, hy, rfl⟩ := h; exact ⟨x, rfl, hy⟩
  case refuse => subst h; trivial
  all_goals (subst h; rfl)
theorem DsRel.append {az bs : List ADef} {ds es : List Deferred} (h : DsRel w U ι az ds) (h' : DsRel w U ι bs es) : DsRel w U ι (az ++ bs) (ds ++ es) := by
  induction h with
  | nil => exact h'
  | cons h _ ih => exact .cons h ih
theorem enterLoop_sound {fr : AFr} {ps : List Nat} {a b : AC} {H H' : AHeap} {l : Nat} {m : List ADef} (h : enterLoopA fr ps a b H = some (l, m, H')) {nt : Nat} {tmps : Array Value} {qs : Array Tmp} {x y : Code} {ro : Option Nat} (hq : qs.toList = ps) (ha : CRel C.pure nt x a) (hb : CRel C.pure nt y b) (hlt : ∀ t, t ∈ ps → t < nt)
    (hsz : nt ≤ tmps.size) (hH : HRel C w U ι H) (hT : TRel w U ι fr.T tmps) (hro : RoRel ι fr.round ro) :
    ∃ lc mc w' ι', (Instr.enterLoop fr.fn tmps qs x y ro).run C.P w = .ok (lc, mc) w' ∧ Ext w U ι w' U ι' ∧ HRel C w' U ι' H' ∧ ι' l = some lc ∧ DsRel w' U ι' m mc ∧ Fresh H ι ι' := by
  unfold enterLoopA at h
  split at h
  · rename_i hr
    rw [hr] at hro
    cases ro with
    | some _ => exact hro.elim
    | none =>
      cases h
      obtain ⟨e1, h1, r1⟩ := push_rel hH (w' := w.alloc (.deferred (some []))) (o := .deferred (some [])) rfl .dfr (by
        exact World.alloc_heap_new w _)
      have hL : LRel C ((w.alloc (.deferred (some []))).alloc (.loop { state := .ready, pending := none, fn := fr.fn, tmps := tmps, params := qs, assign := x, body := y, defers := w.heap.size })) U
          (upd (upd ι H.next (some w.heap.size)) (H.push .dfr).next (some (w.alloc (.deferred (some []))).heap.size)) nt
          { state := .ready, pending := none, fn := fr.fn, T := fr.T, params := ps, assign := a, body := b, defers := H.next } { state := .ready, pending := none, fn := fr.fn, tmps := tmps, params := qs, assign := x, body := y, defers := w.heap.size } := by
        have hdef : (upd (upd ι H.next (some w.heap.size)) (H.push .dfr).next (some (w.alloc (.deferred (some []))).heap.size)) H.next = some w.heap.size := by
          rw [upd_ne _ _ (by simp only [AHeap.push]; omega), upd_same]
        refine { size := hsz, state := trivial, pending := .inl ⟨rfl, rfl⟩, fn := rfl, T := ?_, params := hq.symm, assign := ha, body := hb, lt := hlt, defers := hdef }
        refine hT.mono (fun hv => (e1.mono hH hv).mono (fun _ h => h) (fun c hc => ?_) (fun c s hs => ?_) _ (fun b c hbc => ?_))
        · have := (h1.imm c hc).1
          simp only [World.alloc, Array.getElem?_push] at this ⊢
          rw [if_neg (by omega)]
        · have := shape_lt hs
          refine (shape_of_heap ?_).trans hs
          simp only [World.alloc, Array.getElem?_push] at this ⊢
          rw [if_neg (by omega)]
        · have := (h1.dom b c hbc).1
          rw [upd_ne _ _ (Nat.ne_of_lt this)]
          exact hbc
      obtain ⟨e2, h2, r2⟩ := push_rel h1 (w' := (w.alloc (.deferred (some []))).alloc (.loop { state := .ready, pending := none, fn := fr.fn, tmps := tmps, params := qs, assign := x, body := y, defers := w.heap.size }))
        (o := .loop { state := .ready, pending := none, fn := fr.fn, tmps := tmps, params := qs, assign := x, body := y, defers := w.heap.size }) rfl (.loop { state := .ready, pending := none, fn := fr.fn, T := fr.T, params := ps, assign := a, body := b, defers := H.next })
        ⟨_, nt, by
          exact World.alloc_heap_new (w.alloc _) _, hL⟩
      refine ⟨_, [{ target := .collected w.heap.size, args := #[] }], _, _, ?_, e1.trans e2, h2, upd_same _ _ _, .cons (.collected hL.defers) .nil, fun b c hbc => ?_⟩
      · simp [Instr.enterLoop, Sem.run_bind, newObj, Sem.run]
      · rcases r2.fresh b c hbc with h | h
        · exact r1.fresh b c h
        · exact .inr (by simp only [AHeap.push] at h; omega)
  · rename_i l0 hr
    rw [hr] at hro
    cases ro with
    | none => exact hro.elim
    | some c =>
      have hι : ι l0 = some c := hro
      split at h
      · rename_i L hLat
        cases h
        have hbr := hH.blk l0 c hι
        rw [hLat] at hbr
        obtain ⟨R, nt0, hR, hLR⟩ := hbr
        have hL : LRel C (w.alloc (.loop { state := .ready, pending := none, fn := fr.fn, tmps := tmps, params := qs, assign := x, body := y, defers := R.defers })) U (upd ι H.next (some w.heap.size)) nt
            { state := .ready, pending := none, fn := fr.fn, T := fr.T, params := ps, assign := a, body := b, defers := L.defers } { state := .ready, pending := none, fn := fr.fn, tmps := tmps, params := qs, assign := x, body := y, defers := R.defers } := by
          refine { size := hsz, state := trivial, pending := .inl ⟨rfl, rfl⟩, fn := rfl, T := ?_, params := hq.symm, assign := ha, body := hb, lt := hlt, defers := ?_ }
          · refine hT.mono (fun hv => hv.mono (fun _ h => h) (fun c hc => ?_) (fun c s hs => ?_) _ (fun b c hbc => ?_))
            · have := (hH.imm c hc).1
              simp only [World.alloc, Array.getElem?_push]
              rw [if_neg (by omega)]
            · have := shape_lt hs
              refine (shape_of_heap ?_).trans hs
              simp only [World.alloc, Array.getElem?_push]
              rw [if_neg (by omega)]
            · rw [upd_ne _ _ (Nat.ne_of_lt (hH.dom b c hbc).1)]
              exact hbc
          · show upd ι H.next (some w.heap.size) L.defers = some R.defers
            rw [upd_ne _ _ (Nat.ne_of_lt (hH.dom _ _ hLR.defers).1)]
            exact hLR.defers
        obtain ⟨e2, h2, r2⟩ := push_rel hH (w' := w.alloc (.loop { state := .ready, pending := none, fn := fr.fn, tmps := tmps, params := qs, assign := x, body := y, defers := R.defers }))
          (o := .loop { state := .ready, pending := none, fn := fr.fn, tmps := tmps, params := qs, assign := x, body := y, defers := R.defers }) rfl (.loop { state := .ready, pending := none, fn := fr.fn, T := fr.T, params := ps, assign := a, body := b, defers := L.defers })
          ⟨_, nt, by
            exact World.alloc_heap_new w _, hL⟩
        refine ⟨_, [], _, _, ?_, e2, h2, upd_same _ _ _, .nil, r2.fresh⟩
        simp [Instr.enterLoop, Sem.run_bind, run_getLoop hR, newObj, Sem.run]
      · cases h
theorem stepA_sound (hC : TOk C) (hF : ∀ f fi, C.FT f = some fi → FIok C f fi) (hx : ExtOk C) (hmix : C.P.follows .mixedOrders = true) {ex : AFr → List AItem → AHeap → Option (AV × AHeap)} (hs : Sound C ex) (hm : ExMono ex) : Sound C (stepA C ex) := by
  intro fr items H r H' h nt w U ι tmps todo ds ro hI hsz hH hT hD hro kd cs
  have simcl := simCl_of hx hF hs
  have hn := clMk_mono hx hm
  unfold stepA at h
  split at h
  · -- the end
    cases hI
    exact leave_sound hC hF simcl hn h (.inl ⟨rfl, rfl⟩) (fun _ => st_end_normal) (fun l v w' c0 cs' hr => st_round_end hr) hH hT hD hro
  · -- inBlock
    cases hI with
    | cons hi hk => cases hi; exact Ends.head (.one st_inBlock) (hs _ _ _ _ _ h nt w U ι _ _ _ _ hk hsz hH hT hD hro kd cs)
  · cases hI with
    | cons hi hk => cases hi; exact Ends.head (.one st_inScope) (hs _ _ _ _ _ h nt w U ι _ _ _ _ hk hsz hH hT hD hro kd cs)
  · cases hI with
    | cons hi hk => cases hi with
      | inLoop hc => exact Ends.head (.one st_inLoop) (hs _ _ _ _ _ h nt w U ι _ _ _ _ (.cons (.code hc) (.cons (.inLoop hc) hk)) hsz hH hT hD hro kd cs)
  · -- beginRound
    cases hI with
    | cons hi hk =>
      cases hi
      split at h
      · rename_i l hr
        rw [hr] at hro
        cases ro with
        | none => exact hro.elim
        | some c =>
          have hι : ι l = some c := hro
          split at h
          · rename_i L hL
            split at h
            · rename_i hst
              have hb := hH.blk l c hι
              rw [hL] at hb
              obtain ⟨R, nt0, hR, hLR⟩ := hb
              obtain ⟨he, hh⟩ := set_rel (o' := .loop { R with state := .busy }) (blk := .loop { L with state := .busy }) hH hι (by rw [hL]; rfl) (by
                unfold World.shape?
                rw [World.putObj_heap_same (hH.dom l c hι).2, hR]) (fun hsame hext => ⟨_, nt0, hsame, {
                  size := hLR.size, state := trivial, pending := hLR.pending, fn := hLR.fn, T := hLR.T.mono (fun hv => hext.mono hH hv), params := hLR.params, assign := hLR.assign, body := hLR.body, lt := hLR.lt, defers := hLR.defers }⟩)
              have hrs : R.state = .ready := by
                have := hLR.state
                rw [hst] at this
                cases hh' : R.state <;> rw [hh'] at this <;> first | rfl | exact this.elim
              have hrun : (Instr.beginRound c).run C.P w = .ok () (w.putObj c (.loop { R with state := .busy })) := by
                simp only [Instr.beginRound, Sem.run_bind, run_getLoop hR, run_setLoop hR, Result.andThen_ok, hrs, Sem.run_pure]
              refine Ends.head (.one (st_beginRound hrun)) (Ends.mono (hs _ _ _ _ _ h nt _ U ι _ _ _ (some c) hk hsz hh (hT.mono (fun hv => he.mono hH hv)) (hD.mono (fun hv => he.mono hH hv) he.map) (by rw [hr]; exact hι) kd cs) (fun v w' hp => Post.of he (Fresh.refl _ _) ?_ hp))
              simp [AHeap.set]
            · cases h
          · cases h
      · cases h
  · cases hI with
    | cons hi hk => cases hi with
      | code hc => obtain rfl := crel_inv hc; exact Ends.head (.one st_skip) (hs _ _ _ _ _ h nt w U ι _ _ _ _ hk hsz hH hT hD hro kd cs)
  · cases hI with
    | cons hi hk => cases hi with
      | code hc => obtain rfl := crel_inv hc; exact Ends.head (.one st_label) (hs _ _ _ _ _ h nt w U ι _ _ _ _ hk hsz hH hT hD hro kd cs)
  · -- a region
    cases hI with
    | cons hi hk =>
      cases hi with
      | code hc =>
        obtain ⟨id, ops, draw, rfl, hdr, hmo⟩ := crel_inv hc
        split at h
        · rename_i T' ds' H1 hrun
          split at h
          rotate_left
          · cases h
          rename_i hdyn
          have hnx := runOps_mono hn hrun
          rw [hro.isSome] at hrun hdyn
          have goOn : ∀ {w1 : World} {U1 : Nat → Prop} {ι1 : Nat → Option Nat} {tmps1 : Array Value} {ds1 : List Deferred} {k : List Item}, IsRel C.pure nt k _ → Steps C.P (lone (rf fr.fn tmps (.code (.region id ops draw) :: k) ds kd ro) cs w) (lone (rf fr.fn tmps1 k ds1 kd ro) cs w1) → Ext w U ι w1 U1 ι1 → HRel C w1 U1 ι1 H1 → TRel w1 U1 ι1 T' tmps1 → DsRel w1 U1 ι1 ds' ds1 → Fresh H ι ι1 → tmps1.size = tmps.size →
              Ends C fr.fn tmps (.code (.region id ops draw) :: k) ds kd ro cs w (Post C w U ι H H' r) := fun hk hst he hh ht hd hf hs1 =>
            Ends.head hst (Ends.mono (hs _ _ _ _ _ h nt _ _ _ _ _ _ ro hk (by rw [hs1]; exact hsz) hh ht hd (hro.mono he.map) kd cs) (fun v w' hp => Post.of he hf hnx hp))
          cases draw with
          | true =>
            obtain ⟨hdr1, rfl⟩ := hdr rfl
            obtain ⟨tmps1, w1, ds1, U1, ι1, hst, he, hh, ht, hd, hf, hs1⟩ := region_draw (fn := fr.fn) (kd := kd) (id := id) hC simcl hn hmix hdr1 hmo hsz hH hT hD hrun hdyn _ cs
            exact goOn hk hst he hh ht hd hf hs1
          | false =>
            have hlen : ops.size = (mapO (stripOp nt ops) ops.toList).map List.length := by
              rw [hmo]; simp [mapO_len hmo]
            rw [hmo] at hlen
            simp only [Option.map_some, Option.some.injEq] at hlen
            obtain ⟨tmps1, w1, ds1, U1, ι1, hst, he, hh, ht, hd, hf, hs1, _⟩ := region_text (fn := fr.fn) (kd := kd) (ops := ops) (nt := nt) hC simcl hn _ 0 w U ι tmps ds fr.T T' fr.defers ds' H H1 (fun j ao hj => by
              obtain ⟨o, ho, hso⟩ := mapO_get' hmo j ao hj
              exact ⟨o, by simpa using ho, hso⟩) hsz hH hT hD hrun _ cs
            refine goOn hk (Steps.head st_region ?_) he hh ht hd hf hs1
            rw [← hlen, ← List.range_eq_range'] at hst
            exact hst
        · cases h
  · cases hI with
    | cons hi hk => cases hi with
      | code hc =>
        obtain ⟨x, y, rfl, h1, h2⟩ := crel_inv hc
        exact Ends.head (.one st_seq) (hs _ _ _ _ _ h nt w U ι _ _ _ _ (.cons (.code h1) (.cons (.code h2) hk)) hsz hH hT hD hro kd cs)
  · cases hI with
    | cons hi hk => cases hi with
      | code hc =>
        obtain ⟨x, y, rfl, h1, h2⟩ := crel_inv hc
        split at h
        · rename_i t ht
          have hv := ev_sound (a := { tmps := tmps, defers := ds }) hT ht
          generalize hxv : ({ tmps := tmps, defers := ds } : Act).eval _ = xv at hv
          cases hv
          refine Ends.head (.one (st_cond (by rw [eval_rf]; exact hxv))) (hs _ _ _ _ _ h nt w U ι _ _ _ _ (.cons (.code ?_) hk) hsz hH hT hD hro kd cs)
          cases t
          · exact h2
          · exact h1
        · cases h
  · cases hI with
    | cons hi hk => cases hi with
      | code hc =>
        obtain ⟨x, rfl, h1⟩ := crel_inv hc
        exact Ends.head (.one st_block) (hs _ _ _ _ _ h nt w U ι _ _ _ _ (.cons (.code h1) (.cons (.inBlock _) hk)) hsz hH hT hD hro kd cs)
  · cases hI with
    | cons hi hk => cases hi with
      | code hc =>
        obtain ⟨x, rfl, h1⟩ := crel_inv hc
        exact Ends.head (.one st_loop) (hs _ _ _ _ _ h nt w U ι _ _ _ _ (.cons (.code h1) (.cons (.inLoop h1) hk)) hsz hH hT hD hro kd cs)
  · cases hI with
    | cons hi hk => cases hi with
      | code hc =>
        obtain ⟨x, rfl, h1⟩ := crel_inv hc
        exact Ends.head (.one st_scope) (hs _ _ _ _ _ h nt w U ι _ _ _ _ (.cons (.code h1) (.cons (.inScope h1) hk)) hsz hH hT hD hro kd cs)
  · -- exit
    cases hI with
    | cons hi hk => cases hi with
      | code hc =>
        obtain rfl := crel_inv hc
        rename_i id _ _
        have he := exit_rel (id := id) hk
        split at h
        · rename_i k' hk'
          obtain ⟨t', h1, h2⟩ := he.1 _ hk'
          exact Ends.head (.one (st_exit h1)) (hs _ _ _ _ _ h nt w U ι _ _ _ _ h2 hsz hH hT hD hro kd cs)
        · rename_i hk'
          exact leave_sound hC hF simcl hn h (.inr ⟨_, .exit id, rfl, rfl, rfl, fun _ => rfl⟩) (fun hr => by simp [isRetA] at hr) (fun l v w' c0 cs' hr => st_round_exit (he.2 hk') hr) hH hT hD hro
  · -- goto
    cases hI with
    | cons hi hk => cases hi with
      | code hc =>
        obtain rfl := crel_inv hc
        rename_i id _ _
        have he := goto_rel (l := id) hk
        split at h
        · rename_i k' hk'
          obtain ⟨t', h1, h2⟩ := he.1 _ hk'
          exact Ends.head (.one (st_goto h1)) (hs _ _ _ _ _ h nt w U ι _ _ _ _ h2 hsz hH hT hD hro kd cs)
        · rename_i hk'
          exact leave_sound hC hF simcl hn h (.inr ⟨_, .goto id, rfl, rfl, rfl, fun _ => rfl⟩) (fun hr => by simp [isRetA] at hr) (fun l v w' c0 cs' hr => st_round_goto (he.2 hk') hr) hH hT hD hro
  · -- return
    cases hI with
    | cons hi hk => cases hi with
      | code hc =>
        obtain rfl := crel_inv hc
        exact leave_sound hC hF simcl hn h (.inr ⟨_, .ret, rfl, rfl, rfl, fun _ => rfl⟩) (fun _ => st_ret_normal) (fun l v w' c0 cs' hr => st_round_ret hr) hH hT hD hro
  · cases h
  · -- a loop over a function
    rename_i fo pso aso bso kso
    cases hI with
    | @cons _ _ k _ hi hk => cases hi with
      | code hc =>
        obtain ⟨qs, x, y, rfl, hq, h1, h2, hlt⟩ := crel_inv hc
        split at h
        · rename_i g first caps l mark H2 hev hel
          have hnx1 := enterLoopA_mono hel
          obtain ⟨lc, mc, w1, ι1, hrunL, he1, hh1, hιl, hdm, hf1⟩ := enterLoop_sound hel hq h1 h2 hlt hsz hH hT hro
          split at h
          · cases h
          · rename_i rv H3 hcall
            have hnx2 := callF_mono hn hcall
            split at h
            · rename_i L hL3
              split at h
              · cases h
              · rename_i hcond
                have hbusy : L.state ≠ .busy := fun e => hcond (.inl e)
                have hjump : jumpOk L.pending = true := by
                  cases hj : jumpOk L.pending with
                  | true => rfl
                  | false => exact absurd (.inr hj) hcond
                have hT1 := hT.mono (fun hv => he1.mono hH hv)
                have hD1 := hD.mono (fun hv => he1.mono hH hv) he1.map
                have hfv := ev_sound (a := { tmps := tmps, defers := ds }) hT1 hev
                generalize hxv : ({ tmps := tmps, defers := ds } : Act).eval fo = xv at hfv
                cases hfv with
                | fn _ _ _ us zs hl1 hl2 hr1 hr2 =>
                  have hall : LsRel w1 U ι1 (first ++ [.yld l] ++ caps) (us ++ [Value.func (.yield lc) #[] #[]] ++ zs) := LsRel.append (LsRel.append (show LsRel w1 U ι1 first us from ⟨hl1, hr1⟩) (LsRel.cons (.yld l lc hιl) LsRel.nil)) ⟨hl2, hr2⟩
                  have hinv := callF_sound simcl hcall hh1 hall
                  obtain ⟨v1, w2, ⟨U2, ι2, hlv, hf2, _⟩, hst2⟩ : ∃ v1 w2, (∃ U' ι', BX.Leaves C w1 U ι1 H3 rv v1 w2 U' ι' ∧ Fresh H2 ι1 ι' ∧ (C.pure g = true → H3 = H2 ∧ ι' = ι1 ∧ ∀ c, c < w1.heap.size → w2.heap[c]? = w1.heap[c]?)) ∧
                      Steps C.P (lone (rf fr.fn tmps (.code (.rangeFunc fo qs x y) :: k) ds kd ro) cs w) (lone (rf fr.fn tmps (.endRangeFunc lc :: k) (mc ++ ds) kd ro) cs w2) := by
                    have hxr : ∀ nx w2, (callFunc g (us ++ [Value.func (.yield lc) #[] #[]] ++ zs).toArray).run C.P w1 = .ok nx w2 →
                        (do let d ← resolve (rf fr.fn tmps (.inRangeFunc lc :: k) (mc ++ ds) kd ro).eval { callee := .value fo, args := #[.const (Value.func (.yield lc) #[] #[])], argTypes := #[] } 0; invoke d.target d.args : Sem Next).run C.P w1 = .ok nx w2 := fun nx w2 hc => by
                      rw [← hc]
                      have e1 : (rf fr.fn tmps (.inRangeFunc lc :: k) (mc ++ ds) kd ro).eval fo = _ := hxv
                      have e2 : (rf fr.fn tmps (.inRangeFunc lc :: k) (mc ++ ds) kd ro).eval (.const (Value.func (.yield lc) #[] #[])) = Value.func (.yield lc) #[] #[] := rfl
                      simp only [resolve, Sem.run_bind, e1, Deferred.ofValue, Sem.run_pure, Result.andThen_ok, invoke]
                      congr 2
                      apply Array.ext'
                      simp [e2]
                    rcases hinv with ⟨v1, w2, hc, hR⟩ | ⟨hc, hgo⟩
                    · exact ⟨v1, w2, hR, .one (st_rangeFunc hrunL (hxr _ _ hc) (.inl ⟨v1, rfl, rfl, rfl⟩))⟩
                    · obtain ⟨v1, w2, hR, hst⟩ := hgo (rf fr.fn tmps (.inRangeFunc lc :: k) (mc ++ ds) kd ro) cs
                      exact ⟨v1, w2, hR, Steps.head (st_rangeFunc hrunL (hxr _ _ hc) (.inr ⟨g, _, rfl, rfl, rfl⟩)) hst⟩
                  have hιl2 := hlv.ext.map _ _ hιl
                  have hb := hlv.heap.blk l lc hιl2
                  rw [hL3] at hb
                  obtain ⟨R, nt0, hR, hLR⟩ := hb
                  obtain ⟨he3, hh3⟩ := set_rel (o' := .loop { R with state := .exhausted }) (blk := .loop { L with state := .exhausted }) hlv.heap hιl2 (by rw [hL3]; rfl) (by
                    unfold World.shape?
                    rw [World.putObj_heap_same (hlv.heap.dom l lc hιl2).2, hR]) (fun hsame hext => ⟨_, nt0, hsame, {
                      size := hLR.size, state := trivial, pending := hLR.pending, fn := hLR.fn, T := hLR.T.mono (fun hv => hext.mono hlv.heap hv), params := hLR.params, assign := hLR.assign, body := hLR.body, lt := hLR.lt, defers := hLR.defers }⟩)
                  have hrb : (R.state == .busy) = false := by
                    have := hLR.state
                    cases hh' : R.state <;> cases hl' : L.state <;> rw [hh', hl'] at this <;> first | rfl | exact this.elim | exact absurd hl' hbusy
                  have hrun : (Instr.endLoop lc).run C.P w2 = .ok R.pending (w2.putObj lc (.loop { R with state := .exhausted })) := by
                    simp only [Instr.endLoop, Sem.run_bind, run_getLoop hR, run_setLoop hR, Result.andThen_ok, hrb, Sem.run_pure]
                    simp [run_setLoop hR]
                  have heT : Ext w U ι _ U2 ι2 := (he1.trans hlv.ext).trans he3
                  have hk2 : IsRel C.pure nt ((R.pending.map Item.code).toList ++ k) ((L.pending.map AItem.code).toList ++ kso) := by
                    rcases hLR.pending with ⟨e1, e2⟩ | ⟨a, c, e1, e2, hcr⟩
                    · rw [e1, e2]; exact hk
                    · rw [e1] at hjump
                      rw [e1, e2]
                      exact .cons (.code (jump_crel hcr hjump)) hk
                  have hds2 : DsRel (w2.putObj lc (.loop { R with state := .exhausted })) U2 ι2 (mark ++ fr.defers) (mc ++ ds) := by
                    have h3 : DsRel w1 U ι1 (mark ++ fr.defers) (mc ++ ds) := hdm.append hD1
                    exact (h3.mono (fun hv => hlv.ext.mono hh1 hv) hlv.ext.map).mono (fun hv => he3.mono hlv.heap hv) he3.map
                  refine Ends.head (hst2.trans (.one (st_endLoop hrun))) (Ends.mono (hs _ _ _ _ _ h nt _ U2 ι2 _ _ _ ro hk2 hsz hh3 ((hT1.mono (fun hv => hlv.ext.mono hh1 hv)).mono (fun hv => he3.mono hlv.heap hv)) hds2 (hro.mono heT.map) kd cs) (fun v w' hp => Post.of heT (fun b c hb => ?_) ?_ hp))
                  · rcases hf2 b c hb with h | h
                    · exact hf1 b c h
                    · exact .inr (by omega)
                  · simp only [AHeap.set]; omega
            · cases h
        · cases h
theorem exec_sound (hC : TOk C) (hF : ∀ f fi, C.FT f = some fi → FIok C f fi) (hx : ExtOk C) (hmix : C.P.follows .mixedOrders = true) : ∀ n, Sound C (exec C n)
  | 0 => fun fr items H r H' h => by simp [exec] at h
  | n + 1 => stepA_sound hC hF hx hmix (exec_sound hC hF hx hmix n) (exec_mono hx n)
end Go.BX

namespace Go.BX
open Go.RowKit
set_option linter.unusedSimpArgs false
set_option linter.unusedVariables false
structure COk (C : Ctx) : Prop where
  tt : ∀ t ti, C.TT t = some ti → TIok C t ti
  ft : ∀ f fi, C.FT f = some fi → FIok C f fi
  ext : ExtOk C
  mix : C.P.follows .mixedOrders = true
variable {C : Ctx} {w : World}
abbrev Old (w : World) : Nat → Prop := fun c => c < w.heap.size
theorem pcall_calls (h : COk C) {n : Nat} {f : FuncId} {args : List AV} {r : AV} (hx : C.ext f = none) (hc : pcall C n f args = some r) {vs : List Value} (ha : LsRel w (Old w) (fun _ => none) args vs) :
    Calls C.P f vs.toArray w (fun e w' => (∃ v U', e = .returned v ∧ VRel w' U' (fun _ => none) r v) ∧ Below w.heap.size w w') := by
  unfold pcall at hc
  split at hc
  · rename_i r0 H' hcall
    simp only [clOf, clMk, hx] at hcall
    split at hcall
    · rename_i fi hfi
      have hok := h.ft f fi hfi
      have hH : HRel C w (Old w) (fun _ => none) AHeap.empty := ⟨(fun b c h => by cases h), (fun b b' c h => by cases h), (fun c hc => ⟨hc, (fun b hb => by cases hb)⟩), (fun b c h => by cases h)⟩
      intro cs
      obtain ⟨cd, hs, he⟩ := frame_enter hok vs.toArray .normal
      obtain ⟨v, w', ⟨U', ι', hl, hf⟩, tmps', todo', fnn, hst, hfn, hres⟩ := exec_sound ⟨h.tt⟩ h.ft h.ext h.mix n _ _ _ _ _ hcall fi.ntmps w (Old w) (fun _ => none) (vs.toArray ++ Array.replicate (fi.ntmps - vs.toArray.size) undef) [.code cd] [] none (.cons (.code hs) .nil) (by simp; omega) hH (enter_rel ha _) .nil trivial .normal cs
      refine ⟨.returned v, w', { rf f tmps' todo' [] .normal none with mode := .returning }, ⟨⟨v, _, rfl, freeze_sound hl.heap hl.val hc⟩, ?_⟩, ?_, rfl, rfl, rfl, rfl, fnn, hfn, hres⟩
      · exact ⟨hl.ext.env.1, hl.ext.env.2.1, hl.ext.env.2.2, hl.ext.size, fun k hk => hl.ext.kept k hk (fun b hb => by cases hb)⟩
      · rw [he]; exact hst
    · cases hcall
  · cases hc
end Go.BX

