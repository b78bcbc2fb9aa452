import Derived.Test.YtckhmpcmlochpaaGreatKRVPlays1
import Derived.Defers
import Derived.RangeFuncRecord
import Derived.Below
set_option linter.unusedSimpArgs false
set_option linter.unusedVariables false
set_option linter.unnecessarySimpa false
set_option linter.unusedSectionVars false
namespace Go.BX
variable {C : Ctx} {w : World} {U : Nat → Prop} {ι : Nat → Option Nat}
theorem z2o : ∀ {es : List (List AV)} {s : Bytes}, bytesOf es = some s → ∃ ns : List Int, es = ns.map (fun n => [.int .u8 n]) ∧ s = ns.map (fun n => UInt8.ofNat n.toNat)
 | [], s, h => by simp [bytesOf] at h; subst h; exact ⟨[], rfl, rfl⟩
 | e :: es, s, h => by
  simp only [bytesOf] at h
  split at h
  ·rename_i b bs hb hbs
   cases h
   obtain ⟨ns, rfl, rfl⟩ := z2o hbs
   unfold byteOf at hb
   split at hb
   ·rename_i n; cases hb; exact ⟨n :: ns, rfl, rfl⟩
   ·cases hb
  ·cases h
theorem j7g : ∀ {ns : List Int} {vs : List Value}, LsRel w U ι (ns.map fun n => AV.int .u8 n) vs → vs = ns.map (Value.int .u8)
 | [], vs, h => by simpa using h.cases_nil
 | n :: ns, vs, h => by
  obtain ⟨v, us, rfl, hv, hus⟩ := h.cases_cons
  cases hv
  rw [j7g hus]; rfl
theorem x1q (ns : List Int) : (ns.map fun n => [AV.int .u8 n]).flatten = ns.map fun n => AV.int .u8 n := by
 induction ns with
 | nil => rfl
 | cons n ns ih => simp only [List.map_cons, List.flatten_cons] at ih ⊢; rw [ih]; rfl
theorem j9k (ns : List Int) : ∀ (b : ByteArray), (ns.foldl (fun r n => r.push (UInt8.ofNat n.toNat)) b).data.toList = b.data.toList ++ ns.map (fun n => UInt8.ofNat n.toNat) := by
 induction ns with
 | nil => intro b; simp
 | cons c s ih => intro b; rw [List.foldl_cons, ih]; simp [ByteArray.push]
theorem j9l (hC : TOk C) {H : AHeap} (hH : HRel C w U ι H) {s d : TypeId} {x r : AV} {v : Value} (hx : VRel w U ι x v) (h : convA C H s d x = some r) :
  ∃ u, (Go.convert s d v).run C.P w = .ok u w ∧ VRel w U ι r u := by
 unfold convA at h
 split at h
 ·rename_i si di hsi hdi
  have hks := (hC.tt _ _ hsi).kind
  have hkd := (hC.tt _ _ hdi).kind
  unfold KOk at hks hkd
  split at h
  ·rename_i k0 k k1 n e1 e2
   cases h
   rw [e1] at hks; rw [e2] at hkd
   cases hx
   exact ⟨_, by simp [Go.convert, run_underlying hks.1, run_underlying hkd.1, Conv.intToInt], .int _ _⟩
  ·rename_i k0 k1 n e1 e2
   rw [e1] at hks; rw [e2] at hkd
   split at h
   ·rename_i hf
    cases h
    cases hx
    have hf' := fits_iff.mp hf
    exact ⟨.float .f64 (FloatKind.f64.nearest n), by simp [Go.convert, run_underlying hks.1, run_underlying hkd.1, Conv.intToFloat], .flt _ _ (Flt.fint_nearest n hf'.1 hf'.2)⟩
   ·cases h
  ·rename_i k n e1 e2
   rw [e1] at hks; rw [e2] at hkd
   split at h
   ·rename_i hr
    cases h
    cases hx with
    | flt _ b hb =>
     have hti := Flt.toInt_int hb
     refine ⟨.int k n, ?_, .int _ _⟩
     simp only [Go.convert, Sem.run_bind, run_underlying hks.1, run_underlying hkd.1, Result.andThen_ok]
     have : (FloatKind.f64.decode b).toInt .zero = some n := hti
     simp [Conv.floatToInt, this, hr]
   ·cases h
  ·rename_i b e1 e2
   cases h
   rw [e1] at hks; rw [e2] at hkd
   cases hx with
   | str _ p hp => exact ⟨.string p, by simp [Go.convert, run_underlying hks.1, run_underlying hkd.1], .str _ _ hp⟩
  ·rename_i el e1 e2
   rw [e1] at hks; rw [e2] at hkd
   split at h
   ·rename_i es sz by_ zr eq hel hes
    simp only [Option.map_eq_some_iff] at h
    obtain ⟨s', hs', rfl⟩ := h
    have hke := (hC.tt _ _ hel).kind
    simp only [KOk] at hke
    obtain ⟨hk, a, cap, vs, rfl, hr, h1, hor⟩ := q6t hH hx hes
    obtain ⟨ns, rfl, rfl⟩ := z2o hs'
    have hfl := x1q ns
    rw [hfl] at hr
    have hvs := j7g hr
    rcases hor with ⟨rfl, he⟩ | ⟨ad, rfl, hc⟩
    ·have : ns = [] := by simpa using he
     subst this
     refine ⟨.string .empty, ?_, .str _ _ rfl⟩
     rw [run_convert_bytes_string w s d el _ _ _ hks.1 hke.1 hkd.1]
     simp [Conv.bytesToString]
    ·refine ⟨.string (ns.foldl (fun r n => r.push (UInt8.ofNat n.toNat)) ByteArray.empty), ?_, .str _ _ (by rw [j9k]; rfl)⟩
     rw [run_convert_bytes_string w s d el _ _ _ hks.1 hke.1 hkd.1]
     refine run_bytesToString w ad _ cap ns ?_
     have := run_loadCells_list (P := C.P) w ad vs hc
     rw [hvs] at this
     simpa using this
   ·cases h
  ·cases h
 ·cases h
theorem j9m (hC : TOk C) {H H' : AHeap} (hH : HRel C w U ι H) {t t' ty : TypeId} {d s r : AV} {vd vs : Value} (hd : VRel w U ι d vd) (hs : VRel w U ι s vs)
  (h : x1g C H t d s = some (r, H')) : ∃ v w', (Builtin.copy_ #[t, t'] ty #[vd, vs]).run C.P w = .ok v w' ∧ Leaves C w U ι H' r v w' U ι := by
 unfold x1g at h
 split at h
 ·rename_i elem sz by_ zr eq hti
  have hk := (hC.tt _ _ hti).kind
  simp only [KOk] at hk
  split at h
  ·cases h
  ·rename_i te hte
   have hok := hC.tt _ _ hte
   split at h
   ·rename_i b k i n new j9d
    obtain ⟨hnk, hnl, hn1, nvs, hnr, _, hnf⟩ := q7o hH hs j9d
    split at h
    ·rename_i t2 k' es hbl
     split at h
     ·rename_i hcond
      obtain ⟨rfl, rfl, hle⟩ := hcond
      cases h
      cases hd with
      | slc _ _ _ _ c off cap m tt hι ho hncap hsh hm =>
       have hbr := hH.blk b c hι
       rw [hbl] at hbr
       obtain ⟨cs, hcs, hkk, hr⟩ := hbr
       obtain ⟨hlr, hlsz, hl1⟩ := z4w hkk hr
       have y0b : min new.length n ≤ new.length := Nat.min_le_left _ _
       have hfc := hnf (min new.length n) y0b w rfl
       have q2u : (nvs.take (min new.length n * te.size)).length = min new.length n * te.size := by
        rw [List.length_take, hnr.1, q5s hnk, Nat.min_eq_left (Nat.mul_le_mul_right _ y0b)]
       have hrl : LsRel w U ι (new.take (min new.length n)).flatten (nvs.take (min new.length n * te.size)) := by
        rw [q4k _ hnk]; exact hnr.take _
       by_cases hz : min new.length n = 0
       ·-- nothing is copied
        refine ⟨.int .i64 ((min new.length n : Nat) : Int), w, ?_, ?_⟩
        ·unfold Builtin.copy_
         have e0 : nvs.take (min new.length n * te.size) = [] := by rw [hz]; simp
         rw [e0] at hfc
         simp only [List.getElem?_toArray, List.getElem?_cons_zero, List.getElem?_cons_succ, Sem.run_bind, run_underlying hk.1, Result.andThen_ok, hnl, hok.run_sizeOf]
         rw [show Nat.min new.length n = min new.length n from rfl, hfc]
         simp [storeCells, goInt]
        ·have e1 : es.take i ++ new.take (min new.length n) ++ es.drop (i + min new.length n) = es := by rw [hz]; simp
         rw [e1]
         have e2 : H.set b (.cells t2 te.size es) = H := by
          unfold AHeap.set
          congr 1
          funext x
          by_cases e : x = b
          ·subst e; rw [upd_same, hbl]
          ·rw [q2d _ _ e]
         rw [e2]
         exact ⟨Ext.refl _ _ _, hH, .int _ _⟩
       ·have hn0 : n ≠ 0 := by rintro rfl; simp at hz
        have x6n := ho (.inl hn0)
        subst x6n
        have y8e : i * te.size + (nvs.take (min new.length n * te.size)).length ≤ cs.size := by
         rw [q2u, ← Nat.add_mul]
         have : (i + min new.length n) * te.size ≤ es.length * te.size := Nat.mul_le_mul_right _ (by omega)
         omega
        have y0h : ∀ v, v ∈ nvs.take (min new.length n * te.size) → v.oneCell' = true := z1t hrl (fun a ha => hn1 a (by rw [q4k _ hnk] at ha; exact List.mem_of_mem_take ha))
        have hst := run_storeCells_at C.P c (i * te.size) t2 (nvs.take (min new.length n * te.size)) 0 cs w hcs (by simpa using y8e) y0h
        simp only [Nat.add_zero] at hst
        have w7n : (cs.toList.take (i * te.size) ++ nvs.take (min new.length n * te.size) ++ cs.toList.drop (i * te.size + (nvs.take (min new.length n * te.size)).length)).toArray.size = cs.size := by
         simp only [List.size_toArray, List.length_append, List.length_take, List.length_drop, Array.length_toList] at y8e ⊢; omega
        have hes' : ∀ e, e ∈ es.take i ++ new.take (min new.length n) ++ es.drop (i + min new.length n) → e.length = te.size := by
         intro e he
         simp only [List.mem_append] at he
         rcases he with (he | he) | he
         ·exact hkk e (List.mem_of_mem_take he)
         ·exact hnk e (List.mem_of_mem_take he)
         ·exact hkk e (List.mem_of_mem_drop he)
        obtain ⟨h1, h2⟩ := z4x hH hι hcs w7n (by rw [hbl]; rfl) (blk := .cells t2 te.size (es.take i ++ new.take (min new.length n) ++ es.drop (i + min new.length n))) (fun hmv => by
         have x6o : (es.take i ++ new.take (min new.length n) ++ es.drop (i + min new.length n)).flatten = es.flatten.take (i * te.size) ++ new.flatten.take (min new.length n * te.size) ++ es.flatten.drop ((i + min new.length n) * te.size) := by
          rw [List.flatten_append, List.flatten_append, q4k _ hkk, q4k _ hnk, j1t _ hkk]
         refine z1s (vs := (cs.toList.take (es.length * te.size)).take (i * te.size) ++ nvs.take (min new.length n * te.size) ++ (cs.toList.take (es.length * te.size)).drop ((i + min new.length n) * te.size)) (setRow_heap w c cs _ t2 _ hcs) hes' ?_ (fun a ha => ?_) (fun j v hv => ?_)
         ·rw [x6o]
          exact (((hlr.take _).append (hnr.take _)).append (hlr.drop _)).mono hmv
         ·rw [x6o] at ha
          simp only [List.mem_append] at ha
          rcases ha with (ha | ha) | ha
          ·exact hl1 a (List.mem_of_mem_take ha)
          ·exact hn1 a (List.mem_of_mem_take ha)
          ·exact hl1 a (List.mem_of_mem_drop ha)
         ·have hile : i * te.size ≤ es.length * te.size := Nat.mul_le_mul_right _ (by omega)
          have e1 : (cs.toList.take (es.length * te.size)).take (i * te.size) = cs.toList.take (i * te.size) := by rw [List.take_take, Nat.min_eq_left hile]
          rw [e1] at hv
          rw [List.getElem?_toArray, q2u]
          rw [List.getElem?_append] at hv ⊢
          split at hv
          ·rename_i hlt; rw [if_pos hlt]; exact hv
          ·rename_i hlt
           rw [if_neg hlt]
           rw [List.getElem?_drop, List.getElem?_take] at hv
           split at hv
           ·rw [List.getElem?_drop, ← Nat.add_mul]; exact hv
           ·cases hv)
        refine ⟨.int .i64 ((min new.length n : Nat) : Int), _, ?_, h1, h2, .int _ _⟩
        unfold Builtin.copy_
        simp only [List.getElem?_toArray, List.getElem?_cons_zero, List.getElem?_cons_succ, Sem.run_bind, run_underlying hk.1, Result.andThen_ok, hnl, hok.run_sizeOf]
        rw [show Nat.min new.length n = min new.length n from rfl, hfc]
        simp only [Result.andThen_ok, Sem.run_bind]
        rw [hst]
        simp [goInt]
     ·cases h
    ·cases h
   ·rename_i new j9d
    obtain ⟨hnk, hnl, hn1, nvs, hnr, _, hnf⟩ := q7o hH hs j9d
    cases h
    cases hd
    refine ⟨.int .i64 0, w, ?_, Ext.refl _ _ _, hH, .int _ _⟩
    have hfc := hnf 0 (Nat.zero_le _) w rfl
    unfold Builtin.copy_
    simp only [List.getElem?_toArray, List.getElem?_cons_zero, List.getElem?_cons_succ, Sem.run_bind, run_underlying hk.1, Result.andThen_ok, hnl, hok.run_sizeOf]
    rw [show Nat.min new.length 0 = 0 from Nat.min_zero _, hfc]
    simp [goInt]
   ·cases h
 ·cases h
theorem j9n {H H' : AHeap} (hH : HRel C w U ι H) {b k s0 : Nat} {s : Bytes} {pos : Nat} {ty : TypeId} {u : Value} (hx : VRel w U ι (.ptr b k 0 0) u) (hbl : H.at_ b = .iter s pos) (hlt : pos < s.length) :
  ∃ w', (Instr.next u true ty).run C.P w = .ok (.tuple #[.bool true, .int .i64 pos, .int .i32 (Utf8.decode ⟨s.toArray⟩ pos).1]) w' ∧ Ext w U ι w' U ι ∧ HRel C w' U ι (H.set b (.iter s (pos + (Utf8.decode ⟨s.toArray⟩ pos).2))) := by
 cases hx with
 | ptr _ _ _ _ c hι =>
  have hbr := hH.blk b c hι
  rw [hbl] at hbr
  obtain ⟨bs, hbs, hc⟩ := hbr
  have hbse : bs = ⟨s.toArray⟩ := by subst hbs; simp
  subst hbse
  have w7k := (hH.dom b c hι).2
  let w' : World := { w with heap := w.heap.setIfInBounds c (.stringIter ⟨s.toArray⟩ (pos + (Utf8.decode ⟨s.toArray⟩ pos).2)) }
  have q6h : w'.heap[c]? = some (.stringIter ⟨s.toArray⟩ (pos + (Utf8.decode ⟨s.toArray⟩ pos).2)) := by simp [w', w7k]
  have q8i : ∀ d, d ≠ c → w'.heap[d]? = w.heap[d]? := fun d hd => by simp [w', Array.getElem?_setIfInBounds, Ne.symm hd]
  have hsh : ∀ d, w'.shape? d = w.shape? d := fun d => by
   by_cases e : d = c
   ·subst e; unfold World.shape?; rw [q6h, hc]
   ·exact q1d (q8i d e)
  have q3y : Ext w U ι w' U ι :=
   {map := fun _ _ h => h, rng := fun b _ h => .inl ⟨b, h⟩, imm := fun _ h => h, new := fun _ h => .inl h, size := by simp [w']
    kept := fun d _ hn => q8i d (fun e => hn b (by rw [e]; exact hι))
    shape := fun d _ => hsh d, env := ⟨rfl, rfl, rfl⟩ }
  refine ⟨w', ?_, q3y, fun b' c' h => ?_, fun b1 b2 c' h1 h2 d1 d2 => ?_, fun c' h => ?_, fun b' c' h => ?_⟩
  ·unfold Instr.next
   have hsz : pos < (⟨s.toArray⟩ : ByteArray).size := hlt
   have hg : (getObj c).run C.P w = .ok (.stringIter ⟨s.toArray⟩ pos) w := by simp only [getObj, Sem.run, hc]
   simp only [Nat.zero_mul, Nat.add_zero, Sem.run_bind, hg, Result.andThen_ok, hsz, if_true]
   have y0l : (setObj c (.stringIter ⟨s.toArray⟩ (pos + (Utf8.decode ⟨s.toArray⟩ pos).2))).run C.P w = .ok () w' := by simp only [setObj, Sem.run, hc]; rfl
   simp only [y0l, Result.andThen_ok, Sem.run_pure, goInt]
  ·have := hH.dom b' c' h; exact ⟨by simpa [AHeap.set] using this.1, by simpa [w'] using this.2⟩
  ·have live : ∀ b', ((H.set b (.iter s (pos + (Utf8.decode ⟨s.toArray⟩ pos).2))).at_ b').isDead = false → (H.at_ b').isDead = false := by
    intro b' h'
    by_cases e : b' = b
    ·subst e; rw [hbl]; rfl
    ·simp only [AHeap.set, q2a e] at h'; exact h'
   exact hH.inj b1 b2 c' h1 h2 (live b1 d1) (live b2 d2)
  ·have := hH.imm c' h; exact ⟨by simpa [w'] using this.1, this.2⟩
  ·by_cases e : b' = b
   ·subst e
    rw [hι] at h; cases h
    simp only [AHeap.set, upd_same]
    exact ⟨_, hbs, q6h⟩
   ·simp only [AHeap.set]
    rw [q2d _ _ e]
    by_cases hdd : (H.at_ b').isDead = true
    ·cases hx : H.at_ b' <;> rw [hx] at hdd <;> simp [Blk.isDead] at hdd
     trivial
    ·have hne : c' ≠ c := by
      rintro rfl
      exact e (hH.inj b' b _ h hι (by simpa using hdd) (by rw [hbl]; rfl))
     exact (hH.blk b' c' h).mono (fun hv => q3y.mono hH hv) (fun _ _ h => h) (q8i c' hne)
theorem j1w {P : Program} {t : TypeId} (h : z2j P t = true) : ∃ k v, P.underlying t = some (.map k v) ∧ P.underlying k = some .string := by
 unfold z2j at h
 split at h
 ·rename_i k v hk
  split at h
  ·rename_i hs; exact ⟨k, v, hk, hs⟩
  ·cases h
 ·cases h
theorem z1u {P : Program} {t : TypeId} {d : TypeDesc} {w : World} (h : P.underlying t = some d) : (underlying t).run P w = .ok d w := run_underlying h w
theorem z9p {H : AHeap} (hH : HRel C w U ι H) {t : TypeId} :
  ∃ v w' ι', (Instr.makeMap t none).run C.P w = .ok v w' ∧ Leaves C w U ι (H.push (.mp [])) (.mpp H.next) v w' U ι' ∧ Reads w ι H (H.push (.mp [])) w' ι' := by
 obtain ⟨h1, h2, h3⟩ := q8m hH (w' := w.alloc (.map #[] 0)) (o := .map #[] 0) rfl (.mp []) ⟨#[], 0, by rw [World.alloc, Array.getElem?_push]; simp, rfl⟩
 refine ⟨.map (some w.heap.size), w.alloc (.map #[] 0), _, ?_, ⟨h1, h2, .mpp _ _ (upd_same _ _ _)⟩, h3⟩
 unfold Instr.makeMap
 simp
theorem j7h {es : List MapEntry} {l : List (Bytes × Bytes)} {kk : Bytes} {kb : ByteArray} (hk : kb.data.toList = kk) (h : es.map (fun e => (e.key, e.val)) = l.map fun p => (Value.string ⟨p.1.toArray⟩, Value.string ⟨p.2.toArray⟩)) (i : Nat) :
  (j4q l kk = none → Instr.findNow .string (.string kb) es i = some none) ∧ (∀ v, j4q l kk = some v → ∃ j, Instr.findNow .string (.string kb) es i = some (some (j, .string ⟨v.toArray⟩))) := by
 induction es generalizing l i with
 | nil =>
  cases l with
  | nil => exact ⟨fun _ => rfl, fun v hv => by cases hv⟩
  | cons p l => cases h
 | cons e es ih =>
  cases l with
  | nil => cases h
  | cons p l =>
   rw [List.map_cons, List.map_cons, List.cons.injEq, Prod.mk.injEq] at h
   obtain ⟨⟨h1, h2⟩, h3⟩ := h
   have ih := ih h3 (i + 1)
   have hs : Instr.sameNow .string (.string kb) e.key = some (kk == p.1) := by
    rw [h1]
    show some (kb == ⟨p.1.toArray⟩) = _
    congr 1
    subst hk
    show (kb.data == p.1.toArray) = _
    rw [Bool.eq_iff_iff, beq_iff_eq, beq_iff_eq]
    constructor
    ·intro h4; rw [h4]
    ·intro h4; rw [← h4]
   have hg : j4q (p :: l) kk = if kk == p.1 then some p.2 else j4q l kk := rfl
   rw [hg]
   have hf : Instr.findNow .string (.string kb) (e :: es) i = (match Instr.sameNow .string (.string kb) e.key with | some true => some (some (i, e.val)) | some false => Instr.findNow .string (.string kb) es (i + 1) | none => none) := rfl
   rw [hf, hs]
   cases hb : (kk == p.1) with
   | true =>
    rw [if_pos rfl]
    refine ⟨fun h => (by cases h), fun v hv => ?_⟩
    cases hv
    exact ⟨i, by rw [h2]⟩
   | false =>
    rw [if_neg (by decide)]
    exact ih
theorem j1x {H : AHeap} (hH : HRel C w U ι H) {t : TypeId} {b : Nat} {kk v : Bytes} {es : List (Bytes × Bytes)} {um uk uv : Value} (hm : VRel w U ι (.mpp b) um) (hk : VRel w U ι (.str kk) uk) (hv : VRel w U ι (.str v) uv) (hbl : H.at_ b = .mp es) (ht : z2j C.P t = true) (hno : j4q es kk = none) :
  ∃ w', (Instr.mapUpdate t um uk uv).run C.P w = .ok () w' ∧ Ext w U ι w' U ι ∧ HRel C w' U ι (H.set b (.mp (es ++ [(kk, v)]))) := by
 obtain ⟨kt, vt, hmt, hkt⟩ := j1w ht
 cases hm with
 | mpp _ c hι =>
  cases hk with
  | str _ kb hkb =>
   cases hv with
   | str _ vb hvb =>
    have hbr := hH.blk b c hι
    rw [hbl] at hbr
    obtain ⟨ents, ck, hc, hents⟩ := hbr
    have w7k := (hH.dom b c hι).2
    let o : Obj := .map (ents.push { key := .string kb, val := .string vb, born := ck }) (ck + 1)
    let w' : World := { w with heap := w.heap.setIfInBounds c o }
    have q6h : w'.heap[c]? = some o := by simp [w', w7k]
    have q8i : ∀ d, d ≠ c → w'.heap[d]? = w.heap[d]? := fun d hd => by simp [w', Array.getElem?_setIfInBounds, Ne.symm hd]
    have hsh : ∀ d, w'.shape? d = w.shape? d := fun d => by
     by_cases e : d = c
     ·subst e; unfold World.shape?; rw [q6h, hc]
     ·exact q1d (q8i d e)
    have q3y : Ext w U ι w' U ι :=
     {map := fun _ _ h => h, rng := fun b _ h => .inl ⟨b, h⟩, imm := fun _ h => h, new := fun _ h => .inl h, size := by simp [w']
      kept := fun d _ hn => q8i d (fun e => hn b (by rw [e]; exact hι))
      shape := fun d _ => hsh d, env := ⟨rfl, rfl, rfl⟩ }
    refine ⟨w', ?_, q3y, fun b' c' h => ?_, fun b1 b2 c' h1 h2 d1 d2 => ?_, fun c' h => ?_, fun b' c' h => ?_⟩
    ·unfold Instr.mapUpdate
     have hg : (getObj c).run C.P w = .ok (.map ents ck) w := by simp only [getObj, Sem.run, hc]
     have hck : (Instr.checkKey false 10000 kt (.string kb)).run C.P w = .ok () w := by
      show (do match ← underlying kt, Value.string kb with | _, _ => _ : Sem Unit).run C.P w = _
      simp only [Sem.run_bind, z1u hkt, Result.andThen_ok, Sem.run_pure]
     have hfn := (j7h (i := 0) hkb hents).1 hno
     have hfk : (Instr.findKey kt (.string kb) ents.toList).run C.P w = .ok none w := by
      unfold Instr.findKey
      simp only [Sem.run_bind, z1u hkt, Result.andThen_ok, hfn, Sem.run_pure]
     have y0l : (setObj c o).run C.P w = .ok () w' := by simp only [setObj, Sem.run, hc]; rfl
     simp only [Sem.run_bind, z1u hmt, Result.andThen_ok, hg, hck, hfk]
     exact y0l
    ·have := hH.dom b' c' h; exact ⟨by simpa [AHeap.set] using this.1, by simpa [w'] using this.2⟩
    ·have live : ∀ b', ((H.set b (.mp (es ++ [(kk, v)]))).at_ b').isDead = false → (H.at_ b').isDead = false := by
      intro b' h'
      by_cases e : b' = b
      ·subst e; rw [hbl]; rfl
      ·simp only [AHeap.set, q2a e] at h'; exact h'
     exact hH.inj b1 b2 c' h1 h2 (live b1 d1) (live b2 d2)
    ·have := hH.imm c' h; exact ⟨by simpa [w'] using this.1, this.2⟩
    ·by_cases e : b' = b
     ·subst e
      rw [hι] at h; cases h
      simp only [AHeap.set, upd_same]
      refine ⟨_, _, q6h, ?_⟩
      rw [Array.toList_push, List.map_append, hents, List.map_append, ← hkb, ← hvb]
      rfl
     ·simp only [AHeap.set]
      rw [q2d _ _ e]
      by_cases hdd : (H.at_ b').isDead = true
      ·cases hx : H.at_ b' <;> rw [hx] at hdd <;> simp [Blk.isDead] at hdd
       trivial
      ·have hne : c' ≠ c := by
        rintro rfl
        exact e (hH.inj b' b _ h hι (by simpa using hdd) (by rw [hbl]; rfl))
       exact (hH.blk b' c' h).mono (fun hv => q3y.mono hH hv) (fun _ _ h => h) (q8i c' hne)
theorem j1y {H : AHeap} (hH : HRel C w U ι H) {t : TypeId} {b : Nat} {kk v : Bytes} {es : List (Bytes × Bytes)} {um uk : Value} (hm : VRel w U ι (.mpp b) um) (hk : VRel w U ι (.str kk) uk) (hbl : H.at_ b = .mp es) (ht : z2j C.P t = true) (hg : j4q es kk = some v) :
  ∃ u, (Instr.lookup t um uk false).run C.P w = .ok u w ∧ VRel w U ι (.str v) u := by
 obtain ⟨kt, vt, hmt, hkt⟩ := j1w ht
 cases hm with
 | mpp _ c hι =>
  cases hk with
  | str _ kb hkb =>
   have hbr := hH.blk b c hι
   rw [hbl] at hbr
   obtain ⟨ents, ck, hc, hents⟩ := hbr
   refine ⟨.string ⟨v.toArray⟩, ?_, .str _ _ rfl⟩
   unfold Instr.lookup
   have hgo : (getObj c).run C.P w = .ok (.map ents ck) w := by simp only [getObj, Sem.run, hc]
   have hck : (Instr.checkKey ents.isEmpty 10000 kt (.string kb)).run C.P w = .ok () w := by
    show (do match ← underlying kt, Value.string kb with | _, _ => _ : Sem Unit).run C.P w = _
    simp only [Sem.run_bind, z1u hkt, Result.andThen_ok, Sem.run_pure]
   obtain ⟨j, hfn⟩ := (j7h (i := 0) hkb hents).2 v hg
   have hfk : (Instr.findKey kt (.string kb) ents.toList).run C.P w = .ok (some (j, .string ⟨v.toArray⟩)) w := by
    unfold Instr.findKey
    simp only [Sem.run_bind, z1u hkt, Result.andThen_ok, hfn, Sem.run_pure]
   simp only [Sem.run_bind, z1u hmt, Result.andThen_ok, hgo, hck, hfk, Sem.run_pure, Bool.false_eq_true, if_false]
end Go.BX
namespace Go.BX
variable {C : Ctx} {w : World} {U : Nat → Prop} {ι : Nat → Option Nat}
def q7i (U : Nat → Prop) (ι : Nat → Option Nat) : Nat → Prop := fun c => U c ∨ ∃ b, ι b = some c
theorem z4y {H : AHeap} {d : Nat} {a r : AV} (h : q1h H d a = some r) (h1 : a.one = true) : r.one = true := by
 unfold q1h at h
 split at h
 ·split at h
  ·simp only [Option.map_eq_some_iff] at h; obtain ⟨_, _, rfl⟩ := h; rfl
  ·cases h
 ·split at h
  ·cases h; exact h1
  ·cases h
theorem z0o {H : AHeap} (hH : HRel C w U ι H) : ∀ (d : Nat) {a r : AV} {v : Value}, VRel w U ι a v → q1h H d a = some r → VRel w (q7i U ι) (fun _ => none) r v := by
 have mono : ∀ {a : AV} {v : Value} {ι' : Nat → Option Nat}, VRel w U ι' a v → VRel w (q7i U ι) ι' a v := fun hv => hv.mono (fun _ h => .inl h) (fun _ _ => rfl) (fun _ _ h => h) _ (fun _ _ h => h)
 intro d
 induction d with
 | zero =>
  intro a r v hv h
  have : a.flat1 = true ∧ r = a := by
   cases a <;> simp [q1h] at h <;> first | exact ⟨h.1, h.2.symm⟩ | (simp [AV.flat1] at h; done) | (obtain ⟨h1, rfl⟩ := h; exact ⟨h1, rfl⟩)
  obtain ⟨hf, rfl⟩ := this
  exact mono (hv.flat1 hf _)
 | succ d ih =>
  intro a r v hv h
  by_cases hs : ∃ b k i n, a = .slc b k i n
  ·obtain ⟨b, k, i, n, rfl⟩ := hs
   simp only [q1h] at h
   split at h
   ·rename_i es hes
    simp only [Option.map_eq_some_iff] at h
    obtain ⟨fs, hfs, rfl⟩ := h
    obtain ⟨hk, a, cap, vs, hva, hr, h1, hor⟩ := q6t hH hv hes
    have q2u := q4g hfs
    have hfk : ∀ e, e ∈ fs → e.length = k := by
     intro e he
     obtain ⟨p, hp⟩ := List.getElem?_of_mem he
     obtain ⟨e0, he0, hm⟩ := q3b hfs p e hp
     rw [q4g hm]
     exact hk e0 (List.mem_of_getElem? he0)
    cases hv with
    | slc _ _ _ _ c off cap' m t hb ho hn hsh hm =>
     simp only [Value.slice.injEq] at hva
     obtain ⟨rfl, hn', rfl⟩ := hva
     rw [hn', ← q2u]
     rcases hor with ⟨h0, _⟩ | ⟨ad, had, hc⟩
     ·cases h0
     ·cases had
      refine .vec fs ⟨c, off, none⟩ k cap' (fun p q => vs.getD (p * k + q) undef) (by rw [q2u, ← hn']; exact hn) hfk (fun _ => .inr ⟨b, hb⟩) (fun _ => rfl) (fun p q hp hq => ?_) (fun e he x hx => ?_) (fun p e q x he hx => ?_)
      ·have hlt : p * k + q < vs.length := by
        rw [hr.1, q5s hk]
        have : (p + 1) * k ≤ es.length * k := Nat.mul_le_mul_right _ (by rw [q2u] at hp; exact hp)
        rw [Nat.add_mul] at this; omega
       have := hc (p * k + q) _ (List.getElem?_eq_getElem hlt)
       rw [Addr.add_eq, ← Nat.add_assoc] at this
       rw [this]
       simp [List.getD, List.getElem?_eq_getElem hlt]
      ·obtain ⟨p, hp⟩ := List.getElem?_of_mem he
       obtain ⟨e0, he0, hm⟩ := q3b hfs p e hp
       obtain ⟨q, hq⟩ := List.getElem?_of_mem hx
       obtain ⟨x0, hx0, hf0⟩ := q3b hm q x hq
       exact z4y hf0 (h1 x0 (by rw [List.mem_flatten]; exact ⟨e0, List.mem_of_getElem? he0, List.mem_of_getElem? hx0⟩))
      ·obtain ⟨e0, he0, hm⟩ := q3b hfs p e he
       obtain ⟨x0, hx0, hf0⟩ := q3b hm q x hx
       have w7c : es.flatten[p * k + q]? = some x0 := by
        have j7b : ∀ (es : List (List AV)) (p : Nat) (e0 : List AV), (∀ e, e ∈ es → e.length = k) → es[p]? = some e0 → ∀ (q : Nat) (x0 : AV), e0[q]? = some x0 → es.flatten[p * k + q]? = some x0 := by
         intro es
         induction es with
         | nil => intro p e0 _ h; simp at h
         | cons y es ih =>
          intro p e0 hk he j a ha
          have hx : y.length = k := hk y (by simp)
          cases p with
          | zero =>
           simp at he; subst he
           have hj : j < y.length := (List.getElem?_eq_some_iff.mp ha).1
           simp only [List.flatten_cons, Nat.zero_mul, Nat.zero_add]
           rw [List.getElem?_append_left hj]; exact ha
          | succ i =>
           simp at he
           have := ih i e0 (fun e he => hk e (by simp [he])) he j a ha
           simp only [List.flatten_cons]
           rw [List.getElem?_append_right (by rw [hx, Nat.add_mul]; omega), hx]
           rw [show (i + 1) * k + j - k = i * k + j from by rw [Nat.add_mul]; omega]
           exact this
        exact j7b es p e0 hk he0 q x0 hx0
       obtain ⟨u, hu, hur⟩ := hr.get w7c
       have : vs.getD (p * k + q) undef = u := by simp [List.getD, hu]
       rw [this]
       exact ih hur hf0
   ·cases h
  ·have : a.flat1 = true ∧ r = a := by
    cases a <;> first | (exact absurd ⟨_, _, _, _, rfl⟩ hs) | (simp [q1h] at h; first | (obtain ⟨h1, rfl⟩ := h; exact ⟨h1, rfl⟩) | (simp [AV.flat1] at h; done))
   obtain ⟨hf, rfl⟩ := this
   exact mono (hv.flat1 hf _)
theorem z0p {H : AHeap} (hH : HRel C w U ι H) {a r : AV} {v : Value} (hv : VRel w U ι a v) (h : q2s H a = some r) : VRel w (q7i U ι) (fun _ => none) r v := by
 have mono : ∀ {a : AV} {v : Value} {ι' : Nat → Option Nat}, VRel w U ι' a v → VRel w (q7i U ι) ι' a v := fun hv => hv.mono (fun _ h => .inl h) (fun _ _ => rfl) (fun _ _ h => h) _ (fun _ _ h => h)
 unfold q2s at h
 split at h
 ·rename_i cs
  simp only [Option.map_eq_some_iff] at h
  obtain ⟨ds, hds, rfl⟩ := h
  cases hv with
  | agg _ vs hl h1 hr =>
   refine .agg ds vs (by rw [hl, q4g hds]) (fun a ha => ?_) (fun i a v ha hv => ?_)
   ·obtain ⟨p, hp⟩ := List.getElem?_of_mem ha
    obtain ⟨a0, ha0, hf⟩ := q3b hds p a hp
    exact z4y hf (h1 a0 (List.mem_of_getElem? ha0))
   ·obtain ⟨a0, ha0, hf⟩ := q3b hds i a ha
    exact z0o hH 4 (hr i a0 v ha0 hv) hf
 ·split at h
  ·rename_i hf
   cases h
   exact mono (hv.flat2 hf _)
  ·cases h
 ·exact z0o hH 4 hv h
theorem q5t {H : AHeap} (hH : HRel C w U ι H) {a r : AV} {v : Value} (hv : VRel w U ι a v) (h : freeze H a = some r) : VRel w (q7i U ι) (fun _ => none) r v := by
 unfold freeze at h
 split at h
 ·simp only [Option.map_eq_some_iff] at h
  obtain ⟨ds, hds, rfl⟩ := h
  cases hv with
  | tuple _ vs hl hr =>
   refine .tuple ds vs (by rw [hl, q4g hds]) (fun i a v ha hv => ?_)
   obtain ⟨a0, ha0, hf⟩ := q3b hds i a ha
   exact z0p hH (hr i a0 v ha0 hv) hf
 ·exact z0p hH hv h
end Go.BX
namespace Go.BX
section
variable {P : Program} {fn : FuncId} {tmps : Array Value} {k : List Item} {ds : List Deferred} {kd : CallKind} {ro : Option Nat} {cs : List Frame} {w : World}
abbrev rf (fn : FuncId) (tmps : Array Value) (todo : List Item) (ds : List Deferred) (kd : CallKind) (ro : Option Nat) : Frame := { fn := fn, tmps := tmps, todo := todo, defers := ds, mode := .run, kind := kd, roundOf := ro }
theorem y3j : step P (lone (rf fn tmps (.code .skip :: k) ds kd ro) cs w) = .next (lone (rf fn tmps k ds kd ro) cs w) := step_lone_go (by simp [stepG, stepG.exec])
theorem x7d {l : Nat} : step P (lone (rf fn tmps (.code (.label l) :: k) ds kd ro) cs w) = .next (lone (rf fn tmps k ds kd ro) cs w) := step_lone_go (by simp [stepG, stepG.exec])
theorem j9o {id : Nat} : step P (lone (rf fn tmps (.inBlock id :: k) ds kd ro) cs w) = .next (lone (rf fn tmps k ds kd ro) cs w) := step_lone_go (by simp [stepG, stepG.exec])
theorem j9p {c : Code} : step P (lone (rf fn tmps (.inScope c :: k) ds kd ro) cs w) = .next (lone (rf fn tmps k ds kd ro) cs w) := step_lone_go (by simp [stepG, stepG.exec])
theorem y8n {a b : Code} : step P (lone (rf fn tmps (.code (.seq a b) :: k) ds kd ro) cs w) = .next (lone (rf fn tmps (.code a :: .code b :: k) ds kd ro) cs w) := step_lone_go (by simp [stepG, stepG.exec])
theorem x7e {id : Nat} {c : Code} : step P (lone (rf fn tmps (.code (.block id c) :: k) ds kd ro) cs w) = .next (lone (rf fn tmps (.code c :: .inBlock id :: k) ds kd ro) cs w) := step_lone_go (by simp [stepG, stepG.exec])
theorem y3k {c : Code} : step P (lone (rf fn tmps (.code (.loop c) :: k) ds kd ro) cs w) = .next (lone (rf fn tmps (.code c :: .inLoop c :: k) ds kd ro) cs w) := step_lone_go (by simp [stepG, stepG.exec])
theorem x1r {c : Code} : step P (lone (rf fn tmps (.inLoop c :: k) ds kd ro) cs w) = .next (lone (rf fn tmps (.code c :: .inLoop c :: k) ds kd ro) cs w) := step_lone_go (by simp [stepG, stepG.exec])
theorem x7f {c : Code} : step P (lone (rf fn tmps (.code (.scope c) :: k) ds kd ro) cs w) = .next (lone (rf fn tmps (.code c :: .inScope c :: k) ds kd ro) cs w) := step_lone_go (by simp [stepG, stepG.exec])
theorem y3l {c : Operand} {a b : Code} {t : Bool} (h : (rf fn tmps (.code (.cond c a b) :: k) ds kd ro).eval c = .bool t) :
  step P (lone (rf fn tmps (.code (.cond c a b) :: k) ds kd ro) cs w) = .next (lone (rf fn tmps (.code (if t then a else b) :: k) ds kd ro) cs w) := step_lone_go (by simp [stepG, stepG.exec, h])
theorem y3m {id : Nat} {k' : List Item} (h : exitTo id k = some k') : step P (lone (rf fn tmps (.code (.exit id) :: k) ds kd ro) cs w) = .next (lone (rf fn tmps k' ds kd ro) cs w) := step_lone_go (by simp [stepG, stepG.exec, h])
theorem y3n {l : Nat} {k' : List Item} (h : gotoIn l k = some k') : step P (lone (rf fn tmps (.code (.goto l) :: k) ds kd ro) cs w) = .next (lone (rf fn tmps k' ds kd ro) cs w) := step_lone_go (by simp [stepG, stepG.exec, h])
theorem x1s {id : Nat} {ops : Array Oper} : step P (lone (rf fn tmps (.code (.region id ops false) :: k) ds kd ro) cs w) = .next (lone (rf fn tmps (.inRegion ops (List.range ops.size) :: k) ds kd ro) cs w) := step_lone_go (by simp [stepG, stepG.exec])
theorem z7g {id : Nat} {ops : Array Oper} : step P (lone (rf fn tmps (.code (.region id ops true) :: k) ds kd ro) cs w) =
  .next (lone (rf fn tmps (.inRegion ops (Region.schedule (P.follows .mixedOrders) ops (w.tape w.drawn (.order fn id))) :: k) ds kd ro) cs w.drew) :=
 step_lone_go (by simp [stepG, stepG.exec, choose, Sem.run, Question.forced, Question.cut])
theorem q6u {ops : Array Oper} : step P (lone (rf fn tmps (.inRegion ops [] :: k) ds kd ro) cs w) = .next (lone (rf fn tmps k ds kd ro) cs w) := step_lone_go (by simp [stepG, stepG.exec])
theorem z9q : step P (lone (rf fn tmps (.code .ret :: k) ds kd none) cs w) = .next (lone { rf fn tmps (.code .ret :: k) ds kd none with mode := .returning } cs w) := step_lone_go (by simp [stepG, stepG.exec])
theorem z9r : step P (lone (rf fn tmps [] ds kd none) cs w) = .next (lone { rf fn tmps [] ds kd none with mode := .returning } cs w) := step_lone_go (by simp [stepG, stepG.exec])
theorem x1t {todo : List Item} : (rf fn tmps todo ds kd ro).eval = ({ tmps := tmps, defers := ds } : Act).eval := by funext x; cases x <;> rfl
def z6z (tmps : Array Value) (dst : Option Nat) (v : Value) : Array Value :=
 match dst with
 | some d => tmps.setIfInBounds d v
 | none => tmps
theorem q7p {ops : Array Oper} {i : Nat} {rest : List Nat} {v : Value} : (rf fn tmps (.inRegion ops (i :: rest) :: k) ds kd ro).finish v = rf fn (z6z tmps ((ops[i]?).bind (·.dst)) v) (.inRegion ops rest :: k) ds kd ro := by
 cases h : (ops[i]?).bind (·.dst) <;> simp [Frame.finish, h, z6z]
theorem j9q {ops : Array Oper} {i : Nat} {rest : List Nat} (h : ((ops[i]?).map (Region.wanted · (yielded ops tmps))).getD false = false) :
  step P (lone (rf fn tmps (.inRegion ops (i :: rest) :: k) ds kd ro) cs w) = .next (lone (rf fn (z6z tmps ((ops[i]?).bind (·.dst)) undef) (.inRegion ops rest :: k) ds kd ro) cs w) := by
 rw [← q7p]
 exact step_lone_go (by simp only [stepG, stepG.exec, h]; simp)
theorem z3x {ops : Array Oper} {i : Nat} {rest : List Nat} {o : Oper} (ho : ops[i]? = some o) (hw : Region.wanted o (yielded ops tmps) = true) (hd : ro = none ∨ q2t o.op = false) :
  stepG P true { frame := rf fn tmps (.inRegion ops (i :: rest) :: k) ds kd ro, callers := cs, status := .running, dying := none } w =
   stepG.apply P true (rf fn tmps (.inRegion ops (i :: rest) :: k) ds kd ro) cs none (execOp ({ tmps := tmps, defers := ds } : Act).eval o) w := by
 have he := @x1t fn tmps ds kd ro (.inRegion ops (i :: rest) :: k)
 simp only [stepG, stepG.exec, ho, hw, Option.map_some, Option.getD_some, if_true, stepG.oper, Frame.oper?, he]
 rcases hd with rfl | hd
 ·rfl
 ·cases ro with
  | none => rfl
  | some l =>
   obtain ⟨dst, op, ty, pos, after, guard⟩ := o
   cases op <;> first | rfl | (simp [q2t] at hd)
variable {ops : Array Oper} {i : Nat} {rest : List Nat} {o : Oper}
theorem q6v (ho : ops[i]? = some o) (hw : Region.wanted o (yielded ops tmps) = true) (hd : ro = none ∨ q2t o.op = false) {v : Value} {w' : World}
  (h : (execOp ({ tmps := tmps, defers := ds } : Act).eval o).run P w = .ok (.value v) w' ∨ ((execOp ({ tmps := tmps, defers := ds } : Act).eval o).run P w = .ok .skip w' ∧ v = undef)) :
  step P (lone (rf fn tmps (.inRegion ops (i :: rest) :: k) ds kd ro) cs w) = .next (lone (rf fn (z6z tmps o.dst v) (.inRegion ops rest :: k) ds kd ro) cs w') := by
 have hf := @q7p fn tmps k ds kd ro ops i rest v
 rw [ho, Option.bind_some] at hf
 rw [← hf]
 refine step_lone_go ?_
 rw [z3x ho hw hd]
 rcases h with h | ⟨h, rfl⟩ <;> simp [stepG.apply, Sem.runT_eq, h, GStep.bare_after]
theorem j5i (ho : ops[i]? = some o) (hw : Region.wanted o (yielded ops tmps) = true) {d : Deferred} {w' : World}
  (h : (execOp ({ tmps := tmps, defers := ds } : Act).eval o).run P w = .ok (.defer d) w') :
  step P (lone (rf fn tmps (.inRegion ops (i :: rest) :: k) ds kd none) cs w) = .next (lone (rf fn (z6z tmps o.dst undef) (.inRegion ops rest :: k) (d :: ds) kd none) cs w') := by
 have hf := @q7p fn tmps k (d :: ds) kd none ops i rest undef
 rw [ho, Option.bind_some] at hf
 rw [← hf]
 refine step_lone_go ?_
 rw [z3x ho hw (.inl rfl)]
 simp [stepG.apply, Sem.runT_eq, h, GStep.bare_after]
theorem j5j (ho : ops[i]? = some o) (hw : Region.wanted o (yielded ops tmps) = true) (hd : ro = none ∨ q2t o.op = false) {f : FuncId} {args : Array Value} {w' : World}
  (h : (execOp ({ tmps := tmps, defers := ds } : Act).eval o).run P w = .ok (.enter f args) w') :
  step P (lone (rf fn tmps (.inRegion ops (i :: rest) :: k) ds kd ro) cs w) = .next (lone (Frame.enter P f args .normal) (rf fn tmps (.inRegion ops (i :: rest) :: k) ds kd ro :: cs) w') := by
 refine step_lone_go ?_
 rw [z3x ho hw hd]
 simp [stepG.apply, Sem.runT_eq, h, GStep.bare_after]
theorem j5k (ho : ops[i]? = some o) (hw : Region.wanted o (yielded ops tmps) = true) (hd : ro = none ∨ q2t o.op = false) {l : Nat} {f : FuncId} {ts : Array Value} {assign body : Code} {w' : World}
  (h : (execOp ({ tmps := tmps, defers := ds } : Act).eval o).run P w = .ok (.round l f ts assign body) w') :
  step P (lone (rf fn tmps (.inRegion ops (i :: rest) :: k) ds kd ro) cs w) = .next (lone (Frame.round l f ts assign body .normal) (rf fn tmps (.inRegion ops (i :: rest) :: k) ds kd ro :: cs) w') := by
 refine step_lone_go ?_
 rw [z3x ho hw hd]
 simp [stepG.apply, Sem.runT_eq, h, GStep.bare_after]
end
variable {C : Ctx} {w : World} {U : Nat → Prop} {ι : Nat → Option Nat}
def Post (C : Ctx) (w : World) (U : Nat → Prop) (ι : Nat → Option Nat) (H H' : AHeap) (r : AV) (v : Value) (w' : World) : Prop := ∃ U' ι', BX.Leaves C w U ι H' r v w' U' ι' ∧ Fresh H ι ι'
def InvN (P : Program) (f : FuncId) (vs : List Value) (w : World) (R : Value → World → Prop) : Prop :=
 (∃ v w', (callFunc f vs.toArray).run P w = .ok (.value v) w' ∧ R v w') ∨
 ((callFunc f vs.toArray).run P w = .ok (.enter f vs.toArray) w ∧ ∀ (c : Frame) (cs : List Frame), ∃ v w', R v w' ∧ Steps P (lone (Frame.enter P f vs.toArray .normal) (c :: cs) w) (lone (c.finish v) cs w'))
def InvD (P : Program) (f : FuncId) (vs : List Value) (w : World) (R : Value → World → Prop) : Prop :=
 (callFunc f vs.toArray).run P w = .ok (.enter f vs.toArray) w ∧ ∀ (c : Frame) (cs : List Frame), c.mode = .returning → ∃ v w', R v w' ∧ Steps P (lone (Frame.enter P f vs.toArray .deferred) (c :: cs) w) (lone c cs w')
structure SimCl (C : Ctx) (cl : Cl) : Prop where
 call : ∀ f args H r H', cl.call f args H = some (r, H') → ∀ w U ι vs, HRel C w U ι H → LsRel w U ι args vs → InvN C.P f vs w (Post C w U ι H H' r)
 callD : ∀ f args H r H', C.ext f = none → cl.call f args H = some (r, H') → ∀ w U ι vs, HRel C w U ι H → LsRel w U ι args vs → InvD C.P f vs w (Post C w U ι H H' r)
 round : ∀ l args H r H', cl.round l args H = some (r, H') → ∀ w U ι vs c, HRel C w U ι H → LsRel w U ι args vs → ι l = some c →
  ∃ f ts assign body, (Instr.yield c vs.toArray).run C.P w = .ok (.round c f ts assign body) w ∧
   ∀ (c0 : Frame) (cs : List Frame), ∃ v w', Post C w U ι H H' r v w' ∧ Steps C.P (lone (Frame.round c f ts assign body .normal) (c0 :: cs) w) (lone (c0.finish v) cs w')
theorem InvN.mono {P : Program} {f : FuncId} {vs : List Value} {R R' : Value → World → Prop} (h : InvN P f vs w R) (hr : ∀ v w', R v w' → R' v w') : InvN P f vs w R' := by
 rcases h with ⟨v, w', h1, h2⟩ | ⟨h1, h2⟩
 ·exact .inl ⟨v, w', h1, hr _ _ h2⟩
 ·exact .inr ⟨h1, fun c cs => let ⟨v, w', hR, hs⟩ := h2 c cs; ⟨v, w', hr _ _ hR, hs⟩⟩
theorem HRel.kept {H : AHeap} (hH : HRel C w U ι H) {w' : World} {U' : Nat → Prop} (hm : ∀ {a : AV} {v : Value}, VRel w U ι a v → VRel w' U' ι a v) (z1n : ∀ c, c < w.heap.size → w'.heap[c]? = w.heap[c]?) (hsz : w.heap.size ≤ w'.heap.size)
  (hU : ∀ c, U' c → c < w'.heap.size ∧ ∀ b, ι b ≠ some c) : HRel C w' U' ι H :=
 ⟨fun b c hb => ⟨(hH.dom b c hb).1, Nat.lt_of_lt_of_le (hH.dom b c hb).2 hsz⟩, hH.inj, hU, fun b c hb => (hH.blk b c hb).mono hm (fun _ _ h => h) (z1n c (hH.dom b c hb).2)⟩
structure PureLeaves (C : Ctx) (w : World) (U : Nat → Prop) (ι : Nat → Option Nat) (H : AHeap) (r : AV) (v : Value) (w' : World) (U' : Nat → Prop) : Prop where
 lv : BX.Leaves C w U ι H r v w' U' ι
 all : ∀ c, c < w.heap.size → w'.heap[c]? = w.heap[c]?
theorem j5l {H H1 : AHeap} (hH : HRel C w U ι H) {r0 r : AV} {v : Value} {w' : World} {U1 : Nat → Prop} {ι1 : Nat → Option Nat} (h : BX.Leaves C w U (fun _ => none) H1 r0 v w' U1 ι1) (hf : freeze H1 r0 = some r) :
  PureLeaves C w U ι H r v w' (q7i U1 ι1) := by
 have z1n : ∀ c, c < w.heap.size → w'.heap[c]? = w.heap[c]? := fun c hc => h.ext.kept c hc (fun b hb => by cases hb)
 have j9d : ∀ c, q7i U1 ι1 c → U c ∨ w.heap.size ≤ c := by
  intro c hc
  rcases hc with hc | ⟨b, hb⟩
  ·exact h.ext.new c hc
  ·rcases h.ext.rng b c hb with ⟨b0, hb0⟩ | hle
   ·cases hb0
   ·exact .inr hle
 have hlt : ∀ c, q7i U1 ι1 c → c < w'.heap.size := by
  intro c hc
  rcases hc with hc | ⟨b, hb⟩
  ·exact (h.heap.imm c hc).1
  ·exact (h.heap.dom b c hb).2
 have q3y : Ext w U ι w' (q7i U1 ι1) ι :=
  {map := fun _ _ h => h, rng := fun b _ h => .inl ⟨b, h⟩, imm := fun c hc => .inl (h.ext.imm c hc), new := j9d, size := h.ext.size, kept := fun c hc _ => z1n c hc, shape := fun c hc => q1d (z1n c hc), env := h.ext.env }
 refine ⟨⟨q3y, ?_, ?_⟩, z1n⟩
 ·refine hH.kept (fun hv => q3y.mono hH hv) z1n h.ext.size (fun c hc => ⟨hlt c hc, fun b hb => ?_⟩)
  rcases j9d c hc with hU | hle
  ·exact (hH.imm c hU).2 b hb
  ·have := (hH.dom b c hb).2; omega
 ·exact (q5t h.heap h.val hf).mono (fun _ h => h) (fun _ _ => rfl) (fun _ _ h => h) ι (fun _ _ h => by cases h)
theorem x1u {H : AHeap} (hH : HRel C w U ι H) : HRel C w U (fun _ => none) AHeap.empty :=
 ⟨(fun b c h => by cases h), (fun b b' c h => by cases h), (fun c hc => ⟨(hH.imm c hc).1, (fun b hb => by cases hb)⟩), (fun b c h => by cases h)⟩
theorem z1v {a : AV} {v : Value} (h : VRel w U ι a v) (hs : a.solid1 = true) : ∀ (w' : World) (U' : Nat → Prop) (ι' : Nat → Option Nat), VRel w' U' ι' a v := by
 intro w' U' ι'
 cases h <;> first | (simp [AV.solid1] at hs; done) | (constructor <;> assumption) | constructor
theorem z1w {a : AV} {v : Value} (h : VRel w U ι a v) (hs : a.solid2 = true) : ∀ (w' : World) (U' : Nat → Prop) (ι' : Nat → Option Nat), VRel w' U' ι' a v := by
 intro w' U' ι'
 cases h with
 | agg cs vs hl h1 h =>
  simp only [AV.solid2, List.all_eq_true] at hs
  exact .agg cs vs hl h1 fun i a v ha hv => z1v (h i a v ha hv) (hs a (List.mem_of_getElem? ha)) w' U' ι'
 | _ => exact z1v (w := w) (U := U) (ι := ι) (by first | (constructor <;> assumption) | constructor) (by simpa [AV.solid2] using hs) w' U' ι'
theorem x1v {a : AV} {v : Value} (h : VRel w U ι a v) (hs : a.solid = true) : ∀ (w' : World) (U' : Nat → Prop) (ι' : Nat → Option Nat), VRel w' U' ι' a v := by
 intro w' U' ι'
 cases h with
 | tuple cs vs hl h =>
  simp only [AV.solid, List.all_eq_true] at hs
  exact .tuple cs vs hl fun i a v ha hv => z1w (h i a v ha hv) (hs a (List.mem_of_getElem? ha)) w' U' ι'
 | _ => exact z1w (w := w) (U := U) (ι := ι) (by first | (constructor <;> assumption) | constructor) (by simpa [AV.solid] using hs) w' U' ι'
theorem z4z {H : AHeap} (hH : HRel C w U ι H) : ∀ {args args' : List AV} {vs : List Value}, LsRel w U ι args vs → q3t (freeze H) args = some args' → LsRel w (q7i U ι) (fun _ => none) args' vs := by
 intro args
 induction args with
 | nil => intro args' vs ha h; simp only [q3t, Option.some.injEq] at h; subst h; obtain rfl := ha.cases_nil; exact LsRel.nil
 | cons a args ih =>
  intro args' vs ha h
  obtain ⟨v, us, rfl, hv, ha'⟩ := ha.cases_cons
  simp only [q3t] at h
  split at h
  ·rename_i y ys hy hys
   cases h
   exact LsRel.cons (q5t hH hv hy) (ih ha' hys)
  ·cases h
theorem y3o {k : Nat} : ∀ (es : List (List AV)) (p : Nat) (e0 : List AV), (∀ e, e ∈ es → e.length = k) → es[p]? = some e0 → ∀ (q : Nat) (x0 : AV), e0[q]? = some x0 → es.flatten[p * k + q]? = some x0 := by
 intro es
 induction es with
 | nil => intro p e0 _ h; simp at h
 | cons y es ih =>
  intro p e0 hk he j a ha
  have hx : y.length = k := hk y (by simp)
  cases p with
  | zero =>
   simp at he; subst he
   have hj : j < y.length := (List.getElem?_eq_some_iff.mp ha).1
   simp only [List.flatten_cons, Nat.zero_mul, Nat.zero_add]
   rw [List.getElem?_append_left hj]; exact ha
  | succ i =>
   simp at he
   have := ih i e0 (fun e he => hk e (by simp [he])) he j a ha
   simp only [List.flatten_cons]
   rw [List.getElem?_append_right (by rw [hx, Nat.add_mul]; omega), hx]
   rw [show (i + 1) * k + j - k = i * k + j from by rw [Nat.add_mul]; omega]
   exact this
theorem z5a {H : AHeap} {U0 : Nat → Prop} (hH : HRel C w U ι H) {a r : AV} {v : Value} (hv : VRel w U ι a v) (h : x7b H a = some r) : VRel w (q7i U0 ι) (fun _ => none) r v := by
 unfold x7b at h
 split at h
 ·rename_i hs
  cases h
  exact z1w hv hs _ _ _
 ·split at h
  ·rename_i b k i n _
   split at h
   ·rename_i es hes
    split at h
    ·rename_i z1n
     cases h
     simp only [List.all_eq_true] at z1n
     obtain ⟨hk, a, cap, vs, hva, hr, h1, hor⟩ := q6t hH hv hes
     cases hv with
     | slc _ _ _ _ c off cap' m t hb ho hn hsh hm =>
      simp only [Value.slice.injEq] at hva
      obtain ⟨rfl, hn', rfl⟩ := hva
      rw [hn']
      rcases hor with ⟨h0, _⟩ | ⟨ad, had, hc⟩
      ·cases h0
      ·cases had
       refine .vec es ⟨c, off, none⟩ k cap' (fun p q => vs.getD (p * k + q) undef) (by rw [← hn']; exact hn) hk (fun _ => .inr ⟨b, hb⟩) (fun _ => rfl) (fun p q hp hq => ?_) (fun e he x hx => ?_) (fun p e q x he hx => ?_)
       ·have hlt : p * k + q < vs.length := by
         rw [hr.1, q5s hk]
         have : (p + 1) * k ≤ es.length * k := Nat.mul_le_mul_right _ hp
         rw [Nat.add_mul] at this; omega
        have := hc (p * k + q) _ (List.getElem?_eq_getElem hlt)
        rw [Addr.add_eq, ← Nat.add_assoc] at this
        rw [this]
        simp [List.getD, List.getElem?_eq_getElem hlt]
       ·exact h1 x (by rw [List.mem_flatten]; exact ⟨e, he, hx⟩)
       ·have w7c := y3o (k := k) es p e hk he q x hx
        obtain ⟨u, hu, hur⟩ := hr.get w7c
        have : vs.getD (p * k + q) undef = u := by simp [List.getD, hu]
        rw [this]
        exact z1v hur (z1n e (List.mem_of_getElem? he) x (List.mem_of_getElem? hx)) _ _ _
    ·cases h
   ·cases h
  ·cases h
theorem j5m {H : AHeap} {U0 : Nat → Prop} (hH : HRel C w U ι H) {a r : AV} {v : Value} (hv : VRel w U ι a v) (h : y3g H a = some r) : VRel w (q7i U0 ι) (fun _ => none) r v := by
 unfold y3g at h
 split at h
 ·simp only [Option.map_eq_some_iff] at h
  obtain ⟨ds, hds, rfl⟩ := h
  cases hv with
  | tuple _ vs hl hr =>
   refine .tuple ds vs (by rw [hl, q4g hds]) (fun i a v ha hv => ?_)
   obtain ⟨a0, ha0, hf⟩ := q3b hds i a ha
   exact z5a hH (hr i a0 v ha0 hv) hf
 ·exact z5a hH hv h
theorem z5b {cl : Cl} (hs : SimCl C cl) {f : FuncId} {args : List AV} {H H' : AHeap} {r : AV} (h : q4i C cl f args H = some (r, H')) {vs : List Value} (hH : HRel C w U ι H) (ha : LsRel w U ι args vs) :
  InvN C.P f vs w (fun v w' => ∃ U' ι', BX.Leaves C w U ι H' r v w' U' ι' ∧ Fresh H ι ι' ∧ (C.pure f = true → H' = H ∧ ι' = ι ∧ ∀ c, c < w.heap.size → w'.heap[c]? = w.heap[c]?)) := by
 unfold q4i at h
 split at h
 ·rename_i hp
  split at h
  ·rename_i x6o
   split at h
   ·rename_i r0 H1 hc
    simp only [Option.map_eq_some_iff] at h
    obtain ⟨r1, hfz, he⟩ := h
    cases he
    have ha' : LsRel w U (fun _ => none) args vs := ⟨ha.1, fun i a v hia hiv => (ha.2 i a v hia hiv).flat (by
     simp only [List.all_eq_true] at x6o
     exact x6o a (List.mem_of_getElem? hia)) _⟩
    refine (hs.call f args AHeap.empty r0 H1 hc w U (fun _ => none) vs (x1u hH) ha').mono ?_
    rintro v w' ⟨U1, ι1, hl, _⟩
    have hpl := j5l hH hl hfz
    exact ⟨_, ι, hpl.lv, Fresh.refl _ _, fun _ => ⟨rfl, rfl, hpl.all⟩⟩
   ·cases h
  ·split at h
   ·rename_i args' hargs
    split at h
    ·rename_i r0 H1 hc
     split at h
     ·rename_i r1 hfz
      split at h
      ·rename_i hsol
       cases h
       have hfr := z4z hH ha hargs
       have w7i : HRel C w (q7i U ι) (fun _ => none) AHeap.empty := ⟨(fun b c h => by cases h), (fun b b' c h => by cases h), (fun c hc => ⟨by
        rcases hc with hc | ⟨b, hb⟩
        ·exact (hH.imm c hc).1
        ·exact (hH.dom b c hb).2, (fun b hb => by cases hb)⟩), (fun b c h => by cases h)⟩
       refine (hs.call f args' AHeap.empty r0 H1 hc w (q7i U ι) (fun _ => none) vs w7i hfr).mono ?_
       rintro v w' ⟨U1, ι1, hl, _⟩
       have z1n : ∀ c, c < w.heap.size → w'.heap[c]? = w.heap[c]? := fun c hc => hl.ext.kept c hc (fun b hb => by cases hb)
       have q3y : Ext w U ι w' U ι :=
        {map := fun _ _ h => h, rng := fun b _ h => .inl ⟨b, h⟩, imm := fun _ h => h, new := fun _ h => .inl h, size := hl.ext.size, kept := fun c hc _ => z1n c hc, shape := fun c hc => q1d (z1n c hc), env := hl.ext.env }
       have hv := q5t hl.heap hl.val hfz
       exact ⟨U, ι, ⟨q3y, hH.kept (fun hv => q3y.mono hH hv) z1n hl.ext.size (fun c hc => ⟨Nat.lt_of_lt_of_le (hH.imm c hc).1 hl.ext.size, (hH.imm c hc).2⟩), x1v hv hsol _ _ _⟩, Fresh.refl _ _, fun _ => ⟨rfl, rfl, z1n⟩⟩
      ·simp only [Option.map_eq_some_iff] at h
       obtain ⟨r2, hmd, he⟩ := h
       cases he
       have hfr := z4z hH ha hargs
       have w7i : HRel C w (q7i U ι) (fun _ => none) AHeap.empty := ⟨(fun b c h => by cases h), (fun b b' c h => by cases h), (fun c hc => ⟨by
        rcases hc with hc | ⟨b, hb⟩
        ·exact (hH.imm c hc).1
        ·exact (hH.dom b c hb).2, (fun b hb => by cases hb)⟩), (fun b c h => by cases h)⟩
       refine (hs.call f args' AHeap.empty r0 H1 hc w (q7i U ι) (fun _ => none) vs w7i hfr).mono ?_
       rintro v w' ⟨U1, ι1, hl, _⟩
       have z1n : ∀ c, c < w.heap.size → w'.heap[c]? = w.heap[c]? := fun c hc => hl.ext.kept c hc (fun b hb => by cases hb)
       have w7p : ∀ b c, ι1 b = some c → w.heap.size ≤ c := fun b c hb => by
        rcases hl.ext.rng b c hb with ⟨b0, hb0⟩ | hle
        ·cases hb0
        ·exact hle
       have q3y : Ext w U ι w' (q7i U ι1) ι :=
        {map := fun _ _ h => h, rng := fun b _ h => .inl ⟨b, h⟩, imm := fun _ h => .inl h, new := fun c hc => hc.elim .inl (fun ⟨b, hb⟩ => .inr (w7p b c hb)), size := hl.ext.size, kept := fun c hc _ => z1n c hc, shape := fun c hc => q1d (z1n c hc), env := hl.ext.env }
       have hv := j5m (U0 := U) hl.heap hl.val hmd
       refine ⟨q7i U ι1, ι, ⟨q3y, hH.kept (fun hv => q3y.mono hH hv) z1n hl.ext.size (fun c hc => ?_), hv.mono (fun _ h => h) (fun _ _ => rfl) (fun _ _ h => h) ι (fun _ _ h => by cases h)⟩, Fresh.refl _ _, fun _ => ⟨rfl, rfl, z1n⟩⟩
       rcases hc with hc | ⟨b, hb⟩
       ·exact ⟨Nat.lt_of_lt_of_le (hH.imm c hc).1 hl.ext.size, (hH.imm c hc).2⟩
       ·refine ⟨(hl.heap.dom b c hb).2, fun b' hb' => ?_⟩
        have h1 := w7p b c hb
        have h2 := (hH.dom b' c hb').2
        omega
     ·cases h
    ·cases h
   ·cases h
 ·rename_i hp
  refine (hs.call f args H r H' h w U ι vs hH ha).mono ?_
  rintro v w' ⟨U1, ι1, hl, hfr⟩
  exact ⟨U1, ι1, hl, hfr, fun hp' => absurd hp' hp⟩
inductive DRel (w : World) (U : Nat → Prop) (ι : Nat → Option Nat) : ADef → Deferred → Prop
 | call {a args fn first cap vs} (hv : VRel w U ι a (.func fn first cap)) (ha : LsRel w U ι args vs) : DRel w U ι (.call a args) { target := .fn fn cap, args := first ++ vs.toArray }
 | collected {b c} (h : ι b = some c) : DRel w U ι (.collected b) { target := .collected c, args := #[] }
inductive DsRel (w : World) (U : Nat → Prop) (ι : Nat → Option Nat) : List ADef → List Deferred → Prop
 | nil : DsRel w U ι [] []
 | cons {a d az ds} (h : DRel w U ι a d) (hs : DsRel w U ι az ds) : DsRel w U ι (a :: az) (d :: ds)
theorem DsRel.mono {w' : World} {U' : Nat → Prop} {ι' : Nat → Option Nat} (hm : ∀ {a : AV} {v : Value}, VRel w U ι a v → VRel w' U' ι' a v) (hι : ∀ b c, ι b = some c → ι' b = some c) {az : List ADef} {ds : List Deferred} (h : DsRel w U ι az ds) : DsRel w' U' ι' az ds := by
 induction h with
 | nil => exact .nil
 | cons h _ ih =>
  refine .cons ?_ ih
  cases h with
  | call hv ha => exact .call (hm hv) (ha.mono hm)
  | collected h => exact .collected (hι _ _ h)
section
variable {ops : Array Oper} {i : Nat} {o : Oper} {fn : FuncId} {tmps : Array Value} {ds : List Deferred} {kd : CallKind} {ro : Option Nat}
theorem y3p (ho : ops[i]? = some o) (hw : Region.wanted o (yielded ops tmps) = true) (hd : ro = none ∨ q2t o.op = false) {f : FuncId} {vs : List Value} {R : Value → World → Prop}
  (hx : (execOp ({ tmps := tmps, defers := ds } : Act).eval o).run C.P w = (callFunc f vs.toArray).run C.P w) (h : InvN C.P f vs w R) (rest : List Nat) (k : List Item) (cs : List Frame) :
  ∃ v w', R v w' ∧ Steps C.P (lone (rf fn tmps (.inRegion ops (i :: rest) :: k) ds kd ro) cs w) (lone (rf fn (z6z tmps o.dst v) (.inRegion ops rest :: k) ds kd ro) cs w') := by
 rcases h with ⟨v, w', h1, h2⟩ | ⟨h1, h2⟩
 ·exact ⟨v, w', h2, .one (q6v ho hw hd (.inl (by rw [hx, h1])))⟩
 ·obtain ⟨v, w', hR, hsteps⟩ := h2 (rf fn tmps (.inRegion ops (i :: rest) :: k) ds kd ro) cs
  refine ⟨v, w', hR, Steps.trans (.one (j5j ho hw hd (by rw [hx, h1]))) ?_⟩
  have hf := @q7p fn tmps k ds kd ro ops i rest v
  rw [ho, Option.bind_some] at hf
  rw [← hf]
  exact hsteps
structure OpFacts (C : Ctx) (op : Op) (T : Nat → AV) (H H' : AHeap) (ι ι' : Nat → Option Nat) (w w' : World) : Prop where
 reader : cls C.pure op ≠ .writer → Reads w ι H H' w' ι'
 inert : cls C.pure op = .inert → H' = H
 writes : ∀ t, fwT op = some t → ∀ c, c < w.heap.size → (∀ b, z3t (T t) = some (some b) → (H.at_ b).isDead = false → ι b ≠ some c) → w'.heap[c]? = w.heap[c]?
theorem q8n {pure : FuncId → Bool} {op : Op} {t : Nat} (h : fwT op = some t) : cls pure op = .writer := by
 unfold fwT at h
 split at h
 ·rfl
 ·rfl
 ·cases h
theorem OpFacts.of_reader {C : Ctx} {op : Op} {T : Nat → AV} {H H' : AHeap} {ι ι' : Nat → Option Nat} {w w' : World} (hc : cls C.pure op ≠ .writer) (hr : Reads w ι H H' w' ι') (hi : cls C.pure op = .inert → H' = H) : OpFacts C op T H H' ι ι' w w' :=
 ⟨fun _ => hr, hi, fun t ht => absurd (q8n ht) hc⟩
theorem OpFacts.of_writer {C : Ctx} {op : Op} {T : Nat → AV} {H H' : AHeap} {ι ι' : Nat → Option Nat} {w w' : World} (hc : cls C.pure op = .writer) (hf : fwT op = none) : OpFacts C op T H H' ι ι' w w' :=
 ⟨fun h => absurd hc h, (fun h => by rw [hc] at h; cases h), (fun t ht => by rw [hf] at ht; cases ht)⟩
theorem OpFacts.of_skip {C : Ctx} {op : Op} {T : Nat → AV} {H : AHeap} {ι : Nat → Option Nat} {w : World} : OpFacts C op T H H ι ι w w :=
 ⟨fun _ => ⟨fun _ _ => rfl, Nat.le_refl _, fun _ _ => rfl, fun b c h => .inl h⟩, fun _ => rfl, fun _ _ _ _ _ => rfl⟩
theorem j9r (hC : TOk C) {T : Nat → AV} {H H' : AHeap} {r : AV} (hH : HRel C w U ι H) (hT : TRel w U ι T tmps) (h : q7f C T H o.op = some (r, H')) :
  ∃ v w' ι', ((execOp ({ tmps := tmps, defers := ds } : Act).eval o).run C.P w = .ok (.value v) w' ∨ ((execOp ({ tmps := tmps, defers := ds } : Act).eval o).run C.P w = .ok .skip w' ∧ v = undef)) ∧
   BX.Leaves C w U ι H' r v w' U ι' ∧ Fresh H ι ι' ∧ OpFacts C o.op T H H' ι ι' w w' := by
 unfold q7f at h
 split at h
 ·rename_i hin
  simp only [Option.map_eq_some_iff] at h
  obtain ⟨r', hr', he⟩ := h
  cases he
  obtain ⟨v, hv, hvr⟩ := j5c (a := { tmps := tmps, defers := ds }) hC hT hr'
  exact ⟨v, w, ι, .inl hv, ⟨Ext.refl _ _ _, hH, hvr⟩, Fresh.refl _ _, OpFacts.of_skip⟩
 ·rename_i hin
  have ho' : ∀ (s : Sem Value) (v : Value) (w' : World), s.run C.P w = .ok v w' → (do pure (.value (← s)) : Sem Next).run C.P w = .ok (.value v) w' := by
   intro s v w' hs; simp [hs]
  obtain ⟨dst, op, ty, pos, after, guard⟩ := o
  simp only at h hin ⊢
  let act : Act := { tmps := tmps, defers := ds }
  cases op <;> simp only [primM, reduceCtorEq] at h
  case alloc t =>
   split at h
   ·rename_i ti hti
    cases h
    obtain ⟨v, w', ι', hr, hl, hrd⟩ := j5e hC hH hti
    exact ⟨v, w', ι', .inl (ho' _ _ _ hr), hl, hrd.fresh, OpFacts.of_reader (by simp [cls]) hrd (fun hc => by simp [cls] at hc)⟩
   ·cases h
  case box t x =>
   split at h
   ·rename_i ti v hti hv
    split at h
    ·rename_i hc
     cases h
     obtain ⟨u, w', ι', hr, hl, hrd⟩ := x1o (t := t) hH (q0u (a := act) hT hv) hc.1 hc.2
     exact ⟨u, w', ι', .inl (ho' _ _ _ hr), hl, hrd.fresh, OpFacts.of_reader (by simp [cls]) hrd (fun hc => by simp [cls] at hc)⟩
    ·cases h
   ·cases h
  case buildSlice t len parts =>
   split at h
   ·rename_i elem sz by_ zr eq ps hti hps
    split at h
    ·rename_i te hte
     split at h
     ·rename_i hle
      split at h
      ·rename_i cells hf
       cases h
       obtain ⟨hl, hr⟩ := q9s (a := act) hT hps
       obtain ⟨u, w', ι', q3e, hlv, hrd⟩ := z3j (us := parts.toList.map fun (i, x) => (i, act.eval x)) hC hH hti hte hle (by simp [hl]) (fun i p u hp hu => by
        rw [List.getElem?_map] at hu
        simp only [Option.map_eq_some_iff] at hu
        obtain ⟨q, hq, rfl⟩ := hu
        exact hr i p q hp hq) hf
       refine ⟨u, w', ι', .inl (ho' _ _ _ ?_), hlv, hrd.fresh, OpFacts.of_reader (by simp [cls]) hrd (fun hc => by simp [cls] at hc)⟩
       have e : (parts.map fun (i, x) => (i, act.eval x)) = (parts.toList.map fun (i, x) => (i, act.eval x)).toArray := Array.ext' (by simp)
       rw [← q3e, ← e]
      ·cases h
     ·cases h
    ·cases h
   ·cases h
  case load t x =>
   split at h
   ·rename_i p hp
    simp only [Option.map_eq_some_iff] at h
    obtain ⟨r', hr', he⟩ := h
    cases he
    obtain ⟨u, hu, hur⟩ := z7v hC hH (q0u (a := act) hT hp) hr'
    exact ⟨u, w, ι, .inl (ho' _ _ _ hu), ⟨Ext.refl _ _ _, hH, hur⟩, Fresh.refl _ _, OpFacts.of_skip⟩
   ·cases h
  case store t a x =>
   split at h
   ·rename_i p v hp hv
    simp only [Option.map_eq_some_iff] at h
    obtain ⟨H1, hH1, he⟩ := h
    cases he
    obtain ⟨w', hr, he, hh, z6y⟩ := j5h hC hH (q0u (a := act) hT hp) (q0u (a := act) hT hv) hH1
    exact ⟨undef, w', ι, .inr ⟨by show (do Instr.storeAt t _ _; pure .skip : Sem Next).run C.P w = _; simp only [Sem.run_bind]; rw [show (Instr.storeAt t (act.eval a) (act.eval x)).run C.P w = _ from hr]; rfl, rfl⟩, ⟨he, hh, .undef⟩, Fresh.refl _ _, ⟨fun hc => absurd rfl hc, fun hc => (by simp [cls] at hc), fun t' ht' c _ hc => z6y c (fun b hb hlv => hc b (by
     cases a <;> simp only [fwT, reduceCtorEq, Option.some.injEq] at ht'
     subst ht'
     simp only [ev, Option.some.injEq] at hp
     rw [hp]; exact hb) hlv)⟩⟩
   ·cases h
  case convert s d x =>
   split at h
   ·rename_i p hp
    simp only [Option.map_eq_some_iff] at h
    obtain ⟨r', hr', he⟩ := h
    cases he
    obtain ⟨u, hu, hur⟩ := j9l hC hH (q0u (a := act) hT hp) hr'
    exact ⟨u, w, ι, .inl (ho' _ _ _ hu), ⟨Ext.refl _ _ _, hH, hur⟩, Fresh.refl _ _, OpFacts.of_skip⟩
   ·cases h
  case makeSlice t l c =>
   split at h
   ·rename_i elem sz by_ zr eq k1 n k2 m hti hl hc
    split at h
    ·rename_i te hte
     split at h
     ·rename_i hcond
      cases h
      have h1 := q0u (a := act) hT hl
      have h2 := q0u (a := act) hT hc
      generalize hvl : act.eval l = vl at h1
      generalize hvc : act.eval c = vc at h2
      cases h1; cases h2
      obtain ⟨u, w', ι', q3e, hlv, hrd⟩ := z4v (k1 := k1) (k2 := k2) hC hH hti hte hcond.1 hcond.2.1 hcond.2.2.1 hcond.2.2.2
      refine ⟨u, w', ι', .inl (ho' _ _ _ ?_), hlv, hrd.fresh, OpFacts.of_reader (by simp [cls]) hrd (fun hc => by simp [cls] at hc)⟩
      rw [show (({ tmps := tmps, defers := ds } : Act).eval l) = _ from hvl, show (({ tmps := tmps, defers := ds } : Act).eval c) = _ from hvc]
      exact q3e
     ·cases h
    ·cases h
   ·cases h
  case range t x =>
   split at h
   ·rename_i sz by_ zr eq s hti hx
    cases h
    obtain ⟨u, w', ι', q3e, hlv, hrd⟩ := j5f hC hH hti (q0u (a := act) hT hx)
    exact ⟨u, w', ι', .inl (ho' _ _ _ q3e), hlv, hrd.fresh, OpFacts.of_reader (by simp [cls]) hrd (fun hc => by simp [cls] at hc)⟩
   ·cases h
  case next it isS =>
   cases isS <;> simp only [reduceCtorEq] at h
   split at h
   ·rename_i b kk hx
    have h1 := q0u (a := act) hT hx
    split at h
    ·rename_i s p hbl
     split at h
     ·rename_i hlt
      cases h
      obtain ⟨w', q3e, he, hh⟩ := j9n (s0 := 0) (H' := H) (ty := ty) hH h1 hbl hlt
      refine ⟨_, w', ι, .inl (ho' _ _ _ q3e), ⟨he, hh, ?_⟩, Fresh.refl _ _, OpFacts.of_writer rfl rfl⟩
      exact .tuple _ [_, _, _] rfl (LsRel.cons (.bool _) (LsRel.cons (.int _ _) (LsRel.cons (.int _ _) LsRel.nil))).2
     ·rename_i hlt
      cases h
      generalize hvx : act.eval it = vx at h1
      cases h1 with
      | ptr _ _ _ _ c hι =>
       have hbr := hH.blk b c hι
       rw [hbl] at hbr
       obtain ⟨bs, hbs, hc⟩ := hbr
       refine ⟨.tuple #[.bool false], w, ι, .inl (ho' _ _ _ ?_), ⟨Ext.refl _ _ _, hH, .tuple _ [_] rfl (LsRel.cons (.bool _) LsRel.nil).2⟩, Fresh.refl _ _, OpFacts.of_skip⟩
       rw [show (({ tmps := tmps, defers := ds } : Act).eval it) = _ from hvx]
       have hg : (getObj c).run C.P w = .ok (.stringIter bs p) w := by simp only [getObj, Sem.run, hc]
       have hnlt : ¬ p < bs.size := by subst hbs; simpa using hlt
       unfold Instr.next
       simp only [Nat.zero_mul, Nat.add_zero, Sem.run_bind, hg, Result.andThen_ok, hnlt, if_false, Sem.run_pure]
    ·cases h
   ·cases h
  case makeMap t r =>
   cases r with
   | some r => cases h
   | none =>
    simp only at h
    split at h
    ·cases h
     obtain ⟨u, w', ι', q3e, hlv, hrd⟩ := z9p (C := C) hH (t := t)
     exact ⟨u, w', ι', .inl (ho' _ _ _ q3e), hlv, hrd.fresh, OpFacts.of_writer rfl rfl⟩
    ·cases h
  case insert t m k x =>
   split at h
   ·rename_i b kk v hm hk hx
    split at h
    ·rename_i es hbl
     split at h
     ·rename_i hcond
      cases h
      obtain ⟨w', q3e, he, hh⟩ := j1x hH (q0u (a := act) hT hm) (q0u (a := act) hT hk) (q0u (a := act) hT hx) hbl hcond.1 hcond.2
      exact ⟨undef, w', ι, .inr ⟨by show (do Instr.mapUpdate t _ _ _; pure .skip : Sem Next).run C.P w = _; simp only [Sem.run_bind]; rw [show (Instr.mapUpdate t (act.eval m) (act.eval k) (act.eval x)).run C.P w = _ from q3e]; rfl, rfl⟩, ⟨he, hh, .undef⟩, Fresh.refl _ _, OpFacts.of_writer rfl rfl⟩
     ·cases h
    ·cases h
   ·cases h
  case lookup t m k ok =>
   cases ok <;> simp only [reduceCtorEq] at h
   split at h
   ·rename_i b kk hm hk
    split at h
    ·rename_i es hbl
     split at h
     ·rename_i hcond
      simp only [Option.map_eq_some_iff] at h
      obtain ⟨v, hg, he⟩ := h
      cases he
      obtain ⟨u, hu, hur⟩ := j1y hH (q0u (a := act) hT hm) (q0u (a := act) hT hk) hbl hcond hg
      exact ⟨u, w, ι, .inl (ho' _ _ _ hu), ⟨Ext.refl _ _ _, hH, hur⟩, Fresh.refl _ _, OpFacts.of_skip⟩
     ·cases h
    ·cases h
   ·cases h
end
end Go.BX
namespace Go.BX
variable {C : Ctx} {w : World} {U : Nat → Prop} {ι : Nat → Option Nat}
variable {ops : Array Oper} {i : Nat} {o : Oper} {fn : FuncId} {tmps : Array Value} {ds : List Deferred} {kd : CallKind} {ro : Option Nat}
theorem z7h (hC : TOk C) {H H' : AHeap} (hH : HRel C w U ι H) {b : Builtin} {ts : List TypeId} {ty : TypeId} {consts : Array Bool} {args : List AV} {vs : List Value} {r : AV} (ha : LsRel w U ι args vs) (h : q1n C H b ts args = some (r, H')) :
  ∃ v w' ι', (Go.builtin b ts.toArray ty consts vs.toArray).run C.P w = .ok (.value v) w' ∧ BX.Leaves C w U ι H' r v w' U ι' ∧ Fresh H ι ι' ∧ ∀ d ds, args = d :: ds → b = .append → ∀ c, c < w.heap.size → (∀ b', z3t d = some (some b') → (H.at_ b').isDead = false → ι b' ≠ some c) → w'.heap[c]? = w.heap[c]? := by
 unfold q1n at h
 split at h
 ·rename_i t t' d s
  obtain ⟨v, _, rfl, hv, h0⟩ := ha.cases_cons
  obtain ⟨v2, _, rfl, hv2, h02⟩ := h0.cases_cons
  obtain rfl := h02.cases_nil
  split at h
  ·rename_i ik sz by_ zr eq hti
   obtain ⟨u, w', ι', q3e, hl, hf, z6y⟩ := z9o (ty := ty) hC hH hv hv2 hti h
   exact ⟨u, w', ι', by simp [Go.builtin, q3e], hl, hf, fun d' ds' e _ c hc _ => z6y c hc⟩
  ·rename_i ti hni hti
   obtain ⟨u, w', ι', q3e, hl, hf, z6y⟩ := j1v (ty := ty) hC hH hv hv2 hti (fun k e => by
    obtain ⟨kind, sz, by_, zr, eq⟩ := ti
    simp only at e
    subst e
    exact hni _ _ _ _ _ rfl) h
   exact ⟨u, w', ι', by simp [Go.builtin, q3e], hl, hf, fun d' ds' e _ => by cases e; exact z6y⟩
  ·cases h
 ·rename_i t t' d s
  obtain ⟨v, _, rfl, hv, h0⟩ := ha.cases_cons
  obtain ⟨v2, _, rfl, hv2, h02⟩ := h0.cases_cons
  obtain rfl := h02.cases_nil
  obtain ⟨u, w', q3e, hl⟩ := j9m (t' := t') (ty := ty) hC hH hv hv2 h
  exact ⟨u, w', ι, by simp [Go.builtin, q3e], hl, Fresh.refl _ _, fun _ _ _ e => by cases e⟩
 ·cases h
theorem z2p {T : Nat → AV} {nt : Nat} {ao : AO} (hs : q4p nt ops o = some ao) (hT : ∀ t, t ∈ q4s ops o → VRel w U ι (T t) (tmps.getD t undef)) {b : Bool} (h : q4o T ao.guard = some b) : Region.wanted o (yielded ops tmps) = b := by
 unfold q4p at hs
 split at hs
 ·unfold Region.wanted
  cases hg : o.guard with
  | none => rw [hg] at hs; simp only [Option.some.injEq] at hs; subst hs; simp [q4o] at h; subst h; rfl
  | some p =>
   obtain ⟨j, want⟩ := p
   rw [hg] at hs
   simp only at hs
   split at hs
   ·rename_i t ht
    simp only [Option.some.injEq] at hs
    subst hs
    simp only [q4o] at h
    have hv := hT t (by unfold q4s; simp [hg, ht])
    have hy : yielded ops tmps j = match tmps[t]? with | some (.bool b) => some b | _ => none := by
     unfold yielded
     unfold q6j at ht
     rw [ht]; rfl
    show (yielded ops tmps j == some want) = b
    rw [hy]
    have j7b : tmps.getD t undef = (tmps[t]?).getD undef := by simp [Array.getD_eq_getD_getElem?]
    rw [j7b] at hv
    generalize tmps[t]? = x at hv
    generalize T t = a at hv h
    cases x with
    | none =>
     simp only [Option.getD_none, undef] at hv
     cases hv <;> simp at h <;> subst h <;> rfl
    | some v =>
     simp only [Option.getD_some] at hv
     cases hv <;> simp at h <;> subst h <;> first | rfl | (rename_i b; cases b <;> cases want <;> rfl)
   ·cases hs
 ·cases hs
theorem y8o {a : Act} {c : Call} : (c.args.map a.eval) = (c.args.toList.map a.eval).toArray := Array.ext' (by simp)
theorem j5n (hC : TOk C) {cl : Cl} (hs : SimCl C cl) {T : Nat → AV} {az az' : List ADef} {H H' : AHeap} {r : AV} (hH : HRel C w U ι H) (hT : TRel w U ι T tmps) (hD : DsRel w U ι az ds)
  (ho : ops[i]? = some o) (hw : Region.wanted o (yielded ops tmps) = true) (h : q1l C cl ro.isSome T az H o.op = some (r, az', H')) (rest : List Nat) (k : List Item) (cs : List Frame) :
  ∃ v w' ds' U' ι', Steps C.P (lone (rf fn tmps (.inRegion ops (i :: rest) :: k) ds kd ro) cs w) (lone (rf fn (z6z tmps o.dst v) (.inRegion ops rest :: k) ds' kd ro) cs w') ∧
   BX.Leaves C w U ι H' r v w' U' ι' ∧ Fresh H ι ι' ∧ DsRel w' U' ι' az' ds' ∧ OpFacts C o.op T H H' ι ι' w w' ∧ (q2t o.op = false → ds' = ds ∧ az' = az) := by
 let act : Act := { tmps := tmps, defers := ds }
 have keepD : ∀ {w' : World} {U' : Nat → Prop} {ι' : Nat → Option Nat}, Ext w U ι w' U' ι' → DsRel w' U' ι' az ds := fun he => hD.mono (fun hv => he.mono hH hv) he.map
 unfold q1l at h
 split at h
 ·-- a call
  rename_i c hop
  have hnd : q2t o.op = false := by rw [hop]; rfl
  split at h
  ·rename_i v0 H0 q2k
   simp only [Option.some.injEq, Prod.mk.injEq] at h
   obtain ⟨rfl, rfl, rfl⟩ := h
   unfold q7k at q2k
   split at q2k
   ·cases q2k
   ·rename_i args hargs
    have ha := q7m (a := act) hT hargs
    have hmv : (c.args.map act.eval) = (c.args.toList.map act.eval).toArray := y8o
    split at q2k
    ·-- a builtin
     rename_i b hcal
     unfold builtinA at q2k
     have hex : ∀ x w1, (Go.builtin b c.argTypes.toList.toArray o.type (c.args.map fun | .const _ => true | _ => false) (c.args.toList.map act.eval).toArray).run C.P w = .ok (.value x) w1 → (execOp act.eval o).run C.P w = .ok (.value x) w1 := by
      intro x w1 hx
      obtain ⟨dst, op, ty, pos, after, guard⟩ := o
      simp only at hop
      subst hop
      obtain ⟨callee, cargs, argTypes⟩ := c
      simp only at hcal
      subst hcal
      simp only [execOp, resolve, Sem.run_bind, Sem.run_pure, Result.andThen_ok, invoke]
      have e1 : argTypes.toList.toArray = argTypes := by simp
      rw [e1] at hx
      rw [← hx, ← hmv]
      rfl
     split at q2k
     ·rename_i hin
      simp only [Option.map_eq_some_iff] at q2k
      obtain ⟨r', hr', he⟩ := q2k
      cases he
      obtain ⟨v, hv, hvr⟩ := z7e (ty := o.type) (consts := (c.args.map fun | .const _ => true | _ => false)) hC ha hr'
      refine ⟨v, w, ds, U, ι, .one (q6v ho hw (.inr hnd) (.inl (hex _ _ hv))), ⟨Ext.refl _ _ _, hH, hvr⟩, Fresh.refl _ _, hD, OpFacts.of_skip, fun _ => ⟨rfl, rfl⟩⟩
     ·rename_i hin
      obtain ⟨v, w', ι', hv, hl, hfr', z6y⟩ := z7h (ty := o.type) (consts := (c.args.map fun | .const _ => true | _ => false)) hC hH ha q2k
      have y8j : cls C.pure o.op = .writer := by
       rw [hop]
       obtain ⟨callee, cargs, argTypes⟩ := c
       simp only at hcal
       subst hcal
       simp [cls, hin]
      refine ⟨v, w', ds, U, ι', .one (q6v ho hw (.inr hnd) (.inl (hex _ _ hv))), hl, hfr', keepD hl.ext, ⟨fun hc => absurd y8j hc, (fun hc => by rw [y8j] at hc; cases hc), fun t ht d hcl hcf => ?_⟩, fun _ => ⟨rfl, rfl⟩⟩
      obtain ⟨callee, cargs, argTypes⟩ := c
      simp only at hcal
      subst hcal
      rw [hop] at ht
      unfold fwT at ht
      split at ht
      ·rename_i heq; cases heq
      ·rename_i heq
       cases heq
       split at ht
       ·rename_i t' rest hrest
        cases ht
        simp only [hrest, evs] at hargs
        split at hargs
        ·rename_i v1 vs1 hv1 _
         cases hargs
         simp only [ev, Option.some.injEq] at hv1
         subst hv1
         exact z6y _ _ rfl rfl d hcl hcf
        ·cases hargs
       ·cases ht
      ·cases ht
    ·cases q2k
    ·-- a function
     rename_i x hcal
     split at q2k
     ·rename_i fv hfv
      have hfr := q0u (a := act) hT hfv
      unfold z9g at q2k
      split at q2k
      ·rename_i f first caps
       generalize hxv : act.eval x = xv at hfr
       cases hfr with
       | fn _ _ _ us zs hl1 hl2 hr1 hr2 =>
        have z1n : LsRel w U ι (first ++ args ++ caps) (us ++ c.args.toList.map act.eval ++ zs) := LsRel.append (LsRel.append (show LsRel w U ι first us from ⟨hl1, hr1⟩) ha) ⟨hl2, hr2⟩
        have j0y := z5b hs q2k hH z1n
        have hex : (execOp act.eval o).run C.P w = (callFunc f (us ++ c.args.toList.map act.eval ++ zs).toArray).run C.P w := by
         obtain ⟨dst, op, ty, pos, after, guard⟩ := o
         simp only at hop
         subst hop
         obtain ⟨callee, cargs, argTypes⟩ := c
         simp only at hcal
         subst hcal
         simp only [execOp, resolve, Sem.run_bind, hxv, Deferred.ofValue, Sem.run_pure, Result.andThen_ok, invoke]
         congr 2
         apply Array.ext'
         simp
        obtain ⟨v, w', ⟨U', ι', hl, hfr', hp⟩, hst⟩ := y3p (kd := kd) (fn := fn) ho hw (.inr hnd) hex j0y rest k cs
        refine ⟨v, w', ds, U', ι', hst, hl, hfr', keepD hl.ext, ⟨fun hc => ?_, fun hc => ?_, fun t ht => ?_⟩, fun _ => ⟨rfl, rfl⟩⟩
        rotate_right
        ·exfalso
         rw [hop] at ht
         obtain ⟨callee, cargs, argTypes⟩ := c
         simp only at hcal
         subst hcal
         simp [fwT] at ht
        ·-- a reader: the function is pure
         have v1s : C.pure f = true := by
          rw [hop] at hc
          obtain ⟨callee, cargs, argTypes⟩ := c
          simp only at hcal
          subst hcal
          cases x with
          | func g =>
           simp only [ev, Option.some.injEq, AV.fn.injEq] at hfv
           obtain ⟨rfl, _, _⟩ := hfv
           by_cases hpp : C.pure g = true
           ·exact hpp
           ·simp [cls, hpp] at hc
          | _ => simp [cls] at hc
         obtain ⟨rfl, rfl, hall'⟩ := hp v1s
         exact ⟨hall', Nat.le_refl _, fun _ _ => rfl, fun b c h => .inl h⟩
        ·exfalso
         rw [hop] at hc
         obtain ⟨callee, cargs, argTypes⟩ := c
         simp only at hcal
         subst hcal
         cases x <;> simp [cls] at hc
         split at hc <;> cases hc
      ·rename_i l
       generalize hxv : act.eval x = xv at hfr
       cases hfr with
       | yld _ lc hlc =>
        obtain ⟨f, ts, assign, body, hy, hgo⟩ := hs.round l args H _ _ q2k w U ι _ lc hH ha hlc
        have hex : (execOp act.eval o).run C.P w = .ok (.round lc f ts assign body) w := by
         obtain ⟨dst, op, ty, pos, after, guard⟩ := o
         simp only at hop
         subst hop
         obtain ⟨callee, cargs, argTypes⟩ := c
         simp only at hcal
         subst hcal
         simp only [execOp, resolve, Sem.run_bind, hxv, Deferred.ofValue, Sem.run_pure, Result.andThen_ok, invoke]
         rw [← hy, ← hmv]
         congr 2
         simp
        obtain ⟨v, w', ⟨U', ι', hl, hfr'⟩, hst⟩ := hgo (rf fn tmps (.inRegion ops (i :: rest) :: k) ds kd ro) cs
        have hf := @q7p fn tmps k ds kd ro ops i rest v
        rw [ho, Option.bind_some] at hf
        rw [hf] at hst
        have y8j : cls C.pure o.op = .writer := by
         rw [hop]
         obtain ⟨callee, cargs, argTypes⟩ := c
         simp only at hcal
         subst hcal
         cases x <;> first | rfl | (simp [ev] at hfv)
        refine ⟨v, w', ds, U', ι', Steps.trans (.one (j5k ho hw (.inr hnd) hex)) hst, hl, hfr', keepD hl.ext, OpFacts.of_writer y8j (by
         rw [hop]
         obtain ⟨callee, cargs, argTypes⟩ := c
         simp only at hcal
         subst hcal
         rfl), fun _ => ⟨rfl, rfl⟩⟩
      ·cases q2k
     ·cases q2k
  ·cases h
 ·-- a deferred call
  rename_i c hop
  split at h
  ·cases h
  ·rename_i hro
   have hro' : ro = none := by cases ro <;> simp at hro; rfl
   subst hro'
   split at h
   ·rename_i x args hcal hargs
    split at h
    ·rename_i f first caps hfv
     simp only [Option.some.injEq, Prod.mk.injEq] at h
     obtain ⟨rfl, rfl, rfl⟩ := h
     have ha := q7m (a := act) hT hargs
     have hfr := q0u (a := act) hT hfv
     have hmv : (c.args.map act.eval) = (c.args.toList.map act.eval).toArray := y8o
     have y8j : cls C.pure o.op = .writer := by rw [hop]; rfl
     generalize hxv : act.eval x = xv at hfr
     cases hfr with
      | fn _ _ _ us zs hl1 hl2 hr1 hr2 =>
       have hex : (execOp act.eval o).run C.P w = .ok (.defer { target := .fn (.func f) zs.toArray, args := us.toArray ++ (c.args.toList.map act.eval).toArray }) w := by
        obtain ⟨dst, op, ty, pos, after, guard⟩ := o
        simp only at hop
        subst hop
        obtain ⟨callee, cargs, argTypes⟩ := c
        simp only at hcal
        subst hcal
        simp only [execOp, resolve, Sem.run_bind, hxv, Deferred.ofValue, Sem.run_pure, Result.andThen_ok]
        rw [hmv]
       exact ⟨undef, w, _, U, ι, .one (j5i ho hw hex), ⟨Ext.refl _ _ _, hH, .undef⟩, Fresh.refl _ _, .cons (.call (.fn _ _ _ us zs hl1 hl2 hr1 hr2) ha) hD, OpFacts.of_writer y8j (by rw [hop]; rfl), fun hc => by simp [hop, q2t] at hc⟩
    ·cases h
   ·cases h
 ·-- no call
  rename_i hnc hnd
  split at h
  ·rename_i v0 H0 hp
   simp only [Option.some.injEq, Prod.mk.injEq] at h
   obtain ⟨rfl, rfl, rfl⟩ := h
   have hisd : q2t o.op = false := by
    cases hop : o.op <;> first | rfl | exact absurd hop (hnd _)
   obtain ⟨v, w', ι', hex, hl, hfr', hf⟩ := j9r (ds := ds) hC hH hT hp
   exact ⟨v, w', ds, U, ι', .one (q6v ho hw (.inr hisd) hex), hl, hfr', keepD hl.ext, hf, fun _ => ⟨rfl, rfl⟩⟩
  ·cases h
end Go.BX
namespace Go.BX
variable {C : Ctx}
structure NextMono (cl : Cl) : Prop where
 call : ∀ f args H r H', cl.call f args H = some (r, H') → H.next ≤ H'.next
 round : ∀ l args H r H', cl.round l args H = some (r, H') → H.next ≤ H'.next
theorem j1z {H H' : AHeap} {t : TypeId} {d s r : AV} (h : q9p C H t d s = some (r, H')) : H.next ≤ H'.next := by
 unfold q9p at h
 split at h
 ·split at h
  ·split at h
   ·cases h
    exact Nat.le_succ _
   ·cases h
  ·cases h
 ·cases h
theorem j2a {H H' : AHeap} {t : TypeId} {d s r : AV} {b : Nat} (hlt : b < H.next) (h : q9p C H t d s = some (r, H')) : H'.at_ b = H.at_ b := by
 unfold q9p at h
 split at h
 ·split at h
  ·split at h
   ·cases h
    show upd H.at_ H.next _ b = _
    rw [q2d _ _ (Nat.ne_of_lt hlt)]
   ·cases h
  ·cases h
 ·cases h
theorem j2b {H H' : AHeap} {t : TypeId} {d s r : AV} (h : q2c C H t d s = some (r, H')) : H.next ≤ H'.next := by
 unfold q2c at h
 repeat' split at h
 all_goals (first | (simp only [Option.some.injEq, Prod.mk.injEq] at h; obtain ⟨_, rfl⟩ := h; simp [AHeap.push, AHeap.set]) | cases h)
theorem j9s {H H' : AHeap} {t : TypeId} {d s r : AV} (h : x1g C H t d s = some (r, H')) : H.next ≤ H'.next := by
 unfold x1g at h
 repeat' split at h
 all_goals (first | (simp only [Option.some.injEq, Prod.mk.injEq] at h; obtain ⟨_, rfl⟩ := h; simp [AHeap.push, AHeap.set]) | cases h)
theorem j5o {H H' : AHeap} {t : TypeId} {p v : AV} (h : storeA C H t p v = some H') : H.next ≤ H'.next := by
 unfold storeA at h
 repeat' split at h
 all_goals (first | (simp only [Option.some.injEq] at h; subst h; simp [AHeap.set]) | cases h)
def Grows (H H' : AHeap) : Prop := H.next ≤ H'.next ∧ ∀ b, b < H.next → H'.at_ b = H.at_ b
theorem Grows.refl (H : AHeap) : Grows H H := ⟨Nat.le_refl _, fun _ _ => rfl⟩
theorem Grows.push (H : AHeap) (b : Blk) : Grows H (H.push b) := ⟨by simp [AHeap.push], fun x hx => by simp only [AHeap.push]; exact q2d _ _ (Nat.ne_of_lt hx)⟩
theorem Grows.trans {H H1 H2 : AHeap} (h : Grows H H1) (h' : Grows H1 H2) : Grows H H2 := ⟨Nat.le_trans h.1 h'.1, fun b hb => by rw [h'.2 b (Nat.lt_of_lt_of_le hb h.1), h.2 b hb]⟩
theorem x7g {T : Nat → AV} {H H' : AHeap} {op : Op} {r : AV} (h : q7f C T H op = some (r, H')) : H.next ≤ H'.next ∧ (cls C.pure op ≠ .writer → Grows H H') ∧ (cls C.pure op = .inert → H' = H ∧ ∀ H2, q7f C T H2 op = some (r, H2)) := by
 unfold q7f at h
 split at h
 ·rename_i hin
  simp only [Option.map_eq_some_iff] at h
  obtain ⟨r', hr', he⟩ := h
  cases he
  exact ⟨Nat.le_refl _, fun _ => Grows.refl _, fun _ => ⟨rfl, fun H2 => by unfold q7f; rw [if_pos hin, hr']; rfl⟩⟩
 ·rename_i hin
  have key : H.next ≤ H'.next ∧ (cls C.pure op ≠ .writer → Grows H H') := by
   cases op <;> simp only [primM, reduceCtorEq] at h
   case store t a x =>
    split at h
    ·simp only [Option.map_eq_some_iff] at h
     obtain ⟨H1, hH1, he⟩ := h
     cases he
     exact ⟨j5o hH1, fun hc => absurd rfl hc⟩
    ·cases h
   case load t x =>
    split at h
    ·simp only [Option.map_eq_some_iff] at h
     obtain ⟨_, _, he⟩ := h
     cases he
     exact ⟨Nat.le_refl _, fun _ => Grows.refl _⟩
    ·cases h
   case convert s d x =>
    split at h
    ·simp only [Option.map_eq_some_iff] at h
     obtain ⟨_, _, he⟩ := h
     cases he
     exact ⟨Nat.le_refl _, fun _ => Grows.refl _⟩
    ·cases h
   case next it isS =>
    cases isS <;> simp only [reduceCtorEq] at h
    repeat' split at h
    all_goals (first | (simp only [Option.some.injEq, Prod.mk.injEq] at h; obtain ⟨_, rfl⟩ := h; exact ⟨by simp [AHeap.set], fun hc => absurd rfl hc⟩) | cases h)
   case makeMap t r =>
    cases r with
    | some r => cases h
    | none =>
     simp only at h
     split at h
     ·cases h; exact ⟨(Grows.push _ _).1, fun _ => Grows.push _ _⟩
     ·cases h
   case insert t m k x =>
    repeat' split at h
    all_goals (first | (cases h; exact ⟨by simp [AHeap.set], fun hc => absurd rfl hc⟩) | cases h)
   case lookup t m k ok =>
    cases ok <;> simp only [reduceCtorEq] at h
    repeat' split at h
    all_goals (first | (simp only [Option.map_eq_some_iff] at h; obtain ⟨_, _, he⟩ := h; cases he; exact ⟨Nat.le_refl _, fun _ => Grows.refl _⟩) | cases h)
   all_goals
    repeat' split at h
    all_goals (first | (simp only [Option.some.injEq, Prod.mk.injEq] at h; obtain ⟨_, rfl⟩ := h; exact ⟨(Grows.push _ _).1, fun _ => Grows.push _ _⟩) | cases h)
  refine ⟨key.1, key.2, fun hc => ?_⟩
  exfalso
  cases op <;> first | (simp [q1c] at hin; done) | (simp only [primM, reduceCtorEq] at h; done) | (simp [cls] at hc; done) | skip
  all_goals (simp only [primM, reduceCtorEq] at h)
theorem z7x {cl : Cl} (hn : NextMono cl) {f : FuncId} {args : List AV} {H H' : AHeap} {r : AV} (h : q4i C cl f args H = some (r, H')) : H.next ≤ H'.next ∧ (C.pure f = true → H' = H) := by
 unfold q4i at h
 split at h
 ·split at h
  ·split at h
   ·simp only [Option.map_eq_some_iff] at h
    obtain ⟨_, _, he⟩ := h
    cases he
    exact ⟨Nat.le_refl _, fun _ => rfl⟩
   ·cases h
  ·split at h
   ·split at h
    ·split at h
     ·split at h
      ·cases h
       exact ⟨Nat.le_refl _, fun _ => rfl⟩
      ·simp only [Option.map_eq_some_iff] at h
       obtain ⟨_, _, he⟩ := h
       cases he
       exact ⟨Nat.le_refl _, fun _ => rfl⟩
     ·cases h
    ·cases h
   ·cases h
 ·rename_i hp
  exact ⟨hn.call _ _ _ _ _ h, fun hp' => absurd hp' hp⟩
theorem j9t {cl : Cl} (hn : NextMono cl) {v : AV} {args : List AV} {H H' : AHeap} {r : AV} (h : z9g C cl v args H = some (r, H')) : H.next ≤ H'.next := by
 unfold z9g at h
 split at h
 ·exact (z7x hn h).1
 ·exact hn.round _ _ _ _ _ h
 ·cases h
theorem z9s {H H' : AHeap} {b : Builtin} {ts : List TypeId} {args : List AV} {r : AV} (h : builtinA C H b ts args = some (r, H')) : H.next ≤ H'.next ∧ (inertB b = true → H' = H ∧ ∀ H2, builtinA C H2 b ts args = some (r, H2)) := by
 unfold builtinA at h
 split at h
 ·rename_i hin
  simp only [Option.map_eq_some_iff] at h
  obtain ⟨r', hr', he⟩ := h
  cases he
  exact ⟨Nat.le_refl _, fun _ => ⟨rfl, fun H2 => by unfold builtinA; rw [if_pos hin, hr']; rfl⟩⟩
 ·rename_i hin
  refine ⟨?_, fun hc => absurd hc hin⟩
  unfold q1n at h
  split at h
  ·split at h
   ·exact j1z h
   ·exact j2b h
   ·cases h
  ·exact j9s h
  ·cases h
theorem x1w {cl : Cl} (hn : NextMono cl) {ir : Bool} {T : Nat → AV} {az az' : List ADef} {H H' : AHeap} {op : Op} {r : AV} (h : q1l C cl ir T az H op = some (r, az', H')) :
  H.next ≤ H'.next ∧ (cls C.pure op ≠ .writer → Grows H H') ∧ (cls C.pure op = .inert → H' = H ∧ ∀ H2, q1l C cl ir T az H2 op = some (r, az', H2)) := by
 unfold q1l at h
 split at h
 ·rename_i c
  split at h
  ·rename_i v0 H0 q2k
   simp only [Option.some.injEq, Prod.mk.injEq] at h
   obtain ⟨rfl, rfl, rfl⟩ := h
   have hcall' := q2k
   unfold q7k at q2k
   split at q2k
   ·cases q2k
   ·rename_i args hargs
    obtain ⟨callee, cargs, argTypes⟩ := c
    split at q2k
    ·rename_i b hcal
     simp only at hcal
     subst hcal
     obtain ⟨h1, h2⟩ := z9s q2k
     have hg : inertB b = true → Grows H H0 := fun hb => by rw [(h2 hb).1]; exact Grows.refl _
     refine ⟨h1, fun hc => hg (by simp only [cls] at hc; split at hc; assumption; exact absurd rfl hc), fun hc => ?_⟩
     have hb : inertB b = true := by simp only [cls] at hc; split at hc; assumption; cases hc
     refine ⟨(h2 hb).1, fun H2 => ?_⟩
     simp only [q1l, q7k, hargs, (h2 hb).2 H2]
    ·cases q2k
    ·rename_i x hcal
     simp only at hcal
     subst hcal
     split at q2k
     ·rename_i fv hfv
      have h1 := j9t hn q2k
      refine ⟨h1, fun hc => ?_, fun hc => ?_⟩
      ·cases x <;> first | (simp only [cls] at hc; exact absurd rfl hc) | skip
       rename_i g
       simp only [ev, Option.some.injEq] at hfv
       subst hfv
       have hp : C.pure g = true := by simp only [cls] at hc; split at hc; assumption; exact absurd rfl hc
       unfold z9g at q2k
       rw [(z7x hn q2k).2 hp]
       exact Grows.refl _
      ·exfalso
       cases x <;> simp only [cls] at hc <;> first | (cases hc; done) | (split at hc <;> cases hc)
     ·cases q2k
  ·cases h
 ·rename_i c
  split at h
  ·cases h
  ·split at h
   ·split at h
    ·simp only [Option.some.injEq, Prod.mk.injEq] at h
     obtain ⟨rfl, rfl, rfl⟩ := h
     exact ⟨Nat.le_refl _, fun _ => Grows.refl _, fun hc => by simp [cls] at hc⟩
    ·cases h
   ·cases h
 ·rename_i op' hnc hnd
  split at h
  ·rename_i v0 H0 hp
   simp only [Option.some.injEq, Prod.mk.injEq] at h
   obtain ⟨rfl, rfl, rfl⟩ := h
   obtain ⟨h1, h2, h3⟩ := x7g hp
   refine ⟨h1, h2, fun hc => ⟨(h3 hc).1, fun H2 => ?_⟩⟩
   have := (h3 hc).2 H2
   unfold q1l
   split
   ·rename_i c; exact absurd rfl (hnc c)
   ·rename_i c; exact absurd rfl (hnd c)
   ·rw [this]
  ·cases h
theorem z3y {T T' : Nat → AV} {x : Operand} (h : ∀ t, t ∈ q3d [x] → T t = T' t) : ev T x = ev T' x := by
 cases x with
 | tmp t => simp only [ev]; rw [h t (by simp [q3d])]
 | _ => rfl
theorem z1x {x : Operand} {xs : List Operand} (h : x ∈ xs) {t : Nat} (ht : t ∈ q3d [x]) : t ∈ q3d xs := by
 cases x with
 | tmp s =>
  simp [q3d] at ht
  subst ht
  unfold q3d
  rw [List.mem_filterMap]
  exact ⟨.tmp t, h, rfl⟩
 | _ => simp [q3d] at ht
theorem q7q {T T' : Nat → AV} : ∀ {xs : List Operand}, (∀ t, t ∈ q3d xs → T t = T' t) → evs T xs = evs T' xs
 | [], _ => rfl
 | x :: xs, h => by
  have h1 := z3y (x := x) (T := T) (T' := T') (fun t ht => h t (z1x (by simp) ht))
  have h2 := q7q (xs := xs) (T := T) (T' := T') (fun t ht => h t (by
   unfold q3d at ht ⊢
   rw [List.filterMap_cons]
   split
   ·exact ht
   ·exact List.mem_cons_of_mem _ ht))
  simp only [evs, h1, h2]
theorem q9u {T T' : Nat → AV} : ∀ {xs : List (Nat × Operand)}, (∀ t, t ∈ q3d (xs.map (·.2)) → T t = T' t) → parts_ T xs = parts_ T' xs
 | [], _ => rfl
 | (i, x) :: xs, h => by
  have h1 := z3y (x := x) (T := T) (T' := T') (fun t ht => h t (z1x (by simp) ht))
  have h2 := q9u (xs := xs) (T := T) (T' := T') (fun t ht => h t (by
   unfold q3d at ht ⊢
   rw [List.map_cons, List.filterMap_cons]
   split
   ·exact ht
   ·exact List.mem_cons_of_mem _ ht))
  simp only [parts_, h1, h2]
theorem z5c {T T' : Nat → AV} {x : Option Operand} (h : ∀ t, t ∈ q3d x.toList → T t = T' t) : evo T x = evo T' x := by
 cases x with
 | none => rfl
 | some y => simp only [evo, z3y (x := y) (T := T) (T' := T') (fun t ht => h t ht)]
theorem j5p {cl : Cl} {ir : Bool} {T T' : Nat → AV} {az : List ADef} {H : AHeap} {op : Op} (h : ∀ t, t ∈ q3d op.operands.toList → T t = T' t) : q1l C cl ir T az H op = q1l C cl ir T' az H op := by
 have one : ∀ x, x ∈ op.operands.toList → ev T x = ev T' x := fun x hx => z3y (fun t ht => h t (z1x hx ht))
 cases op with
 | call c =>
  have h1 : evs T c.args.toList = evs T' c.args.toList := q7q (fun t ht => h t (by
   unfold q3d at ht ⊢
   rw [List.mem_filterMap] at ht ⊢
   obtain ⟨x, hx, hxt⟩ := ht
   exact ⟨x, by simp only [Op.operands, Call.operands, Array.toList_append, List.mem_append]; exact .inr hx, hxt⟩))
  simp only [q1l, q7k, h1]
  obtain ⟨callee, cargs, argTypes⟩ := c
  cases callee with
  | value f =>
   have := one f (by simp [Op.operands, Call.operands])
   simp only [this]
  | _ => rfl
 | defer c =>
  have h1 : evs T c.args.toList = evs T' c.args.toList := q7q (fun t ht => h t (by
   unfold q3d at ht ⊢
   rw [List.mem_filterMap] at ht ⊢
   obtain ⟨x, hx, hxt⟩ := ht
   exact ⟨x, by simp only [Op.operands, Call.operands, Array.toList_append, List.mem_append]; exact .inr hx, hxt⟩))
  obtain ⟨callee, cargs, argTypes⟩ := c
  cases callee with
  | value f =>
   have h2 := one f (by simp [Op.operands, Call.operands])
   have h1' : evs T cargs.toList = evs T' cargs.toList := h1
   cases hv : evs T' cargs.toList <;> (simp only [q1l, h1', hv, h2]; try rfl)
  | _ =>
   have h1' : evs T cargs.toList = evs T' cargs.toList := h1
   simp only [q1l, h1']
   try rfl
 | move x => (simp only [q1l, q7f, q1c, primP, primM, one x (by simp [Op.operands])]; try rfl)
 | assign x => (simp only [q1l, q7f, q1c, primP, primM, one x (by simp [Op.operands])]; try rfl)
 | pick c a b => (simp only [q1l, q7f, q1c, primP, primM, one c (by simp [Op.operands]), one a (by simp [Op.operands]), one b (by simp [Op.operands])]; try rfl)
 | build t ps =>
  have := q9u (xs := ps.toList) (T := T) (T' := T') (fun t ht => h t (by simpa [Op.operands] using ht))
  (simp only [q1l, q7f, q1c, primP, primM, this]; try rfl)
 | buildSlice t n ps =>
  have := q9u (xs := ps.toList) (T := T) (T' := T') (fun t ht => h t (by simpa [Op.operands] using ht))
  (simp only [q1l, q7f, q1c, primP, primM, this]; try rfl)
 | box t x => (simp only [q1l, q7f, q1c, primP, primM, one x (by simp [Op.operands])]; try rfl)
 | load t x => (simp only [q1l, q7f, q1c, primP, primM, one x (by simp [Op.operands])]; try rfl)
 | store t a v => (simp only [q1l, q7f, q1c, primP, primM, one a (by simp [Op.operands]), one v (by simp [Op.operands])]; try rfl)
 | nilCheck x => (simp only [q1l, q7f, q1c, primP, primM, one x (by simp [Op.operands])]; try rfl)
 | binOp op t a v yt => (simp only [q1l, q7f, q1c, primP, primM, one a (by simp [Op.operands]), one v (by simp [Op.operands])]; try rfl)
 | unOp op t x => (simp only [q1l, q7f, q1c, primP, primM, one x (by simp [Op.operands])]; try rfl)
 | convert s d x => (simp only [q1l, q7f, q1c, primP, primM, one x (by simp [Op.operands])]; try rfl)
 | makeFunc fn first caps =>
  have h1 : evs T first.toList = evs T' first.toList := q7q (fun t ht => h t (by
   unfold q3d at ht ⊢
   rw [List.mem_filterMap] at ht ⊢
   obtain ⟨x, hx, hxt⟩ := ht
   exact ⟨x, by simp only [Op.operands, Array.toList_append, List.mem_append]; exact .inl hx, hxt⟩))
  have h2 : evs T caps.toList = evs T' caps.toList := q7q (fun t ht => h t (by
   unfold q3d at ht ⊢
   rw [List.mem_filterMap] at ht ⊢
   obtain ⟨x, hx, hxt⟩ := ht
   exact ⟨x, by simp only [Op.operands, Array.toList_append, List.mem_append]; exact .inr hx, hxt⟩))
  cases fn <;> (simp only [q1l, q7f, q1c, primP, primM, h1, h2]; try rfl)
 | makeSlice t a v => (simp only [q1l, q7f, q1c, primP, primM, one a (by simp [Op.operands]), one v (by simp [Op.operands])]; try rfl)
 | slice t x lo hi mx =>
  have hx := one x (by simp [Op.operands])
  have h1 : evo T lo = evo T' lo := z5c (fun t ht => h t (by
   unfold q3d at ht ⊢
   rw [List.mem_filterMap] at ht ⊢
   obtain ⟨x, hx, hxt⟩ := ht
   exact ⟨x, by cases lo <;> simp [Op.operands] at hx ⊢; simp [hx], hxt⟩))
  have h2 : evo T hi = evo T' hi := z5c (fun t ht => h t (by
   unfold q3d at ht ⊢
   rw [List.mem_filterMap] at ht ⊢
   obtain ⟨x, hx, hxt⟩ := ht
   exact ⟨x, by cases hi <;> simp [Op.operands] at hx ⊢; simp [hx], hxt⟩))
  have h3 : evo T mx = evo T' mx := z5c (fun t ht => h t (by
   unfold q3d at ht ⊢
   rw [List.mem_filterMap] at ht ⊢
   obtain ⟨x, hx, hxt⟩ := ht
   exact ⟨x, by cases mx <;> simp [Op.operands] at hx ⊢; simp [hx], hxt⟩))
  (simp only [q1l, q7f, q1c, primP, primM, hx, h1, h2, h3]; try rfl)
 | fieldAddr s x f => (simp only [q1l, q7f, q1c, primP, primM, one x (by simp [Op.operands])]; try rfl)
 | field s x f => (simp only [q1l, q7f, q1c, primP, primM, one x (by simp [Op.operands])]; try rfl)
 | indexAddr t a v => (simp only [q1l, q7f, q1c, primP, primM, one a (by simp [Op.operands]), one v (by simp [Op.operands])]; try rfl)
 | index t a v => (simp only [q1l, q7f, q1c, primP, primM, one a (by simp [Op.operands]), one v (by simp [Op.operands])]; try rfl)
 | range t x => (simp only [q1l, q7f, q1c, primP, primM, one x (by simp [Op.operands])]; try rfl)
 | next it b => cases b <;> (simp only [q1l, q7f, q1c, primP, primM, one it (by simp [Op.operands])]; try rfl)
 | extract x i => (simp only [q1l, q7f, q1c, primP, primM, one x (by simp [Op.operands])]; try rfl)
 | makeMap t r => cases r <;> rfl
 | insert t m k x => (simp only [q1l, q7f, q1c, primP, primM, one m (by simp [Op.operands]), one k (by simp [Op.operands]), one x (by simp [Op.operands])]; try rfl)
 | lookup t m k ok => cases ok <;> (simp only [q1l, q7f, q1c, primP, primM, one m (by simp [Op.operands]), one k (by simp [Op.operands])]; try rfl)
 | _ => rfl
theorem x7h {cl : Cl} {ir : Bool} {T : Nat → AV} {az az' : List ADef} {H H' : AHeap} {op : Op} {r : AV} {t : Nat} (ht : ldT op = some t) (h : q1l C cl ir T az H op = some (r, az', H')) :
  H' = H ∧ ∀ H2, (∀ b, z3t (T t) = some (some b) → H2.at_ b = H.at_ b) → q1l C cl ir T az H2 op = some (r, az', H2) := by
 unfold ldT at ht
 split at ht
 ·rename_i ty t'
  cases ht
  simp only [q1l, q7f, q1c, primM, ev, Bool.false_eq_true, if_false] at h
  split at h
  ·rename_i v0 H0 hv
   simp only [Option.map_eq_some_iff] at hv
   obtain ⟨x, hx, he⟩ := hv
   cases he
   simp only [Option.some.injEq, Prod.mk.injEq] at h
   obtain ⟨rfl, rfl, rfl⟩ := h
   refine ⟨rfl, fun H2 h2 => ?_⟩
   have hl : loadA C H2 ty (T t) = loadA C H ty (T t) := by
    unfold loadA
    split
    ·rfl
    ·split
     ·rename_i b k i j he
      rw [h2 b (by rw [he]; rfl)]
     ·rfl
     ·rfl
   simp only [q1l, q7f, q1c, primM, ev, Bool.false_eq_true, if_false, hl, hx, Option.map_some]
  ·cases h
 ·cases ht
theorem j2c {H H' : AHeap} {t : TypeId} {d s r : AV} {b : Nat} {f : Option Nat} (hf : z3t d = some f) (hb : f ≠ some b) (hlt : b < H.next) (h : q2c C H t d s = some (r, H')) : H'.at_ b = H.at_ b := by
 unfold q2c at h
 split at h
 ·split at h
  ·cases h
  ·split at h
   ·cases h
   ·split at h
    ·split at h
     ·cases h; rfl
     ·split at h
      ·cases h; simp only [AHeap.push]; exact q2d _ _ (Nat.ne_of_lt hlt)
      ·cases h
    ·split at h
     ·cases h; rfl
     ·split at h
      ·cases h; simp only [AHeap.push]; exact q2d _ _ (Nat.ne_of_lt hlt)
      ·cases h
    ·rename_i b0 k n
     simp only [z3t, Option.some.injEq] at hf
     subst hf
     have hne : b ≠ b0 := fun e => hb (by rw [e])
     split at h
     ·split at h
      ·split at h
       ·cases h; rfl
       ·cases h
        simp only [AHeap.push, AHeap.set]
        rw [q2d _ _ (Nat.ne_of_lt hlt), q2d _ _ hne]
      ·cases h
     ·cases h
    ·cases h
 ·cases h
theorem j5q {H H' : AHeap} {t : TypeId} {p v : AV} {b : Nat} {f : Option Nat} (hf : z3t p = some f) (hb : f ≠ some b) (h : storeA C H t p v = some H') : H'.at_ b = H.at_ b := by
 unfold storeA at h
 split at h
 ·cases h
 ·split at h
  ·rename_i b0 k i j
   simp only [z3t, Option.some.injEq] at hf
   subst hf
   have hne : b ≠ b0 := fun e => hb (by rw [e])
   split at h
   ·split at h
    ·split at h
     ·split at h
      ·cases h
       simp only [AHeap.set]
       exact q2d _ _ hne
      ·cases h
     ·cases h
    ·cases h
   ·cases h
  ·cases h
theorem y8p {cl : Cl} {ir : Bool} {T : Nat → AV} {az az' : List ADef} {H H' : AHeap} {op : Op} {r : AV} {t b : Nat} {f : Option Nat} (ht : fwT op = some t) (hf : z3t (T t) = some f) (hb : f ≠ some b) (hlt : b < H.next) (h : q1l C cl ir T az H op = some (r, az', H')) : H'.at_ b = H.at_ b := by
 unfold fwT at ht
 split at ht
 ·rename_i ty t' x
  cases ht
  simp only [q1l, q7f, q1c, primM, ev, Bool.false_eq_true, if_false] at h
  split at h
  ·rename_i v0 H0 hv
   split at hv
   ·rename_i p v hp hvv
    simp only [Option.some.injEq] at hp
    subst hp
    simp only [Option.map_eq_some_iff] at hv
    obtain ⟨H1, hH1, he⟩ := hv
    cases he
    simp only [Option.some.injEq, Prod.mk.injEq] at h
    obtain ⟨rfl, rfl, rfl⟩ := h
    exact j5q hf hb hH1
   ·cases hv
  ·cases h
 ·rename_i args _
  split at ht
  ·rename_i t' rest hrest
   cases ht
   simp only [q1l, q7k, hrest, evs] at h
   split at h
   ·rename_i v0 H0 hv
    split at hv
    ·cases hv
    ·rename_i args' hargs
     split at hargs
     ·rename_i v1 vs1 hv1 hvs1
      cases hargs
      simp only [ev, Option.some.injEq] at hv1
      subst hv1
      simp only [Option.some.injEq, Prod.mk.injEq] at h
      obtain ⟨rfl, rfl, rfl⟩ := h
      unfold builtinA at hv
      simp only [inertB, Bool.false_eq_true, if_false] at hv
      unfold q1n at hv
      split at hv
      ·rename_i heq
       simp only [List.cons.injEq] at heq
       obtain ⟨he1, _⟩ := heq
       subst he1
       split at hv
       ·exact j2a hlt hv
       ·exact j2c hf hb hlt hv
       ·cases hv
      ·rename_i hb' _ _; cases hb'
      ·cases hv
     ·cases hargs
   ·cases h
  ·cases ht
 ·cases ht
end Go.BX
namespace Go.BX
variable {C : Ctx} {w : World} {U : Nat → Prop} {ι : Nat → Option Nat}
variable {ops : Array Oper} {i : Nat} {o : Oper} {fn : FuncId} {tmps : Array Value} {ds : List Deferred} {kd : CallKind} {ro : Option Nat}
theorem q2l {nt : Nat} {ao : AO} (h : q4p nt ops o = some ao) : ao.dst = o.dst ∧ ao.op = o.op ∧ (∀ d, o.dst = some d → d < nt) ∧ (ao.guard = none ∧ o.guard = none ∨ ∃ j b t, o.guard = some (j, b) ∧ q6j ops j = some t ∧ ao.guard = some (t, b)) := by
 unfold q4p at h
 split at h
 ·rename_i hd
  have hdd : ∀ d, o.dst = some d → d < nt := fun d e => by unfold y8m at hd; rw [e] at hd; simpa using hd
  split at h
  ·rename_i hg; cases h; exact ⟨rfl, rfl, hdd, .inl ⟨rfl, hg⟩⟩
  ·rename_i j b hg
   split at h
   ·rename_i t ht; cases h; exact ⟨rfl, rfl, hdd, .inr ⟨j, b, t, hg, ht, rfl⟩⟩
   ·cases h
 ·cases h
theorem q9v (hC : TOk C) {cl : Cl} (hs : SimCl C cl) {nt : Nat} {ao : AO} (hst : q4p nt ops o = some ao) {T : Nat → AV} {az az' : List ADef} {H H' : AHeap} {r : AV} (hH : HRel C w U ι H) (hT : TRel w U ι T tmps) (hD : DsRel w U ι az ds)
  (ho : ops[i]? = some o) (h : q3f C cl ro.isSome ao T az H = some (r, az', H')) (rest : List Nat) (k : List Item) (cs : List Frame) :
  ∃ v w' ds' U' ι', Steps C.P (lone (rf fn tmps (.inRegion ops (i :: rest) :: k) ds kd ro) cs w) (lone (rf fn (z6z tmps o.dst v) (.inRegion ops rest :: k) ds' kd ro) cs w') ∧
   BX.Leaves C w U ι H' r v w' U' ι' ∧ Fresh H ι ι' ∧ DsRel w' U' ι' az' ds' ∧ OpFacts C o.op T H H' ι ι' w w' ∧ (q2t o.op = false → ds' = ds ∧ az' = az) := by
 obtain ⟨hdst, hop, hlt, hg⟩ := q2l hst
 unfold q3f at h
 split at h
 ·rename_i hw
  rw [hop] at h
  exact j5n hC hs hH hT hD ho (z2p hst (fun t _ => hT t) hw) h rest k cs
 ·rename_i hw
  simp only [Option.some.injEq, Prod.mk.injEq] at h
  obtain ⟨rfl, rfl, rfl⟩ := h
  have hwf := z2p hst (fun t _ => hT t) hw
  refine ⟨undef, w, ds, U, ι, .one ?_, ⟨Ext.refl _ _ _, hH, .undef⟩, Fresh.refl _ _, hD, OpFacts.of_skip, fun _ => ⟨rfl, rfl⟩⟩
  have := @j9q C.P fn tmps k ds kd ro cs w ops i rest (by rw [ho]; simp [hwf])
  rw [ho, Option.bind_some] at this
  exact this
 ·cases h
theorem q5d {cl : Cl} (hn : NextMono cl) {ir : Bool} {ao : AO} {T : Nat → AV} {az az' : List ADef} {H H' : AHeap} {r : AV} (h : q3f C cl ir ao T az H = some (r, az', H')) :
  H.next ≤ H'.next ∧ (cls C.pure ao.op ≠ .writer → Grows H H') ∧ (cls C.pure ao.op = .inert → H' = H ∧ ∀ H2, q3f C cl ir ao T az H2 = some (r, az', H2)) := by
 unfold q3f at h
 split at h
 ·rename_i hw
  obtain ⟨h1, h2, h3⟩ := x1w hn h
  refine ⟨h1, h2, fun hc => ⟨(h3 hc).1, fun H2 => ?_⟩⟩
  unfold q3f
  rw [hw]
  exact (h3 hc).2 H2
 ·rename_i hw
  simp only [Option.some.injEq, Prod.mk.injEq] at h
  obtain ⟨rfl, rfl, rfl⟩ := h
  exact ⟨Nat.le_refl _, fun _ => Grows.refl _, fun _ => ⟨rfl, fun H2 => by unfold q3f; rw [hw]⟩⟩
 ·cases h
theorem z7y {cl : Cl} {ir : Bool} {ao : AO} {T : Nat → AV} {az az' : List ADef} {H H' : AHeap} {r : AV} {t : Nat} (ht : ldT ao.op = some t) (h : q3f C cl ir ao T az H = some (r, az', H')) :
  H' = H ∧ ∀ H2, (∀ b, z3t (T t) = some (some b) → H2.at_ b = H.at_ b) → q3f C cl ir ao T az H2 = some (r, az', H2) := by
 unfold q3f at h
 split at h
 ·rename_i hw
  obtain ⟨h1, h2⟩ := x7h ht h
  exact ⟨h1, fun H2 h3 => by unfold q3f; rw [hw]; exact h2 H2 h3⟩
 ·rename_i hw
  simp only [Option.some.injEq, Prod.mk.injEq] at h
  obtain ⟨rfl, rfl, rfl⟩ := h
  exact ⟨rfl, fun H2 _ => by unfold q3f; rw [hw]⟩
 ·cases h
theorem x7i {cl : Cl} {ir : Bool} {ao : AO} {T : Nat → AV} {az az' : List ADef} {H H' : AHeap} {r : AV} {t b : Nat} {f : Option Nat} (ht : fwT ao.op = some t) (hf : z3t (T t) = some f) (hb : f ≠ some b) (hlt : b < H.next) (h : q3f C cl ir ao T az H = some (r, az', H')) : H'.at_ b = H.at_ b := by
 unfold q3f at h
 split at h
 ·exact y8p ht hf hb hlt h
 ·simp only [Option.some.injEq, Prod.mk.injEq] at h
  obtain ⟨rfl, rfl, rfl⟩ := h
  rfl
 ·cases h
theorem j5r {cl : Cl} {ir : Bool} {nt : Nat} {ao : AO} (hst : q4p nt ops o = some ao) {T T' : Nat → AV} {az : List ADef} {H : AHeap} (h : ∀ t, t ∈ q4s ops o → T t = T' t) : q3f C cl ir ao T az H = q3f C cl ir ao T' az H := by
 obtain ⟨hdst, hop, hlt, hg⟩ := q2l hst
 have hw : q4o T ao.guard = q4o T' ao.guard := by
  rcases hg with ⟨h1, h2⟩ | ⟨j, b, t, h1, h2, h3⟩
  ·rw [h1]; rfl
  ·rw [h3]; simp only [q4o]
   rw [h t (by unfold q4s; simp [h1, h2])]
 unfold q3f
 rw [hw, j5p (T := T) (T' := T') (fun t ht => h t (by unfold q4s; rw [List.mem_append]; left; rw [← hop]; exact ht))]
theorem x7j {cl : Cl} {ir : Bool} {ao : AO} {T : Nat → AV} {az az' : List ADef} {H H' : AHeap} {r : AV} (h : q3f C cl ir ao T az H = some (r, az', H')) (hd : q2t ao.op = false) : az' = az := by
 unfold q3f at h
 split at h
 ·unfold q1l at h
  split at h
  ·split at h
   ·simp only [Option.some.injEq, Prod.mk.injEq] at h; exact h.2.1.symm
   ·cases h
  ·rename_i c hop; rw [hop] at hd; simp [q2t] at hd
  ·split at h
   ·simp only [Option.some.injEq, Prod.mk.injEq] at h; exact h.2.1.symm
   ·cases h
 ·simp only [Option.some.injEq, Prod.mk.injEq] at h; exact h.2.1.symm
 ·cases h
theorem z0q (tmps : Array Value) (d : Option Nat) (v : Value) : (z6z tmps d v).size = tmps.size := by cases d <;> simp [z6z]
theorem x1x {T : Nat → AV} (hT : TRel w U ι T tmps) {d : Option Nat} (hd : ∀ x, d = some x → x < tmps.size) {a : AV} {v : Value} (h : VRel w U ι a v) : TRel w U ι (putA T d a) (z6z tmps d v) := by
 cases d with
 | none => exact hT
 | some x =>
  have hx := hd x rfl
  intro t
  simp only [putA, z6z]
  by_cases e : t = x
  ·subst e
   rw [upd_same]
   simpa [Array.getD_eq_getD_getElem?, hx] using h
  ·rw [q2d _ _ e]
   have := hT t
   simpa [Array.getD_eq_getD_getElem?, Array.getElem?_setIfInBounds, Ne.symm e] using this
theorem j5s (hC : TOk C) {cl : Cl} (hs : SimCl C cl) (hn : NextMono cl) {nt : Nat} : ∀ (aos : List AO) (i : Nat) (w : World) (U : Nat → Prop) (ι : Nat → Option Nat) (tmps : Array Value) (ds : List Deferred) (T T' : Nat → AV) (az az' : List ADef) (H H' : AHeap),
  (∀ j ao, aos[j]? = some ao → ∃ o, ops[i + j]? = some o ∧ q4p nt ops o = some ao) → nt ≤ tmps.size → HRel C w U ι H → TRel w U ι T tmps → DsRel w U ι az ds → q1z C cl ro.isSome aos T az H = some (T', az', H') → ∀ (k : List Item) (cs : List Frame),
   ∃ tmps' w' ds' U' ι', Steps C.P (lone (rf fn tmps (.inRegion ops (List.range' i aos.length) :: k) ds kd ro) cs w) (lone (rf fn tmps' k ds' kd ro) cs w') ∧
    Ext w U ι w' U' ι' ∧ HRel C w' U' ι' H' ∧ TRel w' U' ι' T' tmps' ∧ DsRel w' U' ι' az' ds' ∧ Fresh H ι ι' ∧ tmps'.size = tmps.size ∧ H.next ≤ H'.next := by
 intro aos
 induction aos with
 | nil =>
  intro i w U ι tmps ds T T' az az' H H' _ _ hH hT hD h k cs
  simp only [q1z, Option.some.injEq, Prod.mk.injEq] at h
  obtain ⟨rfl, rfl, rfl⟩ := h
  exact ⟨tmps, w, ds, U, ι, .one q6u, Ext.refl _ _ _, hH, hT, hD, Fresh.refl _ _, rfl, Nat.le_refl _⟩
 | cons ao aos ih =>
  intro i w U ι tmps ds T T' az az' H H' hal hnt hH hT hD h k cs
  obtain ⟨o, ho, hst⟩ := hal 0 ao rfl
  simp only [Nat.add_zero] at ho
  simp only [q1z] at h
  split at h
  ·rename_i r as1 H1 hr
   obtain ⟨hdst, hop, hlt, _⟩ := q2l hst
   obtain ⟨v, w1, ds1, U1, ι1, hsteps, hl, hf, hd1, hof, _⟩ := q9v (fn := fn) (kd := kd) hC hs hst hH hT hD ho hr (List.range' (i + 1) aos.length) k cs
   have hT1 : TRel w1 U1 ι1 (putA T ao.dst r) (z6z tmps o.dst v) := by
    rw [hdst]
    exact x1x (hT.mono (fun hv => hl.ext.mono hH hv)) (fun x hx => Nat.lt_of_lt_of_le (hlt x hx) hnt) hl.val
   have hnx : H.next ≤ H1.next := (q5d hn hr).1
   obtain ⟨tmps', w', ds', U', ι', hsteps', he, hh, ht, hd, hfr, hsz, hnx'⟩ := ih (i + 1) w1 U1 ι1 (z6z tmps o.dst v) ds1 (putA T ao.dst r) T' as1 az' H1 H' (fun j ao' hj => by
    obtain ⟨o', ho', x1e⟩ := hal (j + 1) ao' (by simpa using hj)
    exact ⟨o', by rw [← ho']; congr 1; omega, x1e⟩) (by rw [z0q]; exact hnt) hl.heap hT1 hd1 h k cs
   refine ⟨tmps', w', ds', U', ι', Steps.trans (by rw [List.length_cons, List.range'_succ]; exact hsteps) hsteps', hl.ext.trans he, hh, ht, hd, fun b c hb => ?_, by rw [hsz, z0q], Nat.le_trans hnx hnx'⟩
   rcases hfr b c hb with hb | hb
   ·exact hf b c hb
   ·exact .inr (Nat.le_trans hnx hb)
  ·cases h
end Go.BX
namespace Go.BX
variable {C : Ctx} {cl : Cl} {ir : Bool} {ops : Array Oper} {nt : Nat} {az : List ADef} {Ts : Nat → Nat → AV} {Hs : Nat → AHeap} {vs : Nat → AV}
theorem q8o {x y : Oper} (h : z4k ops x y = true) : (∀ d, x.dst = some d → d ∉ q4s ops y ∧ y.dst ≠ some d) ∧ (∀ d, y.dst = some d → d ∉ q4s ops x) := by
 unfold z4k at h
 simp only [Bool.and_eq_true] at h
 obtain ⟨h1, h2⟩ := h
 refine ⟨fun d hd => ?_, fun d hd => ?_⟩
 ·rw [hd] at h1
  simp only [Bool.and_eq_true, Bool.not_eq_true', List.contains_eq_mem, decide_eq_false_iff_not, beq_eq_false_iff_ne] at h1
  exact h1
 ·rw [hd] at h2
  simpa using h2
theorem j2d {pure : FuncId → Bool} {x y : Oper} (h : q9r pure ops x y = true) :
  z4k ops x y = true ∧ (cls pure x.op = .writer → cls pure y.op = .inert) ∧ (cls pure y.op = .writer → cls pure x.op = .inert) := by
 unfold q9r at h
 simp only [Bool.and_eq_true] at h
 obtain ⟨⟨⟨⟨⟨h1, h2⟩, h3⟩, h4⟩, h5⟩, h6⟩ := h
 refine ⟨by unfold z4k; rw [Bool.and_eq_true]; exact ⟨h1, h2⟩, fun hc => ?_, fun hc => ?_⟩
 ·rw [hc] at h5
  simpa using h5
 ·rw [hc] at h6
  simpa using h6
theorem q6m {pure : FuncId → Bool} {op : Op} {t : Nat} (h : ldT op = some t) : cls pure op = .reader := by
 unfold ldT at h
 split at h
 ·rfl
 ·cases h
theorem x7k {o : Oper} {t : Nat} (h : ldT o.op = some t) : t ∈ q4s ops o := by
 unfold ldT at h
 split at h
 ·rename_i heq
  cases h
  unfold q4s
  rw [heq]
  simp [q3d, Op.operands]
 ·cases h
structure Trace (C : Ctx) (cl : Cl) (ir : Bool) (ops : Array Oper) (nt : Nat) (az : List ADef) (Ts : Nat → Nat → AV) (Hs : Nat → AHeap) (vs : Nat → AV) : Prop where
 op : ∀ i o, ops[i]? = some o → ∃ ao, q4p nt ops o = some ao ∧ q3f C cl ir ao (Ts i) az (Hs i) = some (vs i, az, Hs (i + 1)) ∧ Ts (i + 1) = putA (Ts i) o.dst (vs i)
 dyn : ∀ j o c t, ops[j]? = some o → (y3i C.pure ops)[j]? = some c → t ∈ c → ∃ t', adT o.op = some t' ∧ z0k (Ts j t) (Ts j t') = true
theorem x7l : ∀ (aos : List AO) (chk : List (List Nat)) (T : Nat → AV) (az az' : List ADef) (H : AHeap) (T' : Nat → AV) (H' : AHeap), q1z C cl ir aos T az H = some (T', az', H') → j9f C cl ir aos chk T az H = true → (∀ ao, ao ∈ aos → q2t ao.op = false) →
  az' = az ∧ ∃ (Ts : Nat → Nat → AV) (Hs : Nat → AHeap) (vs : Nat → AV), Ts 0 = T ∧ Hs 0 = H ∧ Ts aos.length = T' ∧ Hs aos.length = H' ∧ (∀ i ao, aos[i]? = some ao → q3f C cl ir ao (Ts i) az (Hs i) = some (vs i, az, Hs (i + 1)) ∧ Ts (i + 1) = putA (Ts i) ao.dst (vs i)) ∧
   ∀ i ao c t, aos[i]? = some ao → chk[i]? = some c → t ∈ c → ∃ t', adT ao.op = some t' ∧ z0k (Ts i t) (Ts i t') = true := by
 intro aos
 induction aos with
 | nil =>
  intro chk T az az' H T' H' h _ _
  simp only [q1z, Option.some.injEq, Prod.mk.injEq] at h
  obtain ⟨rfl, rfl, rfl⟩ := h
  exact ⟨rfl, fun _ => T, fun _ => H, fun _ => .undef, rfl, rfl, rfl, rfl, fun i ao h => by simp at h, fun i ao c t h => by simp at h⟩
 | cons ao aos ih =>
  intro chk T az az' H T' H' h hdy hd
  simp only [q1z] at h
  split at h
  ·rename_i r as1 H1 hr
   have e1 := x7j hr (hd ao (by simp))
   subst e1
   have hdy' : j9f C cl ir aos chk.tail (putA T ao.dst r) as1 H1 = true ∧ ∀ c t, chk[0]? = some c → t ∈ c → ∃ t', adT ao.op = some t' ∧ z0k (T t) (T t') = true := by
    cases chk with
    | nil => exact ⟨by cases aos <;> rfl, fun c t h => by simp at h⟩
    | cons c chk =>
     simp only [j9f, hr, Bool.and_eq_true, List.all_eq_true] at hdy
     refine ⟨hdy.2, fun c' t hc' ht => ?_⟩
     simp only [List.getElem?_cons_zero, Option.some.injEq] at hc'
     subst hc'
     have := hdy.1 t ht
     split at this
     ·rename_i t' ht'
      exact ⟨t', ht', this⟩
     ·cases this
   obtain ⟨e2, Ts, Hs, vs, hT0, hH0, hTn, hHn, hop, hdd⟩ := ih _ _ _ _ _ _ _ h hdy'.1 (fun a ha => hd a (by simp [ha]))
   refine ⟨e2, fun | 0 => T | i + 1 => Ts i, fun | 0 => H | i + 1 => Hs i, fun | 0 => r | i + 1 => vs i, rfl, rfl, hTn, hHn, fun i a ha => ?_, fun i a c t ha hc ht => ?_⟩
   ·cases i with
    | zero =>
     simp only [List.getElem?_cons_zero, Option.some.injEq] at ha
     subst ha
     subst hH0
     exact ⟨hr, hT0⟩
    | succ i => exact hop i a (by simpa using ha)
   ·cases i with
    | zero =>
     simp only [List.getElem?_cons_zero, Option.some.injEq] at ha
     subst ha
     exact hdy'.2 c t hc ht
    | succ i => exact hdd i a c t (by simpa using ha) (by cases chk <;> simpa using hc) ht
  ·cases h
namespace Trace
variable (tr : Trace C cl ir ops nt az Ts Hs vs)
include tr
theorem next1 (hn : NextMono cl) {i : Nat} (hi : i < ops.size) : (Hs i).next ≤ (Hs (i + 1)).next := by
 obtain ⟨ao, _, hr, _⟩ := tr.op i _ (Array.getElem?_eq_getElem hi)
 exact (q5d hn hr).1
theorem next (hn : NextMono cl) {i j : Nat} (hij : i ≤ j) (hj : j ≤ ops.size) : (Hs i).next ≤ (Hs j).next := by
 induction j with
 | zero => have : i = 0 := by omega
           subst this; exact Nat.le_refl _
 | succ j ih =>
  by_cases e : i = j + 1
  ·subst e; exact Nat.le_refl _
  ·exact Nat.le_trans (ih (by omega) (by omega)) (tr.next1 hn (by omega))
theorem grows (hn : NextMono cl) {i j : Nat} (hij : i ≤ j) (hj : j ≤ ops.size) (hw : ∀ l o, i ≤ l → l < j → ops[l]? = some o → cls C.pure o.op ≠ .writer) : Grows (Hs i) (Hs j) := by
 induction j with
 | zero => have : i = 0 := by omega
           subst this; exact Grows.refl _
 | succ j ih =>
  by_cases e : i = j + 1
  ·subst e; exact Grows.refl _
  ·refine (ih (by omega) (by omega) (fun l o hl hlj ho => hw l o hl (by omega) ho)).trans ?_
   have hlt : j < ops.size := by omega
   obtain ⟨ao, hst, hr, _⟩ := tr.op j _ (Array.getElem?_eq_getElem hlt)
   refine (q5d hn hr).2.1 ?_
   rw [(q2l hst).2.1]
   exact hw j _ (by omega) (by omega) (Array.getElem?_eq_getElem hlt)
theorem find (hn : NextMono cl) {a m b : Nat} (ham : a ≤ m) (hm : m ≤ ops.size) (h1 : (Hs a).next ≤ b) (h2 : b < (Hs m).next) : ∃ j, a ≤ j ∧ j < m ∧ (Hs j).next ≤ b ∧ b < (Hs (j + 1)).next := by
 induction m with
 | zero => have : a = 0 := by omega
           subst this; omega
 | succ m ih =>
  by_cases e : a = m + 1
  ·subst e; omega
  ·by_cases hb : b < (Hs m).next
   ·obtain ⟨j, h3, h4, h5, h6⟩ := ih (by omega) (by omega) hb
    exact ⟨j, h3, by omega, h5, h6⟩
   ·exact ⟨m, by omega, by omega, by omega, h2⟩
theorem slot {i t : Nat} (hi : i ≤ ops.size) : (∃ j, j < i ∧ q6j ops j = some t ∧ (∀ l, j < l → l < i → q6j ops l ≠ some t) ∧ Ts i t = vs j) ∨ ((∀ j, j < i → q6j ops j ≠ some t) ∧ Ts i t = Ts 0 t) := by
 induction i with
 | zero => exact .inr ⟨fun j hj => by omega, rfl⟩
 | succ i ih =>
  have hlt : i < ops.size := by omega
  obtain ⟨ao, hst, hr, hT⟩ := tr.op i _ (Array.getElem?_eq_getElem hlt)
  have hd : q6j ops i = ops[i].dst := by unfold q6j; rw [Array.getElem?_eq_getElem hlt]; rfl
  by_cases e : ops[i].dst = some t
  ·refine .inl ⟨i, by omega, by rw [hd, e], fun l h1 h2 => by omega, ?_⟩
   rw [hT, e]; simp [putA]
  ·have hTt : Ts (i + 1) t = Ts i t := by
    rw [hT]
    cases hdd : ops[i].dst with
    | none => rfl
    | some d => simp only [putA]; exact q2d _ _ (fun h => e (by rw [hdd, h]))
   rcases ih (by omega) with ⟨j, h1, h2, h3, h4⟩ | ⟨h1, h2⟩
   ·refine .inl ⟨j, by omega, h2, fun l hl1 hl2 => ?_, by rw [hTt, h4]⟩
    by_cases el : l = i
    ·subst el; rw [hd]; exact e
    ·exact h3 l hl1 (by omega)
   ·refine .inr ⟨fun j hj => ?_, by rw [hTt, h2]⟩
    by_cases el : j = i
    ·subst el; rw [hd]; exact e
    ·exact h1 j (by omega)
end Trace
def res (Hs : Nat → AHeap) (ι : Nat → Option Nat) (m : Nat) : Nat → Option Nat := fun b => if b < (Hs m).next then ι b else none
theorem q0z {ι : Nat → Option Nat} {m b c : Nat} (h : res Hs ι m b = some c) : b < (Hs m).next ∧ ι b = some c := by
 unfold res at h
 split at h
 ·exact ⟨by assumption, h⟩
 ·cases h
theorem q5u {ι : Nat → Option Nat} {m b c : Nat} (h : b < (Hs m).next) (h' : ι b = some c) : res Hs ι m b = some c := by
 unfold res; rw [if_pos h]; exact h'
def NT (Ts : Nat → Nat → AV) (l : Nat) (y : Oper) (b : Nat) : Prop := ∃ t f, fwT y.op = some t ∧ z3t (Ts l t) = some f ∧ f ≠ some b
theorem Trace.nt_kept (tr : Trace C cl ir ops nt az Ts Hs vs) {l : Nat} {y : Oper} (hy : ops[l]? = some y) {b : Nat} (h : NT Ts l y b) (hlt : b < (Hs l).next) : (Hs (l + 1)).at_ b = (Hs l).at_ b := by
 obtain ⟨t, f, h1, h2, h3⟩ := h
 obtain ⟨ao, hst, hr, _⟩ := tr.op l y hy
 exact x7i (by rw [(q2l hst).2.1]; exact h1) h2 h3 hlt hr
theorem Trace.kept (tr : Trace C cl ir ops nt az Ts Hs vs) (hn : NextMono cl) {i j b : Nat} (hij : i ≤ j) (hj : j ≤ ops.size) (hb : b < (Hs i).next) (hw : ∀ l y, i ≤ l → l < j → ops[l]? = some y → cls C.pure y.op = .writer → NT Ts l y b) : (Hs j).at_ b = (Hs i).at_ b := by
 induction j with
 | zero => have : i = 0 := by omega
           subst this; rfl
 | succ j ih =>
  by_cases e : i = j + 1
  ·subst e; rfl
  ·have h1 := ih (by omega) (by omega) (fun l y hl hlj hy hc => hw l y hl (by omega) hy hc)
   have hlt : j < ops.size := by omega
   have hbj : b < (Hs j).next := Nat.lt_of_lt_of_le hb (tr.next hn (by omega) (by omega))
   rw [← h1]
   by_cases hc : cls C.pure ops[j].op = .writer
   ·exact tr.nt_kept (Array.getElem?_eq_getElem hlt) (hw j _ (by omega) (by omega) (Array.getElem?_eq_getElem hlt) hc) hbj
   ·obtain ⟨ao, hst, hr, _⟩ := tr.op j _ (Array.getElem?_eq_getElem hlt)
    exact ((q5d hn hr).2.1 (by rw [(q2l hst).2.1]; exact hc)).2 b hbj
theorem Trace.still (tr : Trace C cl ir ops nt az Ts Hs vs) {t : Nat} : ∀ {i j : Nat}, i ≤ j → j ≤ ops.size → (∀ l, i ≤ l → l < j → q6j ops l ≠ some t) → Ts j t = Ts i t := by
 intro i j hij hj h
 induction j with
 | zero => have : i = 0 := by omega
           subst this; rfl
 | succ j ih =>
  by_cases e : i = j + 1
  ·subst e; rfl
  ·rw [← ih (by omega) (by omega) (fun l h1 h2 => h l h1 (by omega))]
   have hlt : j < ops.size := by omega
   obtain ⟨ao, hst, hr, hT⟩ := tr.op j _ (Array.getElem?_eq_getElem hlt)
   have hd : q6j ops j = ops[j].dst := by unfold q6j; rw [Array.getElem?_eq_getElem hlt]; rfl
   rw [hT]
   cases hdd : ops[j].dst with
   | none => rfl
   | some d => exact q2d _ _ (fun h' => h j (by omega) (by omega) (by rw [hd, hdd, h']))
structure PairOk (C : Ctx) (ops : Array Oper) (Ts : Nat → Nat → AV) (i : Nat) (x : Oper) (j : Nat) (y : Oper) : Prop where
 s1 : ∀ d, x.dst = some d → d ∉ q4s ops y ∧ y.dst ≠ some d
 s2 : ∀ d, y.dst = some d → d ∉ q4s ops x
 kinds : ((cls C.pure x.op = .writer → cls C.pure y.op = .inert) ∧ (cls C.pure y.op = .writer → cls C.pure x.op = .inert)) ∨
  (∃ t f, ldT x.op = some t ∧ z3t (Ts i t) = some f ∧ ∀ b, f = some b → NT Ts j y b) ∨ (∃ t f, ldT y.op = some t ∧ z3t (Ts j t) = some f ∧ ∀ b, f = some b → NT Ts i x b)
theorem j9u {a b : AV} (h : z0k a b = true) : ∃ f g, z3t a = some f ∧ z3t b = some g ∧ ∀ x, f = some x → g ≠ some x := by
 unfold z0k at h
 split at h
 ·rename_i x y h1 h2
  exact ⟨_, _, h1, h2, fun z hz e => by cases hz; cases e; simp at h⟩
 ·rename_i x y hne h1 h2
  exact ⟨_, _, h1, h2, fun z hz e => by subst hz; subst e; exact hne z z rfl rfl⟩
 ·cases h
theorem Trace.pair (tr : Trace C cl ir ops nt az Ts Hs vs) (hd : q6k C.pure ops = true) {i j : Nat} (hij : i < j) {x y : Oper} (hx : ops[i]? = some x) (hy : ops[j]? = some y) :
  ((z0n ops.toList #[]).getD j 0).testBit i = true ∨ PairOk C ops Ts i x j y := by
 rcases j4v hd hij hx hy with h | h | ⟨h, hc⟩
 ·exact .inl h
 ·obtain ⟨h1, h2⟩ := j2d h
  exact .inr ⟨(q8o h1).1, (q8o h1).2, .inl h2⟩
 ·right
  unfold w8h at h
  simp only [Bool.and_eq_true] at h
  obtain ⟨⟨h1, h2⟩, h3⟩ := h
  have hjlt : j < ops.size := (Array.getElem?_eq_some_iff.mp hy).1
  split at h3
  ·rename_i t ht
   obtain ⟨c, hcj, htc⟩ := hc t ht
   obtain ⟨t', ht', hap⟩ := tr.dyn j y c t hy hcj htc
   have hst : Ts j t = Ts i t := tr.still (by omega) (by omega) (fun l hl1 hl2 => by
    rw [List.all_eq_true] at h3
    have := h3 l (List.mem_range.mpr hl2)
    simp only [Bool.or_eq_true, decide_eq_true_eq, Bool.not_eq_true', beq_eq_false_iff_ne] at this
    rcases this with h | h
    ·omega
    ·exact h)
   rw [hst] at hap
   obtain ⟨f, g, hf, hg, hfg⟩ := j9u hap
   refine ⟨(q8o h1).1, (q8o h1).2, .inr ?_⟩
   simp only [Bool.or_eq_true, Bool.and_eq_true] at h2
   rcases h2 with ⟨h4, h5⟩ | ⟨h4, h5⟩
   ·obtain ⟨tx, htx⟩ := Option.isSome_iff_exists.mp h4
    obtain ⟨ty, hty⟩ := Option.isSome_iff_exists.mp h5
    have e1 : tx = t := by unfold adT at ht; rw [htx] at ht; simpa using ht
    have e2 : ty = t' := by
     unfold adT at ht'
     split at ht'
     ·rename_i z hz
      have e4 := q6m (pure := C.pure) hz
      rw [q8n hty] at e4
      cases e4
     ·rw [hty] at ht'; simpa using ht'
    subst e1; subst e2
    exact .inl ⟨tx, f, htx, hf, fun b hb => ⟨ty, g, hty, hg, hfg b hb⟩⟩
   ·obtain ⟨tx, htx⟩ := Option.isSome_iff_exists.mp h4
    obtain ⟨ty, hty⟩ := Option.isSome_iff_exists.mp h5
    have e2 : ty = t' := by unfold adT at ht'; rw [hty] at ht'; simpa using ht'
    have e1 : tx = t := by
     unfold adT at ht
     split at ht
     ·rename_i z hz
      have e4 := q6m (pure := C.pure) hz
      rw [q8n htx] at e4
      cases e4
     ·rw [htx] at ht; simpa using ht
    subst e1; subst e2
    exact .inr ⟨ty, g, hty, hg, fun b hb => ⟨tx, f, htx, hf, fun e => hfg b e hb⟩⟩
  ·cases h3
structure Inv (C : Ctx) (ops : Array Oper) (az : List ADef) (Ts : Nat → Nat → AV) (Hs : Nat → AHeap) (vs : Nat → AV) (ds : List Deferred) (S : Nat → Prop) (w : World) (U : Nat → Prop) (ι : Nat → Option Nat) (tmps : Array Value) : Prop where
 dom : ∀ b c, ι b = some c → b < (Hs ops.size).next ∧ c < w.heap.size
 imm : ∀ c, U c → c < w.heap.size ∧ ∀ b, ι b ≠ some c
 slot : ∀ t, (∃ i, i < ops.size ∧ S i ∧ q6j ops i = some t ∧ (∀ j, S j → q6j ops j = some t → j ≤ i) ∧ VRel w U (res Hs ι (i + 1)) (vs i) (tmps.getD t undef)) ∨
  ((∀ i, S i → q6j ops i ≠ some t) ∧ VRel w U (res Hs ι 0) (Ts 0 t) (tmps.getD t undef))
 inj : ∀ m, m ≤ ops.size → (∀ i o, ops[i]? = some o → cls C.pure o.op = .writer → (S i ↔ i < m)) → ∀ b b' c, res Hs ι m b = some c → res Hs ι m b' = some c → ((Hs m).at_ b).isDead = false → ((Hs m).at_ b').isDead = false → b = b'
 blk : ∀ m, m ≤ ops.size → ∀ b c, res Hs ι m b = some c → (∀ l y, ops[l]? = some y → cls C.pure y.op = .writer → (¬ S l ∧ l < m ∨ S l ∧ m ≤ l) → NT Ts l y b) → BRel C w U (res Hs ι m) c ((Hs m).at_ b)
 unm : ∀ i, i < ops.size → ¬ S i → ∀ b, (Hs i).next ≤ b → b < (Hs (i + 1)).next → ι b = none
 dfr : DsRel w U (res Hs ι 0) az ds
theorem Inv.heap {ds : List Deferred} {S : Nat → Prop} {w : World} {U : Nat → Prop} {ι : Nat → Option Nat} {tmps : Array Value} (inv : Inv C ops az Ts Hs vs ds S w U ι tmps) (m : Nat) (hm : m ≤ ops.size) (hw : ∀ i o, ops[i]? = some o → cls C.pure o.op = .writer → (S i ↔ i < m)) : HRel C w U (res Hs ι m) (Hs m) :=
 ⟨fun b c hb => ⟨(q0z hb).1, (inv.dom b c (q0z hb).2).2⟩, inv.inj m hm hw, fun c hc => ⟨(inv.imm c hc).1, fun b hb => (inv.imm c hc).2 b (q0z hb).2⟩, fun b c hb => inv.blk m hm b c hb (fun l y hy hc h => by
  rcases h with ⟨h1, h2⟩ | ⟨h1, h2⟩
  ·exact absurd ((hw l y hy hc).mpr h2) h1
  ·have := (hw l y hy hc).mp h1; omega)⟩
theorem x7m (hC : TOk C) (hs : SimCl C cl) (hn : NextMono cl) (hd : q6k C.pure ops = true) {fn : FuncId} {kd : CallKind} {ro : Option Nat} (tr : Trace C cl ro.isSome ops nt az Ts Hs vs) {ds : List Deferred} {S : Nat → Prop} {w : World} {U : Nat → Prop} {ι : Nat → Option Nat} {tmps : Array Value} (hS : z4l ops S) {i : Nat} {o : Oper} (ho : ops[i]? = some o) (hiS : ¬ S i)
  (hrdy : ∀ e, e ∈ o.after.toList → Region.binds .any e = true → S e.on) (inv : Inv C ops az Ts Hs vs ds S w U ι tmps) (hnt : nt ≤ tmps.size) (rest : List Nat) (k : List Item) (cs : List Frame) :
  ∃ v w' U' ι', Steps C.P (lone (rf fn tmps (.inRegion ops (i :: rest) :: k) ds kd ro) cs w) (lone (rf fn (z6z tmps o.dst v) (.inRegion ops rest :: k) ds kd ro) cs w') ∧
   Inv C ops az Ts Hs vs ds (fun j => S j ∨ j = i) w' U' ι' (z6z tmps o.dst v) ∧ z4l ops (fun j => S j ∨ j = i) ∧ Ext w U ι w' U' ι' ∧ (∀ b c, ι' b = some c → ι b = some c ∨ (Hs 0).next ≤ b) := by
 have hi : i < ops.size := (Array.getElem?_eq_some_iff.mp ho).1
 have hcl : z4l ops (fun j => S j ∨ j = i) := by
  intro j o' ho' hj e he hb
  rcases hj with hj | rfl
  ·exact .inl (hS j o' ho' hj e he hb)
  ·rw [ho] at ho'; cases ho'
   exact .inl (hrdy e he hb)
 have P1 : ∀ j y, j < i → ops[j]? = some y → ¬ S j → PairOk C ops Ts j y i o := fun j y hj hy hSj => by
  rcases tr.pair hd hj hy ho with h | h
  ·rcases z4m hcl h (.inr rfl) with h | h
   ·exact absurd h hSj
   ·omega
  ·exact h
 have P2 : ∀ j y, i < j → ops[j]? = some y → S j → PairOk C ops Ts i o j y := fun j y hj hy hSj => by
  rcases tr.pair hd hj ho hy with h | h
  ·exact absurd (z4m hS h hSj) hiS
  ·exact h
 have j7b : ∀ j d, q6j ops j = some d → ∃ y, ops[j]? = some y ∧ y.dst = some d := fun j d h => by
  unfold q6j at h
  cases hy : ops[j]? with
  | none => rw [hy] at h; cases h
  | some y => rw [hy] at h; exact ⟨y, rfl, h⟩
 have ldne : ∀ {y : Oper} {t : Nat}, ldT y.op = some t → cls C.pure y.op = .writer → False := fun h h' => by
  rw [q6m (pure := C.pure) h] at h'; cases h'
 have W1 : cls C.pure o.op ≠ .inert → (∀ t, ldT o.op ≠ some t) → ∀ j y, j < i → ops[j]? = some y → cls C.pure y.op = .writer → S j := fun h1 h2 j y hj hy hw => by
  refine Classical.byContradiction fun hSj => ?_
  rcases (P1 j y hj hy hSj).kinds with h | ⟨t, f, h, _⟩ | ⟨t, f, h, _⟩
  ·exact h1 (h.1 hw)
  ·exact ldne h hw
  ·exact h2 t h
 have W2 : cls C.pure o.op ≠ .inert → (∀ t, ldT o.op ≠ some t) → ∀ j y, i < j → ops[j]? = some y → cls C.pure y.op = .writer → ¬ S j := fun h1 h2 j y hj hy hw hSj => by
  rcases (P2 j y hj hy hSj).kinds with h | ⟨t, f, h, _⟩ | ⟨t, f, h, _⟩
  ·exact h1 (h.2 hw)
  ·exact h2 t h
  ·exact ldne h hw
 have noalloc : ∀ j y, ops[j]? = some y → (cls C.pure y.op = .inert ∨ ∃ t, ldT y.op = some t) → Hs (j + 1) = Hs j := fun j y hy h => by
  obtain ⟨ao', x1e, hr', _⟩ := tr.op j y hy
  have e := (q2l x1e).2.1
  rcases h with h | ⟨t, h⟩
  ·exact ((q5d hn hr').2.2 (by rw [e]; exact h)).1
  ·exact (z7y (by rw [e]; exact h) hr').1
 have W3 : cls C.pure o.op = .writer → ∀ j y, i < j → ops[j]? = some y → S j → Hs (j + 1) = Hs j := fun hw j y hj hy hSj => by
  rcases (P2 j y hj hy hSj).kinds with h | ⟨t, f, h, _⟩ | ⟨t, f, h, _⟩
  ·exact noalloc j y hy (.inl (h.1 hw))
  ·exact (ldne h hw).elim
  ·exact noalloc j y hy (.inr ⟨t, h⟩)
 obtain ⟨ao, hst, hr, hT1⟩ := tr.op i o ho
 obtain ⟨_, hop, hlt, _⟩ := q2l hst
 have hnd := z2l hd ho
 let T2 : Nat → AV := fun t => if t ∈ q4s ops o then Ts i t else .any
 have hr2 : q3f C cl ro.isSome ao T2 az (Hs i) = some (vs i, az, Hs (i + 1)) := by
  rw [← hr]
  exact j5r hst (fun t ht => by simp [T2, ht])
 have hUk : ∀ c, U c → c < w.heap.size := fun c hc => (inv.imm c hc).1
 have w7d : ∀ m m', m ≤ m' → m' ≤ ops.size → ∀ b c, res Hs ι m b = some c → res Hs ι m' b = some c := fun m m' hm hm' b c h => by
  obtain ⟨h1, h2⟩ := q0z h
  exact q5u (Nat.lt_of_lt_of_le h1 (tr.next hn hm hm')) h2
 have hup : ∀ {m m' : Nat} {a : AV} {v : Value}, m ≤ m' → m' ≤ ops.size → VRel w U (res Hs ι m) a v → VRel w U (res Hs ι m') a v := fun hm hm' hv =>
  hv.mono (fun _ h => h) (fun _ _ => rfl) (fun _ _ h => h) _ (w7d _ _ hm hm')
 have hT2 : TRel w U (res Hs ι i) T2 tmps := by
  intro t
  simp only [T2]
  split
  ·rename_i hu
   rcases tr.slot (i := i) (t := t) (by omega) with ⟨j, h1, h2, h3, h4⟩ | ⟨h1, h2⟩
   ·have hSj : S j := by
     refine Classical.byContradiction fun hSj => ?_
     obtain ⟨y, hy, hyd⟩ := j7b j t h2
     exact ((P1 j y h1 hy hSj).s1 t hyd).1 hu
    rcases inv.slot t with ⟨j', h5, h6, h7, h8, h9⟩ | ⟨h5, _⟩
    ·have hj' : j' = j := by
      have hle := h8 j hSj h2
      by_cases e : j' = j
      ·exact e
      ·obtain ⟨y, hy, hyd⟩ := j7b j' t h7
       by_cases hji : j' < i
       ·exact absurd h7 (h3 j' (by omega) hji)
       ·have hne : j' ≠ i := fun e => hiS (e ▸ h6)
        exact absurd hu ((P2 j' y (by omega) hy h6).s2 t hyd)
     subst hj'
     rw [h4]
     exact hup (by omega) (by omega) h9
    ·exact absurd h2 (h5 j hSj)
   ·rw [h2]
    rcases inv.slot t with ⟨j', h5, h6, h7, h8, h9⟩ | ⟨_, h6⟩
    ·obtain ⟨y, hy, hyd⟩ := j7b j' t h7
     by_cases hji : j' < i
     ·exact absurd h7 (h1 j' hji)
     ·have hne : j' ≠ i := fun e => hiS (e ▸ h6)
      exact absurd hu ((P2 j' y (by omega) hy h6).s2 t hyd)
    ·exact hup (by omega) (by omega) h6
  ·exact .any _
 have hD : DsRel w U (res Hs ι i) az ds := inv.dfr.mono (fun hv => hup (by omega) (by omega) hv) (w7d 0 i (by omega) (by omega))
 obtain ⟨v, w', U', ι1, hsteps, q3y, hinn, himm1, hdom1, x6p, hfresh, hrd, hhp, hwr⟩ : ∃ v w' U' ι1, Steps C.P (lone (rf fn tmps (.inRegion ops (i :: rest) :: k) ds kd ro) cs w) (lone (rf fn (z6z tmps o.dst v) (.inRegion ops rest :: k) ds kd ro) cs w') ∧
   Ext w U (res Hs ι i) w' U' ι1 ∧ ((cls C.pure o.op = .inert ∨ ∃ t, ldT o.op = some t) → Hs (i + 1) = Hs i) ∧ (∀ c, U' c → c < w'.heap.size ∧ ∀ b, ι1 b ≠ some c) ∧ (∀ b c, ι1 b = some c → b < (Hs (i + 1)).next ∧ c < w'.heap.size) ∧ VRel w' U' ι1 (vs i) v ∧
   (∀ b c, ι1 b = some c → res Hs ι i b = some c ∨ (Hs i).next ≤ b) ∧ (cls C.pure o.op ≠ .writer → (∀ c, c < w.heap.size → w'.heap[c]? = w.heap[c]?) ∧ ∀ b c, ι1 b = some c → res Hs ι i b = some c ∨ w.heap.size ≤ c) ∧
   (¬ (cls C.pure o.op = .inert ∨ ∃ t, ldT o.op = some t) → HRel C w' U' ι1 (Hs (i + 1))) ∧ (∀ t, fwT o.op = some t → ∀ c, c < w.heap.size → (∀ b, z3t (Ts i t) = some (some b) → ((Hs i).at_ b).isDead = false → res Hs ι i b ≠ some c) → w'.heap[c]? = w.heap[c]?) := by
  by_cases hin : cls C.pure o.op = .inert ∨ ∃ t, ldT o.op = some t
  ·-- what asks for no heap, or for one block
   have hstl := noalloc i o ho hin
   let HD : AHeap := { next := (Hs i).next, at_ := fun b => if ∃ t, ldT o.op = some t ∧ z3t (Ts i t) = some (some b) then (Hs i).at_ b else .dead }
   have hHD : HRel C w U (res Hs ι i) HD := by
    refine ⟨fun b c hb => ⟨(q0z hb).1, (inv.dom b c (q0z hb).2).2⟩, fun b b' c _ _ h h' => ?_, fun c hc => ⟨hUk c hc, fun b hb => (inv.imm c hc).2 b (q0z hb).2⟩, fun b c hb => ?_⟩
    ·by_cases c1 : ∃ t, ldT o.op = some t ∧ z3t (Ts i t) = some (some b)
     ·by_cases c2 : ∃ t, ldT o.op = some t ∧ z3t (Ts i t) = some (some b')
      ·obtain ⟨t, h1, h2⟩ := c1
       obtain ⟨t', h3, h4⟩ := c2
       rw [h1] at h3; cases h3
       rw [h2] at h4
       simpa using h4
      ·simp only [HD, if_neg c2, Blk.isDead] at h'
       cases h'
     ·simp only [HD, if_neg c1, Blk.isDead] at h
      cases h
    ·simp only [HD]
     split
     ·rename_i hc
      obtain ⟨t, h1, h2⟩ := hc
      refine inv.blk i (by omega) b c hb (fun l y hy hw h => ?_)
      rcases h with ⟨h3, h4⟩ | ⟨h3, h4⟩
      ·rcases (P1 l y h4 hy h3).kinds with h | ⟨t', f, h, _⟩ | ⟨t', f, h, h5, h6⟩
       ·have e4 := h.1 hw
        rw [q6m (pure := C.pure) h1] at e4; cases e4
       ·exact (ldne h hw).elim
       ·rw [h1] at h; cases h
        rw [h2] at h5; cases h5
        exact h6 b rfl
      ·have hne : l ≠ i := fun e => hiS (e ▸ h3)
       rcases (P2 l y (by omega) hy h3).kinds with h | ⟨t', f, h, h5, h6⟩ | ⟨t', f, h, _⟩
       ·have e4 := h.2 hw
        rw [q6m (pure := C.pure) h1] at e4; cases e4
       ·rw [h1] at h; cases h
        rw [h2] at h5; cases h5
        exact h6 b rfl
       ·exact (ldne h hw).elim
     ·trivial
   have q3e : q3f C cl ro.isSome ao T2 az HD = some (vs i, az, HD) := by
    rcases hin with hin | ⟨t, ht⟩
    ·exact ((q5d hn hr2).2.2 (by rw [hop]; exact hin)).2 HD
    ·refine (z7y (by rw [hop]; exact ht) hr2).2 HD (fun b hb => ?_)
     have hu := x7k (ops := ops) ht
     simp only [T2, if_pos hu] at hb
     simp only [HD]
     rw [if_pos ⟨t, ht, hb⟩]
   obtain ⟨v, w', ds', U', ι', x1e, hl, hf, _, hof, hdd⟩ := q9v (fn := fn) (kd := kd) hC hs hst hHD hT2 hD ho q3e rest k cs
   obtain ⟨rfl, _⟩ := hdd hnd
   have hnw : cls C.pure o.op ≠ .writer := fun h => by
    rcases hin with hin | ⟨t, ht⟩
    ·rw [hin] at h; cases h
    ·exact ldne ht h
   have hrd := hof.reader hnw
   refine ⟨v, w', U', ι', x1e, hl.ext, fun _ => hstl, hl.heap.imm, fun b c hb => ?_, hl.val, fun b c hb => hf b c hb, fun _ => ⟨hrd.all, fun b c hb => (hrd.new b c hb).imp id (·.2)⟩, fun h => absurd hin h, fun t ht => absurd (q8n ht) hnw⟩
   have := hl.heap.dom b c hb
   rw [hstl]
   exact this
  ·have h1 : cls C.pure o.op ≠ .inert := fun h => hin (.inl h)
   have h2 : ∀ t, ldT o.op ≠ some t := fun t h => hin (.inr ⟨t, h⟩)
   have hHi : HRel C w U (res Hs ι i) (Hs i) := by
    refine inv.heap i (by omega) (fun j y hy hyw => ⟨fun hSj => ?_, fun hji => W1 h1 h2 j y hji hy hyw⟩)
    refine Classical.byContradiction fun hge => ?_
    have hne : j ≠ i := fun e => hiS (e ▸ hSj)
    exact W2 h1 h2 j y (by omega) hy hyw hSj
   obtain ⟨v, w', ds', U', ι', x1e, hl, hf, _, hof, hdd⟩ := q9v (fn := fn) (kd := kd) hC hs hst hHi hT2 hD ho hr2 rest k cs
   obtain ⟨rfl, _⟩ := hdd hnd
   refine ⟨v, w', U', ι', x1e, hl.ext, fun h => absurd h hin, hl.heap.imm, hl.heap.dom, hl.val, fun b c hb => hf b c hb, fun h => ⟨(hof.reader h).all, fun b c hb => ((hof.reader h).new b c hb).imp id (·.2)⟩, fun _ => hl.heap, fun t ht c hc hb => hof.writes t ht c hc (fun b hfb hlv => hb b ?_ hlv)⟩
   simp only [T2] at hfb
   split at hfb
   ·exact hfb
   ·cases hfb
 let ι2 : Nat → Option Nat := fun b => if (Hs i).next ≤ b ∧ b < (Hs (i + 1)).next then ι1 b else ι b
 have hin2 : ∀ b, (Hs i).next ≤ b → b < (Hs (i + 1)).next → ι2 b = ι1 b := fun b h1 h2 => by simp only [ι2]; rw [if_pos ⟨h1, h2⟩]
 have y7q : ∀ b, ¬ ((Hs i).next ≤ b ∧ b < (Hs (i + 1)).next) → ι2 b = ι b := fun b h => by simp only [ι2]; rw [if_neg h]
 have x0w : ∀ b c, ι b = some c → ι2 b = some c := fun b c hb => by
  by_cases h : (Hs i).next ≤ b ∧ b < (Hs (i + 1)).next
  ·rw [inv.unm i hi hiS b h.1 h.2] at hb; cases hb
  ·rw [y7q b h]; exact hb
 have z3g : ∀ b c, ι2 b = some c → (((Hs i).next ≤ b ∧ b < (Hs (i + 1)).next) ∧ ι1 b = some c) ∨ (¬ ((Hs i).next ≤ b ∧ b < (Hs (i + 1)).next) ∧ ι b = some c) := fun b c hb => by
  by_cases h : (Hs i).next ≤ b ∧ b < (Hs (i + 1)).next
  ·exact .inl ⟨h, by rw [← hin2 b h.1 h.2]; exact hb⟩
  ·exact .inr ⟨h, by rw [← y7q b h]; exact hb⟩
 have hnx := tr.next1 hn hi
 have w7f : ∀ b c, ι1 b = some c → res Hs ι2 (i + 1) b = some c := fun b c hb => by
  have h1 := (hdom1 b c hb).1
  refine q5u h1 ?_
  by_cases h : (Hs i).next ≤ b
  ·rw [hin2 b h h1]; exact hb
  ·rcases hfresh b c hb with h' | h'
   ·exact x0w b c (q0z h').2
   ·exact absurd h' h
 have x6m : ∀ b c, res Hs ι2 (i + 1) b = some c → ι1 b = some c := fun b c hb => by
  obtain ⟨h1, h2⟩ := q0z hb
  rcases z3g b c h2 with ⟨_, h⟩ | ⟨h, h3⟩
  ·exact h
  ·exact q3y.map b c (q5u (by omega) h3)
 have y0f : Ext w U ι w' U' ι2 := {
  map := x0w
  rng := fun b c hb => by
   rcases z3g b c hb with ⟨_, h⟩ | ⟨_, h⟩
   ·rcases q3y.rng b c h with ⟨b0, hb0⟩ | h
    ·exact .inl ⟨b0, (q0z hb0).2⟩
    ·exact .inr h
   ·exact .inl ⟨b, h⟩
  imm := q3y.imm
  new := q3y.new
  size := q3y.size
  kept := fun c hc hb => q3y.kept c hc (fun b h => hb b (q0z h).2)
  shape := q3y.shape, env := q3y.env }
 have hkU : ∀ c, U c → w'.heap[c]? = w.heap[c]? := fun c hc => y0f.kept c (hUk c hc) (inv.imm c hc).2
 have hsh : ∀ c x, w.shape? c = some x → w'.shape? c = some x := fun c x h => by rw [y0f.shape c (z0m h)]; exact h
 have hvm : ∀ {m : Nat} {a : AV} {v : Value}, VRel w U (res Hs ι m) a v → VRel w' U' (res Hs ι2 m) a v := fun hv =>
  hv.mono y0f.imm hkU hsh _ (fun b c h => q5u (q0z h).1 (x0w b c (q0z h).2))
 have v1m : ∀ b c, ι2 b = some c → b < (Hs ops.size).next ∧ c < w'.heap.size := fun b c hb => by
  rcases z3g b c hb with ⟨⟨_, h1⟩, h⟩ | ⟨_, h⟩
  ·exact ⟨Nat.lt_of_lt_of_le h1 (tr.next hn (by omega) (Nat.le_refl _)), (hdom1 b c h).2⟩
  ·have := inv.dom b c h
   exact ⟨this.1, Nat.lt_of_lt_of_le this.2 q3y.size⟩
 have v1k : ∀ c, U' c → c < w'.heap.size ∧ ∀ b, ι2 b ≠ some c := fun c hc => by
  refine ⟨(himm1 c hc).1, fun b hb => ?_⟩
  rcases z3g b c hb with ⟨_, h⟩ | ⟨_, h⟩
  ·exact (himm1 c hc).2 b h
  ·rcases q3y.new c hc with hU | hle
   ·exact (inv.imm c hU).2 b h
   ·have := (inv.dom b c h).2; omega
 have hdi : q6j ops i = o.dst := by unfold q6j; rw [ho]; rfl
 have hm1 : ∀ m, i < m → m ≤ ops.size → ∀ b c, ι1 b = some c → res Hs ι2 m b = some c := fun m h1 h2 b c h => by
  have := w7f b c h
  exact q5u (Nat.lt_of_lt_of_le (q0z this).1 (tr.next hn (by omega) h2)) (q0z this).2
 have v1i : cls C.pure o.op = .writer → ∀ m, m ≤ ops.size → ∀ b c, res Hs ι2 m b = some c → b < (Hs (i + 1)).next := fun hw m hm b c hb => by
  refine Classical.byContradiction fun hge => ?_
  obtain ⟨h1, h2⟩ := q0z hb
  rcases z3g b c h2 with ⟨h, _⟩ | ⟨_, h⟩
  ·exact hge h.2
  ·have him : i + 1 ≤ m := by
    refine Classical.byContradiction fun y8h => ?_
    have := tr.next hn (i := m) (j := i + 1) (by omega) (by omega)
    omega
   obtain ⟨j, h3, h4, h5, h6⟩ := tr.find hn (a := i + 1) (m := m) him hm (by omega) h1
   have hjs : j < ops.size := by omega
   by_cases hSj : S j
   ·rw [W3 hw j _ (by omega) (Array.getElem?_eq_getElem hjs) hSj] at h6
    omega
   ·rw [inv.unm j hjs hSj b h5 h6] at h; cases h
 have j9d : cls C.pure o.op ≠ .writer → ∀ m, m ≤ ops.size → ∀ b c, res Hs ι2 m b = some c → res Hs ι m b = some c ∨ ((Hs i).next ≤ b ∧ b < (Hs (i + 1)).next ∧ ι1 b = some c ∧ w.heap.size ≤ c ∧ i < m ∧ ¬ (cls C.pure o.op = .inert ∨ ∃ t, ldT o.op = some t)) := fun hnw m hm b c hb => by
  obtain ⟨h1, h2⟩ := q0z hb
  rcases z3g b c h2 with ⟨⟨h3, h4⟩, h⟩ | ⟨_, h⟩
  ·have him : i < m := by
    refine Classical.byContradiction fun hge => ?_
    have := tr.next hn (i := m) (j := i) (by omega) (by omega)
    omega
   refine .inr ⟨h3, h4, h, ?_, him, fun h5 => ?_⟩
   ·rcases (hrd hnw).2 b c h with h5 | h5
    ·have := (q0z h5).1; omega
    ·exact h5
   ·rw [hinn h5] at h4; omega
  ·exact .inl (q5u h1 h)
 refine ⟨v, w', U', ι2, hsteps, ⟨v1m, v1k, fun t => ?_, fun m hm hw => ?_, fun m hm b c hb hcond => ?_, fun j hj hSj b hb1 hb2 => ?_, ?_⟩, hcl, y0f, fun b c hb => ?_⟩
 ·-- slots
  by_cases e : o.dst = some t
  ·refine .inl ⟨i, hi, .inr rfl, by rw [hdi, e], fun j hj hjd => ?_, ?_⟩
   ·rcases hj with hj | rfl
    ·refine Classical.byContradiction fun y8h => ?_
     obtain ⟨y, hy, hyd⟩ := j7b j t hjd
     exact ((P2 j y (by omega) hy hj).s1 t e).2 hyd
    ·exact Nat.le_refl _
   ·have htl : t < tmps.size := Nat.lt_of_lt_of_le (hlt t e) hnt
    have e3 : (z6z tmps o.dst v).getD t undef = v := by rw [e]; simp [z6z, Array.getD_eq_getD_getElem?, htl]
    rw [e3]
    exact x6p.mono (fun _ h => h) (fun _ _ => rfl) (fun _ _ h => h) _ w7f
  ·have e3 : (z6z tmps o.dst v).getD t undef = tmps.getD t undef := by
    cases hdd : o.dst with
    | none => rfl
    | some d =>
     have : t ≠ d := fun h => e (by rw [hdd, h])
     simp [z6z, Array.getD_eq_getD_getElem?, Array.getElem?_setIfInBounds, Ne.symm this]
   rw [e3]
   rcases inv.slot t with ⟨j, h1, h2, h3, h4, h5⟩ | ⟨h1, h2⟩
   ·refine .inl ⟨j, h1, .inl h2, h3, fun l hl hld => ?_, hvm h5⟩
    rcases hl with hl | rfl
    ·exact h4 l hl hld
    ·rw [hdi] at hld; exact absurd hld e
   ·refine .inr ⟨fun l hl => ?_, hvm h2⟩
    rcases hl with hl | rfl
    ·exact h1 l hl
    ·rw [hdi]; exact e
 ·-- no two live blocks are one
  intro b b' c hb hb' hd1 hd2
  by_cases hwo : cls C.pure o.op = .writer
  ·have him : i < m := (hw i o ho hwo).mp (.inr rfl)
   have hni : ¬ (cls C.pure o.op = .inert ∨ ∃ t, ldT o.op = some t) := fun h => by
    rcases h with h | ⟨t, h⟩
    ·rw [hwo] at h; cases h
    ·exact ldne h hwo
   have hH1 := hhp hni
   have hg : Grows (Hs (i + 1)) (Hs m) := tr.grows hn (by omega) hm (fun l y hl1 hl2 hy hyw => by
    rcases (hw l y hy hyw).mpr hl2 with h | h
    ·exact W2 (fun h => hni (.inl h)) (fun t h => hni (.inr ⟨t, h⟩)) l y (by omega) hy hyw h
    ·omega)
   have l1 := v1i hwo m hm b c hb
   have l2 := v1i hwo m hm b' c hb'
   rw [hg.2 b l1] at hd1
   rw [hg.2 b' l2] at hd2
   exact hH1.inj b b' c (x6m b c (q5u l1 (q0z hb).2)) (x6m b' c (q5u l2 (q0z hb').2)) hd1 hd2
  ·have hw' : ∀ j y, ops[j]? = some y → cls C.pure y.op = .writer → (S j ↔ j < m) := fun j y hy hyw => ⟨fun h => (hw j y hy hyw).mp (.inl h), fun h => by
    rcases (hw j y hy hyw).mpr h with h | rfl
    ·exact h
    ·rw [ho] at hy; cases hy; exact absurd hyw hwo⟩
   have same : i < m → ¬ (cls C.pure o.op = .inert ∨ ∃ t, ldT o.op = some t) → Grows (Hs (i + 1)) (Hs m) := fun him hni => tr.grows hn (by omega) hm (fun l y hl1 hl2 hy hyw => W2 (fun h => hni (.inl h)) (fun t h => hni (.inr ⟨t, h⟩)) l y (by omega) hy hyw ((hw' l y hy hyw).mpr hl2))
   rcases j9d hwo m hm b c hb with h | ⟨h1, h2, h3, h4, h5, h6⟩ <;> rcases j9d hwo m hm b' c hb' with h' | ⟨h1', h2', h3', h4', h5', h6'⟩
   ·exact inv.inj m hm hw' b b' c h h' hd1 hd2
   ·have := (inv.dom b c (q0z h).2).2; omega
   ·have := (inv.dom b' c (q0z h').2).2; omega
   ·rw [(same h5 h6).2 b h2] at hd1
    rw [(same h5 h6).2 b' h2'] at hd2
    exact (hhp h6).inj b b' c h3 h3' hd1 hd2
 ·-- the blocks
  by_cases hwo : cls C.pure o.op = .writer
  ·have hni : ¬ (cls C.pure o.op = .inert ∨ ∃ t, ldT o.op = some t) := fun h => by
    rcases h with h | ⟨t, h⟩
    ·rw [hwo] at h; cases h
    ·exact ldne h hwo
   have w1 := W1 (fun h => hni (.inl h)) (fun t h => hni (.inr ⟨t, h⟩))
   have w2 := W2 (fun h => hni (.inl h)) (fun t h => hni (.inr ⟨t, h⟩))
   by_cases him : i < m
   ·have l1 := v1i hwo m hm b c hb
    have hι1 := x6m b c (q5u l1 (q0z hb).2)
    have q6h : (Hs m).at_ b = (Hs (i + 1)).at_ b := tr.kept hn (by omega) hm l1 (fun l y hl1 hl2 hy hyw => hcond l y hy hyw (.inl ⟨fun h => by
     rcases h with h | h
     ·exact w2 l y (by omega) hy hyw h
     ·omega, hl2⟩))
    rw [q6h]
    exact ((hhp hni).blk b c hι1).mono (fun hv => hv.mono (fun _ h => h) (fun _ _ => rfl) (fun _ _ h => h) _ (hm1 m him hm)) (hm1 m him hm) rfl
   ·obtain ⟨hb1, hb2⟩ := q0z hb
    have hbi : b < (Hs i).next := Nat.lt_of_lt_of_le hb1 (tr.next hn (by omega) (by omega))
    have hιb : ι b = some c := by
     rcases z3g b c hb2 with ⟨h, _⟩ | ⟨_, h⟩
     ·omega
     ·exact h
    have x6k := inv.blk m hm b c (q5u hb1 hιb) (fun l y hy hyw h => hcond l y hy hyw (by
     rcases h with ⟨h1, h2⟩ | ⟨h1, h2⟩
     ·exact .inl ⟨fun h => by
       rcases h with h | h
       ·exact h1 h
       ·omega, h2⟩
     ·exact .inr ⟨.inl h1, h2⟩))
    by_cases x6l : ((Hs m).at_ b).isDead = true
    ·cases hx : (Hs m).at_ b <;> rw [hx] at x6l <;> simp [Blk.isDead] at x6l
     trivial
    ·obtain ⟨t, f, ht, hf, hne⟩ := hcond i o ho hwo (.inr ⟨.inr rfl, by omega⟩)
     have q6h : (Hs i).at_ b = (Hs m).at_ b := tr.kept hn (by omega) (by omega) hb1 (fun l y hl1 hl2 hy hyw => hcond l y hy hyw (.inr ⟨.inl (w1 l y hl2 hy hyw), hl1⟩))
     have z6y : w'.heap[c]? = w.heap[c]? := hwr t ht c (inv.dom b c hιb).2 (fun b0 hb0 hd0 hι0 => by
      rw [hf] at hb0
      simp only [Option.some.injEq] at hb0
      have hb0d : b0 ≠ b := fun e => hne (by rw [hb0, e])
      exact hb0d (inv.inj i (by omega) (fun j y hy hyw => ⟨fun hSj => by
        refine Classical.byContradiction fun hge => ?_
        have hne : j ≠ i := fun e => hiS (e ▸ hSj)
        exact w2 j y (by omega) hy hyw hSj, fun hji => w1 j y hji hy hyw⟩) b0 b c hι0 (q5u hbi hιb) hd0 (by rw [q6h]; simpa using x6l)))
     exact x6k.mono (fun hv => hvm hv) (fun b c h => q5u (q0z h).1 (x0w b c (q0z h).2)) z6y
  ·have y3f : ∀ l y, ops[l]? = some y → cls C.pure y.op = .writer → (¬ S l ∧ l < m ∨ S l ∧ m ≤ l) → NT Ts l y b := fun l y hy hyw h => hcond l y hy hyw (by
    rcases h with ⟨h1, h2⟩ | ⟨h1, h2⟩
    ·exact .inl ⟨fun h => by
      rcases h with h | rfl
      ·exact h1 h
      ·rw [ho] at hy; cases hy; exact absurd hyw hwo, h2⟩
    ·exact .inr ⟨.inl h1, h2⟩)
   rcases j9d hwo m hm b c hb with h | ⟨h1, h2, h3, h4, h5, h6⟩
   ·exact (inv.blk m hm b c h y3f).mono (fun hv => hvm hv) (fun b c h => q5u (q0z h).1 (x0w b c (q0z h).2)) ((hrd hwo).1 c (inv.dom b c (q0z h).2).2)
   ·have q6h : (Hs m).at_ b = (Hs (i + 1)).at_ b := tr.kept hn (by omega) hm h2 (fun l y hl1 hl2 hy hyw => by
     by_cases hSl : S l
     ·exact absurd hSl (W2 (fun h => h6 (.inl h)) (fun t h => h6 (.inr ⟨t, h⟩)) l y (by omega) hy hyw)
     ·exact y3f l y hy hyw (.inl ⟨hSl, hl2⟩))
    rw [q6h]
    exact ((hhp h6).blk b c h3).mono (fun hv => hv.mono (fun _ h => h) (fun _ _ => rfl) (fun _ _ h => h) _ (hm1 m h5 hm)) (hm1 m h5 hm) rfl
 ·-- what is not mapped
  have hne : j ≠ i := fun e => hSj (.inr e)
  have hnS : ¬ S j := fun h => hSj (.inl h)
  rw [y7q b (fun h => by
   rcases Nat.lt_or_gt_of_ne hne with h1 | h1
   ·have := tr.next hn (i := j + 1) (j := i) (by omega) (by omega); omega
   ·have := tr.next hn (i := i + 1) (j := j) (by omega) (by omega); omega)]
  exact inv.unm j hj hnS b hb1 hb2
 ·exact inv.dfr.mono (fun hv => hvm hv) (fun b c h => q5u (q0z h).1 (x0w b c (q0z h).2))
 ·rcases z3g b c hb with ⟨⟨h, _⟩, _⟩ | ⟨_, h⟩
  ·exact .inr (Nat.le_trans (tr.next hn (by omega) (by omega)) h)
  ·exact .inl h
end Go.BX
namespace Go.BX
variable {C : Ctx} {cl : Cl} {ops : Array Oper} {nt : Nat} {az : List ADef} {Ts : Nat → Nat → AV} {Hs : Nat → AHeap} {vs : Nat → AV}
theorem y3q {p q : Nat → Bool} (h : ∀ x, q x = true → p x = true) {i : Nat} (hp : p i = true) (hq : q i = false) : ∀ {l : List Nat}, i ∈ l → (l.filter q).length < (l.filter p).length := by
 have hle : ∀ l : List Nat, (l.filter q).length ≤ (l.filter p).length := by
  intro l
  induction l with
  | nil => simp
  | cons x l ih =>
   simp only [List.filter_cons]
   by_cases h1 : q x = true
   ·rw [if_pos h1, if_pos (h x h1)]; simpa using ih
   ·rw [if_neg h1]
    split
    ·simp only [List.length_cons]; omega
    ·exact ih
 intro l
 induction l with
 | nil => intro h; simp at h
 | cons x l ih =>
  intro hm
  simp only [List.filter_cons]
  by_cases e : i = x
  ·subst e
   rw [if_pos hp, if_neg (by simp [hq])]
   have := hle l
   simp only [List.length_cons]; omega
  ·have hm' : i ∈ l := by simpa [e] using hm
   have := ih hm'
   by_cases h1 : q x = true
   ·rw [if_pos h1, if_pos (h x h1)]; simpa using this
   ·rw [if_neg h1]
    split
    ·simp only [List.length_cons]; omega
    ·exact this
theorem z1y {listed : Array Bool} {n i j : Nat} (hsz : listed.size = n) (hi : i < n) {d : Bool} : (listed.setIfInBounds i true).getD j d = if j = i then true else listed.getD j d := by
 simp only [Array.getD_eq_getD_getElem?, Array.getElem?_setIfInBounds, hsz]
 by_cases e : j = i
 ·subst e; simp [hi]
 ·simp [e, Ne.symm e]
theorem j9v {pure : FuncId → Bool} (hd : q6k pure ops = true) {listed : Array Bool} (hsz : listed.size = ops.size) (h : Region.ready .any ops listed = []) : ∀ j, j < ops.size → listed.getD j false = true := by
 intro j
 induction j using Nat.strongRecOn with
 | ind j ih =>
  intro hj
  refine Classical.byContradiction fun hn => ?_
  have hm : j ∈ Region.ready .any ops listed := by
   unfold Region.ready
   rw [List.mem_filter]
   refine ⟨List.mem_range.mpr hj, ?_⟩
   have hjl : j < listed.size := by omega
   have e1 : listed.getD j true = false := by
    simp [Array.getD_eq_getD_getElem?, hjl] at hn ⊢
    exact hn
   rw [e1, Array.getElem?_eq_getElem hj]
   simp only [Bool.not_false, Bool.true_and, Option.map_some, Option.getD_some, Array.all_eq_true']
   intro e he
   by_cases hb : Region.binds .any e = true
   ·have hlt := j4w hd (Array.getElem?_eq_getElem hj) (by simpa using he) hb
    rw [ih e.on hlt (by omega)]
    simp
   ·simp [hb]
  rw [h] at hm
  cases hm
theorem y3r (hC : TOk C) (hs : SimCl C cl) (hn : NextMono cl) (hd : q6k C.pure ops = true) {fn : FuncId} {kd : CallKind} {ro : Option Nat} (tr : Trace C cl ro.isSome ops nt az Ts Hs vs) {ds : List Deferred} : ∀ (fuel t : Nat) (listed : Array Bool) (w : World) (U : Nat → Prop) (ι : Nat → Option Nat) (tmps : Array Value),
  listed.size = ops.size → ((List.range ops.size).filter fun j => !listed.getD j true).length ≤ fuel → z4l ops (fun j => listed.getD j false = true) → Inv C ops az Ts Hs vs ds (fun j => listed.getD j false = true) w U ι tmps → nt ≤ tmps.size → ∀ (k : List Item) (cs : List Frame),
   ∃ tmps' w' U' ι', Steps C.P (lone (rf fn tmps (.inRegion ops (Region.linearise.go .any ops fuel t listed []) :: k) ds kd ro) cs w) (lone (rf fn tmps' k ds kd ro) cs w') ∧
    (∃ S : Nat → Prop, (∀ j, j < ops.size → S j) ∧ Inv C ops az Ts Hs vs ds S w' U' ι' tmps') ∧ Ext w U ι w' U' ι' ∧ (∀ b c, ι' b = some c → ι b = some c ∨ (Hs 0).next ≤ b) ∧ tmps'.size = tmps.size := by
 intro fuel
 induction fuel with
 | zero =>
  intro t listed w U ι tmps hsz hle _ inv _ k cs
  refine ⟨tmps, w, U, ι, .one (by simpa [Region.linearise.go] using q6u), ⟨_, fun j hj => ?_, inv⟩, Ext.refl _ _ _, fun b c h => .inl h, rfl⟩
  have w7j : (List.range ops.size).filter (fun j => !listed.getD j true) = [] := List.length_eq_zero_iff.mp (by omega)
  have := (List.filter_eq_nil_iff.mp w7j) j (List.mem_range.mpr hj)
  have hjl : j < listed.size := by omega
  simp [Array.getD_eq_getD_getElem?, hjl] at this ⊢
  exact this
 | succ fuel ih =>
  intro t listed w U ι tmps hsz hle hcl inv hnt k cs
  simp only [Region.linearise.go]
  change ∃ tmps' w' U' ι', Steps C.P (lone (rf fn tmps (.inRegion ops (match (Region.ready .any ops listed)[t % (Region.ready .any ops listed).length]? with
   | some i => Region.linearise.go .any ops fuel (t / (Region.ready .any ops listed).length) (listed.setIfInBounds i true) [i]
   | none => [].reverse) :: k) ds kd ro) cs w) _ ∧ _
  cases hi : (Region.ready .any ops listed)[t % (Region.ready .any ops listed).length]? with
  | none =>
   have w7j : Region.ready .any ops listed = [] := by
    cases hr : Region.ready .any ops listed with
    | nil => rfl
    | cons x xs =>
     rw [hr] at hi
     have hlt : t % (x :: xs).length < (x :: xs).length := Nat.mod_lt _ (by simp)
     simp at hi
     simp at hlt
     omega
   exact ⟨tmps, w, U, ι, .one (by simpa using q6u), ⟨_, j9v hd hsz w7j, inv⟩, Ext.refl _ _ _, fun b c h => .inl h, rfl⟩
  | some i =>
   simp only []
   rw [linearise_go_acc, List.reverse_singleton, List.singleton_append]
   have hm := List.mem_of_getElem? hi
   unfold Region.ready at hm
   rw [List.mem_filter] at hm
   obtain ⟨hlt, hm⟩ := hm
   rw [List.mem_range] at hlt
   rw [Array.getElem?_eq_getElem hlt] at hm
   simp only [Bool.and_eq_true, Option.map_some, Option.getD_some, Array.all_eq_true', Bool.not_eq_true'] at hm
   have hil : i < listed.size := by omega
   have hiS : ¬ (listed.getD i false = true) := by
    have := hm.1
    simp [Array.getD_eq_getD_getElem?, hil] at this ⊢
    exact this
   obtain ⟨v, w1, U1, ι1, hsteps, inv1, hcl1, hext1, hfr1⟩ := x7m (fn := fn) (kd := kd) hC hs hn hd tr hcl (Array.getElem?_eq_getElem hlt) hiS (fun e he hb => by
    have := hm.2 e (by simpa using he)
    simpa [hb] using this) inv hnt (Region.linearise.go .any ops fuel (t / (Region.ready .any ops listed).length) (listed.setIfInBounds i true) []) k cs
   have hS : (fun j => (listed.setIfInBounds i true).getD j false = true) = (fun j => listed.getD j false = true ∨ j = i) := by
    funext j
    rw [z1y hsz hlt]
    by_cases e : j = i <;> simp [e]
   obtain ⟨tmps', w', U', ι', hsteps', hinv', y7u, hfr', y0g⟩ := ih (t / (Region.ready .any ops listed).length) (listed.setIfInBounds i true) w1 U1 ι1 (z6z tmps ops[i].dst v) (by simp [hsz]) (by
    have := y3q (p := fun j => !listed.getD j true) (q := fun j => !(listed.setIfInBounds i true).getD j true) (fun x hx => by
     rw [z1y hsz hlt] at hx
     split at hx
     ·simp at hx
     ·exact hx) (i := i) (by simp only [hm.1, Bool.not_false]) (by rw [z1y hsz hlt]; simp) (List.mem_range.mpr hlt)
    omega) (by rw [hS]; exact hcl1) (by rw [hS]; exact inv1) (by rw [z0q]; exact hnt) k cs
   refine ⟨tmps', w', U', ι', hsteps.trans hsteps', hinv', hext1.trans y7u, fun b c hb => ?_, by rw [y0g, z0q]⟩
   rcases hfr' b c hb with h | h
   ·exact hfr1 b c h
   ·exact .inr h
theorem x1y {α β : Type} {f : α → Option β} : ∀ {xs : List α} {ys : List β}, q3t f xs = some ys → xs.length = ys.length ∧ (∀ (i : Nat) (x : α), xs[i]? = some x → ∃ y, f x = some y ∧ ys[i]? = some y) ∧ (∀ (i : Nat) (y : β), ys[i]? = some y → ∃ x, xs[i]? = some x ∧ f x = some y) := by
 intro xs
 induction xs with
 | nil => intro ys h; simp only [q3t, Option.some.injEq] at h; subst h; simp
 | cons x xs ih =>
  intro ys h
  simp only [q3t] at h
  split at h
  ·rename_i y ys' hy hys
   cases h
   obtain ⟨h1, h2, h3⟩ := ih hys
   refine ⟨by simp [h1], fun i z hz => ?_, fun i z hz => ?_⟩
   ·cases i with
    | zero => simp at hz; subst hz; exact ⟨y, hy, rfl⟩
    | succ i => simpa using h2 i z (by simpa using hz)
   ·cases i with
    | zero => simp at hz; subst hz; exact ⟨x, rfl, hy⟩
    | succ i => simpa using h3 i z (by simpa using hz)
  ·cases h
theorem HRel.heapEq {H : AHeap} {w w' : World} {U : Nat → Prop} {ι : Nat → Option Nat} (hH : HRel C w U ι H) (h : w'.heap = w.heap) (y0k : w'.os = w.os ∧ w'.tape = w.tape ∧ w'.output = w.output := by exact ⟨rfl, rfl, rfl⟩) : Ext w U ι w' U ι ∧ HRel C w' U ι H := by
 have q3y : Ext w U ι w' U ι := ⟨fun _ _ h => h, fun b c h => .inl ⟨b, h⟩, fun _ h => h, fun _ h => .inl h, by rw [h]; exact Nat.le_refl _, fun c _ _ => by rw [h], fun c _ => q1d (by rw [h]), y0k⟩
 exact ⟨q3y, fun b c hb => by rw [h]; exact hH.dom b c hb, hH.inj, fun c hc => by rw [h]; exact hH.imm c hc, fun b c hb => (hH.blk b c hb).mono (fun hv => q3y.mono hH hv) (fun _ _ h => h) (by rw [h])⟩
theorem j5t (hC : TOk C) (hs : SimCl C cl) (hn : NextMono cl) (hmix : C.P.follows .mixedOrders = true) (hd : q6k C.pure ops = true) {fn : FuncId} {kd : CallKind} {ro : Option Nat} {id : Nat} {aos : List AO} (hst : q3t (q4p nt ops) ops.toList = some aos)
  {w : World} {U : Nat → Prop} {ι : Nat → Option Nat} {tmps : Array Value} {ds : List Deferred} {T T' : Nat → AV} {az az' : List ADef} {H H' : AHeap} (hnt : nt ≤ tmps.size) (hH : HRel C w U ι H) (hT : TRel w U ι T tmps) (hD : DsRel w U ι az ds) (h : q1z C cl ro.isSome aos T az H = some (T', az', H')) (hdy : j9f C cl ro.isSome aos (y3i C.pure ops) T az H = true) (k : List Item) (cs : List Frame) :
   ∃ tmps' w' ds' U' ι', Steps C.P (lone (rf fn tmps (.code (.region id ops true) :: k) ds kd ro) cs w) (lone (rf fn tmps' k ds' kd ro) cs w') ∧
    Ext w U ι w' U' ι' ∧ HRel C w' U' ι' H' ∧ TRel w' U' ι' T' tmps' ∧ DsRel w' U' ι' az' ds' ∧ Fresh H ι ι' ∧ tmps'.size = tmps.size := by
 obtain ⟨q2u, hfw, hbw⟩ := x1y hst
 have w7e : aos.length = ops.size := by simpa using q2u.symm
 obtain ⟨rfl, Ts, Hs, vs, hT0, hH0, hTn, hHn, hop, hdd⟩ := x7l aos _ _ _ _ _ _ _ h hdy (fun ao hao => by
  obtain ⟨i, hi⟩ := List.getElem?_of_mem hao
  obtain ⟨o, ho, hs'⟩ := hbw i ao hi
  rw [(q2l hs').2.1]
  exact z2l hd (by simpa using ho))
 have tr : Trace C cl ro.isSome ops nt az' Ts Hs vs := ⟨fun i o ho => by
  obtain ⟨ao, h1, h2⟩ := hfw i o (by simpa using ho)
  have := hop i ao h2
  rw [(q2l h1).1] at this
  exact ⟨ao, h1, this⟩, fun j o c t ho hc ht => by
  obtain ⟨ao, h1, h2⟩ := hfw j o (by simpa using ho)
  have := hdd j ao c t h2 hc ht
  rw [(q2l h1).2.1] at this
  exact this⟩
 have hw : (w.drew).heap = w.heap := rfl
 obtain ⟨hext0, hH1⟩ := hH.heapEq hw
 have y0i : ∀ m, m ≤ ops.size → res Hs ι m = ι := fun m hm => by
  funext b
  unfold res
  split
  ·rfl
  ·rename_i hge
   cases hb : ι b with
   | none => rfl
   | some c =>
    have h1 := (hH.dom b c hb).1
    have h2 := tr.next hn (i := 0) (j := m) (by omega) hm
    rw [hH0] at h2
    omega
 have inv0 : Inv C ops az' Ts Hs vs ds (fun j => (Array.replicate ops.size false).getD j false = true) w.drew U ι tmps := by
  have hF : ∀ j, ¬ ((Array.replicate ops.size false).getD j false = true) := fun j => by
   simp only [Array.getD_eq_getD_getElem?, Array.getElem?_replicate]
   split <;> simp
  refine ⟨fun b c hb => ?_, hH1.imm, fun t => .inr ⟨fun i hi => absurd hi (hF i), ?_⟩, fun m hm hwr => ?_, fun m hm b c hb hcond => ?_, fun i hi _ b hb1 hb2 => ?_, ?_⟩
  ·have h1 := hH1.dom b c hb
   have h2 := tr.next hn (i := 0) (j := ops.size) (by omega) (Nat.le_refl _)
   rw [hH0] at h2
   exact ⟨by omega, h1.2⟩
  ·rw [y0i 0 (by omega), hT0]
   exact hext0.mono hH (hT t)
  ·rw [y0i m hm]
   have hg := tr.grows hn (i := 0) (j := m) (by omega) hm (fun l o _ hl ho hc => absurd ((hwr l o ho hc).mpr hl) (hF l))
   rw [hH0] at hg
   intro b b' c hb hb' h1 h2
   rw [hg.2 b (hH.dom b c hb).1] at h1
   rw [hg.2 b' (hH.dom b' c hb').1] at h2
   exact hH1.inj b b' c hb hb' h1 h2
  ·rw [y0i m hm] at hb ⊢
   have q6h : (Hs m).at_ b = (Hs 0).at_ b := tr.kept hn (by omega) hm (by rw [hH0]; exact (hH.dom b c hb).1) (fun l y _ hl hy hyw => hcond l y hy hyw (.inl ⟨hF l, hl⟩))
   rw [q6h, hH0]
   exact hH1.blk b c hb
  ·cases hb : ι b with
   | none => rfl
   | some c =>
    have h1 := (hH.dom b c hb).1
    have h2 := tr.next hn (i := 0) (j := i) (by omega) (by omega)
    rw [hH0] at h2
    omega
  ·rw [y0i 0 (by omega)]
   exact hD.mono (fun hv => hext0.mono hH hv) (fun _ _ h => h)
 have hcl0 : z4l ops (fun j => (Array.replicate ops.size false).getD j false = true) := by
  intro j o _ hj
  exfalso
  simp only [Array.getD_eq_getD_getElem?, Array.getElem?_replicate] at hj
  split at hj <;> simp at hj
 obtain ⟨tmps', w', U', ι', hsteps, ⟨S, hS, inv⟩, q3y, hfr, hsz⟩ := y3r (fn := fn) (kd := kd) hC hs hn hd tr ops.size (w.tape w.drawn (.order fn id)) (Array.replicate ops.size false) w.drew U ι tmps (by simp) (by
  have := List.length_filter_le (fun j => !(Array.replicate ops.size false).getD j true) (List.range ops.size)
  simpa using this) hcl0 inv0 hnt k cs
 have hrn : res Hs ι' ops.size = ι' := by
  funext b
  unfold res
  split
  ·rfl
  ·rename_i hge
   cases hb : ι' b with
   | none => rfl
   | some c => exact absurd (inv.dom b c hb).1 hge
 have hvr : ∀ {m : Nat} {a : AV} {v : Value}, VRel w' U' (res Hs ι' m) a v → VRel w' U' ι' a v := fun hv => hv.mono (fun _ h => h) (fun _ _ => rfl) (fun _ _ h => h) _ (fun b c h => (q0z h).2)
 refine ⟨tmps', w', ds, U', ι', Steps.trans (.one z7g) ?_, hext0.trans q3y, ?_, fun t => ?_, inv.dfr.mono hvr (fun b c h => (q0z h).2), fun b c hb => by rw [← hH0]; exact hfr b c hb, hsz⟩
 ·simp only [Region.schedule, hmix, Bool.true_or, if_true]
  exact hsteps
 ·have := inv.heap ops.size (Nat.le_refl _) (fun i o ho _ => ⟨fun _ => (Array.getElem?_eq_some_iff.mp ho).1, fun h => hS i h⟩)
  rw [hrn] at this
  rw [← hHn, w7e]
  exact this
 ·rw [← hTn, w7e]
  rcases tr.slot (i := ops.size) (t := t) (Nat.le_refl _) with ⟨j, h1, h2, h3, h4⟩ | ⟨h1, h2⟩
  ·rcases inv.slot t with ⟨j', h5, h6, h7, h8, h9⟩ | ⟨h5, _⟩
   ·have hle := h8 j (hS j h1) h2
    have : j' = j := by
     by_cases e : j' = j
     ·exact e
     ·exact absurd h7 (h3 j' (by omega) h5)
    subst this
    rw [h4]
    exact hvr h9
   ·exact absurd h2 (h5 j (hS j h1))
  ·rcases inv.slot t with ⟨j', h5, h6, h7, h8, h9⟩ | ⟨_, h6⟩
   ·exact absurd h7 (h1 j' h5)
   ·rw [h2]; exact hvr h6
end Go.BX
namespace Go.BX
section
variable {P : Program} {fn : FuncId} {tmps : Array Value} {k : List Item} {ds : List Deferred} {kd : CallKind} {ro : Option Nat} {cs : List Frame} {w w' : World} {c : Frame} {l : Nat} {v : Value}
theorem j2e (hr : (Instr.endRound l none).run P w = .ok v w') : step P (lone (rf fn tmps [] ds .normal (some l)) (c :: cs) w) = .next (lone (c.finish v) cs w') :=
 step_lone_go (by simp [stepG, stepG.exec, Sem.runT_eq, hr, doReturn])
theorem j2f (hr : (Instr.endRound l (some .ret)).run P w = .ok v w') : step P (lone (rf fn tmps (.code .ret :: k) ds .normal (some l)) (c :: cs) w) = .next (lone (c.finish v) cs w') :=
 step_lone_go (by simp [stepG, stepG.exec, Sem.runT_eq, hr, doReturn])
theorem z9t {id : Nat} (hx : exitTo id k = none) (hr : (Instr.endRound l (some (.exit id))).run P w = .ok v w') : step P (lone (rf fn tmps (.code (.exit id) :: k) ds .normal (some l)) (c :: cs) w) = .next (lone (c.finish v) cs w') :=
 step_lone_go (by simp [stepG, stepG.exec, Sem.runT_eq, hx, hr, doReturn])
theorem z9u {id : Nat} (hx : gotoIn id k = none) (hr : (Instr.endRound l (some (.goto id))).run P w = .ok v w') : step P (lone (rf fn tmps (.code (.goto id) :: k) ds .normal (some l)) (c :: cs) w) = .next (lone (c.finish v) cs w') :=
 step_lone_go (by simp [stepG, stepG.exec, Sem.runT_eq, hx, hr, doReturn])
theorem z9v (hr : (Instr.beginRound l).run P w = .ok () w') : step P (lone (rf fn tmps (.beginRound :: k) ds kd (some l)) cs w) = .next (lone (rf fn tmps k ds kd (some l)) cs w') :=
 step_lone_go (by simp [stepG, stepG.exec, stepG.apply, Sem.runT_eq, hr, Result.andThen, Frame.finish])
theorem j9w {jump : Option Code} (hr : (Instr.endLoop l).run P w = .ok jump w') : step P (lone (rf fn tmps (.endRangeFunc l :: k) ds kd ro) cs w) = .next (lone (rf fn tmps ((jump.map Item.code).toList ++ k) ds kd ro) cs w') :=
 step_lone_go (by simp [stepG, stepG.exec, Sem.runT_eq, hr])
theorem j2g {b : Nat} {az : Array Value} {todo : List Item} (hr : (Instr.takeDeferred b).run P w = .ok [] w') :
  step P (lone { rf fn tmps todo ({ target := .collected b, args := az } :: ds) kd none with mode := .returning } cs w) = .next (lone { rf fn tmps todo ds kd none with mode := .returning } cs w') :=
 step_lone_go (by simp [stepG, unwind, Sem.runT_eq, hr])
theorem z2q {f : Operand} {ps : Array Tmp} {assign body : Code} {mark : List Deferred} {w1 : World} {nx : Next} {fr' : Frame} {cs' : List Frame}
  (hl : (Instr.enterLoop fn tmps ps assign body ro).run P w = .ok (l, mark) w1)
  (hx : (do let d ← resolve (rf fn tmps (.inRangeFunc l :: k) (mark ++ ds) kd ro).eval { callee := .value f, args := #[.const (.func (.yield l) #[] #[])], argTypes := #[] } 0; invoke d.target d.args : Sem Next).run P w1 = .ok nx w')
  (hn : (∃ v, nx = .value v ∧ fr' = rf fn tmps (.endRangeFunc l :: k) (mark ++ ds) kd ro ∧ cs' = cs) ∨ (∃ g args, nx = .enter g args ∧ fr' = Frame.enter P g args .normal ∧ cs' = rf fn tmps (.inRangeFunc l :: k) (mark ++ ds) kd ro :: cs)) :
  step P (lone (rf fn tmps (.code (.rangeFunc f ps assign body) :: k) ds kd ro) cs w) = .next (lone fr' cs' w') := by
 refine step_lone_go ?_
 rcases hn with ⟨v, rfl, rfl, rfl⟩ | ⟨g, args, rfl, rfl, rfl⟩
 ·simp only [stepG, stepG.exec, Sem.runT_eq, hl, GStep.bare_after, stepG.apply]
  rw [show ({ fn := fn, tmps := tmps, todo := .inRangeFunc l :: k, defers := mark ++ ds, mode := .run, kind := kd, roundOf := ro } : Frame).eval = (rf fn tmps (.inRangeFunc l :: k) (mark ++ ds) kd ro).eval from rfl, hx]
  simp [Frame.finish]
 ·simp only [stepG, stepG.exec, Sem.runT_eq, hl, GStep.bare_after, stepG.apply]
  rw [show ({ fn := fn, tmps := tmps, todo := .inRangeFunc l :: k, defers := mark ++ ds, mode := .run, kind := kd, roundOf := ro } : Frame).eval = (rf fn tmps (.inRangeFunc l :: k) (mark ++ ds) kd ro).eval from rfl, hx]
  simp
end
variable {pure : FuncId → Bool} {nt : Nat}
theorem x7n {id : Nat} {items : List Item} {az : List AItem} (h : IsRel pure nt items az) :
  (∀ k', z4j id az = some k' → ∃ t', exitTo id items = some t' ∧ IsRel pure nt t' k') ∧ (z4j id az = none → exitTo id items = none) := by
 induction h with
 | nil => exact ⟨fun k' h => by simp [z4j] at h, fun _ => rfl⟩
 | cons h hs ih =>
  cases h with
  | inBlock i =>
   simp only [z4j, exitTo]
   by_cases e : (i == id) = true
   ·rw [if_pos e, if_pos e]
    exact ⟨fun k' h => ⟨_, rfl, (by cases h; exact hs)⟩, fun h => nomatch h⟩
   ·rw [if_neg e, if_neg e]
    exact ih
  | _ => simpa only [z4j, exitTo] using ih
theorem z9w {l : Nat} : ∀ {c : Code} {a : AC}, q7j pure nt c a → (∀ r, z0l a l = some r → ∃ r', findLabel c l = some r' ∧ q7j pure nt r' r) ∧ (z0l a l = none → findLabel c l = none)
 | .seq x y, a, h => by
  simp only [q7j, q5c] at h
  split at h
  ·rename_i x' y' hx hy
   cases h
   have ihx := z9w (l := l) (show q7j pure nt x x' from hx)
   have ihy := z9w (l := l) (show q7j pure nt y y' from hy)
   simp only [z0l, findLabel]
   cases hf : z0l x' l with
   | none =>
    simp only [ihx.2 hf]
    exact ihy
   | some r =>
    obtain ⟨r', hr', hrr⟩ := ihx.1 r hf
    simp only [hr']
    refine ⟨fun z hz => ?_, fun hz => nomatch hz⟩
    cases hz
    refine ⟨_, rfl, ?_⟩
    simp only [q7j, q5c] at hrr ⊢
    rw [hrr, hy]
  ·cases h
 | .label l', a, h => by
  simp only [q7j, q5c, Option.some.injEq] at h
  subst h
  simp only [z0l, findLabel]
  by_cases e : (l' == l) = true
  ·rw [if_pos e, if_pos e]
   exact ⟨fun r h => ⟨.skip, rfl, by cases h; rfl⟩, fun h => nomatch h⟩
  ·rw [if_neg e, if_neg e]
   exact ⟨fun r h => (nomatch h), fun _ => rfl⟩
 | .skip, a, h | .exit _, a, h | .goto _, a, h | .ret, a, h | .refuse _, a, h => by
  simp only [q7j, q5c, Option.some.injEq] at h
  subst h
  exact ⟨fun r h => by simp [z0l] at h, fun _ => by simp [findLabel]⟩
 | .region _ ops draw, a, h => by
  simp only [q7j, q5c] at h
  split at h
  ·cases h
  ·simp only [Option.map_eq_some_iff] at h
   obtain ⟨x, _, rfl⟩ := h
   exact ⟨fun r h => by simp [z0l] at h, fun _ => by simp [findLabel]⟩
 | .cond c x y, a, h => by
  simp only [q7j, q5c] at h
  split at h
  ·cases h; exact ⟨fun r h => by simp [z0l] at h, fun _ => by simp [findLabel]⟩
  ·cases h
 | .block _ x, a, h | .loop x, a, h | .scope x, a, h => by
  simp only [q7j, q5c, Option.map_eq_some_iff] at h
  obtain ⟨x, _, rfl⟩ := h
  exact ⟨fun r h => by simp [z0l] at h, fun _ => by simp [findLabel]⟩
 | .rangeFunc f ps x y, a, h => by
  simp only [q7j, q5c] at h
  split at h
  ·split at h
   ·cases h; exact ⟨fun r h => by simp [z0l] at h, fun _ => by simp [findLabel]⟩
   ·cases h
  ·cases h
theorem x7o {l : Nat} {items : List Item} {az : List AItem} (h : IsRel pure nt items az) :
  (∀ k', z1r l az = some k' → ∃ t', gotoIn l items = some t' ∧ IsRel pure nt t' k') ∧ (z1r l az = none → gotoIn l items = none) := by
 induction h with
 | nil => exact ⟨fun k' h => by simp [z1r] at h, fun _ => rfl⟩
 | cons h hs ih =>
  cases h with
  | inScope hc =>
   simp only [z1r, gotoIn]
   have := z9w (l := l) hc
   cases hf : z0l _ l with
   | none => rw [hf] at this; simp only [this.2 rfl]; exact ih
   | some r =>
    obtain ⟨r', h1, h2⟩ := this.1 r hf
    simp only [h1]
    refine ⟨fun z hz => ?_, fun hz => nomatch hz⟩
    cases hz
    exact ⟨_, rfl, .cons (.code h2) (.cons (.inScope hc) hs)⟩
  | _ => simpa only [z1r, gotoIn] using ih
theorem x7p {c : Code} {a : AC} (h : q7j pure nt c a) (hj : q5q (some a) = true) : (a = .ret ∧ c = .ret) ∨ (∃ id, a = .exit id ∧ c = .exit id) ∨ (∃ l, a = .goto l ∧ c = .goto l) := by
 unfold q7j at h
 cases c <;> simp only [q5c, Option.some.injEq, Option.map_eq_some_iff] at h
 case region => split at h <;> simp only [reduceCtorEq, Option.map_eq_some_iff] at h; obtain ⟨x, _, rfl⟩ := h; simp [q5q] at hj
 case seq => split at h <;> cases h; simp [q5q] at hj
 case cond => split at h <;> cases h; simp [q5q] at hj
 case rangeFunc => split at h <;> first | (cases h; done) | (split at h <;> cases h; simp [q5q] at hj)
 case block => obtain ⟨x, _, rfl⟩ := h; simp [q5q] at hj
 case loop => obtain ⟨x, _, rfl⟩ := h; simp [q5q] at hj
 case scope => obtain ⟨x, _, rfl⟩ := h; simp [q5q] at hj
 case exit id => subst h; exact .inr (.inl ⟨id, rfl, rfl⟩)
 case goto id => subst h; exact .inr (.inr ⟨id, rfl, rfl⟩)
 case ret => subst h; exact .inl ⟨rfl, rfl⟩
 all_goals (subst h; simp [q5q] at hj)
theorem x1z {c : Code} {a : AC} {nt' : Nat} (h : q7j pure nt c a) (hj : q5q (some a) = true) : q7j pure nt' c a := by
 rcases x7p h hj with ⟨rfl, rfl⟩ | ⟨id, rfl, rfl⟩ | ⟨id, rfl, rfl⟩ <;> rfl
variable {C : Ctx} {w : World} {U : Nat → Prop} {ι : Nat → Option Nat}
theorem z9x {H : AHeap} (hH : HRel C w U ι H) {b c : Nat} (hι : ι b = some c) {o' : Obj} (hlive : (H.at_ b).isDead = false) (hsh : (w.putObj c o').shape? c = w.shape? c) {blk : Blk}
  (hB : (w.putObj c o').heap[c]? = some o' → Ext w U ι (w.putObj c o') U ι → BRel C (w.putObj c o') U ι c blk) : Ext w U ι (w.putObj c o') U ι ∧ HRel C (w.putObj c o') U ι (H.set b blk) := by
 have w7k := (hH.dom b c hι).2
 have q6h := World.putObj_heap_same (w := w) (o := o') w7k
 have q8i : ∀ d, d ≠ c → (w.putObj c o').heap[d]? = w.heap[d]? := fun d hd => World.putObj_heap_other hd
 have hsz : (w.putObj c o').heap.size = w.heap.size := by simp [World.putObj]
 have q3y : Ext w U ι (w.putObj c o') U ι :=
  {map := fun _ _ h => h, rng := fun b _ h => .inl ⟨b, h⟩, imm := fun _ h => h, new := fun _ h => .inl h, size := by omega
   kept := fun d _ hn => q8i d (fun e => hn b (by rw [e]; exact hι))
   env := ⟨rfl, rfl, rfl⟩, shape := fun d _ => by
    by_cases e : d = c
    ·subst e; exact hsh
    ·exact q1d (q8i d e) }
 refine ⟨q3y, fun b' c' h => ?_, fun b1 b2 c' h1 h2 d1 d2 => ?_, fun c' h => ?_, fun b' c' h => ?_⟩
 ·have := hH.dom b' c' h; exact ⟨by simpa [AHeap.set] using this.1, by rw [hsz]; exact this.2⟩
 ·have live : ∀ b', ((H.set b blk).at_ b').isDead = false → (H.at_ b').isDead = false := by
   intro b' h'
   by_cases e : b' = b
   ·subst e; exact hlive
   ·simp only [AHeap.set, q2a e] at h'; exact h'
  exact hH.inj b1 b2 c' h1 h2 (live b1 d1) (live b2 d2)
 ·have := hH.imm c' h; exact ⟨by rw [hsz]; exact this.1, this.2⟩
 ·by_cases e : b' = b
  ·subst e
   rw [hι] at h; cases h
   simp only [AHeap.set, upd_same]
   exact hB q6h q3y
  ·simp only [AHeap.set]
   rw [q2d _ _ e]
   by_cases hdd : (H.at_ b').isDead = true
   ·cases hx : H.at_ b' <;> rw [hx] at hdd <;> simp [Blk.isDead] at hdd
    trivial
   ·have hne : c' ≠ c := by
     rintro rfl
     exact e (hH.inj b' b _ h hι (by simpa using hdd) hlive)
    exact (hH.blk b' c' h).mono (fun hv => q3y.mono hH hv) (fun _ _ h => h) (q8i c' hne)
end Go.BX
namespace Go.BX
structure ExtOk (C : Ctx) : Prop where
 mono : ∀ f g args H r H', C.ext f = some g → g args H = some (r, H') → H.next ≤ H'.next
 sound : ∀ f g args H r H', C.ext f = some g → g args H = some (r, H') → ∀ w U ι vs, HRel C w U ι H → LsRel w U ι args vs → InvN C.P f vs w (Post C w U ι H H' r)
variable {C : Ctx}
def j2h (ex : AFr → List AItem → AHeap → Option (AV × AHeap)) : Prop := ∀ fr items H r H', ex fr items H = some (r, H') → H.next ≤ H'.next
theorem j2i (hx : ExtOk C) {ex : AFr → List AItem → AHeap → Option (AV × AHeap)} (h : j2h ex) : NextMono (q9d C ex) where
 call := fun f args H r H' hc => by
  simp only [q9d] at hc
  split at hc
  ·rename_i g hg; exact hx.mono f g args H r H' hg hc
  ·split at hc
   ·exact h _ _ _ _ _ hc
   ·cases hc
 round := fun l args H r H' hc => by
  simp only [q9d] at hc
  split at hc
  ·split at hc
   ·exact h _ _ _ _ _ hc
   ·cases hc
  ·cases hc
theorem z5d {cl : Cl} (hn : NextMono cl) {ir : Bool} : ∀ {aos : List AO} {T T' : Nat → AV} {az az' : List ADef} {H H' : AHeap}, q1z C cl ir aos T az H = some (T', az', H') → H.next ≤ H'.next := by
 intro aos
 induction aos with
 | nil => intro T T' az az' H H' h; simp only [q1z, Option.some.injEq, Prod.mk.injEq] at h; obtain ⟨_, _, rfl⟩ := h; exact Nat.le_refl _
 | cons o aos ih =>
  intro T T' az az' H H' h
  simp only [q1z] at h
  split at h
  ·rename_i v ds' H1 hr
   exact Nat.le_trans (q5d hn hr).1 (ih h)
  ·cases h
theorem z7i {cl : Cl} (hn : NextMono cl) : ∀ {az : List ADef} {H H' : AHeap}, q1i C cl az H = some H' → H.next ≤ H'.next := by
 intro az
 induction az with
 | nil => intro H H' h; simp only [q1i, Option.some.injEq] at h; subst h; exact Nat.le_refl _
 | cons a az ih =>
  intro H H' h
  cases a with
  | collected b =>
   simp only [q1i] at h
   split at h
   ·have := ih h; simpa [AHeap.set] using this
   ·cases h
  | call v args =>
   cases v with
   | fn f first caps =>
    simp only [q1i] at h
    split at h
    ·cases h
    ·split at h
     ·rename_i hc; exact Nat.le_trans (hn.call _ _ _ _ _ hc) (ih h)
     ·cases h
   | _ => simp [q1i] at h
theorem z7z {cl : Cl} (hn : NextMono cl) {f : FuncId} {args : List AV} {H H' : AHeap} {r : AV} (h : q4i C cl f args H = some (r, H')) : H.next ≤ H'.next := by
 unfold q4i at h
 split at h
 ·split at h
  ·split at h
   ·simp only [Option.map_eq_some_iff] at h
    obtain ⟨_, _, he⟩ := h
    cases he
    exact Nat.le_refl _
   ·cases h
  ·split at h
   ·split at h
    ·split at h
     ·split at h
      ·cases h; exact Nat.le_refl _
      ·simp only [Option.map_eq_some_iff] at h
       obtain ⟨_, _, he⟩ := h
       cases he
       exact Nat.le_refl _
     ·cases h
    ·cases h
   ·cases h
 ·exact hn.call _ _ _ _ _ h
theorem q6w {cl : Cl} (hn : NextMono cl) {fr : AFr} {jump : Option AC} {H H' : AHeap} {r : AV} (h : q5b C cl fr jump H = some (r, H')) : H.next ≤ H'.next := by
 unfold q5b at h
 split at h
 ·split at h
  ·split at h
   ·rename_i H1 hd
    split at h
    ·simp only [Option.map_eq_some_iff] at h
     obtain ⟨_, _, he⟩ := h
     cases he
     exact z7i hn hd
    ·cases h
   ·cases h
  ·cases h
 ·split at h
  ·cases h; exact Nat.le_refl _
  ·cases h
theorem q7r {fr : AFr} {ps : List Nat} {a b : AC} {H H' : AHeap} {l : Nat} {m : List ADef} (h : q6i fr ps a b H = some (l, m, H')) : H.next ≤ H'.next := by
 unfold q6i at h
 split at h
 ·cases h; simp only [AHeap.push]; omega
 ·split at h
  ·cases h; simp only [AHeap.push]; omega
  ·cases h
theorem j9x (hx : ExtOk C) {ex : AFr → List AItem → AHeap → Option (AV × AHeap)} (he : j2h ex) : j2h (q9q C ex) := by
 intro fr items H r H' h
 have hn := j2i hx he
 unfold q9q at h
 split at h
 ·exact q6w hn h
 ·exact he _ _ _ _ _ h
 ·exact he _ _ _ _ _ h
 ·exact he _ _ _ _ _ h
 ·split at h
  ·split at h
   ·split at h
    ·have := he _ _ _ _ _ h; simpa [AHeap.set] using this
    ·cases h
   ·cases h
  ·cases h
 ·exact he _ _ _ _ _ h
 ·exact he _ _ _ _ _ h
 ·split at h
  ·rename_i hr
   split at h
   ·exact Nat.le_trans (z5d hn hr) (he _ _ _ _ _ h)
   ·cases h
  ·cases h
 ·exact he _ _ _ _ _ h
 ·split at h
  ·exact he _ _ _ _ _ h
  ·cases h
 ·exact he _ _ _ _ _ h
 ·exact he _ _ _ _ _ h
 ·exact he _ _ _ _ _ h
 ·split at h
  ·exact he _ _ _ _ _ h
  ·exact q6w hn h
 ·split at h
  ·exact he _ _ _ _ _ h
  ·exact q6w hn h
 ·exact q6w hn h
 ·cases h
 ·split at h
  ·rename_i hel
   have h1 := q7r hel
   split at h
   ·cases h
   ·rename_i hc
    have h2 := z7z hn hc
    split at h
    ·split at h
     ·cases h
     ·have := he _ _ _ _ _ h
      simp only [AHeap.set] at this
      omega
    ·cases h
  ·cases h
theorem j2j (hx : ExtOk C) : ∀ n, j2h (exec C n)
 | 0 => fun fr items H r H' h => by simp [exec] at h
 | n + 1 => j9x hx (j2j hx n)
end Go.BX
namespace Go.BX
variable {C : Ctx} {w : World} {U : Nat → Prop} {ι : Nat → Option Nat}
def Ends (C : Ctx) (fn : FuncId) (tmps : Array Value) (todo : List Item) (ds : List Deferred) (kd : CallKind) (ro : Option Nat) (cs : List Frame) (w : World) (R : Value → World → Prop) : Prop :=
 ∃ v w', R v w' ∧ match ro with
  | none => ∃ tmps' todo' fnn, Steps C.P (lone (rf fn tmps todo ds kd none) cs w) (lone { rf fn tmps' todo' [] kd none with mode := .returning } cs w') ∧ C.P.funcs[fn]? = some fnn ∧ (results fnn tmps').run C.P w' = .ok v w'
  | some c => ∀ c0 cs', cs = c0 :: cs' → kd = .normal → Steps C.P (lone (rf fn tmps todo ds .normal (some c)) cs w) (lone (c0.finish v) cs' w')
theorem Ends.head {fn : FuncId} {tmps tmps1 : Array Value} {todo todo1 : List Item} {ds ds1 : List Deferred} {kd : CallKind} {ro : Option Nat} {cs : List Frame} {w1 : World} {R : Value → World → Prop} (hs : Steps C.P (lone (rf fn tmps todo ds kd ro) cs w) (lone (rf fn tmps1 todo1 ds1 kd ro) cs w1))
  (h : Ends C fn tmps1 todo1 ds1 kd ro cs w1 R) : Ends C fn tmps todo ds kd ro cs w R := by
 obtain ⟨v, w', hR, h⟩ := h
 refine ⟨v, w', hR, ?_⟩
 cases ro with
 | none => obtain ⟨t', k', fnn, h1, h2⟩ := h; exact ⟨t', k', fnn, hs.trans h1, h2⟩
 | some c => intro c0 cs' e hk; subst hk; exact hs.trans (h c0 cs' e rfl)
theorem Ends.mono {fn : FuncId} {tmps : Array Value} {todo : List Item} {ds : List Deferred} {kd : CallKind} {ro : Option Nat} {cs : List Frame} {R R' : Value → World → Prop} (h : Ends C fn tmps todo ds kd ro cs w R) (hr : ∀ v w', R v w' → R' v w') : Ends C fn tmps todo ds kd ro cs w R' := by
 obtain ⟨v, w', hR, h⟩ := h
 exact ⟨v, w', hr _ _ hR, h⟩
theorem Post.of {H H1 H' : AHeap} {r : AV} {v : Value} {w1 w' : World} {U1 : Nat → Prop} {ι1 : Nat → Option Nat} (he : Ext w U ι w1 U1 ι1) (hf : Fresh H ι ι1) (hn : H.next ≤ H1.next) (h : Post C w1 U1 ι1 H1 H' r v w') : Post C w U ι H H' r v w' := by
 obtain ⟨U', ι', hl, hf'⟩ := h
 refine ⟨U', ι', ⟨he.trans hl.ext, hl.heap, hl.val⟩, fun b c hb => ?_⟩
 rcases hf' b c hb with h | h
 ·exact hf b c h
 ·exact .inr (Nat.le_trans hn h)
def RoRel (ι : Nat → Option Nat) : Option Nat → Option Nat → Prop
 | none, none => True
 | some l, some c => ι l = some c
 | _, _ => False
theorem RoRel.mono {ι' : Nat → Option Nat} (h : ∀ b c, ι b = some c → ι' b = some c) {a b : Option Nat} (hr : RoRel ι a b) : RoRel ι' a b := by
 cases a <;> cases b <;> first | exact hr | exact h _ _ hr
theorem RoRel.isSome {a b : Option Nat} (hr : RoRel ι a b) : a.isSome = b.isSome := by
 cases a <;> cases b <;> first | rfl | exact hr.elim
def x7q (C : Ctx) (ex : AFr → List AItem → AHeap → Option (AV × AHeap)) : Prop :=
 ∀ fr items H r H', ex fr items H = some (r, H') → ∀ nt w U ι tmps todo ds ro, IsRel C.pure nt todo items → nt ≤ tmps.size → HRel C w U ι H → TRel w U ι fr.T tmps → DsRel w U ι fr.defers ds → RoRel ι fr.round ro →
  ∀ kd cs, Ends C fr.fn tmps todo ds kd ro cs w (Post C w U ι H H' r)
theorem j2k {f : FuncId} {fi : FI} (h : FIok C f fi) (args : Array Value) (w : World) : (callFunc f args).run C.P w = .ok (.enter f args) w := by
 obtain ⟨fn, c, hf, hb, _, _, _, hn⟩ := h.fn
 have hn' : ¬ fn.name = "runtime.NumGoroutine" := by simpa using hn
 simp [callFunc, program, Sem.run_bind, Sem.run, hf, hb, hn']
theorem q9w {f : FuncId} {fi : FI} (h : FIok C f fi) (args : Array Value) (kd : CallKind) : ∃ c, q5c C.pure fi.ntmps c = some fi.body ∧ Frame.enter C.P f args kd = rf f (args ++ Array.replicate (fi.ntmps - args.size) undef) [.code c] [] kd none := by
 obtain ⟨fn, c, hf, hb, hs, hnt, _, _⟩ := h.fn
 exact ⟨c, hs, by simp [Frame.enter, hf, hb, hnt]⟩
theorem z5e {args : List AV} {vs : List Value} (h : LsRel w U ι args vs) (n : Nat) : TRel w U ι (q1g args) (vs.toArray ++ Array.replicate n undef) := by
 intro t
 unfold q1g
 rcases Nat.lt_or_ge t args.length with ht | ht
 ·have hv : t < vs.length := by rw [h.1]; exact ht
  rw [List.getElem?_eq_getElem ht]
  have e : (vs.toArray ++ Array.replicate n undef).getD t undef = vs[t] := by
   simp [Array.getD_eq_getD_getElem?, Array.getElem?_append, hv]
  rw [e]
  exact h.2 t _ _ (List.getElem?_eq_getElem ht) (List.getElem?_eq_getElem hv)
 ·rw [List.getElem?_eq_none ht]
  have hv : ¬ t < vs.length := by rw [h.1]; omega
  have e : (vs.toArray ++ Array.replicate n undef).getD t undef = undef := by
   simp only [Array.getD_eq_getD_getElem?, Array.getElem?_append, List.size_toArray, hv, if_false, Array.getElem?_replicate]
   split <;> rfl
  rw [e]
  exact .undef
theorem x7r : ∀ {ps : List Nat} {args : List AV} {us : List Value} {T : Nat → AV} {tmps : Array Value}, ps.length = args.length → LsRel w U ι args us → TRel w U ι T tmps → (∀ t, t ∈ ps → t < tmps.size) →
  TRel w U ι (z9h T ps args) ((ps.zip us).foldl (fun tmps (t, a) => tmps.setIfInBounds t a) tmps) ∧ ((ps.zip us).foldl (fun (tmps : Array Value) (t, a) => tmps.setIfInBounds t a) tmps).size = tmps.size := by
 intro ps
 induction ps with
 | nil => intro args us T tmps _ _ hT _; exact ⟨by cases args <;> simpa [z9h] using hT, by simp⟩
 | cons p ps ih =>
  intro args us T tmps hl ha hT hlt
  cases args with
  | nil => simp at hl
  | cons a args =>
   obtain ⟨v, us', rfl, hv, ha'⟩ := ha.cases_cons
   have h1 : TRel w U ι (upd T p a) (tmps.setIfInBounds p v) := x1x (d := some p) hT (fun x hx => by cases hx; exact hlt p (by simp)) hv
   obtain ⟨h2, h3⟩ := ih (by simpa using hl) ha' h1 (fun t ht => by rw [Array.size_setIfInBounds]; exact hlt t (by simp [ht]))
   exact ⟨h2, by simpa using h3⟩
theorem x7s (hx : ExtOk C) (hF : ∀ f fi, C.FT f = some fi → FIok C f fi) {ex : AFr → List AItem → AHeap → Option (AV × AHeap)} (h : x7q C ex) : SimCl C (q9d C ex) where
 call := fun f args H r H' hc w U ι vs hH ha => by
  simp only [q9d] at hc
  split at hc
  ·rename_i g hg; exact hx.sound f g args H r H' hg hc w U ι vs hH ha
  ·split at hc
   ·rename_i fi hfi
    have hok := hF f fi hfi
    refine .inr ⟨j2k hok _ _, fun c cs => ?_⟩
    obtain ⟨cd, hs, he⟩ := q9w hok vs.toArray .normal
    obtain ⟨v, w', hR, tmps', todo', fnn, hst, hfn, y0j⟩ := h _ _ _ _ _ hc fi.ntmps w U ι (vs.toArray ++ Array.replicate (fi.ntmps - vs.toArray.size) undef) [.code cd] [] none (.cons (.code hs) .nil) (by simp; omega) hH (z5e ha _) .nil trivial .normal (c :: cs)
    refine ⟨v, w', hR, ?_⟩
    rw [he]
    exact hst.trans (.one (step_leave_returned ⟨rfl, rfl, rfl, fnn, hfn, y0j⟩))
   ·cases hc
 callD := fun f args H r H' q3y hc w U ι vs hH ha => by
  simp only [q9d] at hc
  rw [q3y] at hc
  simp only at hc
  split at hc
  ·rename_i fi hfi
   have hok := hF f fi hfi
   refine ⟨j2k hok _ _, fun c cs hm => ?_⟩
   obtain ⟨cd, hs, he⟩ := q9w hok vs.toArray .deferred
   obtain ⟨v, w', hR, tmps', todo', fnn, hst, hfn, y0j⟩ := h _ _ _ _ _ hc fi.ntmps w U ι (vs.toArray ++ Array.replicate (fi.ntmps - vs.toArray.size) undef) [.code cd] [] none (.cons (.code hs) .nil) (by simp; omega) hH (z5e ha _) .nil trivial .deferred (c :: cs)
   refine ⟨v, w', hR, ?_⟩
   rw [he]
   refine hst.trans (.one ?_)
   rw [step_going_returned rfl ⟨rfl, rfl, fnn, hfn, y0j⟩]
   have : ({ c with mode := settle c.mode } : Frame) = c := by rw [hm, ← hm]; simp [settle, hm]; rw [← hm]
   rw [this]
  ·cases hc
 round := fun l args H r H' hc w U ι vs c hH ha hl => by
  simp only [q9d] at hc
  split at hc
  ·rename_i L hL
   split at hc
   ·rename_i q2u
    have hb := hH.blk l c hl
    rw [hL] at hb
    obtain ⟨R, nt, hR, hLR⟩ := hb
    have hsz : vs.toArray.size = R.params.size := by
     have := ha.1; rw [hLR.params] at q2u; simp at q2u ⊢; omega
    obtain ⟨hT, y0g⟩ := x7r (ps := L.params) (tmps := R.tmps) q2u.symm ha hLR.T (fun t ht => Nat.lt_of_lt_of_le (hLR.lt t ht) hLR.size)
    refine ⟨R.fn, (R.params.zip vs.toArray).foldl (fun tmps (t, a) => tmps.setIfInBounds t a) R.tmps, R.assign, R.body, ?_, fun c0 cs => ?_⟩
    ·have hg : (Instr.getLoop c).run C.P w = .ok R w := by simp [Instr.getLoop, getObj, Sem.run_bind, Sem.run, hR]
     unfold Instr.yield
     simp only [Sem.run_bind, hg, Result.andThen_ok, hsz, ne_eq, not_true_eq_false, if_false, Sem.run_pure]
    ·have e : (R.params.zip vs.toArray).foldl (fun tmps (t, a) => tmps.setIfInBounds t a) R.tmps = (L.params.zip vs).foldl (fun tmps (t, a) => tmps.setIfInBounds t a) R.tmps := by
      rw [← Array.foldl_toList, hLR.params]; simp
     rw [e]
     obtain ⟨v, w', hR', hst⟩ := h _ _ _ _ _ hc nt w U ι _ [.code R.assign, .beginRound, .code R.body] [] (some c) (.cons (.code hLR.assign) (.cons .beginRound (.cons (.code hLR.body) .nil))) (by rw [y0g]; exact hLR.size) hH hT .nil hl .normal (c0 :: cs)
     refine ⟨v, w', hR', ?_⟩
     have := hst c0 cs rfl rfl
     rw [hLR.fn] at this
     exact this
   ·cases hc
  ·cases hc
end Go.BX
namespace Go.BX
variable {C : Ctx} {w : World} {U : Nat → Prop} {ι : Nat → Option Nat}
theorem j9y {t : TypeId} {H : AHeap} {p r : AV} {v u : Value} (hC : TOk C) (hH : HRel C w U ι H) (hp : VRel w U ι p v) (h : loadA C H t p = some r) : ∃ u, (do loadVar t (← asAddr v) : Sem Value).run C.P w = .ok u w ∧ VRel w U ι r u := by
 obtain ⟨u, hu, hr⟩ := z7v hC hH hp h
 refine ⟨u, ?_, hr⟩
 unfold loadA at h
 split at h
 ·cases h
 ·split at h
  ·cases hp with
   | ptr _ _ _ _ c hι => simpa [Instr.loadAt, Instr.sureAddr, asAddr, Sem.run_bind] using hu
  ·cases hp with
   | vptr _ c o _ _ _ ys hk hU hc h1 hr => simpa [Instr.loadAt, Instr.sureAddr, asAddr, Sem.run_bind] using hu
  ·cases h
def w7s (tmps : Array Value) : ResultVar → Sem Value
 | .tmp t => pure (tmps.getD t undef)
 | .cell a t => do loadVar t (← asAddr (tmps.getD a undef))
theorem z9y (hC : TOk C) {H : AHeap} (hH : HRel C w U ι H) {T : Nat → AV} {tmps : Array Value} (hT : TRel w U ι T tmps) : ∀ {rs : List ResultVar} {vs : List AV}, resultsA C T H rs = some vs →
  ∃ us, (rs.mapM (w7s tmps)).run C.P w = .ok us w ∧ LsRel w U ι vs us := by
 intro rs
 induction rs with
 | nil => intro vs h; simp only [resultsA, Option.some.injEq] at h; subst h; exact ⟨[], by simp, LsRel.nil⟩
 | cons r rs ih =>
  intro vs h
  cases r with
  | tmp t =>
   simp only [resultsA, Option.map_eq_some_iff] at h
   obtain ⟨vs', h', rfl⟩ := h
   obtain ⟨us, hus, hr⟩ := ih h'
   exact ⟨tmps.getD t undef :: us, by simp only [List.mapM_cons, Sem.run_bind, w7s, Sem.run_pure, Result.andThen_ok, hus], LsRel.cons (hT t) hr⟩
  | cell a t =>
   simp only [resultsA] at h
   split at h
   ·rename_i v vs' hv hvs
    cases h
    obtain ⟨us, hus, hr⟩ := ih hvs
    obtain ⟨u, hu, hur⟩ := j9y (u := undef) hC hH (hT a) hv
    refine ⟨u :: us, ?_, LsRel.cons hur hr⟩
    have hu' : (w7s tmps (.cell a t)).run C.P w = .ok u w := hu
    simp only [List.mapM_cons, Sem.run_bind, hu', Sem.run_pure, Result.andThen_ok, hus]
   ·cases h
theorem j5u (hC : TOk C) {H : AHeap} (hH : HRel C w U ι H) {T : Nat → AV} {tmps : Array Value} (hT : TRel w U ι T tmps) {fn : Func} {vs : List AV} (h : resultsA C T H fn.results.toList = some vs) :
  ∃ v, (results fn tmps).run C.P w = .ok v w ∧ VRel w U ι (oneOf vs) v := by
 obtain ⟨us, hus, hr⟩ := z9y hC hH hT h
 have he : results fn tmps = (do let vs ← fn.results.mapM (w7s tmps); pure (if h : vs.size = 1 then vs[0] else .tuple vs)) := by
  unfold results
  congr
 have q3e : (results fn tmps).run C.P w = .ok (if h : us.toArray.size = 1 then us.toArray[0] else .tuple us.toArray) w := by
  rw [he, Array.mapM_eq_mapM_toList]
  simp only [Sem.run_bind, map_eq_pure_bind]
  rw [hus]
  simp only [Result.andThen_ok, Sem.run_pure]
 refine ⟨_, q3e, ?_⟩
 have hl := hr.1
 rcases vs with _ | ⟨a, vs⟩
 ·obtain rfl := hr.cases_nil
  exact .tuple [] [] rfl hr.2
 ·obtain ⟨u, us', rfl, hu, hr'⟩ := hr.cases_cons
  rcases vs with _ | ⟨b, vs⟩
  ·obtain rfl := hr'.cases_nil
   simpa [oneOf] using hu
  ·obtain ⟨x, us'', rfl, hx, hr''⟩ := hr'.cases_cons
   have := VRel.tuple _ _ hr.1 hr.2
   simpa [oneOf] using this
theorem q6x {P : Program} {c : Nat} {R : Loop} (h : w.heap[c]? = some (.loop R)) : (Instr.getLoop c).run P w = .ok R w := by
 simp [Instr.getLoop, getObj, Sem.run_bind, Sem.run, h]
theorem q6y {P : Program} {c : Nat} {R R' : Loop} (h : w.heap[c]? = some (.loop R)) : (setObj c (.loop R')).run P w = .ok () (w.putObj c (.loop R')) := by
 simp only [setObj, Sem.run, h, World.putObj]
theorem z5f {cl : Cl} (hs : SimCl C cl) (hn : NextMono cl) : ∀ {az : List ADef} {H H' : AHeap} {w : World} {U : Nat → Prop} {ι : Nat → Option Nat} {ds : List Deferred}, q1i C cl az H = some H' → HRel C w U ι H → DsRel w U ι az ds →
  ∀ (fn : FuncId) (tmps : Array Value) (todo : List Item) (kd : CallKind) (cs : List Frame), ∃ w' U' ι', Steps C.P (lone { rf fn tmps todo ds kd none with mode := .returning } cs w) (lone { rf fn tmps todo [] kd none with mode := .returning } cs w') ∧
   Ext w U ι w' U' ι' ∧ HRel C w' U' ι' H' ∧ Fresh H ι ι' ∧ H.next ≤ H'.next := by
 intro az
 induction az with
 | nil =>
  intro H H' w U ι ds h hH hD fn tmps todo kd cs
  simp only [q1i, Option.some.injEq] at h
  subst h
  cases hD
  exact ⟨w, U, ι, Steps.refl _ _, Ext.refl _ _ _, hH, Fresh.refl _ _, Nat.le_refl _⟩
 | cons a az ih =>
  intro H H' w U ι ds h hH hD fn tmps todo kd cs
  cases hD with
  | cons hd hds =>
   cases hd with
   | collected hb =>
    rename_i b c
    simp only [q1i] at h
    split at h
    ·rename_i hat
     have hbr := hH.blk b c hb
     rw [hat] at hbr
     have hbr' : w.heap[c]? = some (.deferred (some [])) := hbr
     obtain ⟨he, hh⟩ := z9x (o' := .deferred none) (blk := .dead) hH hb (by rw [hat]; rfl) (by
      unfold World.shape?
      rw [World.putObj_heap_same (hH.dom b c hb).2, hbr']) (fun _ _ => trivial)
     obtain ⟨w', U', ι', hst, he', hh', hf', hn'⟩ := ih h hh (hds.mono (fun hv => he.mono hH hv) he.map) fn tmps todo kd cs
     have q3e : (Instr.takeDeferred c).run C.P w = .ok [] (w.putObj c (.deferred none)) := by
      simp only [Instr.takeDeferred, getObj, setObj, Sem.run_bind, Sem.run, hbr', Result.andThen_ok, World.putObj]
      rfl
     exact ⟨w', U', ι', Steps.head (j2g q3e) hst, he.trans he', hh', hf', hn'⟩
    ·cases h
   | call hv ha =>
    rename_i v args fv first' cap vs'
    cases hv with
    | any _ => simp [q1i] at h
    | yld _ _ _ => simp [q1i] at h
    | fn f fs cps us zs hl1 hl2 hr1 hr2 =>
     simp only [q1i] at h
     split at h
     ·cases h
     ·rename_i q3y
      have y7u : C.ext f = none := by simpa using q3y
      split at h
      ·rename_i r1 H1 hc
       have z1n : LsRel w U ι (fs ++ args ++ cps) (us ++ vs' ++ zs) := LsRel.append (LsRel.append ⟨hl1, hr1⟩ ha) ⟨hl2, hr2⟩
       obtain ⟨hent, hgo⟩ := hs.callD f _ H r1 H1 y7u hc w U ι _ hH z1n
       obtain ⟨v1, w1, ⟨U1, ι1, hl, hf1⟩, hst1⟩ := hgo { rf fn tmps todo _ kd none with mode := .returning } cs rfl
       have hn1 := hn.call _ _ _ _ _ hc
       obtain ⟨w', U', ι', hst, he', hh', hf', hn'⟩ := ih h hl.heap (hds.mono (fun hv => hl.ext.mono hH hv) hl.ext.map) fn tmps todo kd cs
       refine ⟨w', U', ι', Steps.head (step_defer (by simp) rfl rfl (f := f) (args := (us ++ vs' ++ zs).toArray) ?_) (hst1.trans hst), hl.ext.trans he', hh', fun b c hb => ?_, Nat.le_trans hn1 hn'⟩
       ·simp only [invoke]
        rw [← hent]
        congr 2
        apply Array.ext'
        simp
       ·rcases hf' b c hb with h | h
        ·exact hf1 b c h
        ·exact .inr (Nat.le_trans hn1 h)
      ·cases h
theorem q6z (hC : TOk C) (hF : ∀ f fi, C.FT f = some fi → FIok C f fi) {cl : Cl} (hs : SimCl C cl) (hn : NextMono cl) {fr : AFr} {jump : Option AC} {jc : Option Code} {H H' : AHeap} {r : AV} (h : q5b C cl fr jump H = some (r, H'))
  (hj : (jump = none ∧ jc = none) ∨ ∃ a c, jump = some a ∧ jc = some c ∧ q5q (some a) = true ∧ ∀ nt, q7j C.pure nt c a) {tmps : Array Value} {todo : List Item} {ds : List Deferred} {ro : Option Nat} {kd : CallKind} {cs : List Frame}
  (hret : z7p jump = true → step C.P (lone (rf fr.fn tmps todo ds kd none) cs w) = .next (lone { rf fr.fn tmps todo ds kd none with mode := .returning } cs w))
  (hrnd : ∀ l v w' c0 cs', (Instr.endRound l jc).run C.P w = .ok v w' → step C.P (lone (rf fr.fn tmps todo ds .normal (some l)) (c0 :: cs') w) = .next (lone (c0.finish v) cs' w'))
  (hH : HRel C w U ι H) (hT : TRel w U ι fr.T tmps) (hD : DsRel w U ι fr.defers ds) (hro : RoRel ι fr.round ro) : Ends C fr.fn tmps todo ds kd ro cs w (Post C w U ι H H' r) := by
 unfold q5b at h
 split at h
 ·rename_i hr0
  rw [hr0] at hro
  cases ro with
  | some _ => exact hro.elim
  | none =>
   split at h
   ·rename_i hir
    split at h
    ·rename_i H1 hd
     split at h
     ·rename_i fi hfi
      simp only [Option.map_eq_some_iff] at h
      obtain ⟨vs, hvs, he⟩ := h
      cases he
      obtain ⟨w', U', ι', hst, q3y, hh, hf, hnx⟩ := z5f hs hn hd hH hD fr.fn tmps todo kd cs
      obtain ⟨fnn, c, hfn, _, _, _, y0j, _⟩ := (hF _ _ hfi).fn
      rw [← y0j] at hvs
      obtain ⟨v, hv, hvr⟩ := j5u hC hh (hT.mono (fun hv => q3y.mono hH hv)) hvs
      exact ⟨v, w', ⟨U', ι', ⟨q3y, hh, hvr⟩, hf⟩, tmps, todo, fnn, Steps.head (hret hir) hst, hfn, hv⟩
     ·cases h
    ·cases h
   ·cases h
 ·rename_i l hr0
  rw [hr0] at hro
  cases ro with
  | none => exact hro.elim
  | some c =>
   have hι : ι l = some c := hro
   split at h
   ·rename_i L hL
    cases h
    have hb := hH.blk l c hι
    rw [hL] at hb
    obtain ⟨R, nt, hR, hLR⟩ := hb
    have w7m : jump.isNone = jc.isNone := by
     rcases hj with ⟨rfl, rfl⟩ | ⟨a, cc, rfl, rfl, _⟩ <;> rfl
    obtain ⟨he, hh⟩ := z9x (o' := .loop { R with state := if jc.isNone then .ready else .done, pending := jc }) (blk := .loop { L with state := if jump.isNone then .ready else .done, pending := jump }) hH hι (by rw [hL]; rfl) (by
      unfold World.shape?
      rw [World.putObj_heap_same (hH.dom l c hι).2, hR]) (fun q6h q3y => ⟨_, nt, q6h, {
       size := hLR.size
       state := by
        show y8l (if jump.isNone then .ready else .done) (if jc.isNone then .ready else .done)
        rw [w7m]; cases jc.isNone <;> trivial
       pending := by
        rcases hj with ⟨rfl, rfl⟩ | ⟨a, cc, rfl, rfl, _, hcr⟩
        ·exact .inl ⟨rfl, rfl⟩
        ·exact .inr ⟨a, cc, rfl, rfl, hcr nt⟩
       fn := hLR.fn, T := hLR.T.mono (fun hv => q3y.mono hH hv), params := hLR.params, assign := hLR.assign, body := hLR.body, lt := hLR.lt, defers := hLR.defers }⟩)
    have q3e : (Instr.endRound c jc).run C.P w = .ok (.bool jc.isNone) (w.putObj c (.loop { R with state := if jc.isNone then .ready else .done, pending := jc })) := by
     simp only [Instr.endRound, Sem.run_bind, q6x hR, q6y hR, Result.andThen_ok, Sem.run_pure]
    refine ⟨.bool jc.isNone, _, ⟨U, ι, ⟨he, hh, by rw [w7m]; exact .bool _⟩, Fresh.refl _ _⟩, fun c0 cs' e hk => ?_⟩
    subst hk; subst e
    exact .one (hrnd c _ _ c0 cs' q3e)
   ·cases h
end Go.BX
namespace Go.BX
variable {C : Ctx} {w : World} {U : Nat → Prop} {ι : Nat → Option Nat}
def CInv (pure : FuncId → Bool) (nt : Nat) (c : Code) : AC → Prop
 | .skip => c = .skip
 | .region aos chk => ∃ id ops draw, c = .region id ops draw ∧ (draw = true → q6k pure ops = true ∧ chk = y3i pure ops) ∧ q3t (q4p nt ops) ops.toList = some aos
 | .seq a b => ∃ x y, c = .seq x y ∧ q7j pure nt x a ∧ q7j pure nt y b
 | .cond e a b => ∃ x y, c = .cond e x y ∧ q7j pure nt x a ∧ q7j pure nt y b
 | .block id a => ∃ x, c = .block id x ∧ q7j pure nt x a
 | .loop a => ∃ x, c = .loop x ∧ q7j pure nt x a
 | .rangeFunc f ps a b => ∃ qs x y, c = .rangeFunc f qs x y ∧ qs.toList = ps ∧ q7j pure nt x a ∧ q7j pure nt y b ∧ ∀ t, t ∈ ps → t < nt
 | .exit id => c = .exit id
 | .scope a => ∃ x, c = .scope x ∧ q7j pure nt x a
 | .label l => c = .label l
 | .goto l => c = .goto l
 | .ret => c = .ret
 | .refuse => True
theorem q3m {pure : FuncId → Bool} {nt : Nat} {c : Code} {a : AC} (h : q7j pure nt c a) : CInv pure nt c a := by
 unfold q7j at h
 cases c <;> simp only [q5c, Option.some.injEq, Option.map_eq_some_iff] at h
 case region id ops draw =>
  split at h
  ·cases h
  ·rename_i hd
   simp only [Option.map_eq_some_iff] at h
   obtain ⟨x, hx, rfl⟩ := h
   exact ⟨id, ops, draw, rfl, fun e => by subst e; exact ⟨by simpa using hd, by simp⟩, hx⟩
 case seq x y => split at h <;> cases h; exact ⟨x, y, rfl, by assumption, by assumption⟩
 case cond e x y => split at h <;> cases h; exact ⟨x, y, rfl, by assumption, by assumption⟩
 case rangeFunc f qs x y =>
  split at h
  ·split at h <;> cases h
   rename_i hlt
   exact ⟨qs, x, y, rfl, rfl, by assumption, by assumption, fun t ht => by
    simp only [List.all_eq_true, decide_eq_true_eq] at hlt
    exact hlt t ht⟩
  ·cases h
 case block id x => obtain ⟨y, hy, rfl⟩ := h; exact ⟨x, rfl, hy⟩
 case loop x => obtain ⟨y, hy, rfl⟩ := h; exact ⟨x, rfl, hy⟩
 case scope x => obtain ⟨y, hy, rfl⟩ := h; exact ⟨x, rfl, hy⟩
 case refuse => subst h; trivial
 all_goals (subst h; rfl)
theorem DsRel.append {az bs : List ADef} {ds es : List Deferred} (h : DsRel w U ι az ds) (h' : DsRel w U ι bs es) : DsRel w U ι (az ++ bs) (ds ++ es) := by
 induction h with
 | nil => exact h'
 | cons h _ ih => exact .cons h ih
theorem z5g {fr : AFr} {ps : List Nat} {a b : AC} {H H' : AHeap} {l : Nat} {m : List ADef} (h : q6i fr ps a b H = some (l, m, H')) {nt : Nat} {tmps : Array Value} {qs : Array Tmp} {x y : Code} {ro : Option Nat} (hq : qs.toList = ps) (ha : q7j C.pure nt x a) (hb : q7j C.pure nt y b) (hlt : ∀ t, t ∈ ps → t < nt)
  (hsz : nt ≤ tmps.size) (hH : HRel C w U ι H) (hT : TRel w U ι fr.T tmps) (hro : RoRel ι fr.round ro) :
  ∃ lc mc w' ι', (Instr.enterLoop fr.fn tmps qs x y ro).run C.P w = .ok (lc, mc) w' ∧ Ext w U ι w' U ι' ∧ HRel C w' U ι' H' ∧ ι' l = some lc ∧ DsRel w' U ι' m mc ∧ Fresh H ι ι' := by
 unfold q6i at h
 split at h
 ·rename_i hr
  rw [hr] at hro
  cases ro with
  | some _ => exact hro.elim
  | none =>
   cases h
   obtain ⟨e1, h1, r1⟩ := q8m hH (w' := w.alloc (.deferred (some []))) (o := .deferred (some [])) rfl .dfr (by
    exact World.alloc_heap_new w _)
   have hL : LRel C ((w.alloc (.deferred (some []))).alloc (.loop { state := .ready, pending := none, fn := fr.fn, tmps := tmps, params := qs, assign := x, body := y, defers := w.heap.size })) U
     (upd (upd ι H.next (some w.heap.size)) (H.push .dfr).next (some (w.alloc (.deferred (some []))).heap.size)) nt
     {state := .ready, pending := none, fn := fr.fn, T := fr.T, params := ps, assign := a, body := b, defers := H.next } { state := .ready, pending := none, fn := fr.fn, tmps := tmps, params := qs, assign := x, body := y, defers := w.heap.size } := by
    have hdef : (upd (upd ι H.next (some w.heap.size)) (H.push .dfr).next (some (w.alloc (.deferred (some []))).heap.size)) H.next = some w.heap.size := by
     rw [q2d _ _ (by simp only [AHeap.push]; omega), upd_same]
    refine { size := hsz, state := trivial, pending := .inl ⟨rfl, rfl⟩, fn := rfl, T := ?_, params := hq.symm, assign := ha, body := hb, lt := hlt, defers := hdef }
    refine hT.mono (fun hv => (e1.mono hH hv).mono (fun _ h => h) (fun c hc => ?_) (fun c s hs => ?_) _ (fun b c hbc => ?_))
    ·have := (h1.imm c hc).1
     simp only [World.alloc, Array.getElem?_push] at this ⊢
     rw [if_neg (by omega)]
    ·have := z0m hs
     refine (q1d ?_).trans hs
     simp only [World.alloc, Array.getElem?_push] at this ⊢
     rw [if_neg (by omega)]
    ·have := (h1.dom b c hbc).1
     rw [q2d _ _ (Nat.ne_of_lt this)]
     exact hbc
   obtain ⟨e2, h2, r2⟩ := q8m h1 (w' := (w.alloc (.deferred (some []))).alloc (.loop { state := .ready, pending := none, fn := fr.fn, tmps := tmps, params := qs, assign := x, body := y, defers := w.heap.size }))
    (o := .loop { state := .ready, pending := none, fn := fr.fn, tmps := tmps, params := qs, assign := x, body := y, defers := w.heap.size }) rfl (.loop { state := .ready, pending := none, fn := fr.fn, T := fr.T, params := ps, assign := a, body := b, defers := H.next })
    ⟨_, nt, by
     exact World.alloc_heap_new (w.alloc _) _, hL⟩
   refine ⟨_, [{ target := .collected w.heap.size, args := #[] }], _, _, ?_, e1.trans e2, h2, upd_same _ _ _, .cons (.collected hL.defers) .nil, fun b c hbc => ?_⟩
   ·simp [Instr.enterLoop, Sem.run_bind, newObj, Sem.run]
   ·rcases r2.fresh b c hbc with h | h
    ·exact r1.fresh b c h
    ·exact .inr (by simp only [AHeap.push] at h; omega)
 ·rename_i l0 hr
  rw [hr] at hro
  cases ro with
  | none => exact hro.elim
  | some c =>
   have hι : ι l0 = some c := hro
   split at h
   ·rename_i L hLat
    cases h
    have hbr := hH.blk l0 c hι
    rw [hLat] at hbr
    obtain ⟨R, nt0, hR, hLR⟩ := hbr
    have hL : LRel C (w.alloc (.loop { state := .ready, pending := none, fn := fr.fn, tmps := tmps, params := qs, assign := x, body := y, defers := R.defers })) U (upd ι H.next (some w.heap.size)) nt
      {state := .ready, pending := none, fn := fr.fn, T := fr.T, params := ps, assign := a, body := b, defers := L.defers } { state := .ready, pending := none, fn := fr.fn, tmps := tmps, params := qs, assign := x, body := y, defers := R.defers } := by
     refine { size := hsz, state := trivial, pending := .inl ⟨rfl, rfl⟩, fn := rfl, T := ?_, params := hq.symm, assign := ha, body := hb, lt := hlt, defers := ?_ }
     ·refine hT.mono (fun hv => hv.mono (fun _ h => h) (fun c hc => ?_) (fun c s hs => ?_) _ (fun b c hbc => ?_))
      ·have := (hH.imm c hc).1
       simp only [World.alloc, Array.getElem?_push]
       rw [if_neg (by omega)]
      ·have := z0m hs
       refine (q1d ?_).trans hs
       simp only [World.alloc, Array.getElem?_push]
       rw [if_neg (by omega)]
      ·rw [q2d _ _ (Nat.ne_of_lt (hH.dom b c hbc).1)]
       exact hbc
     ·show upd ι H.next (some w.heap.size) L.defers = some R.defers
      rw [q2d _ _ (Nat.ne_of_lt (hH.dom _ _ hLR.defers).1)]
      exact hLR.defers
    obtain ⟨e2, h2, r2⟩ := q8m hH (w' := w.alloc (.loop { state := .ready, pending := none, fn := fr.fn, tmps := tmps, params := qs, assign := x, body := y, defers := R.defers }))
     (o := .loop { state := .ready, pending := none, fn := fr.fn, tmps := tmps, params := qs, assign := x, body := y, defers := R.defers }) rfl (.loop { state := .ready, pending := none, fn := fr.fn, T := fr.T, params := ps, assign := a, body := b, defers := L.defers })
     ⟨_, nt, by
      exact World.alloc_heap_new w _, hL⟩
    refine ⟨_, [], _, _, ?_, e2, h2, upd_same _ _ _, .nil, r2.fresh⟩
    simp [Instr.enterLoop, Sem.run_bind, q6x hR, newObj, Sem.run]
   ·cases h
theorem j5v (hC : TOk C) (hF : ∀ f fi, C.FT f = some fi → FIok C f fi) (hx : ExtOk C) (hmix : C.P.follows .mixedOrders = true) {ex : AFr → List AItem → AHeap → Option (AV × AHeap)} (hs : x7q C ex) (hm : j2h ex) : x7q C (q9q C ex) := by
 intro fr items H r H' h nt w U ι tmps todo ds ro hI hsz hH hT hD hro kd cs
 have simcl := x7s hx hF hs
 have hn := j2i hx hm
 unfold q9q at h
 split at h
 ·-- the end
  cases hI
  exact q6z hC hF simcl hn h (.inl ⟨rfl, rfl⟩) (fun _ => z9r) (fun l v w' c0 cs' hr => j2e hr) hH hT hD hro
 ·-- inBlock
  cases hI with
  | cons hi hk => cases hi; exact Ends.head (.one j9o) (hs _ _ _ _ _ h nt w U ι _ _ _ _ hk hsz hH hT hD hro kd cs)
 ·cases hI with
  | cons hi hk => cases hi; exact Ends.head (.one j9p) (hs _ _ _ _ _ h nt w U ι _ _ _ _ hk hsz hH hT hD hro kd cs)
 ·cases hI with
  | cons hi hk => cases hi with
   | inLoop hc => exact Ends.head (.one x1r) (hs _ _ _ _ _ h nt w U ι _ _ _ _ (.cons (.code hc) (.cons (.inLoop hc) hk)) hsz hH hT hD hro kd cs)
 ·-- beginRound
  cases hI with
  | cons hi hk =>
   cases hi
   split at h
   ·rename_i l hr
    rw [hr] at hro
    cases ro with
    | none => exact hro.elim
    | some c =>
     have hι : ι l = some c := hro
     split at h
     ·rename_i L hL
      split at h
      ·rename_i hst
       have hb := hH.blk l c hι
       rw [hL] at hb
       obtain ⟨R, nt0, hR, hLR⟩ := hb
       obtain ⟨he, hh⟩ := z9x (o' := .loop { R with state := .busy }) (blk := .loop { L with state := .busy }) hH hι (by rw [hL]; rfl) (by
        unfold World.shape?
        rw [World.putObj_heap_same (hH.dom l c hι).2, hR]) (fun q6h q3y => ⟨_, nt0, q6h, {
         size := hLR.size, state := trivial, pending := hLR.pending, fn := hLR.fn, T := hLR.T.mono (fun hv => q3y.mono hH hv), params := hLR.params, assign := hLR.assign, body := hLR.body, lt := hLR.lt, defers := hLR.defers }⟩)
       have hrs : R.state = .ready := by
        have := hLR.state
        rw [hst] at this
        cases hh' : R.state <;> rw [hh'] at this <;> first | rfl | exact this.elim
       have q3e : (Instr.beginRound c).run C.P w = .ok () (w.putObj c (.loop { R with state := .busy })) := by
        simp only [Instr.beginRound, Sem.run_bind, q6x hR, q6y hR, Result.andThen_ok, hrs, Sem.run_pure]
       refine Ends.head (.one (z9v q3e)) (Ends.mono (hs _ _ _ _ _ h nt _ U ι _ _ _ (some c) hk hsz hh (hT.mono (fun hv => he.mono hH hv)) (hD.mono (fun hv => he.mono hH hv) he.map) (by rw [hr]; exact hι) kd cs) (fun v w' hp => Post.of he (Fresh.refl _ _) ?_ hp))
       simp [AHeap.set]
      ·cases h
     ·cases h
   ·cases h
 ·cases hI with
  | cons hi hk => cases hi with
   | code hc => obtain rfl := q3m hc; exact Ends.head (.one y3j) (hs _ _ _ _ _ h nt w U ι _ _ _ _ hk hsz hH hT hD hro kd cs)
 ·cases hI with
  | cons hi hk => cases hi with
   | code hc => obtain rfl := q3m hc; exact Ends.head (.one x7d) (hs _ _ _ _ _ h nt w U ι _ _ _ _ hk hsz hH hT hD hro kd cs)
 ·-- a region
  cases hI with
  | cons hi hk =>
   cases hi with
   | code hc =>
    obtain ⟨id, ops, draw, rfl, hdr, hmo⟩ := q3m hc
    split at h
    ·rename_i T' ds' H1 q3e
     split at h
     rotate_left
     ·cases h
     rename_i hdyn
     have hnx := z5d hn q3e
     rw [hro.isSome] at q3e hdyn
     have goOn : ∀ {w1 : World} {U1 : Nat → Prop} {ι1 : Nat → Option Nat} {tmps1 : Array Value} {ds1 : List Deferred} {k : List Item}, IsRel C.pure nt k _ → Steps C.P (lone (rf fr.fn tmps (.code (.region id ops draw) :: k) ds kd ro) cs w) (lone (rf fr.fn tmps1 k ds1 kd ro) cs w1) → Ext w U ι w1 U1 ι1 → HRel C w1 U1 ι1 H1 → TRel w1 U1 ι1 T' tmps1 → DsRel w1 U1 ι1 ds' ds1 → Fresh H ι ι1 → tmps1.size = tmps.size →
       Ends C fr.fn tmps (.code (.region id ops draw) :: k) ds kd ro cs w (Post C w U ι H H' r) := fun hk hst he hh ht hd hf hs1 =>
      Ends.head hst (Ends.mono (hs _ _ _ _ _ h nt _ _ _ _ _ _ ro hk (by rw [hs1]; exact hsz) hh ht hd (hro.mono he.map) kd cs) (fun v w' hp => Post.of he hf hnx hp))
     cases draw with
     | true =>
      obtain ⟨hdr1, rfl⟩ := hdr rfl
      obtain ⟨tmps1, w1, ds1, U1, ι1, hst, he, hh, ht, hd, hf, hs1⟩ := j5t (fn := fr.fn) (kd := kd) (id := id) hC simcl hn hmix hdr1 hmo hsz hH hT hD q3e hdyn _ cs
      exact goOn hk hst he hh ht hd hf hs1
     | false =>
      have q2u : ops.size = (q3t (q4p nt ops) ops.toList).map List.length := by
       rw [hmo]; simp [q4g hmo]
      rw [hmo] at q2u
      simp only [Option.map_some, Option.some.injEq] at q2u
      obtain ⟨tmps1, w1, ds1, U1, ι1, hst, he, hh, ht, hd, hf, hs1, _⟩ := j5s (fn := fr.fn) (kd := kd) (ops := ops) (nt := nt) hC simcl hn _ 0 w U ι tmps ds fr.T T' fr.defers ds' H H1 (fun j ao hj => by
       obtain ⟨o, ho, hso⟩ := q3b hmo j ao hj
       exact ⟨o, by simpa using ho, hso⟩) hsz hH hT hD q3e _ cs
      refine goOn hk (Steps.head x1s ?_) he hh ht hd hf hs1
      rw [← q2u, ← List.range_eq_range'] at hst
      exact hst
    ·cases h
 ·cases hI with
  | cons hi hk => cases hi with
   | code hc =>
    obtain ⟨x, y, rfl, h1, h2⟩ := q3m hc
    exact Ends.head (.one y8n) (hs _ _ _ _ _ h nt w U ι _ _ _ _ (.cons (.code h1) (.cons (.code h2) hk)) hsz hH hT hD hro kd cs)
 ·cases hI with
  | cons hi hk => cases hi with
   | code hc =>
    obtain ⟨x, y, rfl, h1, h2⟩ := q3m hc
    split at h
    ·rename_i t ht
     have hv := q0u (a := { tmps := tmps, defers := ds }) hT ht
     generalize hxv : ({ tmps := tmps, defers := ds } : Act).eval _ = xv at hv
     cases hv
     refine Ends.head (.one (y3l (by rw [x1t]; exact hxv))) (hs _ _ _ _ _ h nt w U ι _ _ _ _ (.cons (.code ?_) hk) hsz hH hT hD hro kd cs)
     cases t
     ·exact h2
     ·exact h1
    ·cases h
 ·cases hI with
  | cons hi hk => cases hi with
   | code hc =>
    obtain ⟨x, rfl, h1⟩ := q3m hc
    exact Ends.head (.one x7e) (hs _ _ _ _ _ h nt w U ι _ _ _ _ (.cons (.code h1) (.cons (.inBlock _) hk)) hsz hH hT hD hro kd cs)
 ·cases hI with
  | cons hi hk => cases hi with
   | code hc =>
    obtain ⟨x, rfl, h1⟩ := q3m hc
    exact Ends.head (.one y3k) (hs _ _ _ _ _ h nt w U ι _ _ _ _ (.cons (.code h1) (.cons (.inLoop h1) hk)) hsz hH hT hD hro kd cs)
 ·cases hI with
  | cons hi hk => cases hi with
   | code hc =>
    obtain ⟨x, rfl, h1⟩ := q3m hc
    exact Ends.head (.one x7f) (hs _ _ _ _ _ h nt w U ι _ _ _ _ (.cons (.code h1) (.cons (.inScope h1) hk)) hsz hH hT hD hro kd cs)
 ·-- exit
  cases hI with
  | cons hi hk => cases hi with
   | code hc =>
    obtain rfl := q3m hc
    rename_i id _ _
    have he := x7n (id := id) hk
    split at h
    ·rename_i k' hk'
     obtain ⟨t', h1, h2⟩ := he.1 _ hk'
     exact Ends.head (.one (y3m h1)) (hs _ _ _ _ _ h nt w U ι _ _ _ _ h2 hsz hH hT hD hro kd cs)
    ·rename_i hk'
     exact q6z hC hF simcl hn h (.inr ⟨_, .exit id, rfl, rfl, rfl, fun _ => rfl⟩) (fun hr => by simp [z7p] at hr) (fun l v w' c0 cs' hr => z9t (he.2 hk') hr) hH hT hD hro
 ·-- goto
  cases hI with
  | cons hi hk => cases hi with
   | code hc =>
    obtain rfl := q3m hc
    rename_i id _ _
    have he := x7o (l := id) hk
    split at h
    ·rename_i k' hk'
     obtain ⟨t', h1, h2⟩ := he.1 _ hk'
     exact Ends.head (.one (y3n h1)) (hs _ _ _ _ _ h nt w U ι _ _ _ _ h2 hsz hH hT hD hro kd cs)
    ·rename_i hk'
     exact q6z hC hF simcl hn h (.inr ⟨_, .goto id, rfl, rfl, rfl, fun _ => rfl⟩) (fun hr => by simp [z7p] at hr) (fun l v w' c0 cs' hr => z9u (he.2 hk') hr) hH hT hD hro
 ·-- return
  cases hI with
  | cons hi hk => cases hi with
   | code hc =>
    obtain rfl := q3m hc
    exact q6z hC hF simcl hn h (.inr ⟨_, .ret, rfl, rfl, rfl, fun _ => rfl⟩) (fun _ => z9q) (fun l v w' c0 cs' hr => j2f hr) hH hT hD hro
 ·cases h
 ·-- a loop over a function
  rename_i fo pso aso bso kso
  cases hI with
  | @cons _ _ k _ hi hk => cases hi with
   | code hc =>
    obtain ⟨qs, x, y, rfl, hq, h1, h2, hlt⟩ := q3m hc
    split at h
    ·rename_i g first caps l mark H2 hev hel
     have hnx1 := q7r hel
     obtain ⟨lc, mc, w1, ι1, hrunL, he1, hh1, hιl, hdm, hf1⟩ := z5g hel hq h1 h2 hlt hsz hH hT hro
     split at h
     ·cases h
     ·rename_i rv H3 q2k
      have hnx2 := z7z hn q2k
      split at h
      ·rename_i L hL3
       split at h
       ·cases h
       ·rename_i hcond
        have v1b : L.state ≠ .busy := fun e => hcond (.inl e)
        have w7q : q5q L.pending = true := by
         cases hj : q5q L.pending with
         | true => rfl
         | false => exact absurd (.inr hj) hcond
        have hT1 := hT.mono (fun hv => he1.mono hH hv)
        have hD1 := hD.mono (fun hv => he1.mono hH hv) he1.map
        have hfv := q0u (a := { tmps := tmps, defers := ds }) hT1 hev
        generalize hxv : ({ tmps := tmps, defers := ds } : Act).eval fo = xv at hfv
        cases hfv with
        | fn _ _ _ us zs hl1 hl2 hr1 hr2 =>
         have z1n : LsRel w1 U ι1 (first ++ [.yld l] ++ caps) (us ++ [Value.func (.yield lc) #[] #[]] ++ zs) := LsRel.append (LsRel.append (show LsRel w1 U ι1 first us from ⟨hl1, hr1⟩) (LsRel.cons (.yld l lc hιl) LsRel.nil)) ⟨hl2, hr2⟩
         have j0y := z5b simcl q2k hh1 z1n
         obtain ⟨v1, w2, ⟨U2, ι2, hlv, hf2, _⟩, hst2⟩ : ∃ v1 w2, (∃ U' ι', BX.Leaves C w1 U ι1 H3 rv v1 w2 U' ι' ∧ Fresh H2 ι1 ι' ∧ (C.pure g = true → H3 = H2 ∧ ι' = ι1 ∧ ∀ c, c < w1.heap.size → w2.heap[c]? = w1.heap[c]?)) ∧
           Steps C.P (lone (rf fr.fn tmps (.code (.rangeFunc fo qs x y) :: k) ds kd ro) cs w) (lone (rf fr.fn tmps (.endRangeFunc lc :: k) (mc ++ ds) kd ro) cs w2) := by
          have hxr : ∀ nx w2, (callFunc g (us ++ [Value.func (.yield lc) #[] #[]] ++ zs).toArray).run C.P w1 = .ok nx w2 →
            (do let d ← resolve (rf fr.fn tmps (.inRangeFunc lc :: k) (mc ++ ds) kd ro).eval { callee := .value fo, args := #[.const (Value.func (.yield lc) #[] #[])], argTypes := #[] } 0; invoke d.target d.args : Sem Next).run C.P w1 = .ok nx w2 := fun nx w2 hc => by
           rw [← hc]
           have e1 : (rf fr.fn tmps (.inRangeFunc lc :: k) (mc ++ ds) kd ro).eval fo = _ := hxv
           have e2 : (rf fr.fn tmps (.inRangeFunc lc :: k) (mc ++ ds) kd ro).eval (.const (Value.func (.yield lc) #[] #[])) = Value.func (.yield lc) #[] #[] := rfl
           simp only [resolve, Sem.run_bind, e1, Deferred.ofValue, Sem.run_pure, Result.andThen_ok, invoke]
           congr 2
           apply Array.ext'
           simp [e2]
          rcases j0y with ⟨v1, w2, hc, hR⟩ | ⟨hc, hgo⟩
          ·exact ⟨v1, w2, hR, .one (z2q hrunL (hxr _ _ hc) (.inl ⟨v1, rfl, rfl, rfl⟩))⟩
          ·obtain ⟨v1, w2, hR, hst⟩ := hgo (rf fr.fn tmps (.inRangeFunc lc :: k) (mc ++ ds) kd ro) cs
           exact ⟨v1, w2, hR, Steps.head (z2q hrunL (hxr _ _ hc) (.inr ⟨g, _, rfl, rfl, rfl⟩)) hst⟩
         have v1a := hlv.ext.map _ _ hιl
         have hb := hlv.heap.blk l lc v1a
         rw [hL3] at hb
         obtain ⟨R, nt0, hR, hLR⟩ := hb
         obtain ⟨he3, hh3⟩ := z9x (o' := .loop { R with state := .exhausted }) (blk := .loop { L with state := .exhausted }) hlv.heap v1a (by rw [hL3]; rfl) (by
          unfold World.shape?
          rw [World.putObj_heap_same (hlv.heap.dom l lc v1a).2, hR]) (fun q6h q3y => ⟨_, nt0, q6h, {
           size := hLR.size, state := trivial, pending := hLR.pending, fn := hLR.fn, T := hLR.T.mono (fun hv => q3y.mono hlv.heap hv), params := hLR.params, assign := hLR.assign, body := hLR.body, lt := hLR.lt, defers := hLR.defers }⟩)
         have hrb : (R.state == .busy) = false := by
          have := hLR.state
          cases hh' : R.state <;> cases hl' : L.state <;> rw [hh', hl'] at this <;> first | rfl | exact this.elim | exact absurd hl' v1b
         have q3e : (Instr.endLoop lc).run C.P w2 = .ok R.pending (w2.putObj lc (.loop { R with state := .exhausted })) := by
          simp only [Instr.endLoop, Sem.run_bind, q6x hR, q6y hR, Result.andThen_ok, hrb, Sem.run_pure]
          simp [q6y hR]
         have heT : Ext w U ι _ U2 ι2 := (he1.trans hlv.ext).trans he3
         have hk2 : IsRel C.pure nt ((R.pending.map Item.code).toList ++ k) ((L.pending.map AItem.code).toList ++ kso) := by
          rcases hLR.pending with ⟨e1, e2⟩ | ⟨a, c, e1, e2, hcr⟩
          ·rw [e1, e2]; exact hk
          ·rw [e1] at w7q
           rw [e1, e2]
           exact .cons (.code (x1z hcr w7q)) hk
         have hds2 : DsRel (w2.putObj lc (.loop { R with state := .exhausted })) U2 ι2 (mark ++ fr.defers) (mc ++ ds) := by
          have h3 : DsRel w1 U ι1 (mark ++ fr.defers) (mc ++ ds) := hdm.append hD1
          exact (h3.mono (fun hv => hlv.ext.mono hh1 hv) hlv.ext.map).mono (fun hv => he3.mono hlv.heap hv) he3.map
         refine Ends.head (hst2.trans (.one (j9w q3e))) (Ends.mono (hs _ _ _ _ _ h nt _ U2 ι2 _ _ _ ro hk2 hsz hh3 ((hT1.mono (fun hv => hlv.ext.mono hh1 hv)).mono (fun hv => he3.mono hlv.heap hv)) hds2 (hro.mono heT.map) kd cs) (fun v w' hp => Post.of heT (fun b c hb => ?_) ?_ hp))
         ·rcases hf2 b c hb with h | h
          ·exact hf1 b c h
          ·exact .inr (by omega)
         ·simp only [AHeap.set]; omega
      ·cases h
    ·cases h
theorem z8a (hC : TOk C) (hF : ∀ f fi, C.FT f = some fi → FIok C f fi) (hx : ExtOk C) (hmix : C.P.follows .mixedOrders = true) : ∀ n, x7q C (exec C n)
 | 0 => fun fr items H r H' h => by simp [exec] at h
 | n + 1 => j5v hC hF hx hmix (z8a hC hF hx hmix n) (j2j hx n)
end Go.BX
namespace Go.BX
open Go.RowKit
structure COk (C : Ctx) : Prop where
 tt : ∀ t ti, C.TT t = some ti → TIok C t ti
 ft : ∀ f fi, C.FT f = some fi → FIok C f fi
 ext : ExtOk C
 mix : C.P.follows .mixedOrders = true
variable {C : Ctx} {w : World}
abbrev Old (w : World) : Nat → Prop := fun c => c < w.heap.size
theorem j5w (h : COk C) {n : Nat} {f : FuncId} {args : List AV} {r : AV} (hx : C.ext f = none) (hc : z7c C n f args = some r) {vs : List Value} (ha : LsRel w (Old w) (fun _ => none) args vs) :
  Calls C.P f vs.toArray w (fun e w' => (∃ v U', e = .returned v ∧ VRel w' U' (fun _ => none) r v) ∧ Below w.heap.size w w') := by
 unfold z7c at hc
 split at hc
 ·rename_i r0 H' q2k
  simp only [y8k, q9d, hx] at q2k
  split at q2k
  ·rename_i fi hfi
   have hok := h.ft f fi hfi
   have hH : HRel C w (Old w) (fun _ => none) AHeap.empty := ⟨(fun b c h => by cases h), (fun b b' c h => by cases h), (fun c hc => ⟨hc, (fun b hb => by cases hb)⟩), (fun b c h => by cases h)⟩
   intro cs
   obtain ⟨cd, hs, he⟩ := q9w hok vs.toArray .normal
   obtain ⟨v, w', ⟨U', ι', hl, hf⟩, tmps', todo', fnn, hst, hfn, y0j⟩ := z8a ⟨h.tt⟩ h.ft h.ext h.mix n _ _ _ _ _ q2k fi.ntmps w (Old w) (fun _ => none) (vs.toArray ++ Array.replicate (fi.ntmps - vs.toArray.size) undef) [.code cd] [] none (.cons (.code hs) .nil) (by simp; omega) hH (z5e ha _) .nil trivial .normal cs
   refine ⟨.returned v, w', { rf f tmps' todo' [] .normal none with mode := .returning }, ⟨⟨v, _, rfl, q5t hl.heap hl.val hc⟩, ?_⟩, ?_, rfl, rfl, rfl, rfl, fnn, hfn, y0j⟩
   ·exact ⟨hl.ext.env.1, hl.ext.env.2.1, hl.ext.env.2.2, hl.ext.size, fun k hk => hl.ext.kept k hk (fun b hb => by cases hb)⟩
   ·rw [he]; exact hst
  ·cases q2k
 ·cases hc
end Go.BX
namespace Go.BX
def y0n (P : Program) (t : TypeId) : Option TK :=
 match P.underlying t with
 | some .bool => some .bool
 | some (.int k) => some (.int k)
 | some .string => some .str
 | some (.float .f64) => some .flt
 | some (.complex .f64) => some .cpx
 | some (.pointer _) => some .ptr
 | some (.slice e) => some (.slice e)
 | some (.array n e) => some (.array n e)
 | some (.struct fs) => some (.struct (fs.toList.map fun f => (f.type, f.offset)))
 | some (.func ..) => some .func
 | some (.interface _) => some .iface
 | _ => none
def y0o (P : Program) (t : TypeId) : Option TI :=
 match y0n P t, P.info? t with
 | some k, some info => match info.zero with
  | some z => (q3t ofConst z.cells.toList).map fun zero => { kind := k, size := info.size, bytes := info.bytes, zero := zero, eqk := if P.eqGuardType P.depth t then none else z7d P Op.maxDepth t }
  | none => none
 | _, _ => none
def x2a : Value → Bool
 | .agg _ => true
 | _ => false
def z5h (P : Program) (good : List TypeId) (t : TypeId) : Bool :=
 match y0o P t, P.info? t with
 | some ti, some info => (match info.zero with
  | some z => z.cells.size == info.size && x2a z == ti.kind.isAgg
  | none => false) && (match ti.kind with
  | .slice e => ti.size == 1 && good.contains e
  | .array n e => good.contains e && (match y0o P e with | some te => te.size != 0 && ti.size == n * te.size | none => false)
  | .struct fs => fs.all fun f => good.contains f.1 && (match y0o P f.1 with | some tf => tf.size != 0 && decide (f.2 + tf.size ≤ ti.size) | none => false)
  | _ => ti.size == 1)
 | _, _ => false
def w8i (P : Program) (pure : FuncId → Bool) (f : FuncId) : Option FI :=
 match P.funcs[f]? with
 | some fn => if fn.name == "runtime.NumGoroutine" then none else match fn.body with
  | some c => (q5c pure fn.ntmps c).map fun b => { ntmps := fn.ntmps, results := fn.results.toList, body := b }
  | none => none
 | none => none
def z7j (P : Program) (good : List TypeId) (pure : FuncId → Bool) (ext : FuncId → Option (List AV → AHeap → Option (AV × AHeap))) : Ctx :=
 {P := P, FT := w8i P pure, TT := fun t => if good.contains t then y0o P t else none, pure := pure, ext := ext }
theorem y3s {P : Program} {good : List TypeId} (hg : good.all (z5h P good) = true) {pure : FuncId → Bool} {ext : FuncId → Option (List AV → AHeap → Option (AV × AHeap))} {t : TypeId} {ti : TI}
  (h : (z7j P good pure ext).TT t = some ti) : TIok (z7j P good pure ext) t ti := by
 simp only [List.all_eq_true] at hg
 have hTT : ∀ e, good.contains e = true → ∃ te, y0o P e = some te ∧ (z7j P good pure ext).TT e = some te := fun e he => by
  have hc := hg e (by simpa using he)
  unfold z5h at hc
  split at hc
  ·rename_i te _ h1 _
   exact ⟨te, h1, by show (if good.contains e then y0o P e else none) = _; rw [if_pos he, h1]⟩
  ·cases hc
 have h' : good.contains t = true ∧ y0o P t = some ti := by
  simp only [z7j] at h
  split at h
  ·exact ⟨by assumption, h⟩
  ·cases h
 obtain ⟨hgt, hti⟩ := h'
 have hc := hg t (by simpa using hgt)
 unfold z5h at hc
 rw [hti] at hc
 have x6j := hti
 unfold y0o at x6j
 split at x6j
 ·rename_i k info hk hinfo
  rw [hinfo] at hc
  split at x6j
  ·rename_i z hz
   simp only [Option.map_eq_some_iff] at x6j
   obtain ⟨zero, hzero, hte⟩ := x6j
   subst hte
   simp only [hz, Bool.and_eq_true, beq_iff_eq] at hc
   obtain ⟨⟨hzs, hza⟩, hkk⟩ := hc
   refine ⟨⟨info, hinfo, rfl, rfl, z, hz, hzero, hzs, fun ha => ?_, fun ha => ?_⟩, ?_, fun ks hks => ?_⟩
   ·simp only at ha hza
    rw [ha] at hza
    cases z <;> simp [x2a] at hza
    exact ⟨_, rfl⟩
   ·simp only at ha hza
    rw [ha] at hza
    cases z <;> simp [x2a] at hza <;> rfl
   ·unfold y0n at hk
    have hP : (z7j P good pure ext).P = P := rfl
    split at hk <;> simp only [Option.some.injEq, reduceCtorEq] at hk
    all_goals (rename_i hu; subst hk; simp only [KOk, hP])
    ·exact ⟨hu, by simpa using hkk⟩
    ·exact ⟨hu, by simpa using hkk⟩
    ·exact ⟨hu, by simpa using hkk⟩
    ·exact ⟨hu, by simpa using hkk⟩
    ·exact ⟨hu, by simpa using hkk⟩
    ·exact ⟨⟨_, hu⟩, by simpa using hkk⟩
    ·simp only [Bool.and_eq_true, beq_iff_eq] at hkk
     obtain ⟨te, _, h2⟩ := hTT _ hkk.2
     exact ⟨hu, hkk.1, te, h2⟩
    ·simp only [Bool.and_eq_true] at hkk
     obtain ⟨te, h1, h2⟩ := hTT _ hkk.1
     rw [h1] at hkk
     simp only [Bool.and_eq_true, bne_iff_ne, ne_eq, beq_iff_eq] at hkk
     exact ⟨hu, te, h2, hkk.2.1, hkk.2.2⟩
    ·refine ⟨_, hu, rfl, fun f hf => ?_⟩
     simp only [List.all_eq_true] at hkk
     have := hkk (f.type, f.offset) (List.mem_map.mpr ⟨f, hf, rfl⟩)
     simp only [Bool.and_eq_true] at this
     obtain ⟨tf, h1, h2⟩ := hTT _ this.1
     rw [h1] at this
     simp only [Bool.and_eq_true, bne_iff_ne, ne_eq, decide_eq_true_eq] at this
     exact ⟨tf, h2, this.2.1, this.2.2⟩
    ·exact ⟨⟨_, _, _, hu⟩, by simpa using hkk⟩
    ·exact ⟨⟨_, hu⟩, by simpa using hkk⟩
   ·simp only at hks
    split at hks
    ·cases hks
    ·rename_i hne
     exact ⟨hks, by show P.eqGuardType P.depth t = false; simpa using hne⟩
  ·cases x6j
 ·cases x6j
theorem y3t {P : Program} {good : List TypeId} {pure : FuncId → Bool} {ext : FuncId → Option (List AV → AHeap → Option (AV × AHeap))} {f : FuncId} {fi : FI} (h : (z7j P good pure ext).FT f = some fi) : FIok (z7j P good pure ext) f fi := by
 have h' : w8i P pure f = some fi := h
 unfold w8i at h'
 split at h'
 ·rename_i fn hfn
  split at h'
  ·cases h'
  ·rename_i hne
   split at h'
   ·rename_i c hc
    simp only [Option.map_eq_some_iff] at h'
    obtain ⟨b, hb, rfl⟩ := h'
    exact ⟨fn, c, hfn, hc, hb, rfl, rfl, by simpa using hne⟩
   ·cases h'
 ·cases h'
theorem y8q {P : Program} {good : List TypeId} {pure : FuncId → Bool} {ext : FuncId → Option (List AV → AHeap → Option (AV × AHeap))} (hg : good.all (z5h P good) = true) (hx : ExtOk (z7j P good pure ext)) (hmix : P.follows .mixedOrders = true) : COk (z7j P good pure ext) :=
 ⟨fun _ _ h => y3s hg h, fun _ _ h => y3t h, hx, hmix⟩
end Go.BX
