import Derived.Test.YtgallgjldfabfaaBExt
import Derived.Calls
import Derived.Laws.World
namespace Go.BX
set_option linter.unusedVariables false
set_option linter.unusedSimpArgs false

/-! # strings.Builder's copyCheck and String -/

variable {C : Ctx} {w w' : World} {U : Nat → Prop} {ι : Nat → Option Nat}

/-- One block is written. -/
theorem chg_rel {H : AHeap} (hH : HRel C w U ι H) {b c : Nat} (hb : ι b = some c) (hsz : w'.heap.size = w.heap.size) (hot : ∀ d, d ≠ c → w'.heap[d]? = w.heap[d]?) (hsh : ∀ d, w'.shape? d = w.shape? d) (henv : w'.os = w.os ∧ w'.tape = w.tape ∧ w'.output = w.output) (hd : (H.at_ b).isDead = false) {blk : Blk}
    (hB : (∀ {a : AV} {v : Value}, VRel w U ι a v → VRel w' U ι a v) → BRel C w' U ι c blk) :
    Ext w U ι w' U ι ∧ HRel C w' U ι (H.set b blk) := by
  have hext : Ext w U ι w' U ι :=
    { map := fun _ _ h => h, rng := fun b _ h => .inl ⟨b, h⟩, imm := fun _ h => h, new := fun _ h => .inl h, size := by omega
      kept := fun d _ hn => hot d (fun e => hn b (by rw [e]; exact hb))
      shape := fun d _ => hsh d, env := henv }
  have hm : ∀ {a : AV} {v : Value}, VRel w U ι a v → VRel w' U ι a v := fun hv => hext.mono hH hv
  refine ⟨hext, ⟨fun b' c' h => by have := hH.dom b' c' h; rw [hsz]; simpa [AHeap.set] using this, fun b1 b2 c' h1 h2 d1 d2 => ?_, fun c' h => by have := hH.imm c' h; rw [hsz]; exact this, fun b' c' h => ?_⟩⟩
  · have live : ∀ b', ((H.set b blk).at_ b').isDead = false → (H.at_ b').isDead = false := by
      intro b' h'
      by_cases e : b' = b
      · subst e; exact hd
      · simp only [AHeap.set, upd_isDead e] at h'; exact h'
    exact hH.inj b1 b2 c' h1 h2 (live b1 d1) (live b2 d2)
  · by_cases e : b' = b
    · subst e
      rw [hb] at h; cases h
      simp only [AHeap.set, upd_same]
      exact hB hm
    · simp only [AHeap.set]
      rw [upd_ne _ _ e]
      by_cases hdd : (H.at_ b').isDead = true
      · cases hx : H.at_ b' <;> rw [hx] at hdd <;> simp [Blk.isDead] at hdd
        trivial
      · have hne : c' ≠ c := by
          rintro rfl
          exact e (hH.inj b' b _ h hb (by simpa using hdd) hd)
        exact (hH.blk b' c' h).mono hm (fun _ _ h => h) (hot c' hne)

/-- A call that is known by its contract. -/
theorem inv_calls {P : Program} {f : FuncId} {fn : Func} (hf : P.funcs[f]? = some fn) (hname : (fn.name == "runtime.NumGoroutine") = false) (hb : fn.body.isNone = false) {vs : List Value} {R : Value → World → Prop} (h : Calls P f vs.toArray w fun e w' => ∃ v, e = .returned v ∧ R v w') : InvN P f vs w R := by
  right
  constructor
  · have h1 : fn.name ≠ "runtime.NumGoroutine" := by simpa using hname
    have h2 : ¬ fn.body = none := by
      intro e; rw [e] at hb; cases hb
    simp [callFunc, hf, h1, h2, Sem.run]
  · intro c cs
    obtain ⟨e, w', fr, ⟨v, rfl, hR⟩, hc, _, hl⟩ := h (c :: cs)
    exact ⟨v, w', hR, Steps.trans hc (Steps.one (step_leave_returned hl))⟩

/-- What is known of a program's builders: fc: copyCheck; fs: String; tB: the builder's type; tb: a byte's. -/
structure BuilderLaws (P : Program) (fc fs : FuncId) (tB tb : TypeId) : Prop where
  used : ∀ (b : Nat) (w : World), w.cell? ⟨b, 0, none⟩ = some (.pointer (some ⟨b, 0, none⟩)) → Calls P fc #[.pointer (some ⟨b, 0, none⟩)] w fun e w' => e = .returned (.tuple #[]) ∧ w' = w
  fresh : ∀ (b m : Nat) (w : World), 2 ≤ m → w.cell? ⟨b, 0, none⟩ = some (.pointer none) → w.shape? b = some (tB, m) → w.frozen? ⟨b, 0, none⟩ = false → Calls P fc #[.pointer (some ⟨b, 0, none⟩)] w fun e w' => e = .returned (.tuple #[]) ∧ w' = w.setCell ⟨b, 0, none⟩ (.pointer (some ⟨b, 0, none⟩))
  str : ∀ (b g cap cells : Nat) (l : List UInt8) (w : World), w.cell? ⟨b, 1, none⟩ = some (.slice (some ⟨g, 0, none⟩) l.length cap) → l ≠ [] → l.length ≤ cap → l.length ≤ maxLen → w.shape? g = some (tb, cells) → l.length ≤ cells →
    (∀ (j : Nat) (x : UInt8), l[j]? = some x → w.cell? ((⟨g, 0, none⟩ : Addr).add j) = some (.int .u8 x.toNat)) →
    Calls P fs #[.pointer (some ⟨b, 0, none⟩)] w fun e w' => e = .returned (.string ⟨l.toArray⟩) ∧ w' = w.drew.freeze ⟨g, 0, none⟩ l.length
  fnc : ∃ fn, P.funcs[fc]? = some fn ∧ (fn.name == "runtime.NumGoroutine") = false ∧ fn.body.isNone = false
  fns : ∃ fn, P.funcs[fs]? = some fn ∧ (fn.name == "runtime.NumGoroutine") = false ∧ fn.body.isNone = false

def copyG (tB : TypeId) : List AV → AHeap → Option (AV × AHeap)
  | [.ptr b 2 0 0], H => match H.at_ b with
    | .cells t 2 [[a, v]] => if t = tB then match a with
      | .nilP => some (.tuple [], H.set b (.cells t 2 [[.ptr b 2 0 0, v]]))
      | .ptr b' 2 0 0 => if b' = b then some (.tuple [], H) else none
      | _ => none
      else none
    | _ => none
  | _, _ => none

/-- A byte is a byte. -/
def u8ok (es : List (List AV)) : Bool := es.all fun e => match e with
  | [.int .u8 n] => decide (0 ≤ n) && decide (n ≤ 255)
  | _ => false

def strG (tB tb : TypeId) : List AV → AHeap → Option (AV × AHeap)
  | [.ptr b 2 0 0], H => match H.at_ b with
    | .cells t 2 [[_, .slc b2 1 0 n]] => match H.at_ b2 with
      | .cells t2 1 es => if t = tB ∧ t2 = tb ∧ n ≠ 0 ∧ n ≤ es.length ∧ n ≤ maxLen ∧ u8ok (es.take n) = true then (bytesOf (es.take n)).map fun s => (.str s, H.set b2 .dead) else none
      | _ => none
    | _ => none
  | _, _ => none

theorem copyG_mono {tB : TypeId} {args : List AV} {H H' : AHeap} {r : AV} (h : copyG tB args H = some (r, H')) : H.next ≤ H'.next := by
  unfold copyG at h
  repeat' (split at h)
  all_goals first | (cases h; exact Nat.le_refl _) | cases h
theorem strG_mono {tB tb : TypeId} {args : List AV} {H H' : AHeap} {r : AV} (h : strG tB tb args H = some (r, H')) : H.next ≤ H'.next := by
  unfold strG at h
  repeat' (split at h)
  all_goals first | (simp only [Option.map_eq_some_iff] at h; obtain ⟨_, _, e⟩ := h; cases e; exact Nat.le_refl _) | cases h

theorem cell_at {w : World} {c : Nat} {cs : Array Value} {t : TypeId} {fz : Nat × Nat} (h : w.heap[c]? = some (.cells cs t fz)) (i : Nat) : w.cell? ⟨c, i, none⟩ = cs[i]? := by
  unfold World.cell?
  rw [h]; rfl

theorem add_at (c j : Nat) : (⟨c, 0, none⟩ : Addr).add j = ⟨c, j, none⟩ := by
  unfold Addr.add
  split
  · rename_i h; subst h; rfl
  · simp

theorem ccheck_sound {fc fs : FuncId} {tB tb : TypeId} (L : BuilderLaws C.P fc fs tB tb) {args : List AV} {H H' : AHeap} {r : AV} (hg : copyG tB args H = some (r, H')) (hH : HRel C w U ι H) {vs : List Value} (ha : LsRel w U ι args vs) :
    InvN C.P fc vs w (Post C w U ι H H' r) := by
  unfold copyG at hg
  split at hg
  · rename_i H0 b
    split at hg
    · rename_i t a v hbl
      split at hg
      · rename_i ht
        subst ht
        obtain ⟨v1, vs1, rfl, h1, ha1⟩ := ha.cases_cons
        obtain rfl := ha1.cases_nil
        cases h1 with
        | ptr _ _ _ _ c hι =>
          have hbr := hH.blk b c hι
          rw [hbl] at hbr
          obtain ⟨cs, hcs, _, hr⟩ := hbr
          obtain ⟨ho0, u0, hu0, hv0⟩ := hr 0 _ 0 a rfl rfl
          obtain ⟨ho1, u1, hu1, hv1⟩ := hr 0 _ 1 v rfl rfl
          simp only [Nat.zero_mul, Nat.zero_add] at hu0 hu1
          have hp : ((0 * 2 + 0 : Nat)) = 0 := rfl
          rw [hp]
          have hc0 : w.cell? ⟨c, 0, none⟩ = some u0 := by rw [cell_at hcs, hu0]
          obtain ⟨fn, hfn, hnm, hbd⟩ := L.fnc
          split at hg
          · cases hg
            cases hv0
            refine inv_calls hfn hnm hbd ?_
            have hsize : 2 ≤ cs.size := by
              have := (Array.getElem?_eq_some_iff.mp hu1).1
              omega
            refine (L.fresh c cs.size w hsize hc0 (by unfold World.shape?; rw [hcs]) (by unfold World.frozen?; rw [hcs]; rfl)).mono ?_
            rintro e w' ⟨rfl, rfl⟩
            refine ⟨_, rfl, ?_⟩
            have hsc : (w.setCell ⟨c, 0, none⟩ (.pointer (some ⟨c, 0, none⟩))).heap[c]? = some (.cells (cs.setIfInBounds 0 (.pointer (some ⟨c, 0, none⟩))) t (0, 0)) := by
              unfold World.setCell
              simp [Array.getElem?_modify, hcs]
            have hot : ∀ d, d ≠ c → (w.setCell ⟨c, 0, none⟩ (.pointer (some ⟨c, 0, none⟩))).heap[d]? = w.heap[d]? := by
              intro d hd
              unfold World.setCell
              simp [Array.getElem?_modify, Ne.symm hd]
            obtain ⟨he, hh⟩ := chg_rel (w' := w.setCell ⟨c, 0, none⟩ (.pointer (some ⟨c, 0, none⟩))) hH hι (by simp [World.setCell]) hot (fun d => by
              by_cases hd : d = c
              · subst hd
                unfold World.shape?
                rw [hsc, hcs]; simp
              · exact shape_of_heap (hot d hd)) ⟨rfl, rfl, rfl⟩ (by rw [hbl]; rfl) (blk := .cells t 2 [[.ptr b 2 0 0, v]]) (fun hm => by
                refine ⟨_, hsc, fun e he => by simp at he; subst he; rfl, fun i e j x hi hj => ?_⟩
                match i, hi with
                | 0, hi =>
                  cases hi
                  match j, hj with
                  | 0, hj => cases hj; exact ⟨rfl, .pointer (some ⟨c, 0, none⟩), Array.getElem?_setIfInBounds_self_of_lt (by omega), .ptr b 2 0 0 c hι⟩
                  | 1, hj => cases hj; exact ⟨ho1, u1, by simpa using hu1, hm hv1⟩)
            exact ⟨U, ι, ⟨he, hh, .tuple [] [] rfl (fun i a v h => by simp at h)⟩, Fresh.refl _ _⟩
          · rename_i b'
            split at hg
            · rename_i hbb
              subst hbb
              cases hg
              cases hv0 with
              | ptr _ _ _ _ c' hι' =>
                rw [hι] at hι'
                cases hι'
                refine inv_calls hfn hnm hbd ?_
                refine (L.used c w hc0).mono ?_
                rintro e w' ⟨rfl, rfl⟩
                exact ⟨_, rfl, U, ι, ⟨Ext.refl _ _ _, hH, .tuple [] [] rfl (fun i a v h => by simp at h)⟩, Fresh.refl _ _⟩
            · cases hg
          · cases hg
      · cases hg
    · cases hg
  · cases hg

theorem bytesOf_get : ∀ {es : List (List AV)} {s : Bytes}, bytesOf es = some s → s.length = es.length ∧ ∀ (j : Nat) (x : UInt8), s[j]? = some x → ∃ n, es[j]? = some [.int .u8 n] ∧ x = UInt8.ofNat n.toNat
  | [], s, h => by cases h; exact ⟨rfl, fun j x h => by simp at h⟩
  | e :: es, s, h => by
    unfold bytesOf at h
    split at h
    · rename_i b bs hb hbs
      cases h
      obtain ⟨h1, h2⟩ := bytesOf_get hbs
      refine ⟨by simp [h1], fun j x hj => ?_⟩
      cases j with
      | zero =>
        simp at hj; subst hj
        unfold byteOf at hb
        split at hb
        · rename_i n; cases hb; exact ⟨n, rfl, rfl⟩
        · cases hb
      | succ j => exact h2 j x (by simpa using hj)
    · cases h


theorem str_sound {fc fs : FuncId} {tB tb : TypeId} (L : BuilderLaws C.P fc fs tB tb) {args : List AV} {H H' : AHeap} {r : AV} (hg : strG tB tb args H = some (r, H')) (hH : HRel C w U ι H) {vs : List Value} (ha : LsRel w U ι args vs) :
    InvN C.P fs vs w (Post C w U ι H H' r) := by
  unfold strG at hg
  split at hg
  · rename_i H0 b
    split at hg
    · rename_i t a b2 n hbl
      split at hg
      · rename_i t2 es hbl2
        split at hg
        · rename_i hcond
          obtain ⟨rfl, rfl, hn0, hn, hnm, hu8⟩ := hcond
          simp only [Option.map_eq_some_iff] at hg
          obtain ⟨s, hs, e⟩ := hg
          cases e
          obtain ⟨hsl, hsg⟩ := bytesOf_get hs
          obtain ⟨v1, vs1, rfl, h1, ha1⟩ := ha.cases_cons
          obtain rfl := ha1.cases_nil
          cases h1 with
          | ptr _ _ _ _ c hι =>
            have hbr := hH.blk b c hι
            rw [hbl] at hbr
            obtain ⟨cs, hcs, _, hr⟩ := hbr
            obtain ⟨ho1, u1, hu1, hv1⟩ := hr 0 _ 1 (.slc b2 1 0 n) rfl rfl
            simp only [Nat.zero_mul, Nat.zero_add] at hu1
            have hp : ((0 * 2 + 0 : Nat)) = 0 := rfl
            rw [hp]
            have hc1 : w.cell? ⟨c, 1, none⟩ = some u1 := by rw [cell_at hcs, hu1]
            obtain ⟨fn, hfn, hnmm, hbd⟩ := L.fns
            cases hv1 with
            | slc _ _ _ _ g off cap m t3 hg2 ho hcap hsh hm =>
              have hoff : off = 0 := by simpa using ho (.inr rfl)
              subst hoff
              have hbr2 := hH.blk b2 g hg2
              rw [hbl2] at hbr2
              obtain ⟨ds, hds, hk2, hr2⟩ := hbr2
              have hsn : s.length = n := by rw [hsl, List.length_take]; omega
              have hget : ∀ (j : Nat) (x : UInt8), s[j]? = some x → w.cell? ((⟨g, 0, none⟩ : Addr).add j) = some (.int .u8 x.toNat) := by
                intro j x hj
                obtain ⟨z, hz, hxz⟩ := hsg j x hj
                have hjn : j < n := by rw [← hsn]; exact (List.getElem?_eq_some_iff.mp hj).1
                have hz' : es[j]? = some [.int .u8 z] := by rw [List.getElem?_take_of_lt hjn] at hz; exact hz
                obtain ⟨_, u, hu, hv⟩ := hr2 j _ 0 (.int .u8 z) hz' rfl
                cases hv
                have hrange : 0 ≤ z ∧ z ≤ 255 := by
                  have := List.all_eq_true.mp hu8 _ (List.mem_of_getElem? hz)
                  simpa using this
                have hxx : ((x.toNat : Nat) : Int) = z := by
                  rw [hxz, UInt8.toNat_ofNat']
                  omega
                rw [add_at, cell_at hds, hxx]
                simpa using hu
              have hlen : s.length ≤ ds.size := by
                rw [hsn]
                have hlt : n - 1 < es.length := by omega
                have he : es[n - 1]? = some es[n - 1] := List.getElem?_eq_getElem hlt
                have hek := hk2 _ (List.getElem_mem hlt)
                obtain ⟨_, u, hu, _⟩ := hr2 (n - 1) _ 0 (es[n - 1][0]'(by omega)) he (List.getElem?_eq_getElem _)
                have := (Array.getElem?_eq_some_iff.mp hu).1
                omega
              refine inv_calls hfn hnmm hbd ?_
              have hcall := L.str c g cap ds.size s w (by rw [hc1, hsn]) (by intro e; subst e; simp at hsn; exact hn0 hsn.symm) (by omega) (by omega) (by unfold World.shape?; rw [hds]) hlen hget
              refine hcall.mono ?_
              rintro e w' ⟨rfl, rfl⟩
              refine ⟨_, rfl, ?_⟩
              have hfz : (w.drew.freeze ⟨g, 0, none⟩ s.length).heap[g]? = some (.cells ds t2 (0, s.length)) := by
                unfold World.freeze World.drew
                rw [if_neg (by omega)]
                simp [Array.getElem?_modify, hds]
              have hot : ∀ d, d ≠ g → (w.drew.freeze ⟨g, 0, none⟩ s.length).heap[d]? = w.heap[d]? := by
                intro d hd
                unfold World.freeze World.drew
                rw [if_neg (by omega)]
                simp [Array.getElem?_modify, Ne.symm hd]
              have hsz : (w.drew.freeze ⟨g, 0, none⟩ s.length).heap.size = w.heap.size := by
                unfold World.freeze World.drew
                rw [if_neg (by omega)]
                simp
              have henv : (w.drew.freeze ⟨g, 0, none⟩ s.length).os = w.os ∧ (w.drew.freeze ⟨g, 0, none⟩ s.length).tape = w.tape ∧ (w.drew.freeze ⟨g, 0, none⟩ s.length).output = w.output := by
                unfold World.freeze World.drew
                rw [if_neg (by omega)]
                exact ⟨rfl, rfl, rfl⟩
              obtain ⟨he, hh⟩ := chg_rel (w' := w.drew.freeze ⟨g, 0, none⟩ s.length) hH hg2 hsz hot (fun d => by
                by_cases hd : d = g
                · subst hd
                  unfold World.shape?
                  rw [hfz, hds]
                · exact shape_of_heap (hot d hd)) henv (by rw [hbl2]; rfl) (blk := .dead) (fun hm => trivial)
              exact ⟨U, ι, ⟨he, hh, .str s _ rfl⟩, Fresh.refl _ _⟩
        · cases hg
      · cases hg
    · cases hg
  · cases hg

/-- A call of a function that is given. -/
theorem call_ext {fn : FuncId} {T : Nat → AV} {ds : List ADef} {ro : Option Nat} {k : List AItem} {H : AHeap} {Q : AV → AHeap → Prop} {f : FuncId} {g : List AV → AHeap → Option (AV × AHeap)} {args : List AV} {dst : Option Nat} {os : List AO} (hp : C.pure f = false) (hx : C.ext f = some g) :
    RunCall C fn T ds ro f args dst os k H Q = RunVH C fn T ds ro dst os k Q (g args H) := by
  unfold RunCall
  have e : ∀ n, callF C (cln C n) f args H = g args H := fun n => by
    unfold callF
    rw [if_neg (by simp [hp])]
    show (clMk C (exec C n)).call f args H = _
    simp only [clMk, hx]
  simp only [e]
  cases hg : g args H with
  | none => simp [withDs, thenOps, RunVH]
  | some z =>
    obtain ⟨r, H1⟩ := z
    rfl

/-! ## Bytes that grow -/

theorem len_ofB (s : Bytes) : (ofBytes s).length = s.length := by simp [ofBytes]
theorem take_ofB (s : Bytes) : (ofBytes s).take s.length = ofBytes s := by rw [← len_ofB s, List.take_length]
theorem ofB_append (s t : Bytes) : ofBytes s ++ ofBytes t = ofBytes (s ++ t) := by simp [ofBytes]
theorem ofB_one (x : UInt8) : [[AV.int .u8 (x.toNat : Int)]] = ofBytes [x] := rfl
theorem ofB_snoc (s : Bytes) (x : UInt8) : ofBytes s ++ [[.int .u8 (x.toNat : Int)]] = ofBytes (s ++ [x]) := by simp [ofBytes]
theorem bytesOf_ofB : ∀ s : Bytes, bytesOf (ofBytes s) = some s
  | [] => rfl
  | x :: s => by
    have ih := bytesOf_ofB s
    unfold ofBytes at ih ⊢
    rw [List.map_cons]
    unfold bytesOf
    rw [ih]
    simp [byteOf]
theorem u8ok_ofB (s : Bytes) : u8ok (ofBytes s) = true := by
  unfold u8ok ofBytes
  rw [List.all_map, List.all_eq_true]
  intro x _
  have := x.toNat_lt
  simp
  omega

/-- A builder that holds bytes; g: where its buffer is. -/
structure IsB (tB tb : TypeId) (H : AHeap) (b : Nat) (g : Option Nat) (acc : Bytes) : Prop where
  lt : b < H.next
  self : ∃ a, (a = .nilP ∨ a = .ptr b 2 0 0) ∧ H.at_ b = .cells tB 2 [[a, match g with | none => .nilS | some g => .slc g 1 0 acc.length]]
  buf : match g with | none => acc = [] | some g => g ≠ b ∧ g < H.next ∧ H.at_ g = .cells tb 1 (ofBytes acc)

/-- Nothing but the builder has changed. -/
structure Kept (H H' : AHeap) (b : Nat) (g g' : Option Nat) : Prop where
  next : H.next ≤ H'.next
  at_ : ∀ d, d < H.next → d ≠ b → some d ≠ g → H'.at_ d = H.at_ d
  new : g' = g ∨ ∃ z, g' = some z ∧ H.next ≤ z

end Go.BX
