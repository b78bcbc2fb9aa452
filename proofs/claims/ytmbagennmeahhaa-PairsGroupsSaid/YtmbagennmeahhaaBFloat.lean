import GoSem.Core.Float
import GoSem.Op.FloatArith
import GoSem.Op.Complex
import GoSem.Conv.FloatToInt
import GoSem.Conv.IntToFloat
namespace Go.BX.Flt
open Ieee Go

/-- The magnitude m * 2^e is the natural number N. -/
def MagIs (m : Nat) (e : Int) (N : Nat) : Prop := m * 2 ^ e.toNat = N * 2 ^ (-e).toNat

/-- The datum stands for the integer n. -/
def IsInt (d : Datum) (n : Int) : Prop := ∃ s m e N, d = .number s m e ∧ MagIs m e N ∧ n = if s then -(N : Int) else N

theorem MagIs.zero_iff {m : Nat} {e : Int} {N : Nat} (h : MagIs m e N) : m = 0 ↔ N = 0 := by
  unfold MagIs at h
  have h1 : 0 < 2 ^ e.toNat := Nat.two_pow_pos _
  have h2 : 0 < 2 ^ (-e).toNat := Nat.two_pow_pos _
  constructor
  · intro hm
    rw [hm, Nat.zero_mul] at h
    exact (Nat.mul_eq_zero.mp h.symm).resolve_right (by omega)
  · intro hn
    rw [hn, Nat.zero_mul] at h
    exact (Nat.mul_eq_zero.mp h).resolve_right (by omega)

theorem cut_exact (neg : Bool) (n d : Nat) (hd : d ≤ n.log2 + 2) (hdiv : 2 ^ d ∣ n) :
    Toward.even.cut neg n d = n / 2 ^ d := by
  have hg : (1 <<< min d (n.log2 + 2)) = 2 ^ d := by
    rw [Nat.min_eq_left hd, Nat.shiftLeft_eq, Nat.one_mul]
  have hr : n % 2 ^ d = 0 := Nat.mod_eq_zero_of_dvd hdiv
  unfold Toward.cut
  simp only [hg, hr]
  have h2 : 0 < 2 ^ d := Nat.two_pow_pos _
  have e2 : (2 ^ d == 2 * 0) = false := by
    rw [beq_eq_false_iff_ne]; omega
  simp [e2]

/-- log2 of a product with a power of two. -/
theorem log2_mul_pow (m k : Nat) (hm : m ≠ 0) : (m * 2 ^ k).log2 = m.log2 + k := by
  have h1 := Nat.log2_self_le hm
  have h2 := @Nat.lt_log2_self m
  have hk : 0 < 2 ^ k := Nat.two_pow_pos _
  have hne : m * 2 ^ k ≠ 0 := Nat.mul_ne_zero hm (by omega)
  apply (Nat.log2_eq_iff hne).mpr
  constructor
  · rw [Nat.pow_add]; exact Nat.mul_le_mul_right _ h1
  · rw [show m.log2 + k + 1 = (m.log2 + 1) + k from by omega, Nat.pow_add]
    exact Nat.mul_lt_mul_of_pos_right h2 hk

theorem MagIs.log {m : Nat} {e : Int} {N : Nat} (h : MagIs m e N) (hN : N ≠ 0) : (m.log2 : Int) + e = N.log2 := by
  have hm : m ≠ 0 := fun x => hN (h.zero_iff.mp x)
  unfold MagIs at h
  have h1 := log2_mul_pow m e.toNat hm
  have h2 := log2_mul_pow N (-e).toNat hN
  rw [h, h2] at h1
  omega

/-- Rounding is exact for whole numbers to 2^53: the word reads back as the number. -/
theorem read_nearest {neg : Bool} {m : Nat} {e : Int} {N : Nat} (h : MagIs m e N) (hN : N ≤ 9007199254740992) :
    ∃ m' e', double.read (double.nearest neg m e) = .number neg m' e' ∧ MagIs m' e' N := by
  by_cases hz : N = 0
  · have hm : m = 0 := h.zero_iff.mpr hz
    subst hz hm
    refine ⟨0, -1074, ?_, by unfold MagIs; simp only [Nat.zero_mul]⟩
    unfold Format.nearest
    rw [if_pos rfl]
    cases neg <;> decide
  · have hm : m ≠ 0 := fun x => hz (h.zero_iff.mp x)
    have hlog := h.log hz
    have hNlog : N.log2 ≤ 53 := by
      have := (Nat.log2_lt hz (k := 54)).mpr (by omega)
      omega
    -- the place of the last digit kept
    have hlast : max (e + (m.log2 : Int) - 52) (-1074) = (N.log2 : Int) - 52 := by omega
    have key : ∃ kept : Nat, Toward.even.cut neg (m <<< (e - ((N.log2 : Int) - 52)).toNat) (((N.log2 : Int) - 52) - e).toNat = kept ∧
        MagIs kept ((N.log2 : Int) - 52) N := by
      refine ⟨_, rfl, ?_⟩
      by_cases hle : ((N.log2 : Int) - 52) ≤ e
      · -- shifted left, nothing dropped
        have hd : (((N.log2 : Int) - 52) - e).toNat = 0 := by omega
        rw [hd, cut_exact _ _ 0 (by omega) (by simp), Nat.shiftLeft_eq, Nat.pow_zero, Nat.div_one]
        unfold MagIs at h ⊢
        have : m * 2 ^ (e - ((N.log2 : Int) - 52)).toNat * 2 ^ ((N.log2 : Int) - 52).toNat * 2 ^ (-e).toNat = N * 2 ^ (-((N.log2 : Int) - 52)).toNat * 2 ^ (-e).toNat := by
          have hp : 2 ^ (e - ((N.log2 : Int) - 52)).toNat * 2 ^ ((N.log2 : Int) - 52).toNat * 2 ^ (-e).toNat = 2 ^ e.toNat * 2 ^ (-((N.log2 : Int) - 52)).toNat := by
            rw [← Nat.pow_add, ← Nat.pow_add, ← Nat.pow_add]; congr 1; omega
          calc m * 2 ^ (e - ((N.log2 : Int) - 52)).toNat * 2 ^ ((N.log2 : Int) - 52).toNat * 2 ^ (-e).toNat
              = m * (2 ^ (e - ((N.log2 : Int) - 52)).toNat * 2 ^ ((N.log2 : Int) - 52).toNat * 2 ^ (-e).toNat) := by simp only [Nat.mul_assoc]
            _ = m * 2 ^ e.toNat * 2 ^ (-((N.log2 : Int) - 52)).toNat := by rw [hp, Nat.mul_assoc]
            _ = N * 2 ^ (-e).toNat * 2 ^ (-((N.log2 : Int) - 52)).toNat := by rw [h]
            _ = N * 2 ^ (-((N.log2 : Int) - 52)).toNat * 2 ^ (-e).toNat := by ac_rfl
        exact Nat.eq_of_mul_eq_mul_right (Nat.two_pow_pos _) this
      · have h0 : (e - ((N.log2 : Int) - 52)).toNat = 0 := by omega
        rw [h0, Nat.shiftLeft_zero]
        generalize hd : (((N.log2 : Int) - 52) - e).toNat = d
        have hdl : d ≤ m.log2 + 2 := by omega
        have hdiv : 2 ^ d ∣ m := by
          unfold MagIs at h
          by_cases he : e < 0
          · have h1 : e.toNat = 0 := by omega
            rw [h1, Nat.pow_zero, Nat.mul_one] at h
            by_cases h53 : N.log2 = 53
            · -- N = 2^53
              have hge := (Nat.log2_eq_iff hz).mp h53
              have hN' : N = 2 ^ 53 := by omega
              rw [h, hN', ← Nat.pow_add]
              exact Nat.pow_dvd_pow 2 (by omega)
            · rw [h]
              exact Nat.dvd_trans (Nat.pow_dvd_pow 2 (by omega)) (Nat.dvd_mul_left _ _)
          · have he0 : e = 0 := by omega
            subst he0
            have h53 : N.log2 = 53 := by omega
            have hge := (Nat.log2_eq_iff hz).mp h53
            have hN' : N = 2 ^ 53 := by omega
            simp at h
            rw [h, hN']
            exact Nat.pow_dvd_pow 2 (by omega)
        rw [cut_exact _ _ d hdl hdiv]
        obtain ⟨q, hq⟩ := hdiv
        rw [hq, Nat.mul_div_cancel_left _ (Nat.two_pow_pos _)]
        unfold MagIs at h ⊢
        rw [hq] at h
        have hp : 2 ^ d * 2 ^ e.toNat * 2 ^ (-((N.log2 : Int) - 52)).toNat = 2 ^ ((N.log2 : Int) - 52).toNat * 2 ^ (-e).toNat := by
          rw [← Nat.pow_add, ← Nat.pow_add, ← Nat.pow_add]; congr 1; omega
        have : q * 2 ^ ((N.log2 : Int) - 52).toNat * 2 ^ (-e).toNat = N * 2 ^ (-((N.log2 : Int) - 52)).toNat * 2 ^ (-e).toNat := by
          calc q * 2 ^ ((N.log2 : Int) - 52).toNat * 2 ^ (-e).toNat
              = q * (2 ^ d * 2 ^ e.toNat * 2 ^ (-((N.log2 : Int) - 52)).toNat) := by rw [hp, Nat.mul_assoc]
            _ = 2 ^ d * q * 2 ^ e.toNat * 2 ^ (-((N.log2 : Int) - 52)).toNat := by
                rw [Nat.mul_comm (2 ^ d) q]; simp only [Nat.mul_assoc]
            _ = N * 2 ^ (-e).toNat * 2 ^ (-((N.log2 : Int) - 52)).toNat := by rw [h]
            _ = N * 2 ^ (-((N.log2 : Int) - 52)).toNat * 2 ^ (-e).toNat := by ac_rfl
        exact Nat.eq_of_mul_eq_mul_right (Nat.two_pow_pos _) this
    obtain ⟨kept, hk, hmag⟩ := key
    have hkl := hmag.log hz
    have hkept : kept ≠ 0 := fun x => hz (hmag.zero_iff.mp x)
    have hklog : kept.log2 = 52 := by omega
    have hkb := (Nat.log2_eq_iff hkept).mp hklog
    refine ⟨kept, (N.log2 : Int) - 52, ?_, hmag⟩
    have hb : double.binade = 4503599627370496 := rfl
    have hi : double.infRung = 9218868437227405312 := rfl
    have hl : double.leastPlace = -1074 := rfl
    have hf : (double.fractionBits : Int) = 52 := rfl
    have hw : double.signWeight = 9223372036854775808 := rfl
    have hnear : double.nearest neg m e = double.word neg (((N.log2 : Int) - 52 + 1074).toNat * 4503599627370496 + kept) := by
      unfold Format.nearest
      rw [if_neg hm]
      simp only [hl, hf, hb, hi]
      rw [show max (e + (m.log2 : Int) - 52) (-1074) = (N.log2 : Int) - 52 from hlast, hk]
      congr 1
      rw [show ((N.log2 : Int) - 52 - -1074) = ((N.log2 : Int) - 52 + 1074) from by omega]
      apply Nat.min_eq_left
      have hle : ((N.log2 : Int) - 52 + 1074).toNat ≤ 1075 := by omega
      generalize ((N.log2 : Int) - 52 + 1074).toNat = L at hle
      omega
    generalize hL : ((N.log2 : Int) - 52 + 1074).toNat = L at hnear
    have hLb : L ≤ 1075 := by omega
    have hL0 : (L : Int) = (N.log2 : Int) - 52 + 1074 := by omega
    rw [hnear]
    generalize hr : L * 4503599627370496 + kept = r
    have hrb : r < 9218868437227405312 := by omega
    have hrl : 4503599627370496 ≤ r := by omega
    have hrd : r / 4503599627370496 = L + 1 := by omega
    have hrm : r % 4503599627370496 = kept - 4503599627370496 := by omega
    unfold Format.read
    simp only [hb, hi, hl, hw]
    have hmod : double.word neg r % 9223372036854775808 = r := by
      unfold Format.word; rw [hw]; cases neg <;> simp <;> omega
    have hsgn : (double.word neg r / 9223372036854775808 % 2 == 1) = neg := by
      unfold Format.word; rw [hw]
      cases neg
      · have : r / 9223372036854775808 = 0 := by omega
        simp [this]
      · have : (9223372036854775808 + r) / 9223372036854775808 = 1 := by omega
        simp [this]
    have g1 : 4503599627370496 + (kept - 4503599627370496) = kept := by omega
    have g2 : (-1074 : Int) + ((L + 1 - 1 : Nat) : Int) = (N.log2 : Int) - 52 := by omega
    rw [hmod, hsgn, if_neg (by omega), if_pos hrb, hrd, hrm, g1, g2]

theorem read_write {d : Datum} {n : Int} (h : IsInt d n) (h1 : -9007199254740992 ≤ n) (h2 : n ≤ 9007199254740992) : IsInt (double.read (double.write d)) n := by
  obtain ⟨s, m, e, N, rfl, hm, hn⟩ := h
  have hN : N ≤ 9007199254740992 := by cases s <;> simp at hn <;> omega
  obtain ⟨m', e', hr, hm'⟩ := read_nearest (neg := s) hm hN
  exact ⟨s, m', e', N, hr, hm', hn⟩

/-- A word of float64 that stands for the integer n. -/
def FInt (b : Nat) (n : Int) : Prop := IsInt (double.read b) n

theorem fint_nearest (n : Int) (h1 : -9007199254740992 ≤ n) (h2 : n ≤ 9007199254740992) : FInt (FloatKind.f64.nearest n) n := by
  refine read_write (d := .number (n < 0) n.natAbs 0) ⟨_, _, _, n.natAbs, rfl, by simp [MagIs], ?_⟩ h1 h2
  by_cases h : n < 0 <;> simp [h] <;> omega

theorem signed_shift {s : Bool} {m : Nat} {k : Nat} : signed s m k = if s then -((m * 2 ^ k : Nat) : Int) else ((m * 2 ^ k : Nat) : Int) := by
  unfold signed; rw [Nat.shiftLeft_eq]

/-- What a number's cells sum to, over one base. -/
theorem sum_int {x y : Datum} {a b : Int} (hx : IsInt x a) (hy : IsInt y b) : ∃ z, x.sum y = some z ∧ IsInt z (a + b) := by
  obtain ⟨s, m, i, M, rfl, hm, ha⟩ := hx
  obtain ⟨t, n, j, N, rfl, hn, hb⟩ := hy
  refine ⟨_, rfl, ?_⟩
  -- base: the lesser place
  generalize hbase : min i j = base
  have scale : ∀ {s : Bool} {m : Nat} {i : Int} {M : Nat} {a : Int}, MagIs m i M → (a = if s then -(M : Int) else M) → base ≤ i →
      signed s m (i - base).toNat * (2 ^ base.toNat : Nat) = a * (2 ^ (-base).toNat : Nat) := by
    intro s m i M a hm ha hbi
    have hk : m * 2 ^ (i - base).toNat * 2 ^ base.toNat = M * 2 ^ (-base).toNat := by
      unfold MagIs at hm
      have hp : 2 ^ (i - base).toNat * 2 ^ base.toNat * 2 ^ (-i).toNat = 2 ^ i.toNat * 2 ^ (-base).toNat := by
        rw [← Nat.pow_add, ← Nat.pow_add, ← Nat.pow_add]; congr 1; omega
      apply Nat.eq_of_mul_eq_mul_right (Nat.two_pow_pos (-i).toNat)
      calc m * 2 ^ (i - base).toNat * 2 ^ base.toNat * 2 ^ (-i).toNat
          = m * (2 ^ (i - base).toNat * 2 ^ base.toNat * 2 ^ (-i).toNat) := by simp only [Nat.mul_assoc]
        _ = m * 2 ^ i.toNat * 2 ^ (-base).toNat := by rw [hp, Nat.mul_assoc]
        _ = M * 2 ^ (-i).toNat * 2 ^ (-base).toNat := by rw [hm]
        _ = M * 2 ^ (-base).toNat * 2 ^ (-i).toNat := by ac_rfl
    rw [signed_shift, ha]
    have hk' : ((m * 2 ^ (i - base).toNat : Nat) : Int) * (2 ^ base.toNat : Nat) = (M : Int) * (2 ^ (-base).toNat : Nat) := by
      rw [← Int.natCast_mul, ← Int.natCast_mul, hk]
    cases s
    · simpa using hk'
    · simp only [if_true]
      rw [Int.neg_mul, Int.neg_mul, hk']
  have hs1 := scale hm ha (by omega)
  have hs2 := scale hn hb (by omega)
  generalize hp : signed s m (i - base).toNat = p at *
  generalize hq : signed t n (j - base).toNat = q at *
  have hsum : (p + q) * (2 ^ base.toNat : Nat) = (a + b) * (2 ^ (-base).toNat : Nat) := by
    rw [Int.add_mul, Int.add_mul, hs1, hs2]
  have hpos1 : (0 : Int) < (2 ^ base.toNat : Nat) := by exact_mod_cast Nat.two_pow_pos _
  have hpos2 : (0 : Int) < (2 ^ (-base).toNat : Nat) := by exact_mod_cast Nat.two_pow_pos _
  have habs : (p + q).natAbs * 2 ^ base.toNat = (a + b).natAbs * 2 ^ (-base).toNat := by
    have := congrArg Int.natAbs hsum
    rwa [Int.natAbs_mul, Int.natAbs_mul, Int.natAbs_natCast, Int.natAbs_natCast] at this
  have hsg0 : p + q = 0 → a + b = 0 := by
    intro h0
    rw [h0, Int.zero_mul] at hsum
    exact (Int.mul_eq_zero.mp hsum.symm).resolve_right (by omega)
  have hsgneg : p + q < 0 → a + b < 0 := by
    intro h0
    by_cases h : a + b < 0
    · exact h
    · exfalso
      have h1 : (p + q) * (2 ^ base.toNat : Nat) < 0 := Int.mul_neg_of_neg_of_pos h0 hpos1
      have h2 : 0 ≤ (a + b) * (2 ^ (-base).toNat : Nat) := Int.mul_nonneg (by omega) (by omega)
      omega
  have hsgpos : ¬ p + q < 0 → ¬ a + b < 0 := by
    intro h0 h
    have h1 : (a + b) * (2 ^ (-base).toNat : Nat) < 0 := Int.mul_neg_of_neg_of_pos h hpos2
    have h2 : 0 ≤ (p + q) * (2 ^ base.toNat : Nat) := Int.mul_nonneg (by omega) (by omega)
    omega
  refine ⟨_, _, _, (a + b).natAbs, rfl, ?_, ?_⟩
  · exact habs
  · by_cases h0 : p + q = 0
    · have := hsg0 h0
      rw [if_pos h0, this]
      split <;> simp
    · rw [if_neg h0]
      by_cases h1 : p + q < 0
      · have := hsgneg h1
        simp [h1]; omega
      · have := hsgpos h1
        simp [h1]; omega

theorem opposite_int {x : Datum} {a : Int} (hx : IsInt x a) : IsInt x.opposite (-a) := by
  obtain ⟨s, m, i, M, rfl, hm, ha⟩ := hx
  refine ⟨!s, m, i, M, rfl, hm, ?_⟩
  rw [ha]; cases s <;> simp

theorem product_int {x y : Datum} {a b : Int} (hx : IsInt x a) (hy : IsInt y b) : ∃ z, x.product y = some z ∧ IsInt z (a * b) := by
  obtain ⟨s, m, i, M, rfl, hm, ha⟩ := hx
  obtain ⟨t, n, j, N, rfl, hn, hb⟩ := hy
  refine ⟨_, rfl, s ^^ t, m * n, i + j, M * N, rfl, ?_, ?_⟩
  · unfold MagIs at *
    have hp : 2 ^ (i + j).toNat * (2 ^ (-i).toNat * 2 ^ (-j).toNat) = 2 ^ (-(i + j)).toNat * (2 ^ i.toNat * 2 ^ j.toNat) := by
      rw [← Nat.pow_add, ← Nat.pow_add, ← Nat.pow_add, ← Nat.pow_add]; congr 1; omega
    apply Nat.eq_of_mul_eq_mul_right (m := 2 ^ i.toNat * 2 ^ j.toNat) (Nat.mul_pos (Nat.two_pow_pos _) (Nat.two_pow_pos _))
    calc m * n * 2 ^ (i + j).toNat * (2 ^ i.toNat * 2 ^ j.toNat)
        = (m * 2 ^ i.toNat) * (n * 2 ^ j.toNat) * 2 ^ (i + j).toNat := by ac_rfl
      _ = (M * 2 ^ (-i).toNat) * (N * 2 ^ (-j).toNat) * 2 ^ (i + j).toNat := by rw [hm, hn]
      _ = M * N * (2 ^ (i + j).toNat * (2 ^ (-i).toNat * 2 ^ (-j).toNat)) := by ac_rfl
      _ = M * N * (2 ^ (-(i + j)).toNat * (2 ^ i.toNat * 2 ^ j.toNat)) := by rw [hp]
      _ = M * N * 2 ^ (-(i + j)).toNat * (2 ^ i.toNat * 2 ^ j.toNat) := by ac_rfl
  · rw [ha, hb]
    cases s <;> cases t <;> simp [Int.neg_mul, Int.mul_neg]

theorem add_int {x y : Nat} {a b : Int} (hx : FInt x a) (hy : FInt y b) (h1 : -9007199254740992 ≤ a + b) (h2 : a + b ≤ 9007199254740992) :
    ∃ z, double.add x y = some z ∧ FInt z (a + b) := by
  obtain ⟨z, hz, hi⟩ := sum_int hx hy
  refine ⟨double.write z, by unfold Format.add; rw [hz]; rfl, read_write hi h1 h2⟩

theorem sub_int {x y : Nat} {a b : Int} (hx : FInt x a) (hy : FInt y b) (h1 : -9007199254740992 ≤ a - b) (h2 : a - b ≤ 9007199254740992) :
    ∃ z, double.sub x y = some z ∧ FInt z (a - b) := by
  obtain ⟨z, hz, hi⟩ := sum_int hx (opposite_int hy)
  rw [← Int.sub_eq_add_neg] at hi
  refine ⟨double.write z, by unfold Format.sub; rw [hz]; rfl, read_write hi h1 h2⟩

theorem mul_int {x y : Nat} {a b : Int} (hx : FInt x a) (hy : FInt y b) (h1 : -9007199254740992 ≤ a * b) (h2 : a * b ≤ 9007199254740992) :
    ∃ z, double.mul x y = some z ∧ FInt z (a * b) := by
  obtain ⟨z, hz, hi⟩ := product_int hx hy
  refine ⟨double.write z, by unfold Format.mul; rw [hz]; rfl, read_write hi h1 h2⟩

theorem toInt_int {x : Nat} {a : Int} (hx : FInt x a) : (double.read x).toInt .zero = some a := by
  obtain ⟨s, m, i, M, hr, hm, ha⟩ := hx
  rw [hr]
  unfold Datum.toInt Datum.integral
  simp only [Option.some.injEq]
  have hc : Toward.zero.cut s (m <<< i.toNat) (-i).toNat = M := by
    unfold Toward.cut
    simp only [Bool.toNat_false, Nat.add_zero]
    rw [Nat.shiftLeft_eq]
    unfold MagIs at hm
    rw [hm]
    by_cases hz : M = 0
    · subst hz; simp
    · have hl := log2_mul_pow M (-i).toNat hz
      rw [hl, Nat.min_eq_left (by omega), Nat.shiftLeft_eq, Nat.one_mul]
      exact Nat.mul_div_cancel _ (Nat.two_pow_pos _)
  rw [hc, signed_shift, ha]
  simp

end Go.BX.Flt
