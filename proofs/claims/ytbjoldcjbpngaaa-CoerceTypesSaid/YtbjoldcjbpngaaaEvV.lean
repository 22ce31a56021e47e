/-
  Plain facts of the evaluator's numbers; calls by their contracts.
-/
import Derived.Test.YtbjoldcjbpngaaaEvA
set_option linter.unusedVariables false
set_option linter.unusedSimpArgs false
namespace Go.Ev
open Go

theorem kw_u64 (n : Int) : IntKind.u64.wrap n = n % 18446744073709551616 := by simp [IntKind.wrap, IntKind.bits, IntKind.signed]
theorem kw_u8 (n : Int) : IntKind.u8.wrap n = n % 256 := by simp [IntKind.wrap, IntKind.bits, IntKind.signed]
theorem kw_i64 (n : Int) : IntKind.i64.wrap n = (n + 9223372036854775808) % 18446744073709551616 - 9223372036854775808 := by
  simp [IntKind.wrap, IntKind.bits, IntKind.signed]; omega
theorem kw_i64_id {n : Int} (h0 : -9223372036854775808 ≤ n) (h1 : n < 9223372036854775808) : IntKind.i64.wrap n = n := by rw [kw_i64]; omega
theorem kw_u64_id {n : Int} (h0 : 0 ≤ n) (h1 : n < 18446744073709551616) : IntKind.u64.wrap n = n := by rw [kw_u64]; omega

theorem u64_ofInt {w : Int} (h0 : 0 ≤ w) (h1 : w < 18446744073709551616) : (BitVec.ofInt 64 w).toNat = w.toNat := by
  rw [BitVec.toNat_ofInt]
  congr 1
  omega

theorem and_u64 {w m : Int} (h0 : 0 ≤ w) (h1 : w < 18446744073709551616) (k0 : 0 ≤ m) (k1 : m < 18446744073709551616) : binInt .and .u64 w m = some (.int .u64 ((w.toNat &&& m.toNat : Nat) : Int)) := by
  simp only [binInt, bitsA]
  congr 2
  show IntKind.u64.wrap (((BitVec.ofInt 64 w &&& BitVec.ofInt 64 m).toNat : Nat) : Int) = _
  rw [BitVec.toNat_and, u64_ofInt h0 h1, u64_ofInt k0 k1]
  apply kw_u64_id (by omega)
  have := Nat.and_le_left (n := w.toNat) (m := m.toNat)
  omega

theorem or_u64 {w m : Int} (h0 : 0 ≤ w) (h1 : w < 18446744073709551616) (k0 : 0 ≤ m) (k1 : m < 18446744073709551616) : binInt .or .u64 w m = some (.int .u64 ((w.toNat ||| m.toNat : Nat) : Int)) := by
  simp only [binInt, bitsA]
  congr 2
  show IntKind.u64.wrap (((BitVec.ofInt 64 w ||| BitVec.ofInt 64 m).toNat : Nat) : Int) = _
  rw [BitVec.toNat_or, u64_ofInt h0 h1, u64_ofInt k0 k1]
  apply kw_u64_id (by omega)
  have : w.toNat ||| m.toNat < 2 ^ 64 := Nat.or_lt_two_pow (by omega) (by omega)
  omega

theorem and_mask {w : Int} {m k : Nat} (h0 : 0 ≤ w) (h1 : w < 18446744073709551616) (hm : m + 1 = 2 ^ k) (hk : (m : Int) < 18446744073709551616) : binInt .and .u64 w m = some (.int .u64 (w % ((m : Int) + 1))) := by
  rw [and_u64 h0 h1 (by omega) hk]
  have : m = 2 ^ k - 1 := by omega
  congr 2
  rw [Int.toNat_natCast, this, Nat.and_two_pow_sub_one_eq_mod]
  have h2 : (0 : Nat) < 2 ^ k := Nat.two_pow_pos k
  have e1 : ((2 ^ k - 1 : Nat) : Int) + 1 = ((2 ^ k : Nat) : Int) := by omega
  rw [e1, Int.natCast_emod, Int.toNat_of_nonneg h0]

theorem or_low {a : Int} {k : Nat} {b : Int} (ha : 0 ≤ a) (hb0 : 0 ≤ b) (hb : b < 2 ^ k) (h : a * 2 ^ k + b < 18446744073709551616) : binInt .or .u64 (a * 2 ^ k) b = some (.int .u64 (a * 2 ^ k + b)) := by
  obtain ⟨x, rfl⟩ := Int.eq_ofNat_of_zero_le ha
  obtain ⟨y, rfl⟩ := Int.eq_ofNat_of_zero_le hb0
  have e1 : (x : Int) * 2 ^ k = ((x * 2 ^ k : Nat) : Int) := by simp
  have hp : (0 : Int) ≤ (x : Int) * 2 ^ k := by rw [e1]; omega
  have hy : y < 2 ^ k := by
    have : ((2 ^ k : Nat) : Int) = (2 : Int) ^ k := by simp
    omega
  rw [or_u64 hp (by omega) hb0 (by omega)]
  congr 2
  rw [e1, Int.toNat_natCast, Int.toNat_natCast, Nat.mul_comm, ← Nat.two_pow_add_eq_or_of_lt hy]
  simp

section
variable (k : IntKind) (a b : Int)
theorem bi_add : binInt .add k a b = some (.int k (k.wrap (a + b))) := rfl
theorem bi_sub : binInt .sub k a b = some (.int k (k.wrap (a - b))) := rfl
theorem bi_mul : binInt .mul k a b = some (.int k (k.wrap (a * b))) := rfl
theorem bi_quo : binInt .quo k a b = if b = 0 then none else some (.int k (k.wrap (a.tdiv b))) := rfl
theorem bi_rem : binInt .rem k a b = if b = 0 then none else some (.int k (a.tmod b)) := rfl
theorem bi_eql : binInt .eql k a b = some (.bool (decide (a = b))) := rfl
theorem bi_neq : binInt .neq k a b = some (.bool (!decide (a = b))) := rfl
theorem bi_lss : binInt .lss k a b = some (.bool (decide (a < b))) := rfl
theorem bi_leq : binInt .leq k a b = some (.bool (decide (a ≤ b))) := rfl
theorem bi_gtr : binInt .gtr k a b = some (.bool (decide (b < a))) := rfl
theorem bi_geq : binInt .geq k a b = some (.bool (decide (b ≤ a))) := rfl
end

/-- A contract, where a call stands. -/
theorem callA_of {tab : Nat → Option AFunc} {n m : Nat} {f : FuncId} {vs as : List AVal} {x : Ex} {H : Heap} (hs : shutL H vs = some as) (h : pcall tab n f as = some x) : callA ⟨callF tab n, m⟩ false f vs H = some (x, H) := by
  simp only [callA, Bool.false_eq_true, if_false, hs]
  unfold pcall at h
  rw [h]

/-- A call in the caller's heap, which it leaves as it was. -/
theorem callA_h {tab : Nat → Option AFunc} {n m : Nat} {f : FuncId} {vs : List AVal} {x : Ex} {H : Heap} (hs : shutL H vs = none) (h : callF tab n f vs H = some (x, H)) : callA ⟨callF tab n, m⟩ false f vs H = some (x, H) := by
  simp only [callA, Bool.false_eq_true, if_false, hs, h]
  cases x <;> simp [cutRes, cutH]

/-- .. or leaves more behind. -/
theorem callA_hc {tab : Nat → Option AFunc} {n m : Nat} {f : FuncId} {vs : List AVal} {v : AVal} {H H1 H2 : Heap} (hs : shutL H vs = none) (h : callF tab n f vs H = some (.ok v, H1)) (hl : H.length ≤ H1.length) (hv : lowV H.length v = true) (hH : H1.take H.length = H2) (hlow : lowH H.length H2 = true) :
    callA ⟨callF tab n, m⟩ false f vs H = some (.ok v, H2) := by
  simp only [callA, Bool.false_eq_true, if_false, hs, h, cutRes, cutH]
  split
  · rename_i hle
    rw [← hH, List.take_of_length_le (by omega)]
  · rw [hH, hv, hlow]; rfl

theorem callA_nr {tab : Nat → Option AFunc} {n m : Nat} {f : FuncId} {vs : List AVal} {v : AVal} {H H1 H2 : Heap} (hs : shutL H vs = none) (h : callF tab n f vs H = some (.ok v, H1)) (hc : cutH H.length v H1 = H2) :
    callA ⟨callF tab n, m⟩ false f vs H = some (.ok v, H2) := by
  simp only [callA, Bool.false_eq_true, if_false, hs, h, cutRes, hc]

theorem callA_raw {tab : Nat → Option AFunc} {n m : Nat} {f : FuncId} {vs : List AVal} {v : AVal} {H H1 H2 : Heap} (h : callF tab n f vs H = some (.ok v, H1)) (hc : cutH H.length v H1 = H2) :
    callA ⟨callF tab n, m⟩ true f vs H = some (.ok v, H2) := by
  simp only [callA, if_true, h, cutRes, hc]

theorem pcall_step {tab : Nat → Option AFunc} {n f : Nat} {af : AFunc} {as : List AVal} (h : tab f = some af) : pcall tab (n + 1) f as = pureRes (finish af (evalCode ⟨callF tab n, n⟩ af.body (initEnv 0 as) [])) := by
  simp only [pcall, callF, h]

end Go.Ev
