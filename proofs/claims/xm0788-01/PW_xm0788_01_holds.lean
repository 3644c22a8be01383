import PyProof.Rows.All
import Wide.All
import OpenK.AllK
import Wide.FinOn
import Lean
import PySem.Challenge.RW_xm0788_01
open PySem PySem.W PyProof.Rows
set_option Elab.async false

namespace Mine

theorem sq_mono {a b : Int} (ha : 0 ≤ a) (h : a ≤ b) : a * a ≤ b * b :=
  Int.mul_le_mul h h ha (Int.le_trans ha h)

theorem sq_exists : ∀ n : Nat, ∃ r : Int, 0 ≤ r ∧ r * r ≤ (n : Int) ∧ (n : Int) < (r + 1) * (r + 1)
  | 0 => ⟨0, by decide, by decide, by decide⟩
  | n + 1 => by
    obtain ⟨r, h0, h1, h2⟩ := sq_exists n
    by_cases h : ((n + 1 : Nat) : Int) < (r + 1) * (r + 1)
    · exact ⟨r, h0, by omega, h⟩
    · refine ⟨r + 1, by omega, by omega, ?_⟩
      have e : (r + 1 + 1) * (r + 1 + 1) = (r + 1) * (r + 1) + 2 * r + 3 := by
        simp only [Int.add_mul, Int.mul_add, Int.one_mul, Int.mul_one]; omega
      omega

/-- the greatest whole number whose square is not above n -/
noncomputable def isq (n : Int) : Int := Classical.choose (sq_exists n.toNat)

theorem isq_spec {n : Int} (h : 0 ≤ n) : 0 ≤ isq n ∧ isq n * isq n ≤ n ∧ n < (isq n + 1) * (isq n + 1) := by
  have e : (n.toNat : Int) = n := Int.toNat_of_nonneg h
  have t : 0 ≤ isq n ∧ isq n * isq n ≤ (n.toNat : Int) ∧ (n.toNat : Int) < (isq n + 1) * (isq n + 1) := Classical.choose_spec (sq_exists n.toNat)
  exact ⟨t.1, by omega, by omega⟩

theorem isq_uniq {n r : Int} (h0 : 0 ≤ r) (h1 : r * r ≤ n) (h2 : n < (r + 1) * (r + 1)) : isq n = r := by
  have hn : 0 ≤ n := Int.le_trans (Int.mul_nonneg h0 h0) h1
  obtain ⟨g0, g1, g2⟩ := isq_spec hn
  have a : isq n ≤ r := by
    apply Int.not_lt.mp; intro h
    have := sq_mono (by omega : 0 ≤ r + 1) (by omega : r + 1 ≤ isq n)
    omega
  have b : r ≤ isq n := by
    apply Int.not_lt.mp; intro h
    have := sq_mono (by omega : 0 ≤ isq n + 1) (by omega : isq n + 1 ≤ r)
    omega
  omega

theorem isq_zero : isq 0 = 0 := isq_uniq (by decide) (by decide) (by decide)
theorem isq_31 : isq 31 = 5 := isq_uniq (by decide) (by decide) (by decide)

/-- Newton's step from above stays above: AM-GM -/
theorem newton_above {n f : Int} (hn : 0 ≤ n) (hf : 0 < f) : isq n ≤ (f + n.fdiv f).fdiv 2 := by
  obtain ⟨g0, g1, g2⟩ := isq_spec hn
  generalize isq n = r at *
  rw [Int.fdiv_eq_ediv_of_nonneg _ (by omega : 0 ≤ f), Int.fdiv_eq_ediv_of_nonneg _ (by decide)]
  -- it is enough: 2 r ≤ f + n / f
  have key : 2 * r - f ≤ n / f := by
    rw [Int.le_ediv_iff_mul_le hf]
    have e : (2 * r - f) * f = r * r - (r - f) * (r - f) := by
      simp only [Int.sub_mul, Int.mul_sub, Int.mul_assoc, Int.mul_comm f r]; omega
    have p : 0 ≤ (r - f) * (r - f) := by
      rcases Int.le_total 0 (r - f) with h | h
      · exact Int.mul_nonneg h h
      · exact Int.mul_nonneg_of_nonpos_of_nonpos h h
    omega
  omega

/-- where Newton's step does not lower it, it is the root -/
theorem newton_end {n f : Int} (hn : 0 ≤ n) (hf : 0 < f) (ha : isq n ≤ f) (h : f ≤ (f + n.fdiv f).fdiv 2) : f = isq n := by
  rw [Int.fdiv_eq_ediv_of_nonneg _ (by omega : 0 ≤ f), Int.fdiv_eq_ediv_of_nonneg _ (by decide)] at h
  have h1 : f ≤ n / f := by omega
  have h2 : f * f ≤ n := (Int.le_ediv_iff_mul_le hf).mp h1
  obtain ⟨g0, g1, g2⟩ := isq_spec hn
  apply Int.le_antisymm _ ha
  apply Int.not_lt.mp; intro hl
  have := sq_mono (by omega : 0 ≤ isq n + 1) (by omega : isq n + 1 ≤ f)
  omega

end Mine

namespace Mine
section
variable {prog : Program} {w : World} {A : Around} {E : Value → Shared → Prop} {s : Shared} {t u : Tok} {Q : Value → Shared → Prop}

theorem root_start {n : Int} (h0 : 0 ≤ n) (h1 : n < 10 ^ 82) : ∃ k : Nat, k ≤ 200 ∧ (((Builtin.Int.intBits n : Nat) : Int) + 1).fdiv 2 = (k : Int) ∧ isq n ≤ 2 ^ k ∧ (2 : Int) ^ k < 10 ^ 42 := by
  have hb : Builtin.Int.intBits n ≤ 273 := by
    apply intBits_le
    have e : n.natAbs < 10 ^ 82 := by omega
    exact Nat.lt_of_lt_of_le e (by decide +kernel)
  have hn := natAbs_lt_pow_bits n
  generalize hbe : Builtin.Int.intBits n = b at *
  refine ⟨(b + 1) / 2, by omega, ?_, ?_, ?_⟩
  · rw [Int.fdiv_eq_ediv_of_nonneg _ (by decide)]; omega
  · have h2 : b ≤ (b + 1) / 2 + (b + 1) / 2 := by omega
    have h3 : n.natAbs < 2 ^ ((b + 1) / 2) * 2 ^ ((b + 1) / 2) := by
      rw [← Nat.pow_add]
      exact Nat.lt_of_lt_of_le hn (Nat.pow_le_pow_right (by decide) h2)
    have h4 : n < (2 : Int) ^ ((b + 1) / 2) * (2 : Int) ^ ((b + 1) / 2) := by
      have c : ((2 ^ ((b + 1) / 2) * 2 ^ ((b + 1) / 2) : Nat) : Int) = (2 : Int) ^ ((b + 1) / 2) * (2 : Int) ^ ((b + 1) / 2) := by
        simp [Int.natCast_mul, Int.natCast_pow]
      omega
    have h5 : (0 : Int) < (2 : Int) ^ ((b + 1) / 2) := Int.pow_pos (by decide)
    generalize (2 : Int) ^ ((b + 1) / 2) = f at *
    obtain ⟨g0, g1, g2⟩ := isq_spec h0
    apply Int.not_lt.mp; intro h
    have := sq_mono (by omega : 0 ≤ f) (by omega : f ≤ isq n)
    omega
  · have h6 : (b + 1) / 2 ≤ 137 := by omega
    have h7 : 2 ^ ((b + 1) / 2) ≤ 2 ^ 137 := Nat.pow_le_pow_right (by decide) h6
    have c : ((2 ^ ((b + 1) / 2) : Nat) : Int) = (2 : Int) ^ ((b + 1) / 2) := by simp [Int.natCast_pow]
    have h8 : (2 : Nat) ^ 137 < 10 ^ 42 := by decide +kernel
    omega

theorem rt_shl {n : Int} (h0 : 0 ≤ n) (h1 : n < 10 ^ 82) (hq : ∀ f : Int, isq n ≤ f → 0 < f → f < 10 ^ 42 → Q (.int f s.toks) { s with toks := s.toks + 1 }) :
    wpAny (model prog w) A (binaryOp .LShift (.int 1 t) (.int ((((Builtin.Int.intBits n : Nat) : Int) + 1).fdiv 2) u)) Q E s := by
  obtain ⟨k, hk, e, a, b⟩ := root_start h0 h1
  rw [e]
  refine lshift_int_small (by omega) (by omega) (by decide) ?_
  rw [Int.one_mul, Int.toNat_natCast]
  exact hq _ a (Int.pow_pos (by decide)) b

theorem rt_div {a b : Int} (h0 : 0 < b) (h1 : b < 10 ^ 42) (h : Q (.int (a.fdiv b) s.toks) { s with toks := s.toks + 1 }) :
    wpAny (model prog w) A (binaryOp .FloorDiv (.int a t) (.int b u)) Q E s := by
  refine floordiv_int (by omega) h (Or.inl (PyProof.noPylong_of_log2 ?_))
  rw [Nat.log2_lt (by omega)]
  have e : b.natAbs < 10 ^ 42 := by omega
  have e2 : (10 : Nat) ^ 42 ≤ 2 ^ 140 := by decide +kernel
  have e3 : ∀ k : Nat, 140 ≤ k → b.natAbs < 2 ^ k := fun k h => Nat.lt_of_lt_of_le (Nat.lt_of_lt_of_le e e2) (Nat.pow_le_pow_right (by decide) h)
  exact e3 9000 (by decide)
end

/-- the loop's word -/
def Wrd (n f b : Int) : Prop := 0 < n ∧ 0 < b ∧ isq n ≤ f ∧ 0 < f ∧ f < 10 ^ 42 ∧ isq n ≤ b ∧ b = (f + n.fdiv f).fdiv 2

theorem isq_pos {n : Int} (h : 0 < n) : 0 < isq n := by
  obtain ⟨g0, g1, g2⟩ := isq_spec (Int.le_of_lt h)
  apply Int.not_le.mp; intro hc
  have e : isq n = 0 := by omega
  rw [e] at g2
  omega

theorem wrd_make {n f : Int} (hn : 0 < n) (h0 : 0 < f) (ha : isq n ≤ f) (h1 : f < 10 ^ 42) : Wrd n f ((f + n.fdiv f).fdiv 2) := by
  have a := newton_above (Int.le_of_lt hn) h0
  have p := isq_pos hn
  exact ⟨hn, by omega, ha, h0, h1, a, rfl⟩

theorem wrd_next {n f b : Int} (h : Wrd n f b) (hl : b < f) : Wrd n b ((b + n.fdiv b).fdiv 2) := by
  obtain ⟨a1, a2, a3, a4, a5, a6, a7⟩ := h
  exact wrd_make a1 a2 a6 (by omega)

theorem wrd_end {n f b : Int} (h : Wrd n f b) (hl : ¬ b < f) : f = isq n := by
  obtain ⟨a1, a2, a3, a4, a5, a6, a7⟩ := h
  exact newton_end (Int.le_of_lt a1) a4 a3 (by omega)
end Mine
namespace Mine
theorem root_zero {n : Int} (h : n = 0) : 0 = isq n := by subst h; exact isq_zero.symm
theorem wrd_meas {n f b : Int} (h : Wrd n f b) (hl : b < f) : b.toNat < f.toNat := by
  obtain ⟨a1, a2, a3, a4, a5, a6, a7⟩ := h
  omega
end Mine

namespace Mine

/-- stands in the context where a call is walked for its word: the join does not fire within it -/
def Inner : Prop := ∀ k : Nat, k * 1 = k
theorem inner : Inner := Nat.mul_one

theorem pool_join {M : Model} {A : Around} {c : Sem Value} {E Q : Value → Shared → Prop} {h₀ : Heap} {L : Addr} {m : PySem.Str → Option Value} {s : Shared}
    (F : Fr h₀ L s.heap m)
    (h1 : ∀ Q' : Value → Shared → Prop, Inner → (∀ (l : Addr) (p q : Int) (t1 t2 : Tok) (h' : Heap) (tk' : Nat), 0 ≤ p → 0 ≤ q → q < 2147483647 → Fr h₀ L h' m → News h₀ L h' [(l, listOf #[.int p t1, .int q t2] 0)] → Q' (.ref l) { s with heap := h', toks := tk' }) → wpAny M A c Q' E s)
    (h2 : ∀ (l : Addr) (p q : Int) (t1 t2 : Tok) (h' : Heap) (tk' : Nat), 0 ≤ p → 0 ≤ q → q < 2147483647 → Fr h₀ L h' m → News h₀ L h' [(l, listOf #[.int p t1, .int q t2] 0)] → Q (.ref l) { s with heap := h', toks := tk' }) :
    wpAny M A c Q E s := let _ := F; h1 Q inner h2

theorem take_join {M : Model} {A : Around} {E Q : Value → Shared → Prop} {h₀ : Heap} {L : Addr} {m : PySem.Str → Option Value} {s : Shared} {news : List (Addr × Obj)} {l : Addr} {p q : Int} {t1 t2 : Tok} {k : Nat} {top : Int} {f : Addr} {tt : Tok}
    (F : Fr h₀ L s.heap m) (N : News h₀ L s.heap news) (hin : (l, listOf #[.int p t1, .int q t2] k) ∈ news) (ht : top ≤ 1048576)
    (h1 : ∀ Q' : Value → Shared → Prop, Inner → News h₀ L s.heap [(l, listOf #[.int p t1, .int q t2] k)] → (∀ (x p' q' : Int) (t t1' t2' : Tok) (h' : Heap) (tk' k' : Nat), 0 ≤ x → x < top → 0 ≤ p' → 0 ≤ q' → q' < 2147483647 → Fr h₀ L h' m → News h₀ L h' [(l, listOf #[.int p' t1', .int q' t2'] k')] → Q' (.int x t) { s with heap := h', toks := tk' }) → wpAny M A (call (.ref f) [.ref l, .int top tt]) Q' E s)
    (h2 : ∀ (x p' q' : Int) (t t1' t2' : Tok) (h' : Heap) (tk' k' : Nat), 0 ≤ x → x < top → x < 1048576 → 0 ≤ p' → 0 ≤ q' → q' < 2147483647 → Fr h₀ L h' m → News h₀ L h' [(l, listOf #[.int p' t1', .int q' t2'] k')] → Q (.int x t) { s with heap := h', toks := tk' }) :
    wpAny M A (call (.ref f) [.ref l, .int top tt]) Q E s := let _ := F; h1 Q inner (fun z hz => by rw [List.mem_singleton] at hz; subst hz; exact N _ hin) fun x p' q' t t1' t2' h' tk' k' a b => h2 x p' q' t t1' t2' h' tk' k' a b (Int.lt_of_lt_of_le b ht)

section
variable {prog : Program} {w : World} {A : Around} {E : Value → Shared → Prop} {s : Shared} {t u : Tok} {Q : Value → Shared → Prop}

theorem pow10_rule {n : Int} (h0 : 0 ≤ n) (h1 : n < 41) (hq : ∀ y : Int, 1 ≤ y → y ≤ 10 ^ 40 → Q (.int y s.toks) { s with toks := s.toks + 1 }) :
    wpAny (model prog w) A (binaryOp .Pow (.int 10 t) (.int n u)) Q E s := by
  refine pow_int_small h0 (by omega) (by decide) (hq _ ?_ ?_)
  · have : (0 : Int) < 10 ^ n.toNat := Int.pow_pos (by decide)
    omega
  · have h : (10 : Nat) ^ n.toNat ≤ 10 ^ 40 := Nat.pow_le_pow_right (by decide) (by omega)
    have c : ((10 ^ n.toNat : Nat) : Int) = (10 : Int) ^ n.toNat := by simp [Int.natCast_pow]
    omega

theorem pow2_rule {n : Int} (h0 : 0 ≤ n) (h1 : n < 70) (hq : ∀ y : Int, 1 ≤ y → y ≤ 2 ^ 69 → Q (.int y s.toks) { s with toks := s.toks + 1 }) :
    wpAny (model prog w) A (binaryOp .Pow (.int 2 t) (.int n u)) Q E s := by
  refine pow_int_small h0 (by omega) (by decide) (hq _ ?_ ?_)
  · have : (0 : Int) < 2 ^ n.toNat := Int.pow_pos (by decide)
    omega
  · have h : (2 : Nat) ^ n.toNat ≤ 2 ^ 69 := Nat.pow_le_pow_right (by decide) (by omega)
    have c : ((2 ^ n.toNat : Nat) : Int) = (2 : Int) ^ n.toNat := by simp [Int.natCast_pow]
    omega

/-- a remainder by a number above nought: a letter in its range -/
theorem mod_rule {a b : Int} (hb : 0 < b) (hq : ∀ r : Int, 0 ≤ r → r < b → Q (.int r s.toks) { s with toks := s.toks + 1 }) :
    wpAny (model prog w) A (binaryOp .Mod (.int a t) (.int b u)) Q E s :=
  mod_int' (by omega) (hq _ (Int.fmod_nonneg_of_pos _ hb) (Int.fmod_lt_of_pos _ hb))

theorem bits_ok {a b : Int} (ha : 0 ≤ a) (hb : 0 ≤ b) (ha1 : a ≤ 10 ^ 42) (hb1 : b ≤ 10 ^ 42) : IntMulOk a b := by
  have e2 : (10 : Nat) ^ 42 < 2 ^ 140 := by decide +kernel
  have ka : Builtin.Int.intBits a ≤ 140 := intBits_le (Nat.lt_of_le_of_lt (by omega : a.natAbs ≤ 10 ^ 42) e2)
  have kb : Builtin.Int.intBits b ≤ 140 := intBits_le (Nat.lt_of_le_of_lt (by omega : b.natAbs ≤ 10 ^ 42) e2)
  exact mulOk_of_bits ka kb (by decide)

theorem mul_le_mul_of {a b x y : Int} (ha : 0 ≤ a) (hb : 0 ≤ b) (hx : a ≤ x) (hy : b ≤ y) : a * b ≤ x * y :=
  Int.mul_le_mul hx hy hb (Int.le_trans ha hx)

/-- a product of two bounded ints -/
theorem mul_rule {a b : Int} (ha : 0 ≤ a) (hb : 0 ≤ b) (ha1 : a ≤ 10 ^ 42) (hb1 : b ≤ 10 ^ 42)
    (hq : 0 ≤ a * b → (0 < a → 0 < b → 0 < a * b) → (a ≤ 2 * 10 ^ 40 → b ≤ 2 * 10 ^ 40 → a * b ≤ 4 * 10 ^ 80) → (a ≤ 9 → b ≤ 2 ^ 69 → a * b ≤ 10 ^ 40) → Q (.int (a * b) s.toks) { s with toks := s.toks + 1 }) :
    wpAny (model prog w) A (binaryOp .Mult (.int a t) (.int b u)) Q E s := by
  refine mul_int (hq (Int.mul_nonneg ha hb) Int.mul_pos ?_ ?_) (bits_ok ha hb ha1 hb1)
  · intro h1 h2
    have h3 := mul_le_mul_of ha hb h1 h2
    have e : (2 * 10 ^ 40 : Int) * (2 * 10 ^ 40) = 4 * 10 ^ 80 := by decide +kernel
    omega
  · intro h1 h2
    have h3 := mul_le_mul_of ha hb h1 h2
    have e : (9 : Int) * 2 ^ 69 ≤ 10 ^ 40 := by decide +kernel
    omega

theorem isq_sq {a : Int} (h : 0 ≤ a) : isq (a * a) = a := by
  refine isq_uniq h (Int.le_refl _) ?_
  have e : (a + 1) * (a + 1) = a * a + 2 * a + 1 := by simp only [Int.add_mul, Int.mul_add, Int.one_mul, Int.mul_one]; omega
  omega
theorem isq_sq1 {a : Int} (h : 0 ≤ a) : isq (a * a + 1) = a + (if (a * a == 0) = true then 1 else 0) := by
  have e : (a + 1) * (a + 1) = a * a + 2 * a + 1 := by simp only [Int.add_mul, Int.mul_add, Int.one_mul, Int.mul_one]; omega
  split
  · rename_i h0
    have h0 := eq_of_beq h0
    have e0 : a = 0 := by rcases Int.mul_eq_zero.mp h0 with h | h <;> exact h
    subst e0
    exact isq_uniq (by decide) (by decide) (by decide)
  · rename_i h0
    have h0 : ¬ a * a = 0 := fun e => h0 (by rw [e]; rfl)
    have p : 0 < a := by
      rcases Int.lt_or_eq_of_le h with h | h
      · exact h
      · subst h; simp at h0
    rw [Int.add_zero]
    exact isq_uniq h (by omega) (by omega)
theorem isq_sq2 {a : Int} (h : 0 ≤ a) : isq (a * a + 2 * a) = a := by
  have e : (a + 1) * (a + 1) = a * a + 2 * a + 1 := by simp only [Int.add_mul, Int.mul_add, Int.one_mul, Int.mul_one]; omega
  exact isq_uniq h (by omega) (by omega)
theorem isq_sq3 {a : Int} (h : 0 < a) : isq (a * a - 1) = a - 1 := by
  have e : (a - 1) * (a - 1) = a * a - 2 * a + 1 := by simp only [Int.sub_mul, Int.mul_sub, Int.one_mul, Int.mul_one]; omega
  have e2 : (a - 1 + 1) * (a - 1 + 1) = a * a := by rw [Int.sub_add_cancel]
  exact isq_uniq (by omega) (by omega) (by omega)

theorem nd_self {α : Type} [DecidableEq α] (l : α) : (!decide (l = l)) = false := by simp
theorem ite_of_ff {c : Bool} {P R : Prop} (e : c = false) (h : R) : if c = true then P else R := by rw [e]; exact h
theorem bne_self (x : Int) : (x != x) = false := by simp
/-- what the root says about a square and its neighbours -/
def Sq (c a : Int) : Prop :=
  isq c = a ∧ isq (c + 1) = a + (if (c == 0) = true then 1 else 0) ∧ isq (c + 2 * a) = a ∧ (0 < a → isq (c - 1) = a - 1)
theorem Sq.at0 {c a : Int} (h : Sq c a) : isq c = a := h.1
theorem Sq.at1 {c a : Int} (h : Sq c a) : isq (c + 1) = a + (if (c == 0) = true then 1 else 0) := h.2.1
theorem Sq.at2 {c a : Int} (h : Sq c a) : isq (c + 2 * a) = a := h.2.2.1
theorem Sq.at3 {c a : Int} (h : Sq c a) (p : 0 < a) : isq (c - 1) = a - 1 := h.2.2.2 p
theorem sq_of {a : Int} (h : 0 ≤ a) : Sq (a * a) a := ⟨isq_sq h, isq_sq1 h, isq_sq2 h, isq_sq3⟩

/-- a square: a letter, and what the root says about it and its neighbours -/
theorem sq_rule {a : Int} (ha : 0 ≤ a) (ha1 : a ≤ 2 * 10 ^ 40)
    (hq : ∀ c : Int, 0 ≤ c → c ≤ 4 * 10 ^ 80 → (0 < a → 0 < c) → c = a * a → Sq c a → Q (.int c s.toks) { s with toks := s.toks + 1 }) :
    wpAny (model prog w) A (binaryOp .Mult (.int a t) (.int a u)) Q E s := by
  refine mul_rule ha ha (by omega) (by omega) fun h1 h2 h3 _ => ?_
  exact hq (a * a) h1 (h3 ha1 ha1) (fun h => h2 h h) rfl (sq_of ha)

theorem root_val {M : Model} {A : Around} {E Q : Value → Shared → Prop} {s : Shared} {f : Addr} {n r : Int} {tt : Tok} (e : isq n = r)
    (h : wpAny M A (call (.ref f) [.int n tt]) (fun v s' => ∃ t, v = .int (isq n) t ∧ Q (.int r t) s') E s) : wpAny M A (call (.ref f) [.int n tt]) Q E s := by
  refine wpAny_mono h (fun v s' hq => ?_) fun _ _ x => x
  obtain ⟨t, rfl, hq⟩ := hq
  rw [e]
  exact hq

/-- the last root: a letter and its word -/
theorem isq_fin {n r : Int} (e : isq n = r) (h0 : 0 ≤ n) (h1 : n ≤ 4 * 10 ^ 80 + 1000) : 0 ≤ r ∧ r + 1 ≤ 2 * 10 ^ 40 + 1 ∧ r * r ≤ n ∧ n < (r + 1) * (r + 1) := by
  subst e
  obtain ⟨g0, g1, g2⟩ := isq_spec h0
  refine ⟨g0, ?_, g1, g2⟩
  apply Int.not_lt.mp; intro h
  have := sq_mono (by decide : (0 : Int) ≤ 2 * 10 ^ 40 + 1) (by omega : 2 * 10 ^ 40 + 1 ≤ isq n)
  have e : (2 * 10 ^ 40 + 1 : Int) * (2 * 10 ^ 40 + 1) > 4 * 10 ^ 80 + 1000 := by decide +kernel
  omega

theorem root_gen {M : Model} {A : Around} {E Q : Value → Shared → Prop} {s : Shared} {f : Addr} {n : Int} {tt : Tok} (h0 : 0 ≤ n) (h1 : n ≤ 4 * 10 ^ 80 + 1000)
    (h : ∀ r : Int, 0 ≤ r → r + 1 ≤ 2 * 10 ^ 40 + 1 → r * r ≤ n → n < (r + 1) * (r + 1) → wpAny M A (call (.ref f) [.int n tt]) (fun v s' => ∃ t, v = .int (isq n) t ∧ Q (.int r t) s') E s) : wpAny M A (call (.ref f) [.int n tt]) Q E s :=
  have g := isq_fin (n := n) rfl h0 h1
  root_val rfl (h _ g.1 g.2.1 g.2.2.1 g.2.2.2)

theorem lt_true {a b : Int} (h : a < b) (hq : Q (.bool true) s) : wpAny (model prog w) A (compareOp .Lt (.int a t) (.int b u)) Q E s :=
  lt_int (by rw [decide_eq_true h]; exact hq)
theorem gt_true {a b : Int} (h : b < a) (hq : Q (.bool true) s) : wpAny (model prog w) A (compareOp .Gt (.int a t) (.int b u)) Q E s :=
  gt_int (by rw [decide_eq_true h]; exact hq)
theorem le_true {a b : Int} (h : a ≤ b) (hq : Q (.bool true) s) : wpAny (model prog w) A (compareOp .LtE (.int a t) (.int b u)) Q E s :=
  le_int (by rw [decide_eq_true h]; exact hq)
/-- a product of two bounded ints above nought -/
theorem mul_pos_rule {a b : Int} (ha : 0 < a) (hb : 0 < b) (ha1 : a ≤ 9) (hb1 : b ≤ 2 ^ 69)
    (hq : 0 < a * b → a * b ≤ 10 ^ 40 → Q (.int (a * b) s.toks) { s with toks := s.toks + 1 }) :
    wpAny (model prog w) A (binaryOp .Mult (.int a t) (.int b u)) Q E s :=
  mul_rule (Int.le_of_lt ha) (Int.le_of_lt hb) (by omega) (by omega) fun _ h2 _ h4 => hq (h2 ha hb) (h4 ha1 hb1)
end
end Mine

local macro_rules | `(tactic| walk_at "binaryOp LShift int int") => `(tactic| (k_here; refine Mine.rt_shl ?ra ?rb ?_; (case ra => omega); (case rb => omega); intro f hf1 hf2 hf3))
local macro_rules | `(tactic| walk_at "binaryOp FloorDiv int int") => `(tactic| (
  k_here
  (with_reducible refine Mine.rt_div ?ra ?rb ?_)
  (case ra => first | assumption | exact (by assumption : Mine.Wrd _ _ _).2.1 | omega)
  (case rb => first | assumption | (have hw := (by assumption : Mine.Wrd _ _ _); have h1 := hw.2.2.2.2.1; omega) | omega)))
local macro_rules | `(tactic| walk_at "binaryOp Pow int int") => `(tactic| (
  k_here
  first
  | ((with_reducible refine Mine.pow10_rule ?pa ?pb ?_); (case pa => assumption); (case pb => omega); intro y hy1 hy2)
  | ((with_reducible refine Mine.pow2_rule ?pa ?pb ?_); (case pa => assumption); (case pb => omega); intro y hy1 hy2)))
local macro_rules | `(tactic| walk_at "subscriptTail Name Constant ref int") => `(tactic| (
  k_here
  (with_reducible show wpAny _ _ (subscriptTail _ _ (Value.ref _) (Value.int _ _)) _ _ _)
  k_dflt (
    (rename News _ _ _ _ => N9)
    (with_unfolding_all refine' item_litK (vs := [_, _]) ?k1 ?k2 ?k3 ?k4 ?_ ?k6)
    (case k1 => is_list)
    (case k2 => decide)
    (case k3 => decide)
    (case k4 => rfl)
    (case k6 => with_unfolding_all rfl))
  k_whole))
local macro_rules | `(tactic| walk_at "binaryOp Mod int int") => `(tactic| (
  k_here
  (with_reducible refine Mine.mod_rule ?pa ?_)
  (case pa => first | decide | omega)
  intro r hr1 hr2))
local macro_rules | `(tactic| walk_at "binaryOp Mult int int") => `(tactic| (
  k_here
  first
  | ((with_reducible refine Mine.sq_rule ?pa ?pb ?_); (case pa => omega); (case pb => omega); intro c hc1 hc2 hc3 hc4 hc5)
  | ((with_reducible refine Mine.mul_pos_rule ?pa ?pb ?pc ?pd ?_); (case pa => omega); (case pb => omega); (case pc => omega); (case pd => omega); intro hc1 hc2)
  | ((with_reducible refine Mine.mul_rule ?pa ?pb ?pc ?pd ?_); (case pa => omega); (case pb => omega); (case pc => omega); (case pd => omega); intro hc1 hc2 hc3 hc4)))
local macro_rules | `(tactic| walk_at "call ref") => `(tactic| (
  k_here
  (fail_if_success (rename Mine.Inner => x9))
  (with_reducible show wpAny _ _ (call (Value.ref _) [Value.ref _]) _ _ _)
  (rename Fr _ _ _ _ => F9)
  refine Mine.pool_join F9 ?walk ?_
  (case walk => k_dflt (
    intro Q9 I9 hret9
    k_steps
    all_goals (
      refine' hret9 _ _ _ _ _ _ _ ?e1 ?e2 ?e3 ?e4 ?e5
      (case e4 => k_asm)
      (case e5 => assumption)
      (case e1 => first | omega | (apply Int.mul_nonneg <;> (split <;> omega)) )
      (case e2 => assumption)
      (case e3 => assumption))))
  intro l9 p9 q9 t9 t9' h9 tk9 hp9 hq9 hq9' F9' N9
  (try dsimp only)
  (try k_fold)))
local macro_rules | `(tactic| walk_at "call ref") => `(tactic| (
  k_here
  (fail_if_success (rename Mine.Inner => x9))
  (with_reducible show wpAny _ _ (call (Value.ref _) [Value.ref _, Value.int _ _]) _ _ _)
  (rename Fr _ _ _ _ => F9)
  (rename News _ _ _ _ => N9)
  refine' Mine.take_join F9 N9 ?mem ?tp ?walk ?_
  (case mem => k_dflt (repeat' (first | exact List.mem_cons_self | apply List.mem_cons_of_mem)))
  (case tp => decide)
  (case walk => k_dflt (
    intro Q9 I9 N9 hret9
    k_steps
    all_goals (
      refine' hret9 _ _ _ _ _ _ _ _ _ ?e1 ?e2 ?e3 ?e4 ?e5 ?e6 ?e7
      (case e6 => k_asm)
      (case e7 => assumption)
      (case e1 => assumption)
      (case e2 => assumption)
      (case e3 => first | assumption | exact Int.fdiv_nonneg (by assumption) (by decide))
      (case e4 => assumption)
      (case e5 => assumption))))
  intro x9 p9 q9 t9 t9' t9'' h9 tk9 k9 hx9 hx9' hx9'' hp9 hq9 hq9' F9' N9
  (try dsimp only)
  (try k_fold)))
local macro_rules | `(tactic| walk_at "call ref") => `(tactic| (
  k_here
  (with_reducible show wpAny _ _ (call (Value.ref _) [Value.int _ _]) _ _ _)
  k_dflt (
    first
    | with_reducible refine Mine.root_val Mine.isq_31 ?_
    | with_reducible refine Mine.root_val Mine.isq_zero ?_
    | with_reducible refine Mine.root_val (Mine.Sq.at0 (by assumption)) ?_
    | with_reducible refine Mine.root_val (Mine.Sq.at1 (by assumption)) ?_
    | with_reducible refine Mine.root_val (Mine.Sq.at2 (by assumption)) ?_
    | with_reducible refine Mine.root_val (Mine.Sq.at3 (by assumption) (by omega)) ?_
    | (refine Mine.root_gen ?ra ?rb ?_; (case ra => omega); (case rb => omega); intro r9 hg1 hg2 hg3 hg4))
  k_call_by "root" Mine.isq (fun n => 0 ≤ n ∧ n < 10 ^ 82)
  refine ⟨_, rfl, ?_⟩
  (try dsimp only)
  (try k_fold)))
local macro_rules | `(tactic| walk_at "ite") => `(tactic| first
  | (with_reducible refine Mine.ite_of_ff (Mine.nd_self _) ?_)
  | (with_reducible refine Mine.ite_of_ff (Mine.bne_self _) ?_))
local macro_rules | `(tactic| walk_at "compareOp Lt int int") => `(tactic| (k_here; (with_reducible refine Mine.lt_true ?ra ?_); (case ra => first | assumption | omega)))
local macro_rules | `(tactic| walk_at "compareOp Gt int int") => `(tactic| (k_here; (with_reducible refine Mine.gt_true ?ra ?_); (case ra => first | assumption | omega)))
local macro_rules | `(tactic| walk_at "compareOp LtE int int") => `(tactic| (k_here; (with_reducible refine Mine.le_true ?ra ?_); (case ra => first | assumption | omega)))

set_option maxRecDepth 100000 in
set_option maxHeartbeats 16000000 in
set_option rowWalk.seconds 0 in
theorem PySem.Challenge.cw_xm0788_01_holds : PySem.Challenge.rw_xm0788_01.Holds := by
  k_with "exec While Compare cons nil" => k_while_given ["number"] (fun number script found better => Mine.Wrd number found better) (fun number script found better => found.toNat) "found" "better"
  k_with "state" => first | exact Mine.wrd_make (by omega) (by assumption) (by assumption) (by assumption) | exact Mine.wrd_next (by assumption) (by omega)
  k_with "measure" => exact Mine.wrd_meas (by assumption) (by omega)
  k_with "tree" => first | exact Mine.wrd_end (by assumption) (by omega) | exact Mine.root_zero (by assumption)
  open_k
#print axioms PySem.Challenge.cw_xm0788_01_holds
