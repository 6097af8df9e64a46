/- PLAIN: a float's own digits are parsed as that float. By an AI agent. -/
import Derived.Test.YtemjlkmlodmmfaaGreatDoorMg13
import Derived.Test.YtemjlkmlodmmfaaGreatDoorMg08
import Derived.Test.YtemjlkmlodmmfaaGreatDoorMg07
import Derived.Test.YtemjlkmlodmmfaaGreatDoorMg06
namespace Go.Proofs.YtemjlkmlodmmfaaGreatDoor.Us
set_option linter.unusedVariables false

/-- The place of a float's last bit. -/
def E0 (u : Nat) : Int := if exb u = 0 then -1074 else (exb u : Int) - 1075
theorem zz_sh {u : Nat} (hk : exb u < 2047) (hm : Sm.mant u ≠ 0) : zz (ee u) = sh u ∧ ee u + (sh u : Int) = E0 u ∧ (exb u ≠ 0 → sh u = 11) := by
  have hlt := Sm.mant_lt u
  obtain ⟨b1, b2, b3⟩ := bitLen_pos hm (by omega)
  have hl53 : Lib.bitLen (Sm.mant u) ≤ 53 := by
    refine Nat.le_of_not_lt fun h => ?_
    have : 2 ^ 53 ≤ 2 ^ (Lib.bitLen (Sm.mant u) - 1) := Nat.pow_le_pow_right (by omega) (by omega)
    omega
  have hsh : sh u + Lib.bitLen (Sm.mant u) = 64 := by unfold sh; omega
  unfold zz ee E0
  by_cases h0 : exb u = 0
  · rw [if_pos h0, if_pos h0]
    have hsub : Sm.mant u < 2 ^ 52 := by unfold Sm.mant; unfold exb at h0; rw [if_pos h0]; exact Nat.mod_lt _ (by decide)
    have hl52 : Lib.bitLen (Sm.mant u) ≤ 52 := by
      refine Nat.le_of_not_lt fun h => ?_
      have : 2 ^ 52 ≤ 2 ^ (Lib.bitLen (Sm.mant u) - 1) := Nat.pow_le_pow_right (by omega) (by omega)
      omega
    refine ⟨by split <;> omega, by omega, fun h => absurd h0 h⟩
  · rw [if_neg h0, if_neg h0]
    have hnor : 2 ^ 52 ≤ Sm.mant u := by unfold Sm.mant; unfold exb at h0; rw [if_neg h0]; omega
    have hl : Lib.bitLen (Sm.mant u) = 53 := by
      refine Nat.le_antisymm hl53 (Nat.le_of_not_lt fun h => ?_)
      have : 2 ^ Lib.bitLen (Sm.mant u) ≤ 2 ^ 52 := Nat.pow_le_pow_right (by omega) (by omega)
      omega
    refine ⟨?_, by omega, fun _ => by omega⟩
    rw [if_pos (by omega)]
    omega
/-- Below a power of two the reach is shorter. -/
def lw (u : Nat) : Nat := if skewd (mm u) (ee u) then 1 else 2
theorem flo_of {u : Nat} (hk : exb u < 2047) (hm : Sm.mant u ≠ 0) : Flo (Sm.mant u) (E0 u) (lw u) := by
  obtain ⟨z1, z2, z3⟩ := zz_sh hk hm
  have hlt := Sm.mant_lt u
  have hE : -1074 ≤ E0 u ∧ E0 u ≤ 971 := by unfold E0; split <;> omega
  have hnor : exb u ≠ 0 → 4503599627370496 ≤ Sm.mant u := fun h0 => by unfold Sm.mant; unfold exb at h0; rw [if_neg h0]; omega
  have hsub : exb u = 0 → Sm.mant u < 4503599627370496 := fun h0 => by unfold Sm.mant; unfold exb at h0; rw [if_pos h0]; exact Nat.mod_lt _ (by decide)
  have hEE : exb u ≠ 0 → E0 u = (exb u : Int) - 1075 := fun h0 => by unfold E0; rw [if_neg h0]
  have hE0 : exb u = 0 → E0 u = -1074 := fun h0 => by unfold E0; rw [if_pos h0]
  have e11 : (2 : Nat) ^ 11 = 2048 := by decide
  have hmm : exb u ≠ 0 → mm u = Sm.mant u * 2048 := fun h => by unfold mm; rw [z3 h, e11]
  refine ⟨hE.1, hE.2, by omega, by omega, ?_, ?_, ?_⟩
  · by_cases h0 : exb u = 0
    · right; exact hE0 h0
    · left; exact hnor h0
  · unfold lw
    by_cases hs : skewd (mm u) (ee u) = true
    · right
      rw [if_pos hs]
      unfold skewd at hs
      simp only [Bool.and_eq_true, decide_eq_true_eq] at hs
      by_cases h0 : exb u = 0
      · exfalso
        have h1 := hE0 h0
        have h2 := hsub h0
        -- a number below the normals has more than 11 bits to go
        obtain ⟨b1, b2, b3⟩ := bitLen_pos hm (by omega)
        have hl52 : Lib.bitLen (Sm.mant u) ≤ 52 := by
          refine Nat.le_of_not_lt fun h => ?_
          have : 2 ^ 52 ≤ 2 ^ (Lib.bitLen (Sm.mant u) - 1) := Nat.pow_le_pow_right (by omega) (by omega)
          omega
        have : sh u = 64 - Lib.bitLen (Sm.mant u) := rfl
        omega
      · have h1 := hmm h0
        have h2 := hEE h0
        have h3 := z3 h0
        exact ⟨rfl, by omega, by omega⟩
    · left; rw [if_neg hs]
  · intro h1 h2
    have h0 : exb u ≠ 0 := fun h => by have := hE0 h; omega
    unfold lw
    rw [if_pos]
    unfold skewd
    have h3 := hmm h0
    have h4 := z3 h0
    have h5 := hEE h0
    simp only [Bool.and_eq_true, decide_eq_true_eq]
    omega

/-- THE DIGITS OF A FLOAT lie within its reach. -/
theorem digits_within {u : Nat} (hk : exb u < 2047) (hm : Sm.mant u ≠ 0) : Within (Sm.mant u) (E0 u) (lw u) (dd u) (pq u) := by
  obtain ⟨hok, -, -⟩ := ok_of u hk hm
  obtain ⟨z1, z2, z3⟩ := zz_sh hk hm
  exact short_within hok (by rw [z1]; rfl) (by rw [z1]; exact z2.symm)

/-- The same number with a nought less or more. -/
theorem within_more {m0 : Nat} {E P : Int} {l d : Nat} (h : Within m0 E l d (1 - P)) : Within m0 E l (10 * d) (-P) := by
  have k := fun t => le_turn (den_pos (-P) (2 - E)) (den_pos (1 - P) (2 - E)) (ten_more P (2 - E) d) t
  unfold Within at h ⊢
  refine ⟨fun h0 => ?_, fun h1 => ?_⟩
  · have a := h.1 h0
    exact ⟨(k _).1.2 a.1, (k _).2.1.2 a.2⟩
  · have a := h.2 h1
    exact ⟨(k _).2.2.1.2 a.1, (k _).2.2.2.2 a.2⟩
theorem within_up {m0 : Nat} {E : Int} {l d : Nat} : ∀ (j : Nat) (q : Int), Within m0 E l (10 ^ j * d) q ↔ Within m0 E l d (q + j)
  | 0, q => by rw [Nat.pow_zero, Nat.one_mul, Int.natCast_zero, Int.add_zero]
  | j + 1, q => by
    have ih := within_up (m0 := m0) (E := E) (l := l) (d := d) j (q + 1)
    have e : 10 ^ (j + 1) * d = 10 * (10 ^ j * d) := by rw [Nat.pow_succ, Nat.mul_comm (10 ^ j), Nat.mul_assoc]
    rw [e, show q + ((j + 1 : Nat) : Int) = q + 1 + (j : Int) by omega, ← ih]
    have a := within_ten (m0 := m0) (E := E) (P := -q) (l := l) (d := 10 ^ j * d)
    have b := within_more (m0 := m0) (E := E) (P := -q) (l := l) (d := 10 ^ j * d)
    rw [Int.neg_neg, show (1 : Int) - -q = q + 1 by omega] at a b
    exact ⟨a, b⟩

/-! ### the word put together -/
theorem or_top63 {s x : Nat} (hs : s = 0 ∨ s = 9223372036854775808) (hx : x < 9223372036854775808) : s ||| x = s + x := by
  rcases hs with rfl | rfl
  · rw [Nat.zero_or, Nat.zero_add]
  · have := Nat.two_pow_add_eq_or_of_lt (i := 63) (b := x) (by omega) 1
    have e : (2 : Nat) ^ 63 = 9223372036854775808 := by decide
    rw [e, Nat.mul_one] at this
    exact this.symm
theorem or_52 {k f : Nat} (hf : f < 4503599627370496) : f ||| 4503599627370496 * k = 4503599627370496 * k + f := by
  have := Nat.two_pow_add_eq_or_of_lt (i := 52) (b := f) (by omega) k
  have e : (2 : Nat) ^ 52 = 4503599627370496 := by decide
  rw [e] at this
  rw [Nat.or_comm]
  exact this.symm
theorem pk_word {u sg : Nat} (hu : u < 18446744073709551616) (hk : exb u < 2047) (hsg : sg = 9223372036854775808 * (u / 9223372036854775808)) : pkR (sg ||| Sm.mant u) (E0 u) = u ∧ pkE (sg ||| Sm.mant u) (E0 u) = false := by
  have hlt := Sm.mant_lt u
  have hs2 : sg = 0 ∨ sg = 9223372036854775808 := by omega
  have hor : sg ||| Sm.mant u = sg + Sm.mant u := or_top63 hs2 (by omega)
  rw [hor]
  unfold pkR pkE
  by_cases h0 : exb u = 0
  · have hma : Sm.mant u = u % 4503599627370496 := by unfold Sm.mant; unfold exb at h0; rw [if_pos h0]
    have hz : (sg + Sm.mant u) / 4503599627370496 % 2 = 0 := by omega
    rw [if_pos hz, decide_eq_true hz]
    refine ⟨?_, rfl⟩
    unfold exb at h0
    omega
  · have hma : Sm.mant u = u % 4503599627370496 + 4503599627370496 := by unfold Sm.mant; unfold exb at h0; rw [if_neg h0]
    have hz : ¬ (sg + Sm.mant u) / 4503599627370496 % 2 = 0 := by omega
    have hE : E0 u = (exb u : Int) - 1075 := by unfold E0; rw [if_neg h0]
    rw [if_neg hz, if_neg (by omega), decide_eq_false hz, decide_eq_false (show ¬ (972 : Int) ≤ E0 u by omega)]
    refine ⟨?_, rfl⟩
    have hc : clr (sg + Sm.mant u) = sg + u % 4503599627370496 := by unfold clr; omega
    have hn : (1075 + E0 u).toNat = exb u := by omega
    rw [hc, hn, ← or_top63 hs2 (show u % 4503599627370496 < 9223372036854775808 by omega), Nat.or_assoc, or_52 (show u % 4503599627370496 < 4503599627370496 by omega), or_top63 hs2 (by omega)]
    unfold exb at *
    omega

/-- THE PARSER ON A FLOAT'S OWN DIGITS, however many noughts stand behind them. -/
theorem pf_back {u d sg : Nat} {p : Int} (hu : u < 18446744073709551616) (hk : exb u < 2047) (hm : Sm.mant u ≠ 0) (hsg : sg = 9223372036854775808 * (u / 9223372036854775808)) (W : Within (Sm.mant u) (E0 u) (lw u) d p)
    (hp1 : -343 ≤ p) (hp2 : p ≤ 309) (h0 : 1 ≤ d) (h57 : d < 144115188075855872) : pfR d p sg = u ∧ pfE d p sg = false := by
  obtain ⟨a, b, c1, c2, -⟩ := parse_is (flo_of hk hm) hp1 hp2 W h0 h57
  unfold pfR pfE
  rw [if_neg (by omega), if_neg (by omega), a, b, Int.neg_neg]
  exact pk_word hu hk hsg
end Go.Proofs.YtemjlkmlodmmfaaGreatDoor.Us

/- What is read of a float's text lies within the float's reach, plainly. By an AI agent. -/
namespace Go.Proofs.YtemjlkmlodmmfaaGreatDoor.Us
set_option linter.unusedVariables false
set_option linter.unusedSimpArgs false

theorem usc_most {x s hi lo : Nat} (hx : 9223372036854775808 ≤ x) (hhi : hi < 18446744073709551616) (hhi0 : 9223372036854775808 ≤ hi) (h0 : 5 ≤ s) : usc x s hi lo ≤ x / 32 + 1 := by
  have u0 : 9223372036854775808 * 9223372036854775808 ≤ x * hi := Nat.mul_le_mul hx hhi0
  have u1 : x * hi ≤ x * 18446744073709551616 := Nat.mul_le_mul_left _ (by omega)
  unfold usc
  have h1' : x * hi / 18446744073709551616 ≤ x := by omega
  have h0' : 4611686018427387904 ≤ x * hi / 18446744073709551616 := by omega
  generalize x * hi / 18446744073709551616 = h at *
  generalize x * hi % 18446744073709551616 = m at *
  clear u1 u0
  have key : ∀ a, a ≤ x → ∀ b, stk (a / 2 ^ s) b ≤ x / 32 + 1 := by
    intro a ha b
    have h1 := (stk_le (a / 2 ^ s) b).2
    have l2 : a / 2 ^ s ≤ a / 2 ^ 5 := Nat.div_le_div_left (Nat.pow_le_pow_right (by omega) h0) (by decide)
    have e2 : (2 : Nat) ^ 5 = 32 := by decide
    rw [e2] at l2
    generalize a / 2 ^ s = q at *
    omega
  by_cases hr : h % 2 ^ s ≠ 0
  · simp only [if_pos hr]
    exact key h h1' _
  · simp only [if_neg hr]
    refine key _ ?_ _
    split
    · omega
    · exact h1'

theorem dd_57 {m : Nat} {e : Int} (h : Ok m e) : shD m e < 144115188075855872 := by
  have hp := pp_range (m := m) h.e0 h.e1
  have hz := zz_range h.e0 h.e1
  have hpm := pm_range (p := pp m e) (by omega) (by omega)
  have hs : 5 ≤ sft m e := by unfold sft; omega
  have h1 := h.lo
  have h2 := h.hi
  have hdv := h.dv
  have hle : m + 2048 ≤ 18446744073709551616 := by
    obtain ⟨k, hk⟩ := Nat.dvd_of_mod_eq_zero hdv
    obtain ⟨r, hr⟩ : ∃ r, 2 ^ zz e = 2048 * r := ⟨2 ^ (zz e - 11), by
      rw [show (2048 : Nat) = 2 ^ 11 by decide, ← Nat.pow_add]; congr 1; omega⟩
    rw [hr, Nat.mul_assoc] at hk
    omega
  have p62 : 2 ^ (zz e - 1) ≤ 2 ^ 62 := Nat.pow_le_pow_right (by omega) (by omega)
  have e62 : (2 : Nat) ^ 62 = 4611686018427387904 := by decide
  have bm : uu m e m ≤ m / 32 + 1 := usc_most h1 hpm.1 hpm.2.1 hs
  have bx : uu m e (mxv m e) ≤ (mxv m e) / 32 + 1 := usc_most (Nat.le_trans h1 (Nat.le_add_right _ _)) hpm.1 hpm.2.1 hs
  have hmn : 4611686018427387904 ≤ mnv m e ∧ mnv m e ≤ m := by
    unfold mnv
    have := Nat.two_pow_pos (zz e - 1)
    have e9 : (2 : Nat) ^ 9 = 512 := by decide
    split <;> omega
  have bn : uu m e (mnv m e) ≤ m / 32 + 1 := by
    by_cases hb : 9223372036854775808 ≤ mnv m e
    · refine Nat.le_trans (usc_most hb hpm.1 hpm.2.1 hs) ?_
      omega
    · -- a small lower end: its product is less than half
      have h3 : mnv m e < 9223372036854775808 := by omega
      have u0 : 4611686018427387904 * 9223372036854775808 ≤ mnv m e * pmHi (pp m e) := Nat.mul_le_mul hmn.1 hpm.2.1
      have u1 : mnv m e * pmHi (pp m e) ≤ mnv m e * 18446744073709551616 := Nat.mul_le_mul_left _ (by omega)
      unfold uu usc
      have h1' : mnv m e * pmHi (pp m e) / 18446744073709551616 ≤ mnv m e := by omega
      have h0' : 1 ≤ mnv m e * pmHi (pp m e) / 18446744073709551616 := by omega
      generalize mnv m e * pmHi (pp m e) / 18446744073709551616 = h at *
      generalize mnv m e * pmHi (pp m e) % 18446744073709551616 = mq at *
      clear u1 u0
      have key : ∀ a, a ≤ m → ∀ b, stk (a / 2 ^ sft m e) b ≤ m / 32 + 1 := by
        intro a ha b
        have h1 := (stk_le (a / 2 ^ sft m e) b).2
        have l2 : a / 2 ^ sft m e ≤ a / 2 ^ 5 := Nat.div_le_div_left (Nat.pow_le_pow_right (by omega) hs) (by decide)
        have e2 : (2 : Nat) ^ 5 = 32 := by decide
        rw [e2] at l2
        generalize a / 2 ^ sft m e = q at *
        omega
      by_cases hr : h % 2 ^ sft m e ≠ 0
      · simp only [if_pos hr]
        exact key h (by omega) _
      · simp only [if_neg hr]
        refine key _ ?_ _
        split <;> omega
  have hmx : mxv m e ≤ m + 4611686018427387904 := by unfold mxv; omega
  have hod : odd m e ≤ 1 := by unfold odd; omega
  unfold shD
  split
  · unfold dmx; omega
  · split
    · unfold rnd; omega
    · unfold dmn; omega

theorem nd_low : ∀ n, ∀ d, d ≤ n → 1 ≤ d → 10 ^ (Lib.nDigits d - 1) ≤ d
  | 0, d, h, h1 => by omega
  | n + 1, d, h, h1 => by
    by_cases hs : d < 10
    · rw [Lib.nDigits_small hs]; simpa using h1
    · have ih := nd_low n (d / 10) (by omega) (by omega)
      have hp := Lib.nDigits_pos (d / 10)
      rw [Lib.nDigits_big hs, show Lib.nDigits (d / 10) + 1 - 1 = (Lib.nDigits (d / 10) - 1) + 1 by omega, Nat.pow_succ]
      omega
theorem trim_div : ∀ (n d : Nat), d % 10 ^ (n - trimN d n) = 0
  | 0, d => by simp [Nat.mod_one]
  | n + 1, d => by
    rw [trimN_succ]
    by_cases h : d % 10 = 0
    · rw [if_pos h]
      have ih := trim_div n (d / 10)
      have hle := trimN_le (d / 10) n
      rw [show n + 1 - trimN (d / 10) n = (n - trimN (d / 10) n) + 1 by omega, Nat.pow_succ, Nat.mul_comm, Nat.mod_mul, h, ih]
    · rw [if_neg h, Nat.sub_self, Nat.pow_zero, Nat.mod_one]
theorem val_range (d n : Nat) (hd : d < 10 ^ n) : ∀ k, k ≤ n → val ((List.range k).map (digit d n)) = d / 10 ^ (n - k)
  | 0, _ => by rw [Nat.sub_zero, Nat.div_eq_of_lt hd]; rfl
  | k + 1, h => by
    have ih := val_range d n hd k (by omega)
    unfold val at ih ⊢
    rw [List.range_succ, List.map_append, List.foldl_append, ih]
    simp only [List.map_cons, List.map_nil, List.foldl_cons, List.foldl_nil, digit]
    rw [show n - k = (n - (k + 1)) + 1 by omega, Nat.pow_succ, ← Nat.div_div_eq_div_mul, show n - 1 - k = n - (k + 1) by omega]
    omega

structure DigsIs (d n z : Nat) (D : List Nat) : Prop where
  all : ∀ c ∈ D, 48 ≤ c ∧ c ≤ 57
  ne : D ≠ []
  head : D.head? ≠ some 48
  len : D.length = z
  nz1 : 1 ≤ z
  nzn : z ≤ n
  val : 10 ^ (n - z) * val D = d
  n18 : n ≤ 18
theorem digs_is {d : Nat} (h0 : 1 ≤ d) (h57 : d < 144115188075855872) : DigsIs d (Lib.nDigits d) (trimN d (Lib.nDigits d)) ((List.range (trimN d (Lib.nDigits d))).map (digit d (Lib.nDigits d))) := by
  have hn := Lib.lt_pow_nDigits d
  have hl := nd_low _ d (Nat.le_refl _) h0
  have hnp := Lib.nDigits_pos d
  generalize Lib.nDigits d = n at *
  have hz1 := trim_pos n d (by omega) hn
  have hz2 := trimN_le d n
  have hdv := trim_div n d
  generalize trimN d n = z at *
  have hlen : ((List.range z).map (digit d n)).length = z := by rw [List.length_map, List.length_range]
  refine ⟨?_, ?_, ?_, hlen, hz1, hz2, ?_, ?_⟩
  · intro c hc
    obtain ⟨t, -, rfl⟩ := List.mem_map.1 hc
    unfold digit
    omega
  · intro e; rw [e] at hlen; simp at hlen; omega
  · obtain ⟨k, hk⟩ : ∃ k, z = k + 1 := ⟨z - 1, by omega⟩
    rw [hk, List.range_succ_eq_map]
    simp only [List.map_cons, List.head?_cons]
    intro e
    injection e with e
    unfold digit at e
    rw [Nat.sub_zero] at e
    have hp : 10 ^ n = 10 ^ (n - 1) * 10 := by rw [← Nat.pow_succ]; congr 1; omega
    have hpos : 0 < 10 ^ (n - 1) := Nat.pow_pos (by omega)
    have h1 : 1 ≤ d / 10 ^ (n - 1) := (Nat.le_div_iff_mul_le hpos).2 (by omega)
    have h2 : d / 10 ^ (n - 1) < 10 := Nat.div_lt_of_lt_mul (by omega)
    omega
  · rw [val_range d n hn z hz2]
    have := Nat.div_add_mod d (10 ^ (n - z))
    rw [hdv] at this
    exact this
  · refine Nat.le_of_not_lt fun h => ?_
    have : 10 ^ 18 ≤ 10 ^ (n - 1) := Nat.pow_le_pow_right (by omega) (by omega)
    have e18 : (10 : Nat) ^ 18 = 1000000000000000000 := by decide
    omega
theorem digs_ok {u : Nat} (h0 : 1 ≤ dd u) (h57 : dd u < 144115188075855872) : DigsIs (dd u) (Lib.nDigits (dd u)) (nz u) (digs u) := by
  have h := digs_is h0 h57
  unfold digs nz
  exact h

/-- Within reach: at most so great. -/
theorem big_not : ∃ A B : Nat, A = 1024 ∧ B = 309 ∧ 2 ^ A < 10 ^ B := ⟨1024, 309, rfl, rfl, by decide +kernel⟩
theorem within_most {m0 : Nat} {E : Int} {l d : Nat} {q : Int} {k : Nat} (F : Flo m0 E l) (W : Within m0 E l d q) (hd : 10 ^ k ≤ d) : (k : Int) + q ≤ 308 := by
  refine Int.not_lt.1 fun hq => ?_
  obtain ⟨A, B, hA, hB, hAB⟩ := big_not
  have hm2 := F.m2
  have he1 := F.e1
  have hW : d * num q (2 - E) ≤ (4 * m0 + 2) * den q (2 - E) := by
    rcases Nat.mod_two_eq_zero_or_one m0 with h | h
    · exact (W.1 h).2
    · exact Nat.le_of_lt (W.2 h).2
  unfold num den at hW
  have h4 : 4 * m0 + 2 ≤ 2 ^ 55 := by
    have : (2 : Nat) ^ 55 = 36028797018963968 := by decide
    omega
  have h2 : 10 ^ (-q).toNat * 10 ^ B ≤ d * 10 ^ q.toNat := by
    refine Nat.le_trans ?_ (Nat.mul_le_mul_right _ hd)
    rw [← Nat.pow_add, ← Nat.pow_add]
    exact Nat.pow_le_pow_right (by omega) (by omega)
  have h3 : (4 * m0 + 2) * 2 ^ (-(2 - E)).toNat ≤ 2 ^ A * 2 ^ (2 - E).toNat := by
    refine Nat.le_trans (Nat.mul_le_mul_right _ h4) ?_
    rw [← Nat.pow_add, ← Nat.pow_add]
    exact Nat.pow_le_pow_right (by omega) (by omega)
  have hp1 : 0 < 10 ^ (-q).toNat := Nat.pow_pos (by omega)
  have hp2 : 0 < 2 ^ (2 - E).toNat := Nat.pow_pos (by omega)
  generalize 10 ^ (-q).toNat = a at *
  generalize 10 ^ q.toNat = b at *
  generalize 2 ^ (2 - E).toNat = x at *
  generalize 2 ^ (-(2 - E)).toNat = y at *
  generalize 2 ^ A = P at *
  generalize 10 ^ B = Q at *
  have l1 : a * Q * x ≤ d * (b * x) := by rw [← Nat.mul_assoc]; exact Nat.mul_le_mul_right _ h2
  have l2 : (4 * m0 + 2) * (a * y) ≤ a * (P * x) := by
    rw [Nat.mul_left_comm]; exact Nat.mul_le_mul_left _ h3
  have l3 : a * Q * x ≤ a * (P * x) := Nat.le_trans l1 (Nat.le_trans hW l2)
  rw [Nat.mul_assoc] at l3
  have l4 := Nat.le_of_mul_le_mul_left l3 hp1
  have l5 := Nat.le_of_mul_le_mul_right l4 hp2
  omega

/-- A float's text is read as digits within its reach. -/
theorem text_reads {u : Nat} (hk : exb u < 2047) (hm : Sm.mant u ≠ 0) : ∃ (m : Nat) (p : Int), rdF (textF u) = some ⟨m, p, Sm.isNeg u, false, false, (textF u).length, false⟩ ∧
    1 ≤ m ∧ m < 144115188075855872 ∧ -343 ≤ p ∧ p ≤ 309 ∧ Within (Sm.mant u) (E0 u) (lw u) m p := by
  obtain ⟨hok, -, -⟩ := ok_of u hk hm
  have h0 := dd_pos hok
  have h57 : dd u < 144115188075855872 := dd_57 hok
  have D := digs_ok h0.1 h57
  have W := digits_within hk hm
  have F := flo_of hk hm
  have hpq : -330 ≤ pq u := by
    have := pp_range (m := mm u) hok.e0 hok.e1
    show -330 ≤ shP (mm u) (ee u)
    unfold shP
    split <;> omega
  have hdp := within_most F W (nd_low _ (dd u) (Nat.le_refl _) h0.1)
  have hnp := Lib.nDigits_pos (dd u)
  have h18 := D.n18
  have hv := D.val
  have hzn := D.nzn
  have hz1 := D.nz1
  obtain ⟨j, hj, hj6⟩ := rdF_text (Sm.isNeg u) (dp := Lib.nDigits (dd u) + pq u) D.all D.ne D.head (by rw [D.len]; omega) (by omega) (by omega)
  rw [← text_some hm, D.len] at hj
  rw [D.len] at hj6
  have hvp := val_pos D.all D.head D.ne
  have hvd : val (digs u) ≤ dd u := by
    rw [← hv]
    exact Nat.le_mul_of_pos_left _ (Nat.pow_pos (by omega))
  have hvn : val (digs u) < 10 ^ nz u := by
    have hn := Lib.lt_pow_nDigits (dd u)
    have hn2 : 10 ^ (Lib.nDigits (dd u) - nz u) * val (digs u) < 10 ^ (Lib.nDigits (dd u) - nz u) * 10 ^ nz u := by
      rw [hv, ← Nat.pow_add, show Lib.nDigits (dd u) - nz u + nz u = Lib.nDigits (dd u) by omega]
      exact hn
    exact Nat.lt_of_mul_lt_mul_left hn2
  refine ⟨_, _, hj, Nat.mul_pos (Nat.pow_pos (by omega)) hvp, ?_, by omega, by omega, ?_⟩
  · rcases hj6 with rfl | hj6
    · rw [Nat.pow_zero, Nat.one_mul]; omega
    · have h6 : 10 ^ j * 10 ^ nz u ≤ 10 ^ 6 := by rw [← Nat.pow_add]; exact Nat.pow_le_pow_right (by omega) (by omega)
      have : 10 ^ j * val (digs u) < 10 ^ j * 10 ^ nz u := Nat.mul_lt_mul_of_pos_left hvn (Nat.pow_pos (by omega))
      have e6 : (10 : Nat) ^ 6 = 1000000 := by decide
      omega
  · rw [within_up]
    rw [← hv, within_up] at W
    rw [show ((Lib.nDigits (dd u) : Nat) : Int) + pq u - (nz u : Int) - (j : Int) + (j : Int) = pq u + ((Lib.nDigits (dd u) - nz u : Nat) : Int) by omega]
    exact W
end Go.Proofs.YtemjlkmlodmmfaaGreatDoor.Us

/- PLAIN: the sum's rounding is the floats' own. By an AI agent. -/
namespace Go.Proofs.YtemjlkmlodmmfaaGreatDoor.Rn
open Go Go.Proofs.YtemjlkmlodmmfaaGreatDoor Ieee

set_option linter.unusedVariables false

theorem even_cut (s : Bool) (V L : Nat) : Toward.even.cut s V (L + 1) = Sm.digR V (L + 1) := by
  rw [Flt.cut_eq]
  unfold Sm.digR Flt.more
  simp only
  rw [Nat.shiftRight_eq_div_pow, Nat.add_sub_cancel]
  have hb : V.testBit L = decide (V / 2 ^ L % 2 = 1) := Nat.testBit_eq_decide_div_mod_eq
  rw [hb]
  have hp := Nat.two_pow_pos L
  have e1 : 2 ^ (L + 1) = 2 ^ L * 2 := Nat.pow_succ ..
  rw [e1]
  have e2 : V % (2 ^ L * 2) = V % 2 ^ L + 2 ^ L * (V / 2 ^ L % 2) := Nat.mod_mul
  have e3 : V / (2 ^ L * 2) = V / 2 ^ L / 2 := (Nat.div_div_eq_div_mul ..).symm
  have e4 := Nat.mod_lt V hp
  rw [e2, e3]
  generalize V / 2 ^ L = q at *
  generalize V % 2 ^ L = r at *
  generalize 2 ^ L = g at *
  rcases Nat.mod_two_eq_zero_or_one q with h | h
  · rw [h]
    have t1 : decide (g * 2 < 2 * (r + g * 0)) = false := by rw [decide_eq_false_iff_not]; omega
    have t2 : (g * 2 == 2 * (r + g * 0)) = false := by rw [beq_eq_false_iff_ne]; omega
    rw [t1, t2]
    simp
  · rw [h]
    simp only [decide_true, true_and]
    by_cases hr : r = 0
    · subst hr
      have t1 : decide (g * 2 < 2 * (0 + g * 1)) = false := by rw [decide_eq_false_iff_not]; omega
      have t2 : (g * 2 == 2 * (0 + g * 1)) = true := by rw [beq_iff_eq]; omega
      rw [t1, t2]
      rcases Nat.mod_two_eq_zero_or_one (q / 2) with h2 | h2 <;> simp [h2]
    · have t1 : decide (g * 2 < 2 * (r + g * 1)) = true := by rw [decide_eq_true_eq]; omega
      rw [t1]
      simp [hr]

theorem round_cut (s : Bool) (V : Nat) (h : V ≠ 0) : Sm.roundB V = min ((Nat.log2 V - 52) * 2 ^ 52 + (if Nat.log2 V ≤ 52 then V else Toward.even.cut s V (Nat.log2 V - 52))) (2047 * 2 ^ 52) := by
  have hl : Sm.lenN V = Nat.log2 V + 1 := by unfold Sm.lenN; rw [if_neg h]
  have hlen := Sm.lenN_len V
  unfold Sm.roundB
  rw [hl] at hlen ⊢
  simp only
  by_cases hs : Nat.log2 V ≤ 52
  · rw [if_pos (show Nat.log2 V + 1 ≤ 53 by omega), if_pos hs, show Nat.log2 V - 52 = 0 by omega]
    have h1 : V < 2 ^ 53 := Nat.lt_of_lt_of_le hlen.1 (Nat.pow_le_pow_right (by decide) (by omega))
    omega
  · rw [if_neg (show ¬ Nat.log2 V + 1 ≤ 53 by omega), if_neg hs]
    obtain ⟨L, hL⟩ : ∃ L, Nat.log2 V = L + 53 := ⟨Nat.log2 V - 53, by omega⟩
    have hr := Sm.digR_range hlen (by omega)
    rw [hL] at hr ⊢
    rw [show L + 53 + 1 - 53 = L + 1 by omega] at hr ⊢
    rw [show L + 53 - 52 = L + 1 by omega, even_cut]
    generalize Sm.digR V (L + 1) = d at *
    by_cases hd : d = 2 ^ 53
    · rw [if_pos hd, if_pos hd, hd]
      split <;> omega
    · rw [if_neg hd, if_neg hd]
      split <;> omega

theorem nearest_round (s : Bool) (V : Nat) : double.nearest s V (-1074) = double.word s (Sm.roundB V) := by
  by_cases h : V = 0
  · subst h
    unfold Format.nearest
    rw [if_pos rfl]
    rfl
  · rw [round_cut s V h]
    unfold Format.nearest
    rw [if_neg h, Flt.fb, Flt.lp, Flt.bi, Flt.ir]
    simp only
    generalize hlg : Nat.log2 V = g
    by_cases hs : g ≤ 52
    · have e : max (-1074 + (g : Int) - ((52 : Nat) : Int)) (-1074) = -1074 := by omega
      rw [e, if_pos hs]
      rw [show ((-1074 : Int) - -1074).toNat = 0 by decide, Flt.cut_eq]
      have : Flt.more Toward.even s (V <<< 0) (2 ^ 0) = false := by
        unfold Flt.more
        simp only [Nat.pow_zero, Nat.mod_one]
        rfl
      rw [this, show g - 52 = 0 by omega]
      simp
    · have e : max (-1074 + (g : Int) - ((52 : Nat) : Int)) (-1074) = -1074 + ((g - 52 : Nat) : Int) := by omega
      rw [e, if_neg hs]
      rw [show (-1074 + ((g - 52 : Nat) : Int) - -1074).toNat = g - 52 by omega, show (-1074 - (-1074 + ((g - 52 : Nat) : Int))).toNat = 0 by omega]
      simp

theorem log2_scale (m k : Nat) (h : m ≠ 0) : Nat.log2 (m * 2 ^ k) = Nat.log2 m + k := by
  have h1 := Nat.log2_self_le h
  have h2 : m < 2 ^ (m.log2 + 1) := Nat.lt_log2_self
  have hp := Nat.two_pow_pos k
  have hn : m * 2 ^ k ≠ 0 := Nat.mul_ne_zero h (by omega)
  have hL : Sm.Len (m * 2 ^ k) (m.log2 + k + 1) := by
    refine ⟨?_, fun _ => ?_⟩
    · rw [show m.log2 + k + 1 = m.log2 + 1 + k by omega, Nat.pow_add]
      exact Nat.mul_lt_mul_of_pos_right h2 hp
    · rw [Nat.add_sub_cancel, Nat.pow_add]
      exact Nat.mul_le_mul_right _ h1
  have := Sm.len_lenN hL
  unfold Sm.lenN at this
  rw [if_neg hn] at this
  omega

theorem more_scale (s : Bool) (n g k : Nat) : Flt.more Toward.even s (n * 2 ^ k) (g * 2 ^ k) = Flt.more Toward.even s n g := by
  unfold Flt.more
  simp only
  have hp := Nat.two_pow_pos k
  rw [Nat.mul_mod_mul_right, Nat.mul_div_mul_right _ _ hp]
  have e1 : 2 * (n % g * 2 ^ k) = 2 * (n % g) * 2 ^ k := (Nat.mul_assoc ..).symm
  rw [e1]
  have t1 : decide (g * 2 ^ k < 2 * (n % g) * 2 ^ k) = decide (g < 2 * (n % g)) := by
    rw [decide_eq_decide]; exact Nat.mul_lt_mul_right hp
  have t2 : (g * 2 ^ k == 2 * (n % g) * 2 ^ k) = (g == 2 * (n % g)) := by
    rw [Bool.eq_iff_iff, beq_iff_eq, beq_iff_eq]; exact Nat.mul_left_inj (by omega)
  rw [t1, t2]

theorem nearest_scale (s : Bool) (m : Nat) (e : Int) (h : -1074 ≤ e) : double.nearest s m e = double.nearest s (m * 2 ^ (e + 1074).toNat) (-1074) := by
  by_cases hm : m = 0
  · subst hm
    unfold Format.nearest
    rw [Nat.zero_mul, if_pos rfl, if_pos rfl]
  · generalize hk : (e + 1074).toNat = k
    have hp := Nat.two_pow_pos k
    have hn : m * 2 ^ k ≠ 0 := Nat.mul_ne_zero hm (by omega)
    unfold Format.nearest
    rw [if_neg hm, if_neg hn, log2_scale m k hm]
    simp only
    rw [Flt.fb, Flt.lp, Flt.bi, Flt.ir]
    have e0 : -1074 + ((Nat.log2 m + k : Nat) : Int) - ((52 : Nat) : Int) = e + (Nat.log2 m : Int) - ((52 : Nat) : Int) := by omega
    rw [e0]
    generalize hl : max (e + (Nat.log2 m : Int) - ((52 : Nat) : Int)) (-1074) = last
    have hge : -1074 ≤ last := by omega
    congr 2
    congr 1
    rw [Flt.cut_eq, Flt.cut_eq, Nat.shiftLeft_eq, Nat.shiftLeft_eq, show (-1074 - last).toNat = 0 by omega, Nat.pow_zero, Nat.mul_one]
    by_cases hel : e ≤ last
    · rw [show (e - last).toNat = 0 by omega, Nat.pow_zero, Nat.mul_one]
      have e1 : (last - -1074).toNat = (last - e).toNat + k := by omega
      rw [e1, Nat.pow_add, more_scale, Nat.mul_div_mul_right _ _ hp]
    · have e1 : k = (e - last).toNat + (last - -1074).toNat := by omega
      rw [show (last - e).toNat = 0 by omega, e1, Nat.pow_add, ← Nat.mul_assoc]
      have hq := Nat.two_pow_pos (last - -1074).toNat
      generalize 2 ^ (last - -1074).toNat = Q at *
      generalize m * 2 ^ (e - last).toNat = M at *
      have t1 : Flt.more Toward.even s M (2 ^ 0) = false := by
        unfold Flt.more
        simp only [Nat.pow_zero, Nat.mod_one]
        rfl
      have t2 : Flt.more Toward.even s (M * Q) Q = false := by
        unfold Flt.more
        simp only [Nat.mul_mod_left]
        rw [show decide (Q < 2 * 0) = false by rw [decide_eq_false_iff_not]; omega, show (Q == 2 * 0) = false by rw [beq_eq_false_iff_ne]; omega]
        rfl
      rw [t1, t2, Nat.mul_div_cancel _ hq]
      simp

theorem write_round {d : Datum} {s : Bool} {M : Nat} (h : Flt.Num 1074 d s M) : double.write d = double.word s (Sm.roundB M) := by
  obtain ⟨m, e, rfl, h1, rfl⟩ := h
  show double.nearest s m e = _
  rw [nearest_scale s m e (by omega), nearest_round]
  rfl

theorem add_round {a b : Nat} (ha : Flt.Fin a) (hb : Flt.Fin b) : double.add a b = some (double.word (if Flt.fv a + Flt.fv b = 0 then Flt.neg a && Flt.neg b else decide (Flt.fv a + Flt.fv b < 0)) (Sm.roundB (Flt.fv a + Flt.fv b).natAbs)) := by
  obtain ⟨D, h1, h2⟩ := Flt.sum_num (Flt.read_num ha) (Flt.read_num hb)
  unfold Format.add
  rw [h1]
  exact congrArg some (write_round h2)

theorem word_inj {s : Bool} {a b : Nat} (ha : a < 2 ^ 63) (hb : b < 2 ^ 63) (h : double.word s a = double.word s b) : a = b := by
  have := congrArg Flt.rung h
  rwa [Flt.word_rung s ha, Flt.word_rung s hb] at this

theorem round_mag {R : Nat} (h : R ≤ 2047 * 2 ^ 52) : Sm.roundB (Flt.mag R) = R := by
  have h1 : Flt.Near 1074 false (Flt.mag R) (double.nearest false (Flt.mag R) (-1074)) := by
    have := Flt.nearest_spec false (Flt.mag R) (-1074) 1074 (Nat.le_refl _) (by decide)
    have e : ((-1074 : Int) + ((1074 : Nat) : Int)).toNat = 0 := by decide
    rw [e, Nat.pow_zero, Nat.mul_one] at this
    exact this
  have h2 := h1.exact h (by rw [Nat.sub_self, Nat.pow_zero, Nat.mul_one])
  rw [nearest_round] at h2
  exact word_inj (Sm.roundB_lt _) (by omega) h2

/-- The sums' reading of a float is the floats' own. -/
theorem fin_fv {u : Nat} (hu : u < 18446744073709551616) : Sm.fin u = Flt.fv u := by
  have e1 : Sm.mant u * 2 ^ Sm.shft u = Flt.mag (Flt.rung u) := by
    unfold Sm.mant Sm.shft Flt.mag Flt.rung
    have h1 : u % 2 ^ 63 / 2 ^ 52 = u / 2 ^ 52 % 2048 := by omega
    have h2 : u % 2 ^ 63 % 2 ^ 52 = u % 2 ^ 52 := by omega
    rw [h1, h2]
    by_cases h : u / 2 ^ 52 % 2048 = 0
    · rw [if_pos h, if_pos (by omega), h]
      simp
      omega
    · rw [if_neg h, if_neg (by omega), Nat.add_comm]
  unfold Sm.fin Flt.fv Flt.sv Sm.isNeg Flt.neg
  rw [e1]
  by_cases h : 2 ^ 63 ≤ u
  · rw [if_pos (decide_eq_true h), if_pos (by rw [beq_iff_eq]; omega)]
  · rw [if_neg (by rw [decide_eq_true_eq]; exact h), if_neg (by rw [beq_iff_eq]; omega)]
theorem word_of (s : Bool) (r : Nat) : double.word s r = if s = true then r + 9223372036854775808 else r := by
  unfold Format.word
  rw [Flt.sw]
  cases s
  · simp
  · simp; omega
/-- The signed rounding by a word. -/
theorem sgn_word (S : Int) : Sm.sgnR S = double.word (decide (S < 0)) (Sm.roundB S.natAbs) := by
  unfold Sm.sgnR
  rw [word_of]
  by_cases h : S < 0 <;> simp [h]
end Go.Proofs.YtemjlkmlodmmfaaGreatDoor.Rn

/- PLAIN: the floats' own rounding of what lies within a float's reach. By an AI agent. -/
namespace Go.Proofs.YtemjlkmlodmmfaaGreatDoor.Us
set_option linter.unusedVariables false

theorem digR_is {V q r k : Nat} (h : V = q * 2 ^ (k + 1) + r) (hr : r < 2 ^ (k + 1)) : Sm.digR V (k + 1) = if 2 ^ k < r ∨ (r = 2 ^ k ∧ q % 2 = 1) then q + 1 else q := by
  have hp := Nat.two_pow_pos k
  have e1 : 2 ^ (k + 1) = 2 ^ k * 2 := Nat.pow_succ ..
  have hq : V / 2 ^ (k + 1) = q := Nat.div_eq_of_lt_le (by omega) (by rw [Nat.add_mul, Nat.one_mul]; omega)
  unfold Sm.digR
  simp only
  rw [Nat.shiftRight_eq_div_pow, Nat.add_sub_cancel, hq, Nat.testBit_eq_decide_div_mod_eq]
  have hk : V / 2 ^ k = 2 * q + r / 2 ^ k := by
    rw [h, e1, show q * (2 ^ k * 2) + r = r + 2 ^ k * (2 * q) by rw [Nat.mul_left_comm, Nat.mul_comm q 2]; omega, Nat.add_mul_div_left _ _ hp, Nat.add_comm]
  have hm : V % 2 ^ k = r % 2 ^ k := by
    rw [h, e1, show q * (2 ^ k * 2) + r = r + 2 ^ k * (2 * q) by rw [Nat.mul_left_comm, Nat.mul_comm q 2]; omega, Nat.add_mul_mod_self_left]
  rw [hk, hm]
  rw [e1] at hr
  have e2 := Nat.div_add_mod r (2 ^ k)
  have e3 := Nat.mod_lt r hp
  have h2 : r / 2 ^ k = 0 ∨ r / 2 ^ k = 1 := by
    have h3 : r / 2 ^ k < 2 := Nat.div_lt_of_lt_mul hr
    generalize r / 2 ^ k = t at h3
    omega
  generalize 2 ^ k = g at *
  rcases h2 with h2 | h2
  · rw [h2, Nat.mul_zero] at e2
    rw [h2, if_neg (by simp <;> omega), if_neg (by omega)]
  · rw [h2, Nat.mul_one] at e2
    rw [h2]
    by_cases hz : r % g = 0
    · by_cases hq2 : q % 2 = 1
      · rw [if_pos (by simp <;> omega), if_pos (by omega)]
      · rw [if_neg (by simp <;> omega), if_neg (by omega)]
    · rw [if_pos (by simp <;> omega), if_pos (by omega)]

/-- What lies within a float's reach, in units of the least number, is rounded to that float. -/
theorem round_within {m0 V w : Nat} {E : Int} {l : Nat} (F : Flo m0 E l) (hw : (w : Int) = E + 1074) (h0 : m0 % 2 = 0 → (4 * m0 - l) * 2 ^ w ≤ 4 * V ∧ 4 * V ≤ (4 * m0 + 2) * 2 ^ w) (h1 : m0 % 2 = 1 → (4 * m0 - l) * 2 ^ w < 4 * V ∧ 4 * V < (4 * m0 + 2) * 2 ^ w) :
    Sm.roundB V = w * 4503599627370496 + m0 := by
  have hm1 := F.m1
  have hm2 := F.m2
  have hE := F.e1
  have hl : l ≤ 2 ∧ 1 ≤ l := by rcases F.l2 with h | ⟨h, -⟩ <;> omega
  have hle : (4 * m0 - l) * 2 ^ w ≤ 4 * V ∧ 4 * V ≤ (4 * m0 + 2) * 2 ^ w := by
    rcases Nat.mod_two_eq_zero_or_one m0 with h | h
    · exact h0 h
    · exact ⟨Nat.le_of_lt (h1 h).1, Nat.le_of_lt (h1 h).2⟩
  have small : V < 2 ^ 53 → Sm.roundB V = V := by
    intro h
    unfold Sm.roundB
    simp only
    rw [if_pos]
    have hL := Sm.lenN_len V
    refine Nat.le_of_not_lt fun hlt => ?_
    have h2 := hL.2 (by omega)
    have h3 : 2 ^ 53 ≤ 2 ^ (Sm.lenN V - 1) := Nat.pow_le_pow_right (by decide) (by omega)
    omega
  by_cases hw0 : w = 0
  · subst hw0
    rw [Nat.pow_zero, Nat.mul_one, Nat.mul_one] at hle
    have hV : V = m0 := by omega
    rw [small (by omega), hV]
    omega
  · obtain ⟨k, rfl⟩ : ∃ k, w = k + 1 := ⟨w - 1, by omega⟩
    have hm52 : 4503599627370496 ≤ m0 := by rcases F.nor with h | h <;> omega
    have hp := Nat.two_pow_pos k
    have e1 : 2 ^ (k + 1) = 2 ^ k * 2 := Nat.pow_succ ..
    -- the bounds around m0 2^(k+1)
    have b1 : m0 * 2 ^ (k + 1) ≤ V + 2 ^ k ∧ V ≤ m0 * 2 ^ (k + 1) + 2 ^ k ∧ (m0 % 2 = 1 → m0 * 2 ^ (k + 1) < V + 2 ^ k ∧ V < m0 * 2 ^ (k + 1) + 2 ^ k) := by
      have a1 : (4 * m0 - 2) * 2 ^ (k + 1) ≤ (4 * m0 - l) * 2 ^ (k + 1) := Nat.mul_le_mul_right _ (by omega)
      have a2 : (4 * m0 - 2) * 2 ^ (k + 1) + 2 * 2 ^ (k + 1) = 4 * (m0 * 2 ^ (k + 1)) := by rw [← Nat.add_mul, show 4 * m0 - 2 + 2 = 4 * m0 by omega, Nat.mul_assoc]
      have a3 : (4 * m0 + 2) * 2 ^ (k + 1) = 4 * (m0 * 2 ^ (k + 1)) + 2 * 2 ^ (k + 1) := by rw [Nat.add_mul, Nat.mul_assoc]
      refine ⟨by omega, by omega, fun h => ?_⟩
      have := h1 h
      omega
    have fin : Sm.lenN V = 53 + (k + 1) → Sm.roundB V = (k + 1) * 4503599627370496 + m0 := by
      intro hn
      have hd : Sm.digR V (k + 1) = m0 := by
        by_cases hV : m0 * 2 ^ (k + 1) ≤ V
        · obtain ⟨r, hr⟩ : ∃ r, V = m0 * 2 ^ (k + 1) + r := ⟨V - m0 * 2 ^ (k + 1), by omega⟩
          rw [digR_is hr (by omega), if_neg]
          rintro (h | ⟨h, h2⟩)
          · omega
          · have := (b1.2.2 h2).2; omega
        · have hx : (m0 - 1) * 2 ^ (k + 1) + 2 ^ (k + 1) = m0 * 2 ^ (k + 1) := by
            have := Nat.add_mul (m0 - 1) 1 (2 ^ (k + 1))
            rw [Nat.one_mul, show m0 - 1 + 1 = m0 by omega] at this
            exact this.symm
          obtain ⟨r, hr⟩ : ∃ r, V = (m0 - 1) * 2 ^ (k + 1) + r := ⟨V - (m0 - 1) * 2 ^ (k + 1), by omega⟩
          rw [digR_is hr (by omega), if_pos]
          · omega
          · rcases Nat.lt_or_ge (2 ^ k) r with h | h
            · exact .inl h
            · right
              refine ⟨by omega, ?_⟩
              rcases Nat.mod_two_eq_zero_or_one m0 with h3 | h3
              · omega
              · have := (b1.2.2 h3).1; omega
      unfold Sm.roundB
      simp only
      rw [hn, if_neg (by omega), show 53 + (k + 1) - 53 = k + 1 by omega, hd]
      have hne : ¬ m0 = 2 ^ 53 := by omega
      rw [if_neg hne, if_neg hne, if_neg (by omega)]
      omega
    have hup : V < 2 ^ (53 + (k + 1)) := by
      have e53 : 2 ^ (53 + (k + 1)) = 9007199254740992 * 2 ^ (k + 1) := by rw [Nat.pow_add]
      rw [e53]
      have : (m0 + 1) * 2 ^ (k + 1) ≤ 9007199254740992 * 2 ^ (k + 1) := Nat.mul_le_mul_right _ (by omega)
      rw [Nat.add_mul, Nat.one_mul] at this
      omega
    by_cases hlow : 4503599627370496 * 2 ^ (k + 1) ≤ V
    · refine fin (Sm.len_lenN ⟨hup, fun _ => ?_⟩)
      rw [show 53 + (k + 1) - 1 = 52 + (k + 1) by omega, Nat.pow_add]
      exact hlow
    · -- just below a power of two
      have hm : m0 = 4503599627370496 := by
        refine Nat.le_antisymm (Nat.le_of_not_lt fun h => hlow ?_) hm52
        have : 4503599627370497 * 2 ^ (k + 1) ≤ m0 * 2 ^ (k + 1) := Nat.mul_le_mul_right _ h
        have e : 4503599627370497 * 2 ^ (k + 1) = 4503599627370496 * 2 ^ (k + 1) + 2 ^ (k + 1) := by rw [Nat.add_mul 4503599627370496 1, Nat.one_mul]
        omega
      have hl1 : l = 1 := F.lp (by omega) hm
      rw [hm, hl1] at hle
      have c1 : (4 * 4503599627370496 - 1) * 2 ^ (k + 1) + 2 ^ (k + 1) = 4 * (4503599627370496 * 2 ^ (k + 1)) := by
        rw [← Nat.mul_assoc, show (4 * 4503599627370496 - 1 : Nat) = 18014398509481983 by decide, show (4 * 4503599627370496 : Nat) = 18014398509481983 + 1 by decide, Nat.add_mul, Nat.one_mul]
      rcases k with _ | j
      · have e2 : (2 : Nat) ^ (0 + 1) = 2 := by decide
        rw [e2] at hle hlow c1
        omega
      · have e3 : 2 ^ (j + 1 + 1) = 4 * 2 ^ j := by rw [Nat.pow_succ, Nat.pow_succ]; omega
        have e4 : 2 ^ (j + 1) = 2 * 2 ^ j := by rw [Nat.pow_succ, Nat.mul_comm]
        have hj := Nat.two_pow_pos j
        have hn : Sm.lenN V = 53 + (j + 1) := by
          refine Sm.len_lenN ⟨?_, fun _ => ?_⟩
          · rw [Nat.pow_add, e4, show (2 : Nat) ^ 53 = 9007199254740992 by decide]
            rw [e3] at hlow
            omega
          · rw [show 53 + (j + 1) - 1 = 52 + (j + 1) by omega, Nat.pow_add, e4, show (2 : Nat) ^ 52 = 4503599627370496 by decide]
            rw [e3] at hle c1
            omega
        obtain ⟨r, hr⟩ : ∃ r, V = 9007199254740991 * 2 ^ (j + 1) + r := ⟨V - 9007199254740991 * 2 ^ (j + 1), by rw [e4]; rw [e3] at hle c1; omega⟩
        have hd : Sm.digR V (j + 1) = 9007199254740992 := by
          rw [digR_is hr (by rw [e4]; rw [e4] at hr; rw [e3] at hlow; omega), if_pos]
          rw [e4] at hr
          rw [e3] at hle c1
          rcases Nat.lt_or_ge (2 ^ j) r with h | h
          · exact .inl h
          · exact .inr ⟨by omega, by decide⟩
        unfold Sm.roundB
        simp only
        rw [hn, if_neg (by omega), show 53 + (j + 1) - 53 = j + 1 by omega, hd]
        have he : (9007199254740992 : Nat) = 2 ^ 53 := by decide
        rw [if_pos he, if_pos he, if_neg (by omega), hm]
        omega
end Go.Proofs.YtemjlkmlodmmfaaGreatDoor.Us

/- PLAIN: the order held against the floats' own, keys and back. By an AI agent. -/
namespace Go.Proofs.YtemjlkmlodmmfaaGreatDoor.Re
open Go.Proofs.YtemjlkmlodmmfaaGreatDoor
set_option linter.unusedVariables false

theorem not_nan {a : Nat} (hn : Flt.nan a = false) : ¬ 9218868437227405312 < a % 9223372036854775808 := fun x => by rw [(nan_iff a).2 x] at hn; cases hn
theorem fv_pos {a : Nat} (h : a < 9223372036854775808) : Flt.fv a = (Flt.mag a : Int) := by
  unfold Flt.fv Flt.neg Flt.rung
  rw [show a / 2 ^ 63 % 2 = 0 by omega, show a % 2 ^ 63 = a by omega]
  rfl
theorem fv_neg {a m : Nat} (h : m + 9223372036854775808 = a) (h2 : a < 18446744073709551616) : Flt.fv a = -(Flt.mag m : Int) := by
  have e1 : a / 2 ^ 63 % 2 = 1 := by omega
  have e2 : a % 2 ^ 63 = m := by omega
  unfold Flt.fv Flt.neg Flt.rung
  rw [e1, e2]
  rfl
theorem split_top {a : Nat} (h : ¬ a < 9223372036854775808) : ∃ m, m + 9223372036854775808 = a := ⟨a - 9223372036854775808, by omega⟩
theorem key_neg {a : Nat} (hn : Flt.nan a = false) (h : 9223372036854775808 ≤ a) : keyF a = 18446744073709551615 - a := by
  unfold keyF; rw [hn, if_neg (by simp), if_pos h]
theorem key_pos {a : Nat} (hn : Flt.nan a = false) (h : a < 9223372036854775808) : keyF a = a + 9223372036854775808 := by
  unfold keyF; rw [hn, if_neg (by simp), if_neg (by omega)]
theorem key_nan {a : Nat} (hn : Flt.nan a = true) : keyF a = 18446744073709551615 := by unfold keyF; rw [hn, if_pos rfl]
theorem key_lt_of {a b : Nat} (ha : a < 18446744073709551616) (hb : b < 18446744073709551616) (hna : Flt.nan a = false) (hnb : Flt.nan b = false) (h : Flt.fv a < Flt.fv b) : keyF a < keyF b := by
  by_cases a0 : a < 9223372036854775808
  · rw [key_pos hna a0]
    rw [fv_pos a0] at h
    by_cases b0 : b < 9223372036854775808
    · rw [key_pos hnb b0]
      rw [fv_pos b0] at h
      have : a < b := Nat.lt_of_not_le fun hle => by have := Flt.mag_le hle; omega
      omega
    · obtain ⟨m, hm⟩ := split_top b0
      rw [fv_neg hm hb] at h
      omega
  · rw [key_neg hna (by omega)]
    obtain ⟨n, hn⟩ := split_top a0
    rw [fv_neg hn ha] at h
    by_cases b0 : b < 9223372036854775808
    · rw [key_pos hnb b0]
      omega
    · rw [key_neg hnb (by omega)]
      obtain ⟨m, hm⟩ := split_top b0
      rw [fv_neg hm hb] at h
      have : m < n := Nat.lt_of_not_le fun hle => by have := Flt.mag_le hle; omega
      omega
theorem cmp_lt {a b : Nat} (h : keyF a < keyF b) : cmpF a b = -1 := by unfold cmpF; rw [if_pos h]
theorem cmp_gt {a b : Nat} (h : keyF b < keyF a) : cmpF a b = 1 := by unfold cmpF; rw [if_neg (by omega), if_pos h]
theorem cmp_eq {a b : Nat} (h : keyF a = keyF b) : cmpF a b = 0 := by unfold cmpF; rw [if_neg (by omega), if_neg (by omega)]
theorem cmp_cases (a b : Nat) : (cmpF a b = -1 ∧ keyF a < keyF b) ∨ (cmpF a b = 0 ∧ keyF a = keyF b) ∨ (cmpF a b = 1 ∧ keyF b < keyF a) := by
  rcases Nat.lt_trichotomy (keyF a) (keyF b) with h | h | h
  · exact .inl ⟨cmp_lt h, h⟩
  · exact .inr (.inl ⟨cmp_eq h, h⟩)
  · exact .inr (.inr ⟨cmp_gt h, h⟩)
theorem cmp_flip (a b : Nat) : cmpF b a = - cmpF a b := by
  rcases cmp_cases a b with ⟨h, k⟩ | ⟨h, k⟩ | ⟨h, k⟩
  · rw [h, cmp_gt k]; rfl
  · rw [h, cmp_eq k.symm]; rfl
  · rw [h, cmp_lt k]
theorem cmp_trans {a b c : Nat} (h1 : cmpF a b ≤ 0) (h2 : cmpF b c ≤ 0) : cmpF a c ≤ 0 := by
  have k1 : keyF a ≤ keyF b := by rcases cmp_cases a b with ⟨h, k⟩ | ⟨h, k⟩ | ⟨h, k⟩ <;> omega
  have k2 : keyF b ≤ keyF c := by rcases cmp_cases b c with ⟨h, k⟩ | ⟨h, k⟩ | ⟨h, k⟩ <;> omega
  rcases cmp_cases a c with ⟨h, k⟩ | ⟨h, k⟩ | ⟨h, k⟩ <;> omega
/-- What the floats' own tests may say beside the order. -/
theorem order_cases {a b : Nat} (ha : a < 18446744073709551616) (hb : b < 18446744073709551616) :
    (cmpF a b = -1 → (FloatKind.f64.format.order a b == some .gt) = false ∧ Flt.nan a = false) ∧
    (cmpF a b = 0 → (FloatKind.f64.format.order a b == some .lt) = false ∧ (FloatKind.f64.format.order a b == some .gt) = false ∧ (Flt.nan a = Flt.nan b)) ∧
    (cmpF a b = 1 → (FloatKind.f64.format.order a b == some .lt) = false ∧ Flt.nan b = false) := by
  have hlt : (FloatKind.f64.format.order a b == some .lt) = true → cmpF a b = -1 := fun h => by
    cases hna : Flt.nan a
    · cases hnb : Flt.nan b
      · rw [Flt.t_lt hna hnb, decide_eq_true_eq] at h
        exact cmp_lt (key_lt_of ha hb hna hnb h)
      · rw [Flt.order_nan (.inr hnb)] at h; cases h
    · rw [Flt.order_nan (.inl hna)] at h; cases h
  have hgt : (FloatKind.f64.format.order a b == some .gt) = true → cmpF a b = 1 := fun h => by
    cases hna : Flt.nan a
    · cases hnb : Flt.nan b
      · rw [Flt.t_gt hna hnb, decide_eq_true_eq] at h
        exact cmp_gt (key_lt_of hb ha hnb hna h)
      · rw [Flt.order_nan (.inr hnb)] at h; cases h
    · rw [Flt.order_nan (.inl hna)] at h; cases h
  have bf : ∀ x : Bool, (x = true → False) → x = false := fun x h => by cases x with | false => rfl | true => exact (h rfl).elim
  have nn : ∀ {x : Nat}, x < 18446744073709551616 → Flt.nan x = false → keyF x < 18446744073709551615 := fun hx h => by have := key_room hx h; omega
  refine ⟨fun h => ⟨bf _ fun x => by have := hgt x; omega, ?_⟩, fun h => ⟨bf _ fun x => by have := hlt x; omega, bf _ fun x => by have := hgt x; omega, ?_⟩, fun h => ⟨bf _ fun x => by have := hlt x; omega, ?_⟩⟩
  · refine bf _ fun x => ?_
    have h1 := key_nan x
    have h2 := key_lt hb
    rcases cmp_cases a b with ⟨k, l⟩ | ⟨k, l⟩ | ⟨k, l⟩ <;> omega
  · have hk : keyF a = keyF b := by rcases cmp_cases a b with ⟨k, l⟩ | ⟨k, l⟩ | ⟨k, l⟩ <;> omega
    cases hna : Flt.nan a <;> cases hnb : Flt.nan b
    · rfl
    · have := nn ha hna; have := key_nan hnb; omega
    · have := nn hb hnb; have := key_nan hna; omega
    · rfl
  · refine bf _ fun x => ?_
    have h1 := key_nan x
    have h2 := key_lt ha
    rcases cmp_cases a b with ⟨k, l⟩ | ⟨k, l⟩ | ⟨k, l⟩ <;> omega
theorem unkey_key {a : Nat} (ha : a < 18446744073709551616) : unkW (keyF a) = canW a ∧ unkB (keyF a) = true := by
  unfold canW
  cases hn : Flt.nan a
  · have hr := key_room ha hn
    have h1 := not_nan hn
    simp only [Bool.false_eq_true, if_false]
    by_cases a0 : a < 9223372036854775808
    · rw [key_pos hn a0] at hr ⊢
      have := unk_pos (k := a + 9223372036854775808) (by omega) hr.1
      exact ⟨this.1.trans (by omega), this.2⟩
    · rw [key_neg hn (by omega)] at hr ⊢
      have := unk_neg (k := 18446744073709551615 - a) hr.2 (by omega)
      exact ⟨this.1.trans (by omega), this.2⟩
  · rw [key_nan hn, if_pos rfl]
    exact unk_last
end Go.Proofs.YtemjlkmlodmmfaaGreatDoor.Re

/- PLAIN: what sums keep: turned round, of one, of two, of whole numbers. By an AI agent. -/
namespace Go.Proofs.YtemjlkmlodmmfaaGreatDoor.Rn
open Go Go.Proofs.YtemjlkmlodmmfaaGreatDoor Ieee
open Go.ChangeShapes Go.WideShapes Go.ChangeAt Go.RowKit
open Go.Proofs.YtemjlkmlodmmfaaGreatDoor.Sm
set_option linter.unusedVariables false
set_option linter.unusedSimpArgs false

theorem foldl_perm {α β : Type} {f : α → β → α} (hc : ∀ a x y, f (f a x) y = f (f a y) x) {l l' : List β} (h : l.Perm l') : ∀ a, l.foldl f a = l'.foldl f a := by
  induction h with
  | nil => intro a; rfl
  | cons x _ ih => intro a; exact ih _
  | swap x y l => intro a; simp only [List.foldl_cons, hc]
  | trans _ _ i1 i2 => intro a; exact (i1 a).trans (i2 a)
theorem bump_comm (s : Sm.Sn) (x y : Nat) : bump (bump s x) y = bump (bump s y) x := by
  unfold bump
  (repeat' split) <;> first | rfl | omega
theorem step_comm (a : Int) (x y : Nat) : sumStep (sumStep a x) y = sumStep (sumStep a y) x := by
  unfold sumStep
  (repeat' split) <;> first | rfl | omega
/-- The sum by two folds over the whole list. -/
def cnt (us : List Nat) : Sm.Sn := us.foldl bump ⟨0, 0, 0, 0, 0⟩
def sm (us : List Nat) : Int := us.foldl sumStep 0
theorem sumW_eq (us : List Nat) : sumW us = if 0 < (cnt us).n ∨ (0 < (cnt us).l ∧ 0 < (cnt us).g) then 9221120237041090561 else if 0 < (cnt us).l then 18442240474082181120 else if 0 < (cnt us).g then 9218868437227405312 else if (cnt us).o = 0 ∧ 0 < (cnt us).m then 9223372036854775808 else sgnR (sm us) := by
  unfold sumW cntK sumK cnt sm
  rw [List.take_length]
theorem sum_perm {us vs : List Nat} (h : us.Perm vs) : sumW us = sumW vs := by
  have h1 : cnt us = cnt vs := foldl_perm bump_comm h _
  have h2 : sm us = sm vs := foldl_perm step_comm h _
  rw [sumW_eq, sumW_eq, h1, h2]
theorem sum_reverse (us : List Nat) : sumW us.reverse = sumW us := sum_perm (List.reverse_perm us)

theorem kind_finite {u : Nat} (h : u % 9223372036854775808 < 9218868437227405312) (hz : u ≠ 9223372036854775808) : kind u = 4 := by
  unfold kind
  rw [if_neg (by omega), if_neg (by omega), if_neg hz]
theorem kind_nan {u : Nat} (h : Flt.nan u = true) : kind u = 0 := by
  have := (Re.nan_iff u).1 h
  unfold kind
  rw [if_pos this]
theorem fin_small {u : Nat} (h : u % 9223372036854775808 < 9218868437227405312) : Flt.Fin u := by
  unfold Flt.Fin Flt.rung; omega

/-- Of one. -/
theorem sum_one {u : Nat} (hu : u < 18446744073709551616) : sumW [u] = canW u := by
  rw [sumW_eq]
  have hc : cnt [u] = bump ⟨0, 0, 0, 0, 0⟩ u := rfl
  have hs : sm [u] = sumStep 0 u := rfl
  rw [hc, hs]
  unfold canW
  cases hn : Flt.nan u
  · have h1 := Re.not_nan hn
    simp only [Bool.false_eq_true, if_false]
    by_cases hi : u % 9223372036854775808 = 9218868437227405312
    · by_cases hneg : u < 9223372036854775808
      · have hk : kind u = 2 := by unfold kind; rw [if_neg h1, if_pos hi, if_pos hneg]
        unfold bump
        rw [hk]
        simp
        omega
      · have hk : kind u = 1 := by unfold kind; rw [if_neg h1, if_pos hi, if_neg hneg]
        unfold bump
        rw [hk]
        simp
        omega
    · by_cases hz : u = 9223372036854775808
      · subst hz
        decide +kernel
      · have hk : kind u = 4 := kind_finite (by omega) hz
        have hS : sumStep 0 u = Flt.fv u := by unfold sumStep; rw [if_pos hk, Int.zero_add, fin_fv hu]
        unfold bump
        rw [hk, hS]
        simp
        rw [sgn_word]
        have hF : Flt.Fin u := fin_small (by omega)
        have hab : (Flt.fv u).natAbs = Flt.mag (Flt.rung u) := Flt.sv_abs _ _
        have hr : Flt.rung u ≤ 2047 * 2 ^ 52 := Nat.le_of_lt hF
        rw [hab, round_mag hr]
        have hd : decide (Flt.fv u < 0) = Flt.neg u := by
          by_cases h2 : u < 9223372036854775808
          · rw [Re.fv_pos h2]
            have : Flt.neg u = false := by unfold Flt.neg; rw [beq_eq_false_iff_ne]; omega
            rw [this, decide_eq_false_iff_not]
            omega
          · obtain ⟨m, hm⟩ := Re.split_top h2
            rw [Re.fv_neg hm hu]
            have : Flt.neg u = true := by unfold Flt.neg; rw [beq_iff_eq]; omega
            rw [this, decide_eq_true_eq]
            have h3 : Flt.mag 0 < Flt.mag m := Flt.mag_lt (by omega)
            rw [Flt.mag_zero] at h3
            omega
        rw [hd, Flt.word_self hu]
  · rw [kind_nan hn |> fun hk => (show bump ⟨0, 0, 0, 0, 0⟩ u = ⟨1, 0, 0, 0, 0⟩ by unfold bump; rw [if_pos hk])]
    simp

/-- A number and its opposite beside. -/
theorem bump_o (s : Sm.Sn) {u : Nat} (h : kind u = 4) : bump s u = { s with o := s.o + 1 } := by
  unfold bump
  rw [h]
  rfl
theorem cnt_from (us : List Nat) : ∀ (s : Sm.Sn) (k : Nat), us.foldl bump { s with o := s.o + k } = { us.foldl bump s with o := (us.foldl bump s).o + k } := by
  induction us with
  | nil => intro s k; rfl
  | cons x r ih =>
    intro s k
    simp only [List.foldl_cons]
    have : bump { s with o := s.o + k } x = { bump s x with o := (bump s x).o + k } := by
      unfold bump
      (repeat' split) <;> first | rfl | omega | (simp; omega)
    rw [this, ih]
theorem sm_from (us : List Nat) : ∀ a : Int, us.foldl sumStep a = us.foldl sumStep 0 + a := by
  induction us with
  | nil => intro a; simp
  | cons x r ih =>
    intro a
    simp only [List.foldl_cons]
    rw [ih (sumStep a x), ih (sumStep 0 x)]
    unfold sumStep
    split <;> omega
theorem cnt_mem {us : List Nat} {x : Nat} (hx : x ∈ us) (h3 : kind x ≠ 3) : 0 < (cnt us).n ∨ 0 < (cnt us).l ∨ 0 < (cnt us).g ∨ (cnt us).o ≠ 0 := by
  have mono : ∀ (l : List Nat) (s : Sm.Sn), s.n ≤ (l.foldl bump s).n ∧ s.l ≤ (l.foldl bump s).l ∧ s.g ≤ (l.foldl bump s).g ∧ s.o ≤ (l.foldl bump s).o := by
    intro l
    induction l with
    | nil => intro s; exact ⟨Nat.le_refl _, Nat.le_refl _, Nat.le_refl _, Nat.le_refl _⟩
    | cons y r ih =>
      intro s
      have h1 := ih (bump s y)
      have h2 : s.n ≤ (bump s y).n ∧ s.l ≤ (bump s y).l ∧ s.g ≤ (bump s y).g ∧ s.o ≤ (bump s y).o := by
        unfold bump
        (repeat' split) <;> simp
      simp only [List.foldl_cons]
      omega
  obtain ⟨a, b, rfl⟩ := List.append_of_mem hx
  have e : cnt (a ++ x :: b) = b.foldl bump (bump (a.foldl bump ⟨0, 0, 0, 0, 0⟩) x) := by unfold cnt; rw [List.foldl_append]; rfl
  rw [e]
  have h1 := mono b (bump (a.foldl bump ⟨0, 0, 0, 0, 0⟩) x)
  generalize a.foldl bump ⟨0, 0, 0, 0, 0⟩ = s at *
  have h2 : 0 < (bump s x).n ∨ 0 < (bump s x).l ∨ 0 < (bump s x).g ∨ (bump s x).o ≠ 0 := by
    unfold bump
    split
    · left; simp
    · split
      · right; left; simp
      · split
        · right; right; left; simp
        · right; right; right; simp [h3]
  omega
theorem sum_more {y z : Nat} {us : List Nat} {x : Nat} (hy : kind y = 4) (hz : kind z = 4) (hyz : fin z = - fin y) (hx : x ∈ us) (h3 : kind x ≠ 3) : sumW ((y :: us) ++ [z]) = sumW us := by
  have hp : ((y :: us) ++ [z]).Perm (y :: z :: us) := by
    simp only [List.cons_append]
    refine List.Perm.cons _ ?_
    exact List.perm_append_comm
  rw [sum_perm hp, sumW_eq, sumW_eq us]
  have hc : cnt (y :: z :: us) = { cnt us with o := (cnt us).o + 2 } := by
    unfold cnt
    simp only [List.foldl_cons]
    rw [bump_o _ hy, bump_o _ hz]
    exact cnt_from us ⟨0, 0, 0, 0, 0⟩ 2
  have hs : sm (y :: z :: us) = sm us := by
    unfold sm
    simp only [List.foldl_cons]
    rw [sm_from]
    unfold sumStep
    rw [if_pos hy, if_pos hz, hyz]
    omega
  have hm := cnt_mem hx h3
  rw [hc, hs]
  generalize cnt us = s at *
  obtain ⟨n, l, g, o, m⟩ := s
  simp only at *
  (repeat' split) <;> first | rfl | omega
end Go.Proofs.YtemjlkmlodmmfaaGreatDoor.Rn
