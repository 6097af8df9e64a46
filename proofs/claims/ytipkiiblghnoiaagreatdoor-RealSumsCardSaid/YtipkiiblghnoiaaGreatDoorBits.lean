/- PLAIN MATHEMATICS OF BIT STRINGS packed into bytes. No program in sight. By an AI agent. -/
namespace Go.Proofs.YtipkiiblghnoiaaGreatDoor.Bt

/-- The lowest n bits of x, the highest first. -/
def bitsOf (x : Nat) : Nat → List Bool
  | 0 => []
  | n + 1 => x.testBit n :: bitsOf x n

theorem bitsOf_length (x n : Nat) : (bitsOf x n).length = n := by
  induction n with
  | zero => rfl
  | succ n ih => simp [bitsOf, ih]

/-- A bit string as a number. -/
def val (l : List Bool) : Nat := l.foldl (fun a b => 2 * a + b.toNat) 0

theorem foldl_val (l : List Bool) : ∀ a, l.foldl (fun a b => 2 * a + b.toNat) a = a * 2 ^ l.length + val l := by
  unfold val
  induction l with
  | nil => intro a; simp
  | cons b l ih =>
    intro a
    simp only [List.foldl_cons, List.length_cons]
    rw [ih, ih (2 * 0 + b.toNat), Nat.pow_succ, Nat.add_mul, Nat.add_mul]
    rw [Nat.mul_comm 2 a, Nat.mul_assoc a 2, Nat.mul_comm 2 (2 ^ l.length)]
    omega

theorem val_append (l r : List Bool) : val (l ++ r) = val l * 2 ^ r.length + val r := by
  unfold val
  rw [List.foldl_append, foldl_val]
  rfl
theorem val_cons (b : Bool) (l : List Bool) : val (b :: l) = b.toNat * 2 ^ l.length + val l := by
  have := val_append [b] l
  simpa [val] using this
theorem val_lt (l : List Bool) : val l < 2 ^ l.length := by
  induction l with
  | nil => simp [val]
  | cons b l ih =>
    rw [val_cons, List.length_cons, Nat.pow_succ]
    have : b.toNat ≤ 1 := by cases b <;> simp
    have h2 : b.toNat * 2 ^ l.length ≤ 1 * 2 ^ l.length := Nat.mul_le_mul_right _ this
    omega

theorem val_bitsOf (x n : Nat) : val (bitsOf x n) = x % 2 ^ n := by
  induction n with
  | zero => simp [bitsOf, val, Nat.mod_one]
  | succ n ih =>
    rw [bitsOf, val_cons, bitsOf_length, ih, Nat.mod_pow_succ, Nat.toNat_testBit]
    rw [Nat.mul_comm, Nat.add_comm]

theorem bitsOf_val (l : List Bool) : bitsOf (val l) l.length = l := by
  induction l with
  | nil => rfl
  | cons b l ih =>
    rw [List.length_cons, bitsOf, val_cons]
    have hl := val_lt l
    congr 1
    · rw [Nat.mul_comm, Nat.testBit_two_pow_mul_add _ hl]
      simp
      cases b <;> rfl
    · have : ∀ n, n ≤ l.length → bitsOf (b.toNat * 2 ^ l.length + val l) n = bitsOf (val l) n := by
        intro n hn
        induction n with
        | zero => rfl
        | succ n ih2 =>
          rw [bitsOf, bitsOf, ih2 (by omega), Nat.mul_comm, Nat.testBit_two_pow_mul_add _ hl, if_pos (by omega)]
      rw [this _ (Nat.le_refl _), ih]

/-! ### bytes -/
/-- Byte i of a bit string, filled up with 0. -/
def byteAt (bs : List Bool) (i : Nat) : Nat := val ((List.range 8).map fun j => bs.getD (8 * i + j) false)
/-- As many bytes as the bits need. -/
def pack (bs : List Bool) : List Nat := (List.range ((bs.length + 7) / 8)).map (byteAt bs)
/-- Bit k of bytes. -/
def bitAt (B : List Nat) (k : Nat) : Bool := (B.getD (k / 8) 0).testBit (7 - k % 8)
/-- All bits of bytes. -/
def unpack (B : List Nat) : List Bool := (List.range (8 * B.length)).map (bitAt B)

theorem byteAt_lt (bs : List Bool) (i : Nat) : byteAt bs i < 256 := by
  have := val_lt ((List.range 8).map fun j => bs.getD (8 * i + j) false)
  simpa [byteAt] using this

theorem pack_length (bs : List Bool) : (pack bs).length = (bs.length + 7) / 8 := by simp [pack]

theorem testBit_val (l : List Bool) : ∀ j, j < l.length → (val l).testBit (l.length - 1 - j) = l.getD j false := by
  induction l with
  | nil => intro j h; simp at h
  | cons b l ih =>
    intro j h
    rw [val_cons, List.length_cons, Nat.mul_comm, Nat.testBit_two_pow_mul_add _ (val_lt l)]
    cases j with
    | zero =>
      rw [if_neg (by omega), show l.length + 1 - 1 - 0 - l.length = 0 by omega]
      cases b <;> rfl
    | succ j =>
      simp only [List.length_cons] at h
      rw [if_pos (by omega), show l.length + 1 - 1 - (j + 1) = l.length - 1 - j by omega, ih j (by omega)]
      rfl

theorem byteAt_testBit (bs : List Bool) (i j : Nat) (h : j < 8) : (byteAt bs i).testBit (7 - j) = bs.getD (8 * i + j) false := by
  have := testBit_val ((List.range 8).map fun j => bs.getD (8 * i + j) false) j (by simpa using h)
  simp only [List.length_map, List.length_range] at this
  unfold byteAt
  rw [show 7 - j = 8 - 1 - j by omega, this]
  simp [List.getD_eq_getElem?_getD, h]

theorem pack_getD (bs : List Bool) (i : Nat) (h : i < (bs.length + 7) / 8) : (pack bs).getD i 0 = byteAt bs i := by
  unfold pack
  simp [List.getD_eq_getElem?_getD, h]

/-- What was packed is there, bit by bit; behind it 0. -/
theorem bitAt_pack (bs : List Bool) (k : Nat) : bitAt (pack bs) k = bs.getD k false := by
  unfold bitAt
  by_cases h : k / 8 < (bs.length + 7) / 8
  · rw [pack_getD bs _ h, byteAt_testBit bs _ _ (by omega), show 8 * (k / 8) + k % 8 = k by omega]
  · have h1 : (pack bs).getD (k / 8) 0 = 0 := by
      simp [List.getD_eq_getElem?_getD, List.getElem?_eq_none (show (pack bs).length ≤ k / 8 by rw [pack_length]; omega)]
    have h2 : bs.getD k false = false := by
      simp [List.getD_eq_getElem?_getD, List.getElem?_eq_none (show bs.length ≤ k by omega)]
    rw [h1, h2]
    simp

theorem eq_of_testBit {a b : Nat} (ha : a < 256) (hb : b < 256) (h : ∀ j, j < 8 → a.testBit (7 - j) = b.testBit (7 - j)) : a = b := by
  refine Nat.eq_of_testBit_eq fun i => ?_
  by_cases hi : i < 8
  · have := h (7 - i) (by omega)
    rwa [show 7 - (7 - i) = i by omega] at this
  · rw [Nat.testBit_lt_two_pow (Nat.lt_of_lt_of_le ha (by show 2 ^ 8 ≤ _; exact Nat.pow_le_pow_right (by omega) (by omega))), Nat.testBit_lt_two_pow (Nat.lt_of_lt_of_le hb (by show 2 ^ 8 ≤ _; exact Nat.pow_le_pow_right (by omega) (by omega)))]

/-- Bytes whose bits are those, filled up with 0, are the packed ones. -/
theorem pack_unique {B : List Nat} {bs : List Bool} (hl : B.length = (bs.length + 7) / 8) (hB : ∀ x ∈ B, x < 256) (h : ∀ k, k < 8 * B.length → bitAt B k = bs.getD k false) : B = pack bs := by
  refine List.ext_getElem (by rw [hl, pack_length]) fun i h1 h2 => ?_
  have h3 : (pack bs)[i] = byteAt bs i := by simp [pack]
  rw [h3]
  refine eq_of_testBit (hB _ (List.getElem_mem h1)) (byteAt_lt _ _) fun j hj => ?_
  rw [byteAt_testBit bs i j hj]
  have := h (8 * i + j) (by omega)
  unfold bitAt at this
  rw [show (8 * i + j) / 8 = i by omega, show (8 * i + j) % 8 = j by omega] at this
  rw [← this]
  congr 1
  simp [List.getD_eq_getElem?_getD, h1]

/-- A byte more, all 0, where a byte ends. -/
theorem byteAt_snoc (bs : List Bool) (c : Bool) (i : Nat) : byteAt (bs ++ [c]) i = if i = bs.length / 8 then byteAt bs i ||| c.toNat <<< (7 - bs.length % 8) else byteAt bs i := by
  have hc : c.toNat ≤ 1 := by cases c <;> simp
  have hs : c.toNat <<< (7 - bs.length % 8) < 256 := by
    rw [Nat.shiftLeft_eq]
    have : 2 ^ (7 - bs.length % 8) ≤ 2 ^ 7 := Nat.pow_le_pow_right (by omega) (by omega)
    have := Nat.mul_le_mul hc this
    omega
  refine eq_of_testBit (byteAt_lt _ _) ?_ fun j hj => ?_
  · split
    · exact Nat.or_lt_two_pow (n := 8) (byteAt_lt _ _) hs
    · exact byteAt_lt _ _
  · rw [byteAt_testBit _ _ _ hj]
    have hget : (bs ++ [c]).getD (8 * i + j) false = if 8 * i + j = bs.length then c else bs.getD (8 * i + j) false := by
      simp only [List.getD_eq_getElem?_getD]
      by_cases h1 : 8 * i + j < bs.length
      · rw [List.getElem?_append_left h1, if_neg (by omega)]
      · rw [List.getElem?_append_right (by omega)]
        by_cases h2 : 8 * i + j = bs.length
        · rw [if_pos h2, h2, Nat.sub_self]; rfl
        · rw [if_neg h2, List.getElem?_eq_none (by simp; omega), List.getElem?_eq_none (by omega)]
    rw [hget]
    by_cases hi : i = bs.length / 8
    · rw [if_pos hi, Nat.testBit_or, byteAt_testBit bs _ _ hj, Nat.testBit_shiftLeft]
      by_cases h2 : 8 * i + j = bs.length
      · rw [if_pos h2]
        have : bs.getD (8 * i + j) false = false := by
          simp [List.getD_eq_getElem?_getD, List.getElem?_eq_none (show bs.length ≤ 8 * i + j by omega)]
        rw [this, show 7 - j = 7 - bs.length % 8 by omega, Nat.sub_self]
        cases c <;> simp
      · rw [if_neg h2]
        have : (c.toNat.testBit (7 - j - (7 - bs.length % 8)) && decide (7 - bs.length % 8 ≤ 7 - j)) = false ∨ bs.getD (8 * i + j) false = true ∨ True := Or.inr (Or.inr trivial)
        by_cases h3 : 7 - bs.length % 8 ≤ 7 - j
        · have h4 : 7 - j - (7 - bs.length % 8) ≠ 0 := by omega
          have h5 : c.toNat.testBit (7 - j - (7 - bs.length % 8)) = false := by
            cases c
            · simp
            · exact Nat.testBit_lt_two_pow (by show 1 < _; exact Nat.one_lt_two_pow h4)
          rw [h5]; simp
        · simp [h3]
    · rw [if_neg hi, if_neg (by omega), byteAt_testBit bs _ _ hj]

/-- A bit more, where a byte ends: a byte more. -/
theorem pack_snoc_new (bs : List Bool) (c : Bool) (h : bs.length % 8 = 0) : pack (bs ++ [c]) = pack bs ++ [0 ||| c.toNat <<< 7] := by
  unfold pack
  rw [List.length_append, List.length_singleton, show (bs.length + 1 + 7) / 8 = (bs.length + 7) / 8 + 1 by omega, List.range_succ, List.map_append]
  congr 1
  · refine List.map_congr_left fun i hi => ?_
    rw [byteAt_snoc, if_neg (by have := List.mem_range.1 hi; omega)]
  · simp only [List.map_cons, List.map_nil]
    rw [byteAt_snoc, if_pos (by omega), h]
    congr 2
    refine eq_of_testBit (byteAt_lt _ _) (by omega) fun j hj => ?_
    rw [byteAt_testBit bs _ _ hj]
    simp [List.getD_eq_getElem?_getD, List.getElem?_eq_none (show bs.length ≤ 8 * ((bs.length + 7) / 8) + j by omega)]

/-- A bit more within a byte. -/
theorem pack_snoc_in (bs : List Bool) (c : Bool) (h : bs.length % 8 ≠ 0) : pack (bs ++ [c]) = (pack bs).set ((pack bs).length - 1) ((pack bs).getD ((pack bs).length - 1) 0 ||| c.toNat <<< (7 - bs.length % 8)) := by
  have hl : (pack (bs ++ [c])).length = (pack bs).length := by rw [pack_length, pack_length, List.length_append, List.length_singleton]; omega
  refine List.ext_getElem (by rw [List.length_set, hl]) fun i h1 h2 => ?_
  have hp := pack_length bs
  have h3 : (pack (bs ++ [c]))[i] = byteAt (bs ++ [c]) i := by simp [pack]
  rw [h3, byteAt_snoc, List.getElem_set]
  have h4 : i < (pack bs).length := by omega
  have h5 : (pack bs)[i] = byteAt bs i := by simp [pack]
  by_cases hi : i = bs.length / 8
  · rw [if_pos hi, if_pos (by omega), show (pack bs).length - 1 = i by omega, pack_getD bs _ (by omega)]
  · rw [if_neg hi, if_neg (by omega), h5]
end Go.Proofs.YtipkiiblghnoiaaGreatDoor.Bt
