/- The plain law of series: what is packed is unpacked, and back. No program in sight. By an AI agent. -/
import Derived.Test.YtafglefiodanbaaDoorSerI
namespace Go.Proofs.YtafglefiodanbaaDoor
open Bt
set_option linter.unusedVariables false

/-- The bits of bytes from a place on. -/
def seg (R : List Nat) (a k : Nat) : List Bool := (List.range k).map fun j => bitAt R (a + j)
theorem seg_length (R : List Nat) (a k : Nat) : (seg R a k).length = k := by simp [seg]
theorem seg_append (R : List Nat) (a p q : Nat) : seg R a (p + q) = seg R a p ++ seg R (a + p) q := by
  unfold seg
  rw [List.range_add, List.map_append, List.map_map]
  congr 1
  refine List.map_congr_left fun j _ => ?_
  simp [Nat.add_assoc]
theorem getB_seg (R : List Nat) (a k : Nat) : getB R a k = val (seg R a k) := by
  induction k with
  | zero => rfl
  | succ k ih =>
    rw [seg_append R a k 1, val_append, getB, ih]
    simp [seg, val]
    omega
theorem bitsOf_getB (R : List Nat) (a k : Nat) : bitsOf (getB R a k) k = seg R a k := by
  have h := bitsOf_val (seg R a k)
  rw [seg_length] at h
  rw [getB_seg]; exact h
theorem getB_of {R : List Nat} {a x k : Nat} (h : seg R a k = bitsOf x k) (hx : x < 2 ^ k) : getB R a k = x := by
  rw [getB_seg, h, val_bitsOf, Nat.mod_eq_of_lt hx]

theorem seg_split {R : List Nat} {a : Nat} {A B : List Bool} (h : seg R a (A ++ B).length = A ++ B) : seg R a A.length = A ∧ seg R (a + A.length) B.length = B := by
  rw [List.length_append, seg_append] at h
  exact List.append_inj h (seg_length _ _ _)

theorem enc_some {x : Nat} (h : x ≠ 0) : enc x = [true] ++ (bitsOf (64 - Lib.bitLen x) 6 ++ (bitsOf (Lib.bitLen x - Lib.ctz 64 x - 1) 6 ++ bitsOf (x / 2 ^ Lib.ctz 64 x) (Lib.bitLen x - Lib.ctz 64 x))) := by
  unfold enc; rw [if_neg h]; rfl

theorem chg_of_enc {R : List Nat} {a x : Nat} (hx : x < 2 ^ 64) (h : seg R a (enc x).length = enc x) (hl : a + (enc x).length ≤ 8 * R.length) : chg R a = (x, 0, (enc x).length) := by
  by_cases h0 : x = 0
  · subst h0
    have e : enc 0 = [false] := by simp [enc]
    rw [e] at h hl ⊢
    have hg : getB R a 1 = 0 := getB_of (x := 0) (by exact h) (by omega)
    simp only [List.length_singleton] at hl
    unfold chg
    simp only
    rw [if_neg (by omega), if_pos hg]
    rfl
  · obtain ⟨e1, e2, e3, e4, e5, e6⟩ := ends_of h0 hx
    rw [enc_some h0] at h hl ⊢
    generalize Lib.bitLen x = L at *
    generalize Lib.ctz 64 x = t at *
    generalize hy : x / 2 ^ t = y at *
    obtain ⟨h1, h⟩ := seg_split h
    obtain ⟨h2, h⟩ := seg_split h
    obtain ⟨h3, h4⟩ := seg_split h
    simp only [List.length_append, bitsOf_length, List.length_singleton] at h1 h2 h3 h4 hl ⊢
    rw [show a + 1 + 6 = a + 7 by omega] at h3 h4
    rw [show a + 7 + 6 = a + 13 by omega] at h4
    have g1 : getB R a 1 = 1 := getB_of (x := 1) (by exact h1) (by omega)
    have g2 : getB R (a + 1) 6 = 64 - L := getB_of h2 (by omega)
    have g3 : getB R (a + 7) 6 = L - t - 1 := getB_of h3 (by omega)
    have g4 : getB R (a + 13) (L - t) = y := getB_of h4 e5
    unfold chg
    simp only
    rw [if_neg (by omega), if_neg (by omega), if_neg (by omega), g2, g3, show L - t - 1 + 1 = L - t by omega, if_neg (by omega), g4, if_neg]
    · rw [show 64 - (64 - L) - (L - t) = t by omega, e4, show 13 + (L - t) = 1 + (6 + (6 + (L - t))) by omega]
    · rintro (h | h | h)
      · omega
      · omega
      · have : 1 ≤ y / 2 ^ (L - t - 1) := (Nat.le_div_iff_mul_le (Nat.two_pow_pos _)).2 (by omega)
        omega

theorem bitLen_unique {x n : Nat} (hx : x < 2 ^ 64) (h1 : 2 ^ (n - 1) ≤ x) (h2 : x < 2 ^ n) (hn : 1 ≤ n) : Lib.bitLen x = n := by
  have h0 : x ≠ 0 := by have := Nat.two_pow_pos (n - 1); omega
  obtain ⟨a, b, c, d⟩ := bitLen_bounds 64 x hx (by omega) h0
  generalize Lib.bitLen x = L at *
  rcases Nat.lt_trichotomy L n with h | h | h
  · have : 2 ^ L ≤ 2 ^ (n - 1) := Nat.pow_le_pow_right (by omega) (by omega); omega
  · exact h
  · have : 2 ^ n ≤ 2 ^ (L - 1) := Nat.pow_le_pow_right (by omega) (by omega); omega

theorem odd_unique : ∀ s t y z : Nat, y % 2 = 1 → z % 2 = 1 → y * 2 ^ s = z * 2 ^ t → s = t ∧ y = z := by
  intro s
  induction s with
  | zero =>
    intro t y z hy hz h
    cases t with
    | zero => simp at h; exact ⟨rfl, h⟩
    | succ t => rw [Nat.pow_succ, ← Nat.mul_assoc] at h; simp at h; omega
  | succ s ih =>
    intro t y z hy hz h
    cases t with
    | zero => rw [Nat.pow_succ, ← Nat.mul_assoc] at h; simp at h; omega
    | succ t =>
      rw [Nat.pow_succ, Nat.pow_succ, ← Nat.mul_assoc, ← Nat.mul_assoc] at h
      have := ih t y z hy hz (by omega)
      exact ⟨by omega, this.2⟩

theorem enc_of_chg {R : List Nat} {a x m : Nat} (ha : a ≤ 8 * R.length) (h : chg R a = (x, 0, m)) : x < 2 ^ 64 ∧ m = (enc x).length ∧ seg R a m = enc x := by
  have hlt := (chg_ok R a ha).1
  rw [h] at hlt
  refine ⟨hlt, ?_⟩
  unfold chg at h
  simp only at h
  split at h
  · cases h
  split at h
  · rename_i h1 h2
    cases h
    have e : enc 0 = [false] := by simp [enc]
    rw [e]
    refine ⟨rfl, ?_⟩
    rw [← bitsOf_getB, h2]
    rfl
  split at h
  · cases h
  split at h
  · cases h
  split at h
  · cases h
  · rename_i h1 h2 h3 h4 h5
    have hy := getB_lt R (a + 13) (getB R (a + 7) 6 + 1)
    have b1 := bitsOf_getB R a 1
    have b2 := bitsOf_getB R (a + 1) 6
    have b3 := bitsOf_getB R (a + 7) 6
    have b4 := bitsOf_getB R (a + 13) (getB R (a + 7) 6 + 1)
    have g1 : getB R a 1 = 1 := by have := getB_lt R a 1; omega
    have hlead := getB_lt R (a + 1) 6
    rw [g1] at b1
    generalize getB R (a + 13) (getB R (a + 7) 6 + 1) = y at *
    generalize getB R (a + 7) 6 = n0 at *
    generalize getB R (a + 1) 6 = lead at *
    have hs : ¬ 64 < lead + (n0 + 1) := fun h => h5 (Or.inl h)
    have hodd : ¬ y % 2 = 0 := fun h => h5 (Or.inr (Or.inl h))
    have htop : ¬ y / 2 ^ n0 = 0 := fun h => h5 (Or.inr (Or.inr (by simpa using h)))
    obtain ⟨hx, hm⟩ : y * 2 ^ (64 - lead - (n0 + 1)) = x ∧ 13 + (n0 + 1) = m := by
      simp only [Prod.mk.injEq, true_and] at h; exact h
    subst hm
    generalize hsh : 64 - lead - (n0 + 1) = s at *
    have hy1 : 2 ^ n0 ≤ y := by
      refine Nat.le_of_not_lt fun h => htop (Nat.div_eq_of_lt h)
    have hx1 : 2 ^ (n0 + s) ≤ x := by rw [← hx, Nat.pow_add]; exact Nat.mul_le_mul_right _ hy1
    have hx2 : x < 2 ^ (n0 + 1 + s) := by rw [← hx, Nat.pow_add]; exact Nat.mul_lt_mul_of_pos_right hy (Nat.two_pow_pos _)
    have hbl : Lib.bitLen x = n0 + 1 + s := bitLen_unique hlt (by rw [show n0 + 1 + s - 1 = n0 + s by omega]; exact hx1) hx2 (by omega)
    have h0 : x ≠ 0 := by have := Nat.two_pow_pos (n0 + s); omega
    obtain ⟨e1, e2, e3, e4, e5, e6⟩ := ends_of h0 hlt
    obtain ⟨hst, hyz⟩ := odd_unique s (Lib.ctz 64 x) y _ (by omega) e3 (hx.trans e4.symm)
    rw [enc_some h0, ← hyz, ← hst, hbl]
    rw [show n0 + 1 + s - s = n0 + 1 by omega, show n0 + 1 - 1 = n0 by omega, show 64 - (n0 + 1 + s) = lead by omega]
    refine ⟨by simp only [List.length_append, bitsOf_length, List.length_singleton]; omega, ?_⟩
    rw [show 13 + (n0 + 1) = 1 + (6 + (6 + (n0 + 1))) by omega, seg_append, seg_append, seg_append, show a + 1 + 6 = a + 7 by omega, show a + 7 + 6 = a + 13 by omega, ← b1, ← b2, ← b3, ← b4]
    rfl

/-! ### the numbers -/
/-- A number's bits, behind those of the one ahead. -/
def nbits (i u last : Nat) : List Bool := if i = 0 then bitsOf u 64 else enc (u ^^^ last)
theorem encN_succ (us : List Nat) (k : Nat) : encN us (k + 1) = encN us k ++ nbits k (us.getD k 0) (us.getD (k - 1) 0) := by
  rw [encN]
  unfold nbits
  by_cases h : k = 0
  · subst h; rfl
  · rw [if_neg h, if_neg h]

theorem encN_front (us r : List Nat) : ∀ k, k ≤ us.length → encN (us ++ r) k = encN us k := by
  intro k
  induction k with
  | zero => intro _; rfl
  | succ k ih =>
    intro hk
    have e : ∀ j, j < us.length → (us ++ r).getD j 0 = us.getD j 0 := fun j hj => by
      rw [List.getD_eq_getElem?_getD, List.getD_eq_getElem?_getD, List.getElem?_append_left hj]
    rw [encN_succ, encN_succ, ih (by omega), e k (by omega), e (k - 1) (by omega)]

theorem xor_back (a b : Nat) : b ^^^ (a ^^^ b) = a := by
  rw [Nat.xor_comm a b, ← Nat.xor_assoc, Nat.xor_self, Nat.zero_xor]

theorem num_of {R : List Nat} {a i u last : Nat} (hu : u < 2 ^ 64) (hl : last < 2 ^ 64) (h : seg R a (nbits i u last).length = nbits i u last) (hb : a + (nbits i u last).length ≤ 8 * R.length) : num R a i last = (u, 0, (nbits i u last).length) := by
  unfold nbits at h hb ⊢
  unfold num
  by_cases h0 : i = 0
  · rw [if_pos h0] at h hb ⊢
    rw [bitsOf_length] at h hb ⊢
    rw [if_neg (by omega), if_neg (by omega), getB_of h hu]
  · rw [if_neg h0] at h hb ⊢
    rw [if_pos (by omega), chg_of_enc (xor_u64 hu hl) h hb]
    simp only [xor_back]

theorem of_num {R : List Nat} {a i u last m : Nat} (ha : a ≤ 8 * R.length) (hl : last < 2 ^ 64) (h : num R a i last = (u, 0, m)) : u < 2 ^ 64 ∧ m = (nbits i u last).length ∧ seg R a m = nbits i u last ∧ a + m ≤ 8 * R.length := by
  have hok := num_ok R a i last ha hl
  rw [h] at hok
  refine ⟨hok.1, ?_⟩
  unfold num at h
  unfold nbits
  by_cases h0 : i = 0
  · rw [if_neg (by omega)] at h
    rw [if_pos h0]
    split at h
    · cases h
    · simp only [Prod.mk.injEq, true_and] at h
      obtain ⟨rfl, rfl⟩ := h
      exact ⟨(bitsOf_length _ _).symm, (bitsOf_getB R a 64).symm, hok.2⟩
  · rw [if_pos (by omega)] at h
    rw [if_neg h0]
    simp only [Prod.mk.injEq] at h
    obtain ⟨rfl, h2, h3⟩ := h
    have hc : chg R a = ((chg R a).1, 0, m) := by rw [← h2, ← h3]
    obtain ⟨h4, h5, h6⟩ := enc_of_chg ha hc
    have hx : last ^^^ (chg R a).1 ^^^ last = (chg R a).1 := by rw [Nat.xor_comm, ← Nat.xor_assoc, Nat.xor_self, Nat.zero_xor]
    rw [hx]
    exact ⟨h5, h6, hok.2⟩

theorem encN_split (us : List Nat) (n : Nat) : ∀ g k, k + g = n → ∃ r, encN us n = encN us k ++ r := by
  intro g
  induction g with
  | zero => intro k h; exact ⟨[], by rw [List.append_nil, show n = k by omega]⟩
  | succ g ih =>
    intro k h
    obtain ⟨r, hr⟩ := ih (k + 1) (by omega)
    exact ⟨_, by rw [hr, encN_succ, List.append_assoc]⟩

theorem unpGo_of {R us : List Nat} (hu : ∀ i, us.getD i 0 < 2 ^ 64) (hs : seg R 0 (encN us us.length).length = encN us us.length) (hb : (encN us us.length).length ≤ 8 * R.length) :
    ∀ g k l, k + g = us.length → (0 < k → l = us.getD (k - 1) 0) → l < 2 ^ 64 → unpGo R g k (encN us k).length l (us.take k) = (us, (encN us us.length).length, 0) := by
  intro g
  induction g with
  | zero =>
    intro k l hk _ _
    have : k = us.length := by omega
    subst this
    rw [unpGo, List.take_length]
  | succ g ih =>
    intro k l hk hl hl64
    have hkn : k < us.length := by omega
    obtain ⟨r, hr⟩ := encN_split us us.length g (k + 1) (by omega)
    have e : nbits k (us.getD k 0) l = nbits k (us.getD k 0) (us.getD (k - 1) 0) := by
      unfold nbits
      by_cases h0 : k = 0
      · rw [if_pos h0, if_pos h0]
      · rw [if_neg h0, if_neg h0, hl (by omega)]
    have hs2 := hs
    have hb2 := hb
    rw [hr, encN_succ, ← e] at hs2 hb2
    have h1 := (seg_split (seg_split hs2).1).2
    rw [Nat.zero_add] at h1
    rw [List.length_append, List.length_append] at hb2
    have hn := num_of (hu k) hl64 h1 (by omega)
    rw [unpGo, hn]
    simp only [if_true]
    have := ih (k + 1) (us.getD k 0) (by omega) (fun _ => rfl) (hu k)
    rw [encN_succ, ← e, List.length_append, take_succ_getD us k hkn] at this
    exact this

theorem of_unpGo {R : List Nat} : ∀ g k l (acc us : List Nat) (a' : Nat), acc.length = k → (0 < k → l = acc.getD (k - 1) 0) → l < 2 ^ 64 → (∀ i, acc.getD i 0 < 2 ^ 64) →
    seg R 0 (encN acc k).length = encN acc k → (encN acc k).length ≤ 8 * R.length → unpGo R g k (encN acc k).length l acc = (us, a', 0) →
    us.length = k + g ∧ (∀ i, us.getD i 0 < 2 ^ 64) ∧ a' = (encN us us.length).length ∧ seg R 0 a' = encN us us.length ∧ a' ≤ 8 * R.length := by
  intro g
  induction g with
  | zero =>
    intro k l acc us a' hk _ _ hacc hs hb h
    rw [unpGo] at h
    simp only [Prod.mk.injEq, and_true] at h
    obtain ⟨rfl, rfl⟩ := h
    subst hk
    exact ⟨rfl, hacc, rfl, hs, hb⟩
  | succ g ih =>
    intro k l acc us a' hk hl hl64 hacc hs hb h
    rw [unpGo] at h
    split at h
    · rename_i h0
      have hn : num R (encN acc k).length k l = ((num R (encN acc k).length k l).1, 0, (num R (encN acc k).length k l).2.2) := by rw [← h0]
      obtain ⟨h1, h2, h3, h4⟩ := of_num hb hl64 hn
      generalize (num R (encN acc k).length k l).1 = x at *
      generalize (num R (encN acc k).length k l).2.2 = m at *
      have e : encN (acc ++ [x]) (k + 1) = encN acc k ++ nbits k x l := by
        rw [encN_succ, encN_front acc [x] k (by omega)]
        congr 1
        have ek : (acc ++ [x]).getD k 0 = x := by rw [List.getD_eq_getElem?_getD, ← hk]; simp
        rw [ek]
        unfold nbits
        by_cases hz : k = 0
        · rw [if_pos hz, if_pos hz]
        · rw [if_neg hz, if_neg hz, hl (by omega)]
          congr 2
          rw [List.getD_eq_getElem?_getD, List.getD_eq_getElem?_getD, List.getElem?_append_left (by omega)]
      have el : (encN (acc ++ [x]) (k + 1)).length = (encN acc k).length + m := by rw [e, List.length_append, h2]
      have := ih (k + 1) x (acc ++ [x]) us a' (by simp [hk]) (fun _ => by rw [List.getD_eq_getElem?_getD, Nat.add_sub_cancel, ← hk]; simp) h1 (fun i => by
          rw [List.getD_eq_getElem?_getD, List.getElem?_append]
          split
          · have := hacc i; rw [List.getD_eq_getElem?_getD] at this; exact this
          · rcases hq : [x][i - acc.length]? with _ | y
            · simp
            · have := List.mem_of_getElem? hq; simp at this; subst this; simpa using h1)
        (by rw [el, seg_append, Nat.zero_add, hs, h3, e]) (by rw [el]; exact h4) (by rw [el]; exact h)
      exact ⟨by omega, this.2⟩
    · rename_i h5
      simp only [Prod.mk.injEq] at h
      exact absurd h.2.2 h5

/-! ### the last byte; the varint; the whole -/
theorem getB_zero (R : List Nat) (a : Nat) : ∀ k, getB R a k = 0 ↔ ∀ j, j < k → bitAt R (a + j) = false := by
  intro k
  induction k with
  | zero => simp [getB]
  | succ k ih =>
    rw [getB]
    constructor
    · intro h j hj
      have h1 : getB R a k = 0 := by omega
      have h2 : (bitAt R (a + k)).toNat = 0 := by omega
      rcases Nat.lt_or_ge j k with h3 | h3
      · exact ih.1 h1 j h3
      · have : j = k := by omega
        subst this
        cases hb : bitAt R (a + j) with
        | false => rfl
        | true => rw [hb] at h2; cases h2
    · intro h
      rw [ih.2 fun j hj => h j (by omega), h k (by omega)]
      rfl

theorem bitAt_front (A Z : List Nat) (j : Nat) (h : j < 8 * A.length) : bitAt (A ++ Z) j = bitAt A j := by
  unfold bitAt
  rw [List.getD_eq_getElem?_getD, List.getElem?_append_left (by omega), ← List.getD_eq_getElem?_getD]

theorem getD_pad (bs : List Bool) (j : Nat) (h : bs.length ≤ j) : bs.getD j false = false := by
  rw [List.getD_eq_getElem?_getD, List.getElem?_eq_none h]; rfl

theorem seg_pack (bs : List Bool) (Z : List Nat) : seg (pack bs ++ Z) 0 bs.length = bs := by
  refine List.ext_getElem (seg_length _ _ _) fun j h1 h2 => ?_
  have hp := pack_length bs
  simp only [seg, List.getElem_map, List.getElem_range, Nat.zero_add]
  rw [bitAt_front _ _ _ (by omega), bitAt_pack, List.getD_eq_getElem?_getD, List.getElem?_eq_getElem h2]
  rfl

theorem rst_pack (bs : List Bool) (Z : List Nat) : rst (pack bs ++ Z) bs.length = ((pack bs).length, 0) := by
  have hp := pack_length bs
  unfold rst
  rw [if_pos, hp]
  rw [getB_zero]
  intro j hj
  rw [bitAt_front _ _ _ (by omega), bitAt_pack, getD_pad _ _ (by omega)]

theorem getD_app0 (A Z : List Nat) (i : Nat) (h : i < A.length) : (A ++ Z).getD i 0 = A.getD i 0 := by
  rw [List.getD_eq_getElem?_getD, List.getElem?_append_left h, ← List.getD_eq_getElem?_getD]

theorem trip {α : Type} {x : α × Nat × Nat} (h : x.2.2 = 0) : x = (x.1, x.2.1, 0) := by
  obtain ⟨a, b, c⟩ := x
  simp only at h
  rw [h]

theorem rv_vnt (n : Nat) (hn : n < 16384) (Z : List Nat) : rv (vnt n ++ Z) 10 0 = (n, (vnt n).length, 0) := by
  have hl := vnt_length n
  by_cases h : n < 128
  · have e : vnt n = [n] := by unfold vnt; rw [if_pos h]
    rw [e] at hl ⊢
    rw [rv]
    simp only [List.length_cons, List.cons_append, List.nil_append, List.getD_cons_zero, Nat.sub_self]
    rw [if_neg (by omega), if_neg (by omega), if_neg (by omega), if_neg (by omega)]
    simp
  · have e : vnt n = [n % 128 + 128, n / 128] := by unfold vnt; rw [if_neg h]
    rw [e] at hl ⊢
    rw [rv]
    simp only [List.length_cons, List.length_nil, List.cons_append, List.nil_append, List.getD_cons_zero, Nat.sub_self]
    rw [if_neg (by omega), if_neg (by omega), if_pos (by omega), rv]
    simp only [List.length_cons, List.getD_cons_succ, List.getD_cons_zero, show 9 - 8 = 1 by omega]
    rw [if_neg (by omega), if_neg (by omega), if_neg (by omega), if_neg (by omega)]
    simp only [Prod.mk.injEq, and_true]
    omega

theorem rv_ge (B : List Nat) : ∀ g n, g ≤ 8 → (rv B g n).2.2 = 0 → 16384 ≤ (rv B g n).1 := by
  intro g
  induction g with
  | zero => intro n _ h; simp [rv] at h
  | succ g ih =>
    intro n hg
    unfold rv
    split
    · intro h; simp at h
    split
    · intro h; simp at h
    split
    · exact fun h => ih _ (by omega) h
    split
    · intro h; simp at h
    · rename_i h1 h2 h3 h4
      intro _
      simp only
      have hc : 1 ≤ B.getD (9 - g) 0 := by
        refine Nat.pos_of_ne_zero fun h => h4 ⟨by omega, h⟩
      have hp : 2 ^ 14 ≤ 2 ^ (7 * (9 - g)) := Nat.pow_le_pow_right (by omega) (by omega)
      have := Nat.mul_le_mul hc hp
      omega

theorem take_succ' (B : List Nat) (i : Nat) (h : i < B.length) : B.take (i + 1) = B.take i ++ [B.getD i 0] := take_succ_getD B i h

theorem vnt_of_rv {B : List Nat} {c s : Nat} (hB : ∀ i, B.getD i 0 < 256) (h : rv B 10 0 = (c, s, 0)) (hc : c < 16384) : vnt c = B.take s ∧ s ≤ B.length := by
  have hs := rv_ok B 10 0 (by omega)
  rw [h] at hs
  refine ⟨?_, (hs rfl).2.1⟩
  rw [rv] at h
  simp only [Nat.sub_self] at h
  split at h
  · cases h
  split at h
  · cases h
  split at h
  · rename_i h1 h2 h3
    rw [rv] at h
    simp only [show 9 - 8 = 1 by omega] at h
    split at h
    · cases h
    split at h
    · cases h
    split at h
    · have := rv_ge B 8 _ (by omega) (by rw [h])
      rw [h] at this
      simp only at this
      omega
    split at h
    · cases h
    · rename_i h4 h5 h6 h7
      have b0 := hB 0
      have b1 := hB 1
      have t2 : B.take 2 = [B.getD 0 0, B.getD 1 0] := by
        rw [show 2 = 1 + 1 by rfl, take_succ_getD B 1 (by omega), show 1 = 0 + 1 by rfl, take_succ_getD B 0 (by omega)]; rfl
      simp only [Prod.mk.injEq, and_true] at h
      obtain ⟨h8, rfl⟩ := h
      generalize B.getD 0 0 = x at *
      generalize B.getD 1 0 = y at *
      rw [show 1 + 1 = 2 by rfl, t2]
      unfold vnt
      rw [if_neg (by omega)]
      congr 1
      · omega
      · congr 1; omega
  split at h
  · cases h
  · rename_i h1 h2 h3 h4
    simp only [Prod.mk.injEq, and_true] at h
    obtain ⟨h8, rfl⟩ := h
    have t1 : B.take 1 = [B.getD 0 0] := by rw [show 1 = 0 + 1 by rfl, take_succ_getD B 0 (by omega)]; rfl
    rw [show 0 + 1 = 1 by rfl, t1]
    have hc0 : c = B.getD 0 0 := by omega
    unfold vnt
    rw [if_pos (by omega), hc0]

/-- WHAT IS PACKED IS UNPACKED, whatever stands behind. -/
theorem unp_pack {us : List Nat} (hn : us.length ≤ 4096) (hu : ∀ i, us.getD i 0 < 2 ^ 64) (Z : List Nat) :
    unp (vnt us.length ++ pack (encN us us.length) ++ Z) = (us, (vnt us.length ++ pack (encN us us.length)).length, 0) := by
  have hp := pack_length (encN us us.length)
  unfold unp
  rw [List.append_assoc, rv_vnt us.length (by omega)]
  simp only [if_true]
  rw [if_neg (by omega), List.drop_left]
  have hgo := unpGo_of (R := pack (encN us us.length) ++ Z) hu (seg_pack _ _) (by rw [List.length_append]; omega) us.length 0 0 (by omega) (fun h => absurd h (by omega)) (by omega)
  rw [show (encN us 0).length = 0 by rfl, List.take_zero] at hgo
  rw [hgo]
  simp only [if_true]
  rw [rst_pack]
  simp only [if_true, List.length_append]

/-- WHAT IS UNPACKED, PACKED, IS WHAT WAS READ. -/
theorem pack_unp {B us : List Nat} {n : Nat} (hB : ∀ i, B.getD i 0 < 256) (h : unp B = (us, n, 0)) : us.length ≤ 4096 ∧ (∀ i, us.getD i 0 < 2 ^ 64) ∧ n ≤ B.length ∧ vnt us.length ++ pack (encN us us.length) = B.take n := by
  unfold unp at h
  simp only at h
  split at h
  · rename_i h0
    split at h
    · cases h
    · rename_i h1
      have hrv : rv B 10 0 = ((rv B 10 0).1, (rv B 10 0).2.1, 0) := trip h0
      generalize (rv B 10 0).1 = c at *
      generalize (rv B 10 0).2.1 = s at *
      obtain ⟨hv, hs⟩ := vnt_of_rv hB hrv (by omega)
      split at h
      · rename_i h2
        have hgo : unpGo (B.drop s) c 0 0 0 [] = ((unpGo (B.drop s) c 0 0 0 []).1, (unpGo (B.drop s) c 0 0 0 []).2.1, 0) := trip h2
        generalize (unpGo (B.drop s) c 0 0 0 []).1 = vs at *
        generalize (unpGo (B.drop s) c 0 0 0 []).2.1 = a at *
        obtain ⟨g1, g2, g3, g4, g5⟩ := of_unpGo c 0 0 [] vs a rfl (fun h => absurd h (by omega)) (by omega) (by intro i; simp) rfl (by simp [encN]) hgo
        split at h
        · rename_i h3
          simp only [Prod.mk.injEq, and_true] at h
          obtain ⟨rfl, rfl⟩ := h
          have hl : (B.drop s).length = B.length - s := List.length_drop
          have hq : getB (B.drop s) a ((8 - a % 8) % 8) = 0 ∧ (rst (B.drop s) a).1 = (a + 7) / 8 := by
            unfold rst at h3 ⊢
            split
            · rename_i h4; exact ⟨h4, rfl⟩
            · rename_i h4; rw [if_neg h4] at h3; cases h3
          rw [hq.2]
          have hz := (getB_zero _ _ _).1 hq.1
          have hvl : vs.length = c := by omega
          have hbq : (a + 7) / 8 ≤ (B.drop s).length := by omega
          refine ⟨by omega, g2, by omega, ?_⟩
          have hpk : (B.drop s).take ((a + 7) / 8) = pack (encN vs vs.length) := by
            refine pack_unique ?_ ?_ ?_
            · rw [List.length_take, ← g3]; omega
            · intro x hx
              have hx2 := List.mem_of_mem_drop (List.mem_of_mem_take hx)
              obtain ⟨i, hi, rfl⟩ := List.mem_iff_getElem.1 hx2
              have := hB i
              rw [List.getD_eq_getElem?_getD, List.getElem?_eq_getElem hi] at this
              exact this
            · intro k hk
              rw [List.length_take] at hk
              have hbk : bitAt ((B.drop s).take ((a + 7) / 8)) k = bitAt (B.drop s) k := by
                have := bitAt_front ((B.drop s).take ((a + 7) / 8)) ((B.drop s).drop ((a + 7) / 8)) k (by rw [List.length_take]; omega)
                rw [List.take_append_drop] at this
                exact this.symm
              rw [hbk]
              rcases Nat.lt_or_ge k a with h5 | h5
              · have : (seg (B.drop s) 0 a)[k]? = (encN vs vs.length)[k]? := by rw [g4]
                rw [List.getD_eq_getElem?_getD, ← this]
                simp [seg, h5]
              · rw [getD_pad _ _ (by omega)]
                have := hz (k - a) (by omega)
                rw [show a + (k - a) = k by omega] at this
                exact this
          rw [hvl, hv, ← hvl, ← hpk]
          rw [List.take_add]
        · rename_i h4
          simp only [Prod.mk.injEq] at h
          exact absurd h.2.2 h4
      · rename_i h4
        simp only [Prod.mk.injEq] at h
        exact absurd h.2.2 h4
  · rename_i h4
    simp only [Prod.mk.injEq] at h
    exact absurd h.2.2 h4
end Go.Proofs.YtafglefiodanbaaDoor
