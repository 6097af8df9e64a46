/- A float's text as a string: its bytes, how it begins, what it is read as; plainly. By an AI agent. -/
import Derived.Test.YtemjlkmlodmmfaaGreatDoorMg18
import Derived.Test.YtemjlkmlodmmfaaGreatDoorMg08
import Derived.Test.YtemjlkmlodmmfaaGreatDoorMg13
import Derived.Test.YtemjlkmlodmmfaaGreatDoorMg00
import Derived.Test.YtemjlkmlodmmfaaGreatDoorMg03
import Derived.StillTailTactics
import Derived.Deep.RegionHeld3
namespace Go.Proofs.YtemjlkmlodmmfaaGreatDoor.Us
set_option linter.unusedVariables false
set_option linter.unusedSimpArgs false
/-- The characters of a text. -/
def Chr (c : Nat) : Prop := (48 ≤ c ∧ c ≤ 57) ∨ c = 45 ∨ c = 43 ∨ c = 46 ∨ c = 101
theorem expT_chr (e : Int) : (∀ c ∈ expT e, Chr c ∨ 999 < e.natAbs) ∧ (expT e).length ≤ 4 := by
  unfold expT
  constructor
  · intro c hc
    by_cases hb : 999 < e.natAbs
    · exact Or.inr hb
    · left
      rcases List.mem_cons.1 hc with h | h
      · subst h; unfold Chr; split <;> omega
      · unfold Chr
        split at h
        · simp at h; omega
        · split at h <;> simp at h <;> omega
  · rw [List.length_cons]
    split
    · simp
    · split <;> simp
theorem fmtG_chr (neg : Bool) {D : List Nat} {dp : Int} (hD : ∀ c ∈ D, 48 ≤ c ∧ c ≤ 57) (hl : D.length ≤ 20) (h1 : -900 < dp) (h2 : dp < 900) : (∀ c ∈ fmtG neg D dp, Chr c) ∧ (fmtG neg D dp).length ≤ 40 := by
  have hdig : ∀ c ∈ D, Chr c := fun c hc => Or.inl (hD c hc)
  have hs : ∀ c ∈ (if neg then [45] else [] : List Nat), Chr c := by
    intro c hc; cases neg <;> simp at hc; subst hc; exact Or.inr (Or.inl rfl)
  have hsl : (if neg then [45] else [] : List Nat).length ≤ 1 := by cases neg <;> simp
  unfold fmtG
  have key : ∀ L : List Nat, (∀ c ∈ L, Chr c) → L.length ≤ 39 → (∀ c ∈ (if neg then [45] else []) ++ L, Chr c) ∧ ((if neg then [45] else []) ++ L).length ≤ 40 := by
    intro L hL hLl
    refine ⟨fun c hc => ?_, by rw [List.length_append]; omega⟩
    rcases List.mem_append.1 hc with h | h
    · exact hs c h
    · exact hL c h
  refine key _ ?_ ?_
  · intro c hc
    split at hc
    · simp at hc; subst hc; exact Or.inl (by omega)
    · split at hc
      · unfold fmtE at hc
        rcases List.mem_append.1 hc with h | h
        · rcases List.mem_append.1 h with h | h
          · exact hdig c (List.mem_of_mem_take h)
          · split at h
            · rcases List.mem_cons.1 h with h | h
              · subst h; exact Or.inr (Or.inr (Or.inr (Or.inl rfl)))
              · exact hdig c (List.mem_of_mem_drop h)
            · simp at h
        · rcases List.mem_cons.1 h with h | h
          · subst h; exact Or.inr (Or.inr (Or.inr (Or.inr rfl)))
          · rcases (expT_chr (dp - 1)).1 c h with h | h
            · exact h
            · omega
      · unfold fmtF at hc
        split at hc
        · rcases List.mem_append.1 hc with h | h
          · rcases List.mem_append.1 h with h | h
            · exact hdig c (List.mem_of_mem_take h)
            · have := List.eq_of_mem_replicate h; subst this; exact Or.inl (by omega)
          · split at h
            · rcases List.mem_cons.1 h with h | h
              · subst h; exact Or.inr (Or.inr (Or.inr (Or.inl rfl)))
              · exact hdig c (List.mem_of_mem_drop h)
            · simp at h
        · rcases List.mem_append.1 hc with h | h
          · rcases List.mem_cons.1 h with h | h
            · subst h; exact Or.inl (by omega)
            · rcases List.mem_cons.1 h with h | h
              · subst h; exact Or.inr (Or.inr (Or.inr (Or.inl rfl)))
              · have := List.eq_of_mem_replicate h; subst this; exact Or.inl (by omega)
          · exact hdig c h
  · split
    · simp
    · next hne =>
      split
      · unfold fmtE
        have := (expT_chr (dp - 1)).2
        rw [List.length_append, List.length_append, List.length_cons, List.length_take]
        split
        · rw [List.length_cons, List.length_drop]; omega
        · simp; omega
      · next hE =>
        unfold fmtF
        split
        · rw [List.length_append, List.length_append, List.length_replicate, List.length_take]
          split
          · rw [List.length_cons, List.length_drop]; omega
          · simp; omega
        · rw [List.length_append, List.length_cons, List.length_cons, List.length_replicate]; omega
theorem textF_chr {u : Nat} (hk : exb u < 2047) : (∀ c ∈ textF u, Chr c) ∧ (textF u).length ≤ 40 := by
  unfold textF
  by_cases hm : Sm.mant u = 0
  · rw [if_pos hm]
    exact fmtG_chr _ (fun c hc => by simp at hc) (by simp) (by omega) (by omega)
  · rw [if_neg hm]
    obtain ⟨hok, -, -⟩ := ok_of u hk hm
    have h0 := dd_pos hok
    have D := digs_ok h0.1 (dd_57 hok)
    have h18 := D.n18
    have hz := D.nzn
    exact fmtG_chr _ D.all (by rw [D.len]; omega) (by omega) (by omega)
theorem chr_lt {c : Nat} (h : Chr c) : c < 256 := by unfold Chr at h; omega
/-- A text begins with a digit, or with a sign and a digit. -/
theorem textF_head {u : Nat} (hk : exb u < 2047) : ∃ (neg : Bool) (c : Nat) (t : List Nat), textF u = (if neg then [45] else []) ++ c :: t ∧ 48 ≤ c ∧ c ≤ 57 := by
  unfold textF
  by_cases hm : Sm.mant u = 0
  · rw [if_pos hm]; exact ⟨Sm.isNeg u, 48, [], rfl, by omega, by omega⟩
  · rw [if_neg hm]
    obtain ⟨hok, -, -⟩ := ok_of u hk hm
    have h0 := dd_pos hok
    have D := digs_ok h0.1 (dd_57 hok)
    unfold fmtG
    rw [if_neg D.ne]
    have hall := D.all
    cases hD : digs u with
    | nil => exact absurd hD D.ne
    | cons c t =>
      rw [hD] at hall
      have hc := hall c (List.mem_cons_self ..)
      by_cases hE : (Lib.nDigits (dd u) : Int) + pq u - 1 < -4 ∨ 6 ≤ (Lib.nDigits (dd u) : Int) + pq u - 1
      · rw [if_pos hE]
        exact ⟨Sm.isNeg u, c, _, rfl, hc.1, hc.2⟩
      · rw [if_neg hE]
        unfold fmtF
        by_cases hp : 0 < (Lib.nDigits (dd u) : Int) + pq u
        · rw [if_pos hp]
          obtain ⟨k, hk'⟩ : ∃ k, ((Lib.nDigits (dd u) : Int) + pq u).toNat = k + 1 := ⟨((Lib.nDigits (dd u) : Int) + pq u).toNat - 1, by omega⟩
          rw [hk', List.take_succ_cons]
          exact ⟨Sm.isNeg u, c, _, rfl, hc.1, hc.2⟩
        · rw [if_neg hp]
          exact ⟨Sm.isNeg u, 48, _, rfl, by omega, by omega⟩
end Go.Proofs.YtemjlkmlodmmfaaGreatDoor.Us
namespace Go.Proofs.YtemjlkmlodmmfaaGreatDoor
open Go.ChangeShapes Go.WideShapes Go.ChangeAt Go.RowKit
open Bt Dc
set_option linter.unusedVariables false
set_option linter.unusedSimpArgs false

theorem Bs_str {L : List Nat} (h : ∀ c ∈ L, c < 256) : Bs (strOf L) = L := by
  unfold Bs strOf
  rw [strOfNums_data, List.map_map, List.map_map]
  have : ∀ c ∈ L, ((UInt8.toNat ∘ fun n : Int => UInt8.ofNat n.toNat) ∘ fun n : Nat => (n : Int)) c = id c := by
    intro c hc
    simp only [Function.comp, Int.toNat_natCast, id]
    rw [UInt8.toNat_ofNat']
    exact Nat.mod_eq_of_lt (h c hc)
  rw [List.map_congr_left this, List.map_id]
theorem ch_str {L : List Nat} (h : ∀ c ∈ L, c < 256) (i : Nat) (hi : i < L.length) : ch (strOf L) (i : Int) = L[i] := by
  have hsz : (strOf L).size = L.length := by rw [← Bs_len, Bs_str h]
  have := Bs_drop (strOf L) i (by omega)
  rw [Bs_str h, List.drop_eq_getElem_cons hi] at this
  injection this with h1 _
  exact h1.symm

/-- A finite float's text is read as the float. -/
theorem text_rds {u : Nat} (hu : u < 18446744073709551616) (hk : Us.exb u < 2047) : Rds (strOf (Us.textF u)) u := by
  obtain ⟨hc, -⟩ := Us.textF_chr hk
  have h256 : ∀ c ∈ Us.textF u, c < 256 := fun c h => Us.chr_lt (hc c h)
  have hsz : (strOf (Us.textF u)).size = (Us.textF u).length := by rw [← Bs_len, Bs_str h256]
  obtain ⟨neg, c, t, ht, c1, c2⟩ := Us.textF_head hk
  refine ⟨?_, ?_⟩
  · cases neg
    · left
      have h0 := ch_str h256 0 (by rw [ht]; simp)
      have h1 : ch (strOf (Us.textF u)) 0 = c := by
        rw [show ((0 : Nat) : Int) = 0 from rfl] at h0
        rw [h0]; simp [ht]
      exact ⟨by rw [hsz, ht]; simp, by rw [h1]; exact c1, by rw [h1]; exact c2⟩
    · right
      have h0 := ch_str h256 0 (by rw [ht]; simp)
      have h1 := ch_str h256 1 (by rw [ht]; simp)
      rw [show ((0 : Nat) : Int) = 0 from rfl] at h0
      rw [show ((1 : Nat) : Int) = 1 from rfl] at h1
      have e0 : ch (strOf (Us.textF u)) 0 = 45 := by rw [h0]; simp [ht]
      have e1 : ch (strOf (Us.textF u)) 1 = c := by rw [h1]; simp [ht]
      exact ⟨e0, by rw [hsz, ht]; simp, by rw [e1]; exact c1, by rw [e1]; exact c2⟩
  · rw [Bs_str h256, hsz]
    by_cases hm : Sm.mant u = 0
    · refine ⟨0, 0, Sm.isNeg u, ?_, Or.inl ⟨rfl, ?_⟩⟩
      · unfold Us.textF
        rw [if_pos hm]
        exact Us.rdF_nought _ _
      · rw [sg_word hu]
        have h0 : u % 9223372036854775808 = 0 := by
          unfold Sm.mant at hm
          unfold Us.exb at hk
          split at hm <;> omega
        omega
    · obtain ⟨m, p, h1, h2, h3, h4, h5, h6⟩ := Us.text_reads hk hm
      exact ⟨m, p, Sm.isNeg u, h1, Or.inr ⟨h2, h3, h4, h5, h6, hm, hk, hu, rfl⟩⟩
end Go.Proofs.YtemjlkmlodmmfaaGreatDoor

/- Contract of real.Read, of any string. By an AI agent. -/
namespace Go.Proofs.YtemjlkmlodmmfaaGreatDoor
open Go.ChangeShapes Go.WideShapes Go.ChangeAt Go.RowKit
open Bt Dc
set_option linter.unusedVariables false
set_option linter.unusedSimpArgs false

/-- What Read ought to tell of a string. -/
structure RrOk (s : ByteArray) (y : Nat) (k : Int) : Prop where
  lt : y < 18446744073709551616
  yes : ∀ u, u < 18446744073709551616 → s = txt u → y = canW u ∧ k = 0
  no : (∀ u, u < 18446744073709551616 → s ≠ txt u) → y = 0 ∧ k = 66
  back : k = 0 → txt y = s
theorem not_num {s : ByteArray} (h : ¬NumS s) {u : Nat} (hu : u < 18446744073709551616) (hk : Us.exb u < 2047) : s ≠ strOf (Us.textF u) := fun e => h (by rw [e]; exact (text_rds hu hk).num)
theorem three {u : Nat} (hu : u < 18446744073709551616) : (9218868437227405312 < u % 9223372036854775808 ∧ txt u = ⟨#[110, 97, 110]⟩) ∨ (u = 9218868437227405312 ∧ txt u = ⟨#[105, 110, 102]⟩) ∨ (u = 18442240474082181120 ∧ txt u = ⟨#[45, 105, 110, 102]⟩) ∨ (Us.exb u < 2047 ∧ u % 9223372036854775808 < 9218868437227405312 ∧ txt u = strOf (Us.textF u)) := by
  have h := txt_eq u
  by_cases h1 : 9218868437227405312 < u % 9223372036854775808
  · rw [if_pos h1] at h; exact Or.inl ⟨h1, h⟩
  · rw [if_neg h1] at h
    by_cases h2 : u % 9223372036854775808 = 9218868437227405312
    · rw [if_pos h2] at h
      by_cases h3 : u < 9223372036854775808
      · rw [if_pos h3] at h; exact Or.inr (Or.inl ⟨by omega, h⟩)
      · rw [if_neg h3] at h; exact Or.inr (Or.inr (Or.inl ⟨by omega, h⟩))
    · rw [if_neg h2] at h
      refine Or.inr (Or.inr (Or.inr ⟨?_, by omega, h⟩))
      unfold Us.exb
      omega
theorem can_nan {u : Nat} (h : 9218868437227405312 < u % 9223372036854775808) : canW u = 9221120237041090561 := by
  have h1 : Flt.nan u = true := by
    unfold Flt.nan Flt.rung
    rw [decide_eq_true_eq]
    have e : 2047 * 2 ^ 52 = 9218868437227405312 := by decide
    have e2 : (2 : Nat) ^ 63 = 9223372036854775808 := by decide
    omega
  unfold canW
  rw [if_pos h1]
theorem can_num {u : Nat} (h : ¬ 9218868437227405312 < u % 9223372036854775808) : canW u = u := by
  have h1 : ¬ Flt.nan u = true := by
    unfold Flt.nan Flt.rung
    rw [decide_eq_true_eq]
    have e : 2047 * 2 ^ 52 = 9218868437227405312 := by decide
    have e2 : (2 : Nat) ^ 63 = 9223372036854775808 := by decide
    omega
  unfold canW
  rw [if_neg h1]
theorem num_nan : ¬NumS ⟨#[110, 97, 110]⟩ := by unfold NumS Dg0; decide
theorem num_inf : ¬NumS ⟨#[105, 110, 102]⟩ := by unfold NumS Dg0; decide
theorem num_ninf : ¬NumS ⟨#[45, 105, 110, 102]⟩ := by unfold NumS Dg0; decide
theorem rr_nan : RrOk ⟨#[110, 97, 110]⟩ 9221120237041090561 0 := by
  refine ⟨by omega, fun u hu h => ?_, fun h => absurd (show _ = txt 9221120237041090561 by decide +kernel) (h _ (by omega)), fun _ => by decide +kernel⟩
  rcases three hu with ⟨h1, h2⟩ | ⟨h1, h2⟩ | ⟨h1, h2⟩ | ⟨h1, h2, h3⟩
  · exact ⟨(can_nan h1).symm, rfl⟩
  · rw [h2] at h; exact absurd h (by decide)
  · rw [h2] at h; exact absurd h (by decide)
  · rw [h3] at h; exact absurd h (not_num num_nan hu h1)
theorem rr_inf : RrOk ⟨#[105, 110, 102]⟩ 9218868437227405312 0 := by
  refine ⟨by omega, fun u hu h => ?_, fun h => absurd (show _ = txt 9218868437227405312 by decide +kernel) (h _ (by omega)), fun _ => by decide +kernel⟩
  rcases three hu with ⟨h1, h2⟩ | ⟨h1, h2⟩ | ⟨h1, h2⟩ | ⟨h1, h2, h3⟩
  · rw [h2] at h; exact absurd h (by decide)
  · subst h1; exact ⟨(can_num (by decide)).symm, rfl⟩
  · rw [h2] at h; exact absurd h (by decide)
  · rw [h3] at h; exact absurd h (not_num num_inf hu h1)
theorem rr_ninf : RrOk ⟨#[45, 105, 110, 102]⟩ 18442240474082181120 0 := by
  refine ⟨by omega, fun u hu h => ?_, fun h => absurd (show _ = txt 18442240474082181120 by decide +kernel) (h _ (by omega)), fun _ => by decide +kernel⟩
  rcases three hu with ⟨h1, h2⟩ | ⟨h1, h2⟩ | ⟨h1, h2⟩ | ⟨h1, h2, h3⟩
  · rw [h2] at h; exact absurd h (by decide)
  · rw [h2] at h; exact absurd h (by decide)
  · subst h1; exact ⟨(can_num (by decide)).symm, rfl⟩
  · rw [h3] at h; exact absurd h (not_num num_ninf hu h1)
/-- Where the string is none of the three. -/
theorem fin_txt {s : ByteArray} {u : Nat} (hu : u < 18446744073709551616) (n1 : s ≠ ⟨#[110, 97, 110]⟩) (n2 : s ≠ ⟨#[105, 110, 102]⟩) (n3 : s ≠ ⟨#[45, 105, 110, 102]⟩) (h : s = txt u) : Rds s u ∧ canW u = u ∧ Us.exb u < 2047 ∧ s = strOf (Us.textF u) := by
  rcases three hu with ⟨h1, h2⟩ | ⟨h1, h2⟩ | ⟨h1, h2⟩ | ⟨h1, h2, h3⟩
  · exact absurd (h.trans h2) n1
  · exact absurd (h.trans h2) n2
  · exact absurd (h.trans h2) n3
  · refine ⟨?_, can_num (by omega), h1, h.trans h3⟩
    rw [h, h3]; exact text_rds hu h1
theorem rr_good {s : ByteArray} {f : Nat} (n1 : s ≠ ⟨#[110, 97, 110]⟩) (n2 : s ≠ ⟨#[105, 110, 102]⟩) (n3 : s ≠ ⟨#[45, 105, 110, 102]⟩) (hf : f < 18446744073709551616) (hU : ∀ u, Rds s u → f = u) (ht : txt f = s) : RrOk s f 0 := by
  refine ⟨hf, fun u hu h => ?_, fun h => absurd ht.symm (h f hf), fun _ => ht⟩
  obtain ⟨h1, h2, -, -⟩ := fin_txt hu n1 n2 n3 h
  exact ⟨by rw [h2]; exact hU u h1, rfl⟩
theorem rr_bad {s : ByteArray} (h : ∀ u, u < 18446744073709551616 → s ≠ txt u) : RrOk s 0 66 := ⟨by omega, fun u hu e => absurd e (h u hu), fun _ => ⟨rfl, rfl⟩, fun e => by omega⟩

theorem tb_up {B : Nat} {w : World} (h : Tb B w) : Tb w.heap.size w := ⟨fun w2 k => h.pows w2 (k.mono h.size), fun w2 k => h.tens w2 (k.mono h.size), Nat.lt_of_lt_of_le h.lt h.size, Nat.le_refl _⟩
theorem str_eq {s t : ByteArray} (h : s.toList = t.toList) : s = t := by
  rw [ByteArray.toList_eq, ByteArray.toList_eq] at h
  obtain ⟨a⟩ := s
  obtain ⟨b⟩ := t
  have : a = b := by simpa using h
  rw [this]
theorem str_ne {s t : ByteArray} {L : List UInt8} (h : s ≠ t) (hL : t.toList = L) : (s.toList == L) = false := by
  rw [beq_eq_false_iff_ne, ← hL]
  exact fun e => h (str_eq e)
/-- What both Reads tell. -/
def RdR (s : ByteArray) (w : World) (e : Ending) (w' : World) : Prop := (∃ (y : Nat) (k : Int), e = .returned (.tuple #[.float .f64 y, .int .i64 k]) ∧ RrOk s y k) ∧ Below w.heap.size w w'
theorem RdR.of {s : ByteArray} {w w' : World} {e : Ending} (y : Nat) (k : Int) (he : e = .returned (.tuple #[.float .f64 y, .int .i64 k])) (h : RrOk s y k) (hb : Below w.heap.size w w') : RdR s w e w' := ⟨⟨y, k, he, h⟩, hb⟩

set_option maxRecDepth 100000 in
set_option maxHeartbeats 2000000 in
theorem rread_any (s : ByteArray) (w : World) (hs : s.size ≤ 1073741824) (hE : Env w.heap.size w) (hX : ∀ w', Below w.heap.size w w' → ErrsAt w') (hT : Tb w.heap.size w) : Calls Tryz.prog 7 #[.string s] w (RdR s w) := by
  have HA := Lib.hid (parse_any s w hs hE hX)
  have HT := Lib.hid (fun (u : Nat) (w1 : World) (hu : u < 18446744073709551616) (hb : Below w.heap.size w w1) => text_any u w1 hu (tb_up (hT.on hb)))
  have HW := Lib.hid (Below.refl w.heap.size w)
  clear hs hE hX hT
  by_cases n1 : s = ⟨#[110, 97, 110]⟩
  · subst n1
    go_enter Tryz.func7, Tryz.ntmps7
    go_wp2_with fail
    refine (Sm.none_any _).mono ?_
    rintro e w1 ⟨rfl, rfl⟩
    go_wp2_with fail
    go_ret2
    exact RdR.of _ 0 rfl rr_nan HW.out
  · have q1 : (s.toList == [110, 97, 110]) = false := str_ne n1 (by rw [ByteArray.toList_eq])
    by_cases n2 : s = ⟨#[105, 110, 102]⟩
    · subst n2
      go_enter Tryz.func7, Tryz.ntmps7
      go_wp2_with fail
      refine (Sm.inf_up _).mono ?_
      rintro e w1 ⟨rfl, rfl⟩
      go_wp2_with fail
      go_ret2
      exact RdR.of _ 0 rfl rr_inf HW.out
    · have q2 : (s.toList == [105, 110, 102]) = false := str_ne n2 (by rw [ByteArray.toList_eq])
      by_cases n3 : s = ⟨#[45, 105, 110, 102]⟩
      · subst n3
        go_enter Tryz.func7, Tryz.ntmps7
        go_wp2_with fail
        refine (Sm.inf_down _).mono ?_
        rintro e w1 ⟨rfl, rfl⟩
        go_wp2_with fail
        go_ret2
        exact RdR.of _ 0 rfl rr_ninf HW.out
      · have q3 : (s.toList == [45, 105, 110, 102]) = false := str_ne n3 (by rw [ByteArray.toList_eq])
        have HN := Lib.hid (And.intro n1 (And.intro n2 n3))
        clear n1 n2 n3
        go_enter Tryz.func7, Tryz.ntmps7
        go_wp2_with fail
        refine HA.out.mono ?_
        rintro e w1 ⟨⟨f, v, rfl, hq⟩, hb⟩
        have HQ := Lib.hid (And.intro hq.out hb)
        clear hq hb
        have HU : RowKit.Hid (f < 18446744073709551616 ∧ ∀ u, Rds s u → f = u) := Lib.hid ⟨HQ.out.1.1, fun u hu => (HQ.out.1.2.2 u hu).1⟩
        have HB1 := Lib.hid HQ.out.2
        have hv := HQ.out.1.2.1
        have hU2 : ∀ u, Rds s u → v = .nilIface := fun u hu => (HQ.out.1.2.2 u hu).2
        clear HQ
        rcases hv with rfl | ⟨N, rfl⟩
        · clear hU2
          have HTx := Lib.hid (HT.out f w1 HU.out.1 HB1.out)
          go_wp2_with fail
          refine HTx.out.mono ?_
          rintro e w2 ⟨rfl, hb2⟩
          have HB2 := Lib.hid (HB1.out.trans (hb2.mono HB1.out.size))
          clear hb2
          by_cases ht : txt f = s
          · have ht1 : ((txt f).toList == s.toList) = true := by rw [ht]; simp
            have ht2 : ((txt f).toList != s.toList) = false := by rw [ht]; simp
            have HTT := Lib.hid ht
            clear ht
            have hgood := Lib.hid (rr_good HN.out.1 HN.out.2.1 HN.out.2.2 HU.out.1 HU.out.2 HTT.out)
            generalize txt f = tx at *
            go_wp2_with fail
            go_ret2
            exact RdR.of f 0 rfl hgood.out HB2.out
          · have ht1 : ((txt f).toList == s.toList) = false := by rw [beq_eq_false_iff_ne]; exact fun e => ht (str_eq e)
            have ht2 : ((txt f).toList != s.toList) = true := by rw [bne_iff_ne]; exact fun e => ht (str_eq e)
            have HTT := Lib.hid ht
            clear ht
            have hbad : RowKit.Hid (RrOk s 0 66) := Lib.hid (rr_bad fun u hu e => by
              obtain ⟨h1, -, -, -⟩ := fin_txt hu HN.out.1 HN.out.2.1 HN.out.2.2 e
              have := HU.out.2 u h1
              exact HTT.out (by rw [this]; exact e.symm))
            generalize txt f = tx at *
            go_wp2_with fail
            go_ret2
            exact RdR.of 0 66 rfl hbad.out HB2.out
        · have hne : ∀ W : World, (binOp .neq 48 (.iface 79 (.pointer (some ⟨N, 0, none⟩))) .nilIface).run Tryz.prog W = .ok (.bool true) W := fun W => by first | rfl | kernel_rfl
          have hbad : RowKit.Hid (RrOk s 0 66) := Lib.hid (rr_bad fun u hu e => by
            obtain ⟨h1, -, -, -⟩ := fin_txt hu HN.out.1 HN.out.2.1 HN.out.2.2 e
            have := hU2 u h1
            cases this)
          clear hU2
          go_wp2_with fail
          go_ret2
          exact RdR.of 0 66 rfl hbad.out HB1.out
end Go.Proofs.YtemjlkmlodmmfaaGreatDoor

/- The reference's small functions on floats. By an AI agent. -/
namespace Go.Proofs.YtemjlkmlodmmfaaGreatDoor
open Go.ChangeShapes Go.WideShapes Go.ChangeAt Go.RowKit
open Bt
set_option linter.unusedVariables false

set_option maxRecDepth 100000 in
theorem unk_not_nan {k : Nat} (h : k < 18446744073709551615) (hB : unkB k = true) : Flt.nan (unkW k) = false := by
  have h2 : 4503599627370495 ≤ k ∧ k ≤ 18442240474082181120 := by
    unfold unkB at hB
    rw [decide_eq_true_eq] at hB
    omega
  cases hc : Flt.nan (unkW k)
  · rfl
  · rw [Re.nan_iff] at hc
    by_cases h4 : 9223372036854775808 ≤ k
    · rw [(unk_pos h4 h2.2).1] at hc
      omega
    · rw [(unk_neg h2.1 (Nat.lt_of_not_le h4)).1] at hc
      omega

/-- What the mask of the reference leaves. -/
theorem class3_cases (u : Nat) (hu : u < 18446744073709551616) (hn : Flt.nan u = false) :
    ∃ s : Nat, Flt.rung u = s ∧ s ≤ 9218868437227405312 ∧ Sm.classF u = (if u < 9223372036854775808 then (if s = 0 then 6 else if s < 4503599627370496 then 7 else if s < 9218868437227405312 then 8 else 9) else 11 - (if s = 0 then 6 else if s < 4503599627370496 then 7 else if s < 9218868437227405312 then 8 else 9) : Int) := by
  have h1 : ¬ 9218868437227405312 < u % 9223372036854775808 := fun x => by rw [(Re.nan_iff u).2 x] at hn; cases hn
  refine ⟨u % 9223372036854775808, by unfold Flt.rung; rfl, by omega, ?_⟩
  unfold Sm.classF
  rw [if_neg h1]
  generalize u % 9223372036854775808 = s at *
  have hx : (if s = 9218868437227405312 then (9 : Int) else if 4503599627370496 ≤ s then 8 else if 0 < s then 7 else 6) = (if s = 0 then 6 else if s < 4503599627370496 then 7 else if s < 9218868437227405312 then 8 else 9) := by
    (repeat' split) <;> first | rfl | omega
  simp only
  rw [hx]

set_option maxHeartbeats 2000000 in
theorem class3_any (u : Nat) (hu : u < 18446744073709551616) (w : World) :
    Calls Tryz.prog 24 #[.float .f64 u] w fun e w' => e = .returned (.int .i64 (Sm.classF u)) ∧ w = w' := by
  have e1 := ext_bits
  have HN := Lib.hid (nan3_any u)
  cases hn : Flt.nan u
  · rw [hn] at HN
    obtain ⟨s, hs, hle, hc⟩ := class3_cases u hu hn
    have el := and_low u
    rw [hs] at el
    generalize Sm.classF u = c at *
    clear hs hn hu
    have HC := Lib.hid hc
    clear hc
    by_cases ht : u < 9223372036854775808
    · have k1 : decide ((u : Int) < 9223372036854775808) = true := by rw [decide_eq_true_eq]; omega
      have k1' : decide (u < 9223372036854775808) = true := by rw [decide_eq_true_eq]; exact ht
      by_cases h0 : s = 0
      · subst h0
        obtain rfl : c = 6 := by rw [HC.out, if_pos ht]; rfl
        clear ht hle
        go_enter Tryz.func24, Tryz.ntmps24
        go_wp2_with fail
        refine (HN.out _).mono ?_
        rintro e w1 ⟨rfl, rfl⟩
        go_wp2_with fail
        go_ret
        exact ⟨rfl, rfl⟩
      have g0 : ((s : Int) == 0) = false := by rw [beq_eq_false_iff_ne]; omega
      have g0' : (s == 0) = false := by rw [beq_eq_false_iff_ne]; omega
      by_cases h1 : s < 4503599627370496
      · have g1 : decide ((s : Int) < 4503599627370496) = true := by rw [decide_eq_true_eq]; omega
        have g1' : decide (s < 4503599627370496) = true := by rw [decide_eq_true_eq]; exact h1
        obtain rfl : c = 7 := by rw [HC.out, if_pos ht, if_neg h0, if_pos h1]
        clear ht hle h0 h1
        go_enter Tryz.func24, Tryz.ntmps24
        go_wp2_with fail
        refine (HN.out _).mono ?_
        rintro e w1 ⟨rfl, rfl⟩
        go_wp2_with fail
        go_ret
        exact ⟨rfl, rfl⟩
      have g1 : decide ((s : Int) < 4503599627370496) = false := by rw [decide_eq_false_iff_not]; omega
      have g1' : decide (s < 4503599627370496) = false := by rw [decide_eq_false_iff_not]; exact h1
      by_cases h2 : s < 9218868437227405312
      · have g2 : decide ((s : Int) < 9218868437227405312) = true := by rw [decide_eq_true_eq]; omega
        have g2' : decide (s < 9218868437227405312) = true := by rw [decide_eq_true_eq]; exact h2
        obtain rfl : c = 8 := by rw [HC.out, if_pos ht, if_neg h0, if_neg h1, if_pos h2]
        clear ht hle h0 h1 h2
        go_enter Tryz.func24, Tryz.ntmps24
        go_wp2_with fail
        refine (HN.out _).mono ?_
        rintro e w1 ⟨rfl, rfl⟩
        go_wp2_with fail
        go_ret
        exact ⟨rfl, rfl⟩
      · have g2 : decide ((s : Int) < 9218868437227405312) = false := by rw [decide_eq_false_iff_not]; omega
        have g2' : decide (s < 9218868437227405312) = false := by rw [decide_eq_false_iff_not]; exact h2
        obtain rfl : c = 9 := by rw [HC.out, if_pos ht, if_neg h0, if_neg h1, if_neg h2]
        clear ht hle h0 h1 h2
        go_enter Tryz.func24, Tryz.ntmps24
        go_wp2_with fail
        refine (HN.out _).mono ?_
        rintro e w1 ⟨rfl, rfl⟩
        go_wp2_with fail
        go_ret
        exact ⟨rfl, rfl⟩
    · have k1 : decide ((u : Int) < 9223372036854775808) = false := by rw [decide_eq_false_iff_not]; omega
      have k1' : decide (u < 9223372036854775808) = false := by rw [decide_eq_false_iff_not]; exact ht
      by_cases h0 : s = 0
      · subst h0
        obtain rfl : c = 5 := by rw [HC.out, if_neg ht]; rfl
        clear ht hle
        go_enter Tryz.func24, Tryz.ntmps24
        go_wp2_with fail
        refine (HN.out _).mono ?_
        rintro e w1 ⟨rfl, rfl⟩
        go_wp2_with fail
        go_ret
        exact ⟨rfl, rfl⟩
      have g0 : ((s : Int) == 0) = false := by rw [beq_eq_false_iff_ne]; omega
      have g0' : (s == 0) = false := by rw [beq_eq_false_iff_ne]; omega
      by_cases h1 : s < 4503599627370496
      · have g1 : decide ((s : Int) < 4503599627370496) = true := by rw [decide_eq_true_eq]; omega
        have g1' : decide (s < 4503599627370496) = true := by rw [decide_eq_true_eq]; exact h1
        obtain rfl : c = 4 := by rw [HC.out, if_neg ht, if_neg h0, if_pos h1]; rfl
        clear ht hle h0 h1
        go_enter Tryz.func24, Tryz.ntmps24
        go_wp2_with fail
        refine (HN.out _).mono ?_
        rintro e w1 ⟨rfl, rfl⟩
        go_wp2_with fail
        go_ret
        exact ⟨rfl, rfl⟩
      have g1 : decide ((s : Int) < 4503599627370496) = false := by rw [decide_eq_false_iff_not]; omega
      have g1' : decide (s < 4503599627370496) = false := by rw [decide_eq_false_iff_not]; exact h1
      by_cases h2 : s < 9218868437227405312
      · have g2 : decide ((s : Int) < 9218868437227405312) = true := by rw [decide_eq_true_eq]; omega
        have g2' : decide (s < 9218868437227405312) = true := by rw [decide_eq_true_eq]; exact h2
        obtain rfl : c = 3 := by rw [HC.out, if_neg ht, if_neg h0, if_neg h1, if_pos h2]; rfl
        clear ht hle h0 h1 h2
        go_enter Tryz.func24, Tryz.ntmps24
        go_wp2_with fail
        refine (HN.out _).mono ?_
        rintro e w1 ⟨rfl, rfl⟩
        go_wp2_with fail
        go_ret
        exact ⟨rfl, rfl⟩
      · have g2 : decide ((s : Int) < 9218868437227405312) = false := by rw [decide_eq_false_iff_not]; omega
        have g2' : decide (s < 9218868437227405312) = false := by rw [decide_eq_false_iff_not]; exact h2
        obtain rfl : c = 2 := by rw [HC.out, if_neg ht, if_neg h0, if_neg h1, if_neg h2]; rfl
        clear ht hle h0 h1 h2
        go_enter Tryz.func24, Tryz.ntmps24
        go_wp2_with fail
        refine (HN.out _).mono ?_
        rintro e w1 ⟨rfl, rfl⟩
        go_wp2_with fail
        go_ret
        exact ⟨rfl, rfl⟩
  · rw [hn] at HN
    have hc := Re.class_nan hn
    rw [hc]
    go_enter Tryz.func24, Tryz.ntmps24
    go_wp2_with fail
    refine (HN.out _).mono ?_
    rintro e w1 ⟨rfl, rfl⟩
    go_wp2_with fail
    go_ret
    exact ⟨rfl, rfl⟩
end Go.Proofs.YtemjlkmlodmmfaaGreatDoor

/- Contracts of the reference's Text and Read. By an AI agent. -/
namespace Go.Proofs.YtemjlkmlodmmfaaGreatDoor
open Go.ChangeShapes Go.WideShapes Go.ChangeAt Go.RowKit
open Bt Dc
set_option linter.unusedVariables false
set_option linter.unusedSimpArgs false

set_option maxRecDepth 100000 in
set_option maxHeartbeats 2000000 in
theorem text3_any (u : Nat) (w : World) (hu : u < 18446744073709551616) (hT : Tb w.heap.size w) :
    Calls Tryz.prog 8 #[.float .f64 u] w fun e w' => e = .returned (.string (txt u)) ∧ Below w.heap.size w w' := by
  have hcs := class_says u
  have HC := Lib.hid (class3_any u hu)
  have hfin : u % 9223372036854775808 < 9218868437227405312 → Us.exb u < 2047 := fun h => by
    show u / 2 ^ 52 % 2048 < 2047
    omega
  have HX := Lib.hid (And.intro hfin hT)
  have HTX := Lib.hid (txt_eq u)
  have HR := Lib.hid hcs
  generalize Sm.classF u = c at *
  generalize txt u = tx at *
  clear hcs hfin hT
  by_cases h1 : 9218868437227405312 < u % 9223372036854775808
  · have e1 := HR.out.1 h1
    have e2 := HTX.out
    rw [if_pos h1] at e2
    subst e1 e2
    clear HR HTX HX h1
    go_enter Tryz.func8, Tryz.ntmps8
    go_wp2_with fail
    refine (HC.out _).mono ?_
    rintro e w' ⟨rfl, hw⟩
    obtain rfl : w = w' := hw
    go_wp2_with fail
    go_ret
    exact ⟨rfl, Below.refl _ _⟩
  · by_cases h2 : u % 9223372036854775808 = 9218868437227405312
    · by_cases h3 : u < 9223372036854775808
      · have e1 := HR.out.2.1 h2 h3
        have e2 := HTX.out
        rw [if_neg h1, if_pos h2, if_pos h3] at e2
        subst e1 e2
        clear HR HTX HX h1 h2 h3
        go_enter Tryz.func8, Tryz.ntmps8
        go_wp2_with fail
        refine (HC.out _).mono ?_
        rintro e w' ⟨rfl, hw⟩
        obtain rfl : w = w' := hw
        go_wp2_with fail
        go_ret
        exact ⟨rfl, Below.refl _ _⟩
      · have e1 := HR.out.2.2.1 h2 h3
        have e2 := HTX.out
        rw [if_neg h1, if_pos h2, if_neg h3] at e2
        subst e1 e2
        clear HR HTX HX h1 h2 h3
        go_enter Tryz.func8, Tryz.ntmps8
        go_wp2_with fail
        refine (HC.out _).mono ?_
        rintro e w' ⟨rfl, hw⟩
        obtain rfl : w = w' := hw
        go_wp2_with fail
        go_ret
        exact ⟨rfl, Below.refl _ _⟩
    · have e1 := HR.out.2.2.2 (by omega)
      have e2 := HTX.out
      rw [if_neg h1, if_neg h2] at e2
      subst e2
      have HF := Lib.hid (format_any u w hu (HX.out.1 (by omega)) HX.out.2)
      have b1 : (c == 1) = false := by rw [beq_eq_false_iff_ne]; omega
      have b2 : (c == 2) = false := by rw [beq_eq_false_iff_ne]; omega
      have b9 : (c == 9) = false := by rw [beq_eq_false_iff_ne]; omega
      clear HR HTX HX h1 h2 e1
      generalize strOf (Us.textF u) = st at *
      go_enter Tryz.func8, Tryz.ntmps8
      go_wp2_with fail
      refine (HC.out _).mono ?_
      rintro e w' ⟨rfl, hw⟩
      obtain rfl : w = w' := hw
      go_wp2_with fail
      refine HF.out.mono ?_
      rintro e w1 ⟨rfl, hb⟩
      have HB := Lib.hid hb
      clear hb
      go_wp2_with fail
      go_ret
      exact ⟨rfl, HB.out⟩

theorem bad_chr {s : ByteArray} {i : Nat} (n1 : s ≠ ⟨#[110, 97, 110]⟩) (n2 : s ≠ ⟨#[105, 110, 102]⟩) (n3 : s ≠ ⟨#[45, 105, 110, 102]⟩) (hi : i < s.size) (hc : ¬ Us.Chr (ch s (i : Int))) : RrOk s 0 66 := rr_bad fun u hu e => by
  obtain ⟨-, -, hk, h4⟩ := fin_txt hu n1 n2 n3 e
  obtain ⟨ha, -⟩ := Us.textF_chr hk
  have h256 : ∀ c ∈ Us.textF u, c < 256 := fun c h => Us.chr_lt (ha c h)
  have hsz : (strOf (Us.textF u)).size = (Us.textF u).length := by rw [← Bs_len, Bs_str h256]
  have hil : i < (Us.textF u).length := by rw [h4, hsz] at hi; exact hi
  have := ch_str h256 i hil
  rw [h4, this] at hc
  exact hc (ha _ (List.getElem_mem hil))
theorem bad_len {s : ByteArray} (n1 : s ≠ ⟨#[110, 97, 110]⟩) (n2 : s ≠ ⟨#[105, 110, 102]⟩) (n3 : s ≠ ⟨#[45, 105, 110, 102]⟩) (hi : 40 < s.size) : RrOk s 0 66 := rr_bad fun u hu e => by
  obtain ⟨-, -, hk, h4⟩ := fin_txt hu n1 n2 n3 e
  obtain ⟨ha, hl⟩ := Us.textF_chr hk
  have h256 : ∀ c ∈ Us.textF u, c < 256 := fun c h => Us.chr_lt (ha c h)
  have hsz : (strOf (Us.textF u)).size = (Us.textF u).length := by rw [← Bs_len, Bs_str h256]
  rw [h4, hsz] at hi
  omega
theorem ext_mfrom (x : Int) (w : World) : (callFunc 19 #[.int .u64 x]).run Tryz.prog w = .ok (.value (.float .f64 x.toNat)) w := by kernel_rfl

set_option maxRecDepth 100000 in
set_option maxHeartbeats 2000000 in
theorem rread3_any (s : ByteArray) (w : World) (hs : s.size ≤ 1073741824) (hE : Env w.heap.size w) (hX : ∀ w', Below w.heap.size w w' → ErrsAt w') (hT : Tb w.heap.size w) : Calls Tryz.prog 11 #[.string s] w (RdR s w) := by
  have HA := Lib.hid (parse_any s w hs hE hX)
  have HT := Lib.hid (fun (u : Nat) (w1 : World) (hu : u < 18446744073709551616) (hb : Below w.heap.size w w1) => text3_any u w1 hu (tb_up (hT.on hb)))
  have HW := Lib.hid (Below.refl w.heap.size w)
  have HS := Lib.hid hs
  clear hs hE hX hT
  have hfb := ext_mfrom
  by_cases n1 : s = ⟨#[110, 97, 110]⟩
  · subst n1
    go_enter Tryz.func11, Tryz.ntmps11
    go_wp2_with fail
    go_ret2
    exact RdR.of _ 0 rfl rr_nan HW.out
  · have q1 : (s.toList == [110, 97, 110]) = false := str_ne n1 (by rw [ByteArray.toList_eq])
    by_cases n2 : s = ⟨#[105, 110, 102]⟩
    · subst n2
      go_enter Tryz.func11, Tryz.ntmps11
      go_wp2_with fail
      refine (Sm.inf_up _).mono ?_
      rintro e w1 ⟨rfl, rfl⟩
      go_wp2_with fail
      go_ret2
      exact RdR.of _ 0 rfl rr_inf HW.out
    · have q2 : (s.toList == [105, 110, 102]) = false := str_ne n2 (by rw [ByteArray.toList_eq])
      by_cases n3 : s = ⟨#[45, 105, 110, 102]⟩
      · subst n3
        go_enter Tryz.func11, Tryz.ntmps11
        go_wp2_with fail
        refine (Sm.inf_down _).mono ?_
        rintro e w1 ⟨rfl, rfl⟩
        go_wp2_with fail
        go_ret2
        exact RdR.of _ 0 rfl rr_ninf HW.out
      · have q3 : (s.toList == [45, 105, 110, 102]) = false := str_ne n3 (by rw [ByteArray.toList_eq])
        have HN := Lib.hid (And.intro n1 (And.intro n2 n3))
        clear n1 n2 n3
        by_cases hl : 40 < s.size
        · have hl' : (40 : Int) < ((s.size : Nat) : Int) := by omega
          have hbad := Lib.hid (bad_len HN.out.1 HN.out.2.1 HN.out.2.2 hl)
          clear hl
          go_enter Tryz.func11, Tryz.ntmps11
          go_wp2_with fail
          go_ret2
          exact RdR.of 0 66 rfl hbad.out HW.out
        · have hl' : ¬ (40 : Int) < ((s.size : Nat) : Int) := by omega
          clear hl
          go_enter Tryz.func11, Tryz.ntmps11
          go_wp2_with fail
          go_loopg [4] s.size (fun gq s4 wx => ∃ i : Nat, gq + i = s.size ∧ s4 = .int .i64 (i : Int) ∧ wx = w)
          case atStart => exact ⟨0, by omega, rfl, rfl⟩
          case round =>
            obtain ⟨i, hgi, rfl, hwr⟩ := hrel
            subst hwr
            have hw1 : wrap64 ((i : Int) + 1) = ((i + 1 : Nat) : Int) := by have := HS.out; unfold wrap64; omega
            by_cases hi : i < s.size
            · have hi' : (i : Int) < ((s.size : Nat) : Int) := by omega
              have HRn : RowKit.Hid (wr = wr) := Lib.hid rfl
              by_cases c0 : 48 ≤ ch s (i : Int) ∧ ch s (i : Int) ≤ 57
              · have d1 : ¬ ((ch s (i : Int) : Nat) : Int) < 48 := by omega
                have d2 : ¬ (57 : Int) < ((ch s (i : Int) : Nat) : Int) := by omega
                clear c0
                go_wp2_with fail
                go_roundg (gk - 1)
                case measure => omega
                case rel => exact ⟨i + 1, by omega, by first | rfl | (rw [hw1]; done), rfl⟩
              · by_cases c1 : Us.Chr (ch s (i : Int))
                · have c2 : ch s (i : Int) = 45 ∨ ch s (i : Int) = 43 ∨ ch s (i : Int) = 46 ∨ ch s (i : Int) = 101 := c1.resolve_left c0
                  clear c0 c1
                  rcases c2 with c | c | c | c
                  all_goals
                    have c' : ((ch s (i : Int) : Nat) : Int) = (ch s (i : Int) : Nat) := rfl
                    rw [c] at c'
                    generalize hcc : ch s (i : Int) = cc at *
                    subst c
                    go_wp2_with fail
                    go_roundg (gk - 1)
                    case measure => omega
                    case rel => exact ⟨i + 1, by omega, by first | rfl | (rw [hw1]; done), rfl⟩
                · have hbad := Lib.hid (bad_chr HN.out.1 HN.out.2.1 HN.out.2.2 hi c1)
                  have m1 : (((ch s (i : Int) : Nat) : Int) != 45) = true := by rw [bne_iff_ne]; intro e; exact c1 (Or.inr (Or.inl (by omega)))
                  have m2 : (((ch s (i : Int) : Nat) : Int) != 43) = true := by rw [bne_iff_ne]; intro e; exact c1 (Or.inr (Or.inr (Or.inl (by omega))))
                  have m3 : (((ch s (i : Int) : Nat) : Int) != 46) = true := by rw [bne_iff_ne]; intro e; exact c1 (Or.inr (Or.inr (Or.inr (Or.inl (by omega)))))
                  have m4 : (((ch s (i : Int) : Nat) : Int) != 101) = true := by rw [bne_iff_ne]; intro e; exact c1 (Or.inr (Or.inr (Or.inr (Or.inr (by omega)))))
                  have hcond : ((ch s (i : Int) : Nat) : Int) < 48 ∨ (¬ ((ch s (i : Int) : Nat) : Int) < 48 ∧ (57 : Int) < ((ch s (i : Int) : Nat) : Int)) := by omega
                  clear c0 c1
                  rcases hcond with d | ⟨d, d2⟩
                  all_goals
                    go_wp2_with fail
                    go_ret2
                    exact RdR.of 0 66 rfl hbad.out HW.out
            · have hi' : ¬ (i : Int) < ((s.size : Nat) : Int) := by omega
              clear hi
              go_wp2_with fail
              refine HA.out.mono ?_
              rintro e w1 ⟨⟨f, v, rfl, hq⟩, hb⟩
              have HU : RowKit.Hid (f < 18446744073709551616 ∧ ∀ u, Rds s u → f = u) := Lib.hid ⟨hq.out.1, fun u hu => (hq.out.2.2 u hu).1⟩
              have HB1 := Lib.hid hb
              clear hq hb
              have HTx := Lib.hid (HT.out f w1 HU.out.1 HB1.out)
              go_wp2_with fail
              refine HTx.out.mono ?_
              rintro e w2 ⟨rfl, hb2⟩
              have HB2 := Lib.hid (HB1.out.trans (hb2.mono HB1.out.size))
              clear hb2
              by_cases ht : txt f = s
              · have ht1 : ((txt f).toList == s.toList) = true := by rw [ht]; simp
                have ht2 : ((txt f).toList != s.toList) = false := by rw [ht]; simp
                have hgood := Lib.hid (rr_good HN.out.1 HN.out.2.1 HN.out.2.2 HU.out.1 HU.out.2 ht)
                clear ht
                generalize txt f = tx at *
                go_wp2_with fail
                go_ret2
                exact RdR.of f 0 rfl hgood.out HB2.out
              · have ht1 : ((txt f).toList == s.toList) = false := by rw [beq_eq_false_iff_ne]; exact fun e => ht (str_eq e)
                have ht2 : ((txt f).toList != s.toList) = true := by rw [bne_iff_ne]; exact fun e => ht (str_eq e)
                have hbad : RowKit.Hid (RrOk s 0 66) := Lib.hid (rr_bad fun u hu e => by
                  obtain ⟨h1, -, -, -⟩ := fin_txt hu HN.out.1 HN.out.2.1 HN.out.2.2 e
                  have := HU.out.2 u h1
                  exact ht (by rw [this]; exact e.symm))
                clear ht
                generalize txt f = tx at *
                go_wp2_with fail
                go_ret2
                exact RdR.of 0 66 rfl hbad.out HB2.out
end Go.Proofs.YtemjlkmlodmmfaaGreatDoor

/- Rows of floats carried to a later world. By an AI agent. -/
namespace Go.Proofs.YtemjlkmlodmmfaaGreatDoor
open Go.ChangeShapes Go.WideShapes Go.ChangeAt Go.RowKit
open Bt
set_option linter.unusedVariables false

theorem fls_keep0 {w w' : World} {o : Option Addr} {us : List Nat} (h : Fls w o us) (k : Below w.heap.size w w') : Fls w' o us := by
  intro i hi
  obtain ⟨ad, ho, hc⟩ := h i hi
  exact ⟨ad, ho, (k.cell (cell_in hc)).trans hc⟩
theorem u64s_keep {w w' : World} {o : Option Addr} {us : List Nat} (h : U64s w o us) (k : Below w.heap.size w w') : U64s w' o us := by
  intro i hi
  obtain ⟨ad, ho, hc⟩ := h i hi
  exact ⟨ad, ho, (k.cell (cell_in hc)).trans hc⟩
theorem f64_cells {us : List Nat} {o : Option Addr} {w : World} (h : Fls w o us) : ∀ j u, (f64s us)[j]? = some u → ∃ ad, o = some ad ∧ w.cell? (ad.add j) = some u := by
  intro j u hj
  have hl : j < us.length := by
    have := (List.getElem?_eq_some_iff.1 hj).1
    rwa [f64s_length] at this
  rw [f64s_get us j hl] at hj
  cases hj
  exact h j hl
theorem f64_one {us : List Nat} : ∀ u ∈ f64s us, u.oneCell' = true := by
  intro u hu
  obtain ⟨n, -, rfl⟩ := List.mem_map.1 hu
  rfl
theorem add_at (g n : Nat) : (⟨g, 0, none⟩ : Addr).add n = ⟨g, n, none⟩ := by
  by_cases h : n = 0
  · subst h; simp [Addr.add]
  · simp [Addr.add, h]
/-- The row that Of returns, opened. -/
theorem of_open (o : Option Addr) (us : List Nat) (cap : Nat) (w : World) (hF : U64s w o us) (hn : us.length ≤ 2000000) :
    Calls Tryz.prog 5 #[.slice o us.length cap] w fun e w' => ∃ o2 cap2, e = .returned (.slice o2 us.length cap2) ∧ Fls w' o2 us ∧ (o2 = none → cap2 = 0) ∧ w'.ownsRow w.heap.size 28 1 (.slice o2 us.length cap2) us.length (f64s us) ∧ Below w.heap.size w w' := by
  refine (of_any o us cap w hF hn).mono ?_
  rintro e w' ⟨v, rfl, hown, hb⟩
  obtain ⟨o2, cap2, rfl, hfl⟩ := fls_of hown
  refine ⟨o2, cap2, rfl, hfl, fun h => ?_, hown, hb⟩
  rcases hown.2 with ⟨hv, -⟩ | ⟨g, cap, cells, hv, -⟩
  · injection hv with _ _ h3
  · injection hv with h1
    rw [h] at h1; cases h1
theorem lt_take {us : List Nat} {M : Nat} (hu : ∀ i, us.getD i 0 < M) : ∀ i, us.getD i 0 < M := hu
end Go.Proofs.YtemjlkmlodmmfaaGreatDoor

/- RealTexts: what the walk leans on. By an AI agent. -/
namespace Go.Proofs.YtemjlkmlodmmfaaGreatDoor
open Go.ChangeShapes Go.WideShapes Go.ChangeAt Go.RowKit
open Bt Dc
set_option linter.unusedVariables false

theorem env_up {B : Nat} {w : World} (h : Env B w) : Env w.heap.size w := by
  refine ⟨fun w' k => ?_, Nat.le_refl _, Nat.lt_of_lt_of_le h.2.2 h.2.1⟩
  have e := h.1 w' (k.mono h.2.1)
  have hB := h.2.1
  refine ⟨e.opt, e.p10, e.pows, ?_, ?_, e.blk⟩
  · obtain ⟨ad, cap, c1, h1, h2, c2⟩ := e.chs
    exact ⟨ad, cap, c1, by omega, by omega, c2⟩
  · obtain ⟨⟨ad, cap, c1, h1, h2, c2⟩, h3, h4⟩ := e.pws
    exact ⟨⟨ad, cap, c1, by omega, by omega, c2⟩, by omega, h4⟩
theorem rr_same {s : ByteArray} {y y' : Nat} {k k' : Int} (h : RrOk s y k) (h' : RrOk s y' k') : y' = y ∧ k' = k := by
  by_cases hx : ∃ u, u < 18446744073709551616 ∧ s = txt u
  · obtain ⟨u, hu, hs⟩ := hx
    exact ⟨(h'.yes u hu hs).1.trans (h.yes u hu hs).1.symm, (h'.yes u hu hs).2.trans (h.yes u hu hs).2.symm⟩
  · have hn : ∀ u, u < 18446744073709551616 → s ≠ txt u := fun u hu e => hx ⟨u, hu, e⟩
    exact ⟨(h'.no hn).1.trans (h.no hn).1.symm, (h'.no hn).2.trans (h.no hn).2.symm⟩
theorem rr_code {s : ByteArray} {y : Nat} {k : Int} (h : RrOk s y k) : k = 0 ∨ k = 66 := by
  by_cases hx : ∃ u, u < 18446744073709551616 ∧ s = txt u
  · obtain ⟨u, hu, hs⟩ := hx
    exact Or.inl (h.yes u hu hs).2
  · exact Or.inr (h.no fun u hu e => hx ⟨u, hu, e⟩).2
theorem txt_size {u : Nat} (hu : u < 18446744073709551616) : (txt u).size ≤ 1073741824 := by
  rcases three hu with ⟨h1, h2⟩ | ⟨h1, h2⟩ | ⟨h1, h2⟩ | ⟨h1, h2, h3⟩
  · rw [h2]; decide
  · rw [h2]; decide
  · rw [h2]; decide
  · rw [h3]
    obtain ⟨hc, hl⟩ := Us.textF_chr h1
    have h256 : ∀ c ∈ Us.textF u, c < 256 := fun c h => Us.chr_lt (hc c h)
    have hsz : (strOf (Us.textF u)).size = (Us.textF u).length := by rw [← Bs_len, Bs_str h256]
    omega
/-- A row of strings. -/
def Strs (w : World) (o : Option Addr) (ss : List ByteArray) : Prop := ∀ i, i < ss.length → ∃ ad, o = some ad ∧ w.cell? (ad.add i) = some (.string (ss.getD i .empty))
theorem strs_keep {w w' : World} {o : Option Addr} {ss : List ByteArray} (h : Strs w o ss) (k : Below w.heap.size w w') : Strs w' o ss := by
  intro i hi
  obtain ⟨ad, ho, hc⟩ := h i hi
  exact ⟨ad, ho, (k.cell (cell_in hc)).trans hc⟩
/-- What the parsers lean on, at each later world. -/
structure Kit3 (w : World) : Prop where
  env : Env w.heap.size w
  errs : ∀ w', Below w.heap.size w w' → ErrsAt w'
  tb : Tb w.heap.size w
theorem Kit3.on {w w' : World} (h : Kit3 w) (k : Below w.heap.size w w') : Kit3 w' :=
  ⟨env_up (h.env.on k), fun w2 k2 => h.errs w2 (k.trans (k2.mono k.size)), tb_up (h.tb.on k)⟩
end Go.Proofs.YtemjlkmlodmmfaaGreatDoor

/- RealTexts' walk. By an AI agent. -/
namespace Go.Proofs.YtemjlkmlodmmfaaGreatDoor.realTexts
open Go.ChangeShapes Go.WideShapes Go.ChangeAt Go.RowKit
open Bt Dc
set_option linter.unusedVariables false

theorem below_drew {b : Nat} {a w : World} (h : Below b a w) : Below b a w.drew := ⟨h.os, h.tape, h.output, h.size, h.block⟩
theorem below_more {a b c : World} (h : Below a.heap.size a b) (k : Below b.heap.size b c) : Below a.heap.size a c := h.trans (k.mono h.size)
theorem cell_more {b c : World} {p : Addr} {v : Value} (h : b.cell? p = some v) (k : Below b.heap.size b c) : c.cell? p = some v := (k.cell (cell_in h)).trans h
set_option maxRecDepth 100000 in
set_option maxHeartbeats 16000000 in
theorem walk (o o3 : Option Addr) (us : List Nat) (ss : List ByteArray) (cap cap3 : Nat) (w : World) (hU : U64s w o us) (hu : ∀ i, us.getD i 0 < 18446744073709551616) (hn : us.length ≤ 2000000)
    (hS : Strs w o3 ss) (hs : ∀ i, i < ss.length → (ss.getD i .empty).size ≤ 1073741824) (hm : ss.length ≤ 1000000000) (hopt : Opt w) (hT : Tb w.heap.size w) (hE : Env w.heap.size w) (hX : ∀ w', Below w.heap.size w w' → ErrsAt w') :
    Calls Tryz.prog 3 #[.slice o us.length cap, .slice o3 ss.length cap3] w fun e w' => e = .returned (.bool true) ∧ Below w.heap.size w w' := by
  have HO := Lib.hid (And.intro hopt hT)
  have HK := Lib.hid (And.intro (Kit3.mk hE hX hT) True.intro)
  have HUS := Lib.hid (And.intro hU (And.intro hu (And.intro hS hs)))
  have HOF := Lib.hid (of_open o us cap)
  clear hopt hT hE hX hU hS hs hu
  generalize hl : us.length = n at *
  generalize hl3 : ss.length = m at *
  have HL := Lib.hid (And.intro hl hl3)
  clear hl hl3
  go_enter Tryz.func3, Tryz.ntmps3
  go_wp2_with fail
  refine (begun3 _ HO.out.1 HO.out.2).mono ?_
  rintro e w1 ⟨rfl, hb1⟩
  have H1 := Lib.hid hb1
  clear hb1
  go_wp2_with fail
  refine (HOF.out w1 (u64s_keep HUS.out.1 H1.out) hn).mono ?_
  rintro e w2 ⟨o2, cap2, rfl, hfl, -, -, hb2⟩
  have hb02 := H1.out.trans (hb2.mono H1.out.size)
  have H2 := Lib.hid (And.intro hfl (And.intro (strs_keep HUS.out.2.2.1 hb02) (And.intro (HK.out.1.on hb02) hb02)))
  clear hfl hb2 H1 hb02 HOF
  go_wp2_with fail
  go_loopg [6, 7, 8, 9] n (fun gq s6 s7 s8 s9 wx => ∃ k : Nat, gq + k = n ∧ s6 = .int .i64 (k : Int) ∧ Hid (Below w2.heap.size w2 wx))
  case atStart => exact ⟨0, by omega, rfl, Below.refl _ _⟩
  case round =>
    obtain ⟨k, hgk, rfl, HB⟩ := hrel
    by_cases hk : k < n
    · have hk' : k < us.length := by rw [HL.out.1]; exact hk
      obtain ⟨ad, rfl, c0⟩ := fls_keep0 H2.out.1 HB.out k hk'
      have hux := HUS.out.2.1 k
      generalize us.getD k 0 = u at *
      have K3 := H2.out.2.2.1.on HB.out
      have HTX := Lib.hid (text_any u wr hux K3.tb)
      have HRD := Lib.hid fun (w3 : World) (k3 : Below wr.heap.size wr w3) => rread_any (txt u) w3 (txt_size hux) (K3.on k3).env (K3.on k3).errs (K3.on k3).tb
      have HTX3 := Lib.hid fun (w3 : World) (k3 : Below wr.heap.size wr w3) => text3_any u w3 hux (K3.on k3).tb
      have HYES := Lib.hid fun (y : Nat) (k : Int) (h : RrOk (txt u) y k) => h.yes u hux rfl
      clear hk' hux K3
      generalize txt u = s at *
      go_wp2_with fail
      refine HTX.out.mono ?_
      rintro e w3 ⟨rfl, hb3⟩
      have H3 := Lib.hid hb3
      clear hb3
      go_wp2_with fail
      refine (HRD.out w3 H3.out).mono ?_
      rintro e w4 ⟨⟨y, kk, rfl, hrr⟩, hb4⟩
      obtain ⟨rfl, rfl⟩ := HYES.out y kk hrr
      have H4 := Lib.hid (H3.out.trans (hb4.mono H3.out.size))
      clear hb4 hrr H3
      have c4 := (H4.out.cell (cell_in c0)).trans c0
      go_wp2_with fail
      refine (HTX3.out w4 H4.out).mono ?_
      rintro e w5 ⟨rfl, hb5⟩
      have H5 := Lib.hid (H4.out.trans (hb5.mono H4.out.size))
      clear hb5 H4
      have c5 := (H5.out.cell (cell_in c0)).trans c0
      go_wp2_with fail
      refine (canon_any u _).mono ?_
      rintro e w6 ⟨rfl, hw⟩
      obtain rfl : w5 = w6 := hw.symm
      generalize canW u = cu at *
      go_wp2_with fail
      refine (fbits_any cu cu _).mono ?_
      rintro e w6 ⟨rfl, hw⟩
      obtain rfl : w5 = w6 := hw
      rw [decide_eq_true (rfl : cu = cu)]
      go_wp2_with fail
      go_roundg (gk - 1)
      all_goals first | omega | skip
      case rel => exact ⟨k + 1, by omega, rfl, HB.out.trans (H5.out.mono HB.out.size)⟩
    · obtain rfl : k = n := by omega
      have H2 := Lib.hid (And.intro (strs_keep H2.out.2.1 HB.out) (And.intro (H2.out.2.2.1.on HB.out) (H2.out.2.2.2.trans (HB.out.mono H2.out.2.2.2.size))))
      clear HB
      generalize hwr : wr = wq at *
      clear hwr
      go_wp2_with fail
      go_loopg [10, 11, 12, 13, 14] m (fun gq s10 s11 s12 s13 s14 wx => ∃ k : Nat, gq + k = m ∧ s10 = .int .i64 (k : Int) ∧ Hid (Below wq.heap.size wq wx))
      case atStart => exact ⟨0, by omega, rfl, Below.refl _ _⟩
      case round =>
        obtain ⟨j, hgj, rfl, HB⟩ := hrel
        by_cases hj : j < m
        · have hj' : j < ss.length := by rw [HL.out.2]; exact hj
          obtain ⟨ad, rfl, c0⟩ := strs_keep H2.out.1 HB.out j hj'
          have hsz := HUS.out.2.2.2 j hj
          generalize ss.getD j .empty = s at *
          have K3 := H2.out.2.1.on HB.out
          have HRD := Lib.hid fun (w4 : World) (k3 : Below wr.heap.size wr w4) => rread_any s w4 hsz (K3.on k3).env (K3.on k3).errs (K3.on k3).tb
          have HRD3 := Lib.hid fun (w4 : World) (k3 : Below wr.heap.size wr w4) => rread3_any s w4 hsz (K3.on k3).env (K3.on k3).errs (K3.on k3).tb
          have HTX := Lib.hid fun (u : Nat) (w4 : World) (hu : u < 18446744073709551616) (k3 : Below wr.heap.size wr w4) => text_any u w4 hu (K3.on k3).tb
          clear hj' K3 hsz
          go_wp2_with fail
          refine (HRD.out wr (Below.refl _ _)).mono ?_
          rintro e w3 ⟨⟨y, kk, rfl, hrr⟩, hb3⟩
          have H3 := Lib.hid hb3
          have HR := Lib.hid hrr
          clear hb3 hrr
          have c3 := (H3.out.cell (cell_in c0)).trans c0
          go_wp2_with fail
          refine (HRD3.out w3 H3.out).mono ?_
          rintro e w4 ⟨⟨y2, kk2, rfl, hrr⟩, hb4⟩
          obtain ⟨rfl, rfl⟩ := rr_same HR.out hrr
          have H4 := Lib.hid (And.intro (H3.out.trans (hb4.mono H3.out.size)) True.intro)
          clear hb4 hrr H3 c3
          have c4 := (H4.out.1.cell (cell_in c0)).trans c0
          clear c0
          have HQ := Lib.hid (fbits_any y2 y2)
          rw [decide_eq_true (rfl : y2 = y2)] at HQ
          rcases rr_code HR.out with rfl | rfl
          · have HX2 := Lib.hid (fun (w5 : World) (k5 : Below w4.heap.size w4 w5) => HTX.out y2 w5 HR.out.lt (H4.out.1.trans (k5.mono H4.out.1.size)))
            have hbk := HR.out.back rfl
            rw [hbk] at HX2
            clear hbk
            have HX3 := Lib.hid (fun (w5 : World) (k5 : Below w4.heap.size w4 w5) (hc : w5.cell? (ad.add j) = some (.string s)) => (HX2.out w5 k5).mono (R' := fun e w' => e = .returned (.string s) ∧ Below w4.heap.size w4 w' ∧ w'.cell? (ad.add j) = some (.string s)) fun e w' h => ⟨h.1, below_more k5 h.2, cell_more hc h.2⟩)
            clear HX2
            go_wp2_with fail
            go_region_held3 (fun w' => w'.cell? (ad.add j) = some (.string s) ∧ Below w4.heap.size w4 w') (refine ⟨?_, ?_⟩ <;> first | assumption | (exact below_drew (by assumption)) | (exact below_drew (Below.refl _ _)) | (exact below_more (by assumption) (by assumption)) | (exact cell_more (by assumption) (by assumption)) | (simp [*]; done) | go_keep)
              (first
                | (go_at_call 6; refine (HX3.out _ (by first | assumption | exact below_drew (Below.refl _ _)) (by first | assumption | exact c4)).mono ?_; rintro e w' ⟨rfl, hs1, hs2⟩)
                | (go_at_call 9; refine (HQ.out _).mono ?_; rintro e w' ⟨rfl, rfl⟩))
            go_wp2_with fail
            go_roundg (gk - 1)
            all_goals first | omega | skip
            case rel => exact ⟨j + 1, by omega, rfl, HB.out.trans ((H4.out.1.trans (hs1.mono H4.out.1.size)).mono HB.out.size)⟩
          · go_wp2_with fail
            go_quiet ((go_at_call 9; exact Calls.quiet_of_same ((HQ.out _).mono fun _ _ ⟨he, hw⟩ => ⟨he, hw.symm⟩)))
            go_wp2_with fail
            go_roundg (gk - 1)
            all_goals first | omega | skip
            case rel => exact ⟨j + 1, by omega, rfl, below_drewN (HB.out.trans (H4.out.1.mono HB.out.size)) _⟩
        · obtain rfl : j = m := by omega
          have HB := Lib.hid (H2.out.2.2.trans (HB.out.mono H2.out.2.2.size))
          go_wp2_with fail
          go_ret
          exact ⟨rfl, HB.out⟩
end Go.Proofs.YtemjlkmlodmmfaaGreatDoor.realTexts
