/- Contracts of strconv's lower, commonPrefixLenIgnoreCase, special; a string's bytes. By an AI agent. -/
import Derived.Test.YtemjlkmlodmmfaaGreatDoorMg05
import Derived.Test.YtemjlkmlodmmfaaGreatDoorMg08
import Derived.OwnWalk
namespace Go.Proofs.YtemjlkmlodmmfaaGreatDoor
open Go.ChangeShapes Go.WideShapes Go.ChangeAt Go.RowKit
open Bt
set_option linter.unusedVariables false
set_option linter.unusedSimpArgs false

/-- The byte at an index. -/
def ch (s : ByteArray) (i : Int) : Nat := (s.data[i.toNat]!).toNat
theorem ch_lt (s : ByteArray) (i : Int) : ch s i < 256 := UInt8.toNat_lt _
/-- The bytes. -/
def Bs (s : ByteArray) : List Nat := s.data.toList.map UInt8.toNat
theorem Bs_len (s : ByteArray) : (Bs s).length = s.size := by unfold Bs; rw [List.length_map]; rfl
theorem Bs_drop (s : ByteArray) (k : Nat) (h : k < s.size) : (Bs s).drop k = ch s (k : Int) :: (Bs s).drop (k + 1) := by
  have hl : k < (Bs s).length := by rw [Bs_len]; exact h
  have hk : k < s.data.size := h
  rw [List.drop_eq_getElem_cons hl]
  congr 1
  have e : (Bs s)[k]? = some (ch s (k : Int)) := by
    unfold Bs ch
    rw [List.getElem?_map, Array.getElem?_toList, Array.getElem?_eq_getElem hk, Int.toNat_natCast, getElem!_pos s.data k hk]
    rfl
  rw [List.getElem?_eq_getElem hl] at e
  exact Option.some.inj e
@[go_sem high] theorem run_index_ch {P : Program} {w : World} (t : TypeId) (s : ByteArray) (k : IntKind) (i : Int) (h : P.underlying t = some .string) (h0 : 0 ≤ i) (h1 : i < s.size) :
    (Instr.index t (.string s) (.int k i)).run P w = .ok (.int .u8 ((ch s i : Nat) : Int)) w := by
  rw [run_index_string (t := t) (h := h), dif_pos ⟨h0, h1⟩]
  have hk : i.toNat < s.data.size := by have : s.data.size = s.size := rfl; omega
  unfold ch
  rw [getElem!_pos s.data i.toNat hk]
  rfl

theorem lower_says (c : Nat) (hc : c < 256) : bits BinOp.or IntKind.u8 (c : Int) 32 = ((Us.lowN c : Nat) : Int) := by
  have : ∀ c : Fin 256, bits BinOp.or IntKind.u8 (c.val : Int) 32 = ((Us.lowN c.val : Nat) : Int) := by decide +kernel
  exact this ⟨c, hc⟩
theorem lower_any (c : Nat) (w : World) (hc : c < 256) : Calls Tryz.prog 73 #[.int .u8 (c : Int)] w fun e w' => e = .returned (.int .u8 ((Us.lowN c : Nat) : Int)) ∧ w' = w := by
  have h := Tryz.internal_strconv_lower (c : Int) w
  rw [lower_says c hc] at h
  exact h


/-- It begins with a digit. -/
def Dg0 (s : ByteArray) : Prop := 0 < s.size ∧ 48 ≤ ch s 0 ∧ ch s 0 ≤ 57

set_option maxRecDepth 100000 in
set_option maxHeartbeats 2000000 in
theorem prefix_len (s p : ByteArray) (w : World) (hs : s.size ≤ 1152921504606846976) (hp : p.size ≤ 100) (hp0 : 97 ≤ ch p 0) (hpn : 0 < p.size) : Calls Tryz.prog 111 #[.string s, .string p] w fun e w' => (∃ n : Nat, e = .returned (.int .i64 (n : Int)) ∧ RowKit.Hid (n ≤ p.size ∧ n ≤ s.size ∧ (Dg0 s → n = 0))) ∧ ∃ n, w' = w.drewN n := by
  have HS := Lib.hid (And.intro hs (And.intro hp (And.intro hp0 hpn)))
  obtain ⟨N, hN⟩ : ∃ N : Nat, N = min p.size s.size := ⟨_, rfl⟩
  have hmin : min (p.size : Int) (s.size : Int) = (N : Int) := by omega
  have HN := Lib.hid hN
  clear hs hp hp0 hpn hN
  go_enter Tryz.func111, Tryz.ntmps111
  go_wp2_with fail
  go_loopg [6] N (fun g s6 wx => ∃ k : Nat, g + k = N ∧ s6 = .int .i64 (k : Int) ∧ RowKit.Hid ((0 < k → ¬Dg0 s) ∧ ∃ n, wx = w.drewN n))
  case atStart => exact ⟨0, by omega, rfl, ⟨fun h => absurd h (by omega), 0, rfl⟩⟩
  case round =>
    obtain ⟨k, hgk, rfl, HR⟩ := hrel
    have hNp : N ≤ p.size ∧ N ≤ s.size := by have := HN.out; omega
    by_cases hk : k < N
    · have hks : k < s.size := by omega
      have hkp : k < p.size := by omega
      have hw1 : wrap64 ((k : Int) + 1) = ((k + 1 : Nat) : Int) := by have := HS.out.1; unfold wrap64; omega
      have hc := ch_lt s (k : Int)
      have HD : RowKit.Hid (k = 0 → Dg0 s → 48 ≤ ch s (k : Int) ∧ ch s (k : Int) ≤ 57) := Lib.hid (fun h hd => by subst h; exact hd.2)
      have HP : RowKit.Hid (k = 0 → 97 ≤ ch p (k : Int)) := Lib.hid (fun h => by subst h; exact HS.out.2.2.1)
      have hsk : (k : Int) < (s.size : Int) := by omega
      have hpk : (k : Int) < (p.size : Int) := by omega
      have HK := Lib.hid (And.intro hks (And.intro hNp.1 hNp.2))
      clear hks hkp hNp
      go_wp2_with fail
      all_goals first
        | (go_ret
           refine ⟨⟨k, rfl, ⟨by have := HK.out.2; omega, by have := HK.out.2; omega, fun hd => ?_⟩⟩, HR.out.2⟩
           refine Classical.byContradiction fun h0 => HR.out.1 (by omega) hd)
        | (go_roundg (gk - 1)
           case measure => omega
           case rel =>
             refine ⟨k + 1, by omega, by first | rfl | rw [hw1], ⟨fun _ hd => ?_, HR.out.2⟩⟩
             have hk0 : k = 0 := Classical.byContradiction fun h0 => HR.out.1 (by omega) hd
             have h1 := HD.out hk0 hd
             have h2 := HP.out hk0
             simp only [bne_eq_false_iff_eq] at *
             omega)
    · obtain rfl : k = N := by omega
      have HK := Lib.hid hNp
      clear hNp
      go_wp2_with fail
      go_ret
      refine ⟨⟨k, rfl, ⟨HK.out.1, HK.out.2, fun hd => ?_⟩⟩, HR.out.2⟩
      refine Classical.byContradiction fun h0 => HR.out.1 (by omega) hd

theorem inf_any (z : Int) (w : World) : Calls Tryz.prog 112 #[.int .i64 z] w fun e w' => (∃ f : Nat, e = .returned (.float .f64 f) ∧ f < 18446744073709551616) ∧ w' = w := by
  have f1 : ∀ w : World, (callFunc 102 #[.int .u64 9218868437227405312]).run Tryz.prog w = .ok (.value (.float .f64 9218868437227405312)) w := fun w => ext_sfrom 9218868437227405312 w
  have f2 : ∀ w : World, (callFunc 102 #[.int .u64 18442240474082181120]).run Tryz.prog w = .ok (.value (.float .f64 18442240474082181120)) w := fun w => ext_sfrom 18442240474082181120 w
  go_enter Tryz.func112, Tryz.ntmps112
  go_wp2_with fail
  all_goals go_ret
  all_goals exact ⟨⟨_, rfl, by omega⟩, rfl⟩
theorem nanw_any (w : World) : Calls Tryz.prog 113 #[] w fun e w' => (∃ f : Nat, e = .returned (.float .f64 f) ∧ f < 18446744073709551616) ∧ w' = w := by
  have f1 : ∀ w : World, (callFunc 102 #[.int .u64 9221120237041090561]).run Tryz.prog w = .ok (.value (.float .f64 9221120237041090561)) w := fun w => ext_sfrom 9221120237041090561 w
  go_enter Tryz.func113, Tryz.ntmps113
  go_wp2_with fail
  go_ret
  exact ⟨⟨_, rfl, by omega⟩, rfl⟩

theorem ext_ch (s : ByteArray) (h : 1 < s.size) : ch (s.extract 1 s.size) 0 = ch s 1 := by
  have h2 : (s.extract 1 s.size).size = s.size - 1 := by rw [ByteArray.size_extract]; omega
  have a0 : 0 < (s.extract 1 s.size).data.size := by show 0 < (s.extract 1 s.size).size; omega
  have a1 : 1 < s.data.size := h
  unfold ch
  rw [show ((0 : Int).toNat) = 0 from rfl, show ((1 : Int).toNat) = 1 from rfl, getElem!_pos _ 0 a0, getElem!_pos s.data 1 a1]
  congr 1
  have : (s.extract 1 s.size).data = s.data.extract 1 s.size := ByteArray.data_extract
  simp only [this, Array.getElem_extract]
theorem ext_size (s : ByteArray) (h : 1 ≤ s.size) : (s.extract 1 s.size).size = s.size - 1 := by rw [ByteArray.size_extract]; omega

/-- It begins like a number. -/
def NumS (s : ByteArray) : Prop := Dg0 s ∨ (ch s 0 = 45 ∧ 1 < s.size ∧ 48 ≤ ch s 1 ∧ ch s 1 ≤ 57)

/-- What special tells. -/
def SpQ (s : ByteArray) (w : World) (e : Ending) (w' : World) : Prop := (∃ (f : Nat) (n : Int) (b : Bool), e = .returned (.tuple #[.float .f64 f, .int .i64 n, .bool b]) ∧ RowKit.Hid (f < 18446744073709551616 ∧ (NumS s → b = false))) ∧ ∃ n, w' = w.drewN n
theorem SpQ.no (s : ByteArray) (w : World) {e : Ending} (n : Nat) (he : e = .returned (.tuple #[.float .f64 0, .int .i64 0, .bool false])) : SpQ s w e (w.drewN n) := ⟨⟨0, 0, false, he, ⟨by omega, fun _ => rfl⟩⟩, n, rfl⟩
theorem SpQ.yes (s : ByteArray) (w : World) {e : Ending} (n f : Nat) (z : Int) (hf : f < 18446744073709551616) (h : ¬NumS s) (he : e = .returned (.tuple #[.float .f64 f, .int .i64 z, .bool true])) : SpQ s w e (w.drewN n) := ⟨⟨f, z, true, he, ⟨hf, fun h' => absurd h' h⟩⟩, n, rfl⟩

set_option maxRecDepth 100000 in
set_option maxHeartbeats 2000000 in
theorem special_any (s : ByteArray) (w : World) (hs : s.size ≤ 1073741824) : Calls Tryz.prog 92 #[.string s] w (SpQ s w) := by
  have HS := Lib.hid hs
  have HI := Lib.hid (fun (t : ByteArray) (w : World) (h : t.size ≤ 1073741824) => prefix_len t ⟨#[105, 110, 102, 105, 110, 105, 116, 121]⟩ w (by omega) (by decide) (by decide) (by decide))
  have HN := Lib.hid (fun (t : ByteArray) (w : World) (h : t.size ≤ 1073741824) => prefix_len t ⟨#[110, 97, 110]⟩ w (by omega) (by decide) (by decide) (by decide))
  have HInf := Lib.hid inf_any
  have HNan := Lib.hid nanw_any
  clear hs
  by_cases h0 : s.size = 0
  · have h0' : ((s.size : Nat) : Int) = 0 := by omega
    have HZ := Lib.hid h0
    clear h0
    go_enter Tryz.func92, Tryz.ntmps92
    go_wp2_with fail
    go_ret3
    exact SpQ.no s w 0 rfl
  have h0' : 0 < ((s.size : Nat) : Int) := by omega
  have h0n : 0 < s.size := by omega
  have h0b : (((s.size : Nat) : Int) == 0) = false := by rw [beq_eq_false_iff_ne]; omega
  have HZ := Lib.hid h0
  clear h0
  by_cases hc1 : ch s 0 = 43 ∨ ch s 0 = 45
  · have hsz : (1 : Int) ≤ ((s.size : Nat) : Int) := by omega
    have HT : RowKit.Hid ((s.extract 1 s.size).size ≤ 1073741824 ∧ (NumS s → Dg0 (s.extract 1 s.size))) := by
      have hz := HZ.out
      have hss := HS.out
      refine ⟨by rw [ext_size s (by omega)]; omega, ?_⟩
      rintro (⟨a, b⟩ | ⟨a, b, c⟩)
      · omega
      · exact ⟨by rw [ext_size s (by omega)]; omega, by rw [ext_ch s b]; exact c⟩
    generalize hx : s.extract 1 s.size = x at *
    go_enter Tryz.func92, Tryz.ntmps92
    rcases hc1 with e1 | e1
    all_goals
      generalize hc : ch s 0 = c at *
      subst e1
      go_wp2_with fail
      refine (HI.out x _ HT.out.1).mono ?_
      rintro e w1 ⟨⟨n, rfl, hn⟩, m, rfl⟩
      have hn8 : n ≤ 8 := hn.out.1
      have hnz : RowKit.Hid (NumS s → n = 0) := Lib.hid (fun h => hn.out.2.2 (HT.out.2 h))
      clear hn
      by_cases h38 : 3 < n
      · by_cases h8 : n = 8
        · subst h8
          have hno : RowKit.Hid (¬NumS s) := Lib.hid (fun h => by have := hnz.out h; omega)
          clear hnz
          go_wp2_with fail
          refine (HInf.out _ _).mono ?_
          rintro e w2 ⟨⟨f, rfl, hf⟩, rfl⟩
          have HF := Lib.hid hf
          clear hf
          go_wp2_with fail
          go_ret3
          exact SpQ.yes s w m f _ HF.out hno.out rfl
        · have h38' : decide ((n : Int) < 8) = true := by simp; omega
          have hno : RowKit.Hid (¬NumS s) := Lib.hid (fun h => by have := hnz.out h; omega)
          clear hnz
          go_wp2_with fail
          refine (HInf.out _ _).mono ?_
          rintro e w2 ⟨⟨f, rfl, hf⟩, rfl⟩
          have HF := Lib.hid hf
          clear hf
          go_wp2_with fail
          go_ret3
          exact SpQ.yes s w m f _ HF.out hno.out rfl
      · by_cases h3 : n = 3
        · subst h3
          have hno : RowKit.Hid (¬NumS s) := Lib.hid (fun h => by have := hnz.out h; omega)
          clear hnz
          go_wp2_with fail
          refine (HInf.out _ _).mono ?_
          rintro e w2 ⟨⟨f, rfl, hf⟩, rfl⟩
          have HF := Lib.hid hf
          clear hf
          go_wp2_with fail
          go_ret3
          exact SpQ.yes s w m f _ HF.out hno.out rfl
        · have h3n : ((n : Int) == 3) = false := by rw [beq_eq_false_iff_ne]; omega
          have h8n : ((n : Int) == 8) = false := by rw [beq_eq_false_iff_ne]; omega
          clear hnz
          go_wp2_with fail
          go_ret3
          exact SpQ.no s w m rfl
  by_cases hc2 : ch s 0 = 105 ∨ ch s 0 = 73
  · have HT : RowKit.Hid (s.size ≤ 1073741824 ∧ (NumS s → Dg0 s)) := by
      refine ⟨HS.out, ?_⟩
      rintro (a | ⟨a, -⟩)
      · exact a
      · omega
    go_enter Tryz.func92, Tryz.ntmps92
    rcases hc2 with e1 | e1
    all_goals
      generalize hc : ch s 0 = c at *
      subst e1
      clear hc1
      go_wp2_with fail
      refine (HI.out s _ HT.out.1).mono ?_
      rintro e w1 ⟨⟨n, rfl, hn⟩, m, rfl⟩
      have hn8 : n ≤ 8 := hn.out.1
      have hnz : RowKit.Hid (NumS s → n = 0) := Lib.hid (fun h => hn.out.2.2 (HT.out.2 h))
      clear hn
      by_cases h38 : 3 < n
      · by_cases h8 : n = 8
        · subst h8
          have hno : RowKit.Hid (¬NumS s) := Lib.hid (fun h => by have := hnz.out h; omega)
          clear hnz
          go_wp2_with fail
          refine (HInf.out _ _).mono ?_
          rintro e w2 ⟨⟨f, rfl, hf⟩, rfl⟩
          have HF := Lib.hid hf
          clear hf
          go_wp2_with fail
          go_ret3
          exact SpQ.yes s w m f _ HF.out hno.out rfl
        · have h38' : decide ((n : Int) < 8) = true := by simp; omega
          have hno : RowKit.Hid (¬NumS s) := Lib.hid (fun h => by have := hnz.out h; omega)
          clear hnz
          go_wp2_with fail
          refine (HInf.out _ _).mono ?_
          rintro e w2 ⟨⟨f, rfl, hf⟩, rfl⟩
          have HF := Lib.hid hf
          clear hf
          go_wp2_with fail
          go_ret3
          exact SpQ.yes s w m f _ HF.out hno.out rfl
      · by_cases h3 : n = 3
        · subst h3
          have hno : RowKit.Hid (¬NumS s) := Lib.hid (fun h => by have := hnz.out h; omega)
          clear hnz
          go_wp2_with fail
          refine (HInf.out _ _).mono ?_
          rintro e w2 ⟨⟨f, rfl, hf⟩, rfl⟩
          have HF := Lib.hid hf
          clear hf
          go_wp2_with fail
          go_ret3
          exact SpQ.yes s w m f _ HF.out hno.out rfl
        · have h3n : ((n : Int) == 3) = false := by rw [beq_eq_false_iff_ne]; omega
          have h8n : ((n : Int) == 8) = false := by rw [beq_eq_false_iff_ne]; omega
          clear hnz
          go_wp2_with fail
          go_ret3
          exact SpQ.no s w m rfl
  by_cases hc3 : ch s 0 = 110 ∨ ch s 0 = 78
  · have hno : RowKit.Hid (¬NumS s) := by
      refine Lib.hid ?_
      rintro (⟨-, a⟩ | ⟨a, -⟩) <;> omega
    go_enter Tryz.func92, Tryz.ntmps92
    rcases hc3 with e1 | e1
    all_goals
      generalize hc : ch s 0 = c at *
      subst e1
      clear hc1 hc2
      go_wp2_with fail
      refine (HN.out s _ HS.out).mono ?_
      rintro e w1 ⟨⟨n, rfl, hn⟩, m, rfl⟩
      by_cases h3 : n = 3
      · subst h3
        clear hn
        go_wp2_with fail
        refine (HNan.out _).mono ?_
        rintro e w2 ⟨⟨f, rfl, hf⟩, rfl⟩
        have HF := Lib.hid hf
        clear hf
        go_wp2_with fail
        go_ret3
        exact SpQ.yes s w m f _ HF.out hno.out rfl
      · have h3n : ((n : Int) == 3) = false := by rw [beq_eq_false_iff_ne]; omega
        clear hn h3
        go_wp2_with fail
        go_ret3
        exact SpQ.no s w m rfl
  · have n1 : (((ch s 0 : Nat) : Int) == 43) = false := by rw [beq_eq_false_iff_ne]; omega
    have n2 : (((ch s 0 : Nat) : Int) == 45) = false := by rw [beq_eq_false_iff_ne]; omega
    have n3 : (((ch s 0 : Nat) : Int) == 105) = false := by rw [beq_eq_false_iff_ne]; omega
    have n4 : (((ch s 0 : Nat) : Int) == 73) = false := by rw [beq_eq_false_iff_ne]; omega
    have n5 : (((ch s 0 : Nat) : Int) == 110) = false := by rw [beq_eq_false_iff_ne]; omega
    have n6 : (((ch s 0 : Nat) : Int) == 78) = false := by rw [beq_eq_false_iff_ne]; omega
    clear hc1 hc2 hc3
    go_enter Tryz.func92, Tryz.ntmps92
    go_wp2_with fail
    go_ret3
    exact SpQ.no s w 0 rfl
end Go.Proofs.YtemjlkmlodmmfaaGreatDoor

/- Decimal digits and shifts, plainly (strconv's decimal). By an AI agent. -/
namespace Go.Proofs.YtemjlkmlodmmfaaGreatDoor.Dc
set_option linter.unusedVariables false
set_option linter.unusedSimpArgs false

/-- The value of the first n digits. -/
def dv (D : Nat → Nat) : Nat → Nat
  | 0 => 0
  | n + 1 => 10 * dv D n + (D n - 48)
theorem dv_succ (D : Nat → Nat) (n : Nat) : dv D (n + 1) = 10 * dv D n + (D n - 48) := rfl
/-- n digits, the first of them not nought. -/
structure Good (D : Nat → Nat) (n : Nat) : Prop where
  dig : ∀ i, i < n → 48 ≤ D i ∧ D i ≤ 57
  one : 1 ≤ n
  lead : D 0 ≠ 48
theorem dv_congr {D D' : Nat → Nat} : ∀ n, (∀ i, i < n → D i = D' i) → dv D n = dv D' n
  | 0, _ => rfl
  | n + 1, h => by rw [dv_succ, dv_succ, dv_congr n (fun i hi => h i (by omega)), h n (by omega)]
theorem dv_lt {D : Nat → Nat} {n : Nat} (h : ∀ i, i < n → 48 ≤ D i ∧ D i ≤ 57) : ∀ i, i ≤ n → dv D i < 10 ^ i
  | 0, _ => by simp [dv]
  | i + 1, hi => by
    have ih := dv_lt h i (by omega)
    have := h i (by omega)
    rw [dv_succ, Nat.pow_succ]
    omega
/-- The first i digits are the whole, cut. -/
theorem dv_cut {D : Nat → Nat} {n : Nat} (h : ∀ i, i < n → 48 ≤ D i ∧ D i ≤ 57) : ∀ k i, i + k ≤ n → dv D i * 10 ^ k ≤ dv D (i + k) ∧ dv D (i + k) < (dv D i + 1) * 10 ^ k
  | 0, i, _ => by simp
  | k + 1, i, hk => by
    obtain ⟨a, b⟩ := dv_cut h k i (by omega)
    have := h (i + k) (by omega)
    rw [show i + (k + 1) = (i + k) + 1 by omega, dv_succ, Nat.pow_succ, ← Nat.mul_assoc, ← Nat.mul_assoc]
    omega
theorem dv_lead {D : Nat → Nat} {n : Nat} (H : Good D n) : 10 ^ (n - 1) ≤ dv D n := by
  have h1 := H.one
  have hd := H.dig 0 (by omega)
  have hl := H.lead
  have := (dv_cut H.dig (n - 1) 1 (by omega)).1
  rw [show 1 + (n - 1) = n by omega, show dv D 1 = D 0 - 48 from by simp [dv]] at this
  exact Nat.le_trans (Nat.le_mul_of_pos_left _ (by omega)) this

/-! ## The cheats. -/
/-- The digits of 5^k: L of them, d = k + 1 - L. -/
structure Cheat (k L : Nat) (d : Nat) (S : Nat → Nat) : Prop where
  dig : ∀ i, i < L → 48 ≤ S i ∧ S i ≤ 57
  five : dv S L = 5 ^ k
  sum : L + d = k + 1
  low : 10 ^ (L - 1) ≤ 5 ^ k
  pos : 1 ≤ L
  k1 : 1 ≤ k

theorem Cheat.high {k L d : Nat} {S : Nat → Nat} (h : Cheat k L d S) : 5 ^ k < 10 ^ L := by
  rw [← h.five]; exact dv_lt h.dig L (Nat.le_refl _)
theorem five_odd : ∀ k, 1 ≤ k → 5 ^ k % 10 = 5
  | 0, h => by omega
  | 1, _ => by decide
  | k + 2, _ => by have := five_odd (k + 1) (by omega); rw [Nat.pow_succ]; omega
/-- What "less than the cheat" and the other say. -/
structure Less (res : Bool) (V n k L : Nat) : Prop where
  yes : res = true → V * 10 ^ L < 5 ^ k * 10 ^ n
  no : res = false → 5 ^ k * 10 ^ n ≤ V * 10 ^ L
theorem pow_part {a b : Nat} (h : a ≤ b) : 10 ^ b = 10 ^ a * 10 ^ (b - a) := by rw [← Nat.pow_add]; congr 1; omega
theorem less_end {D S : Nat → Nat} {n k L d : Nat} (hD : ∀ i, i < n → 48 ≤ D i ∧ D i ≤ 57) (C : Cheat k L d S) (hn : n < L) (he : dv D n = dv S n) : Less true (dv D n) n k L := by
  refine ⟨fun _ => ?_, fun h => by cases h⟩
  obtain ⟨a, b⟩ := dv_cut C.dig (L - n) n (by omega)
  rw [show n + (L - n) = L by omega, C.five] at a
  have ho := five_odd k C.k1
  have hlt : dv S n * 10 ^ (L - n) < 5 ^ k := by
    refine Nat.lt_of_le_of_ne a fun e => ?_
    rw [show L - n = (L - n - 1) + 1 by omega, Nat.pow_succ, ← Nat.mul_assoc] at e
    omega
  rw [he, pow_part (Nat.le_of_lt hn), Nat.mul_left_comm, Nat.mul_comm]
  exact Nat.mul_lt_mul_of_pos_right hlt (Nat.pow_pos (by omega))
theorem less_lt {D S : Nat → Nat} {n k L d i : Nat} (hD : ∀ i, i < n → 48 ≤ D i ∧ D i ≤ 57) (C : Cheat k L d S) (hi : i < n) (hi2 : i < L) (he : dv D i = dv S i) (hlt : D i < S i) : Less true (dv D n) n k L := by
  refine ⟨fun _ => ?_, fun h => by cases h⟩
  have h1 := hD i hi
  have h2 := C.dig i hi2
  have a := (dv_cut hD (n - (i + 1)) (i + 1) (by omega)).2
  have b := (dv_cut C.dig (L - (i + 1)) (i + 1) (by omega)).1
  rw [show i + 1 + (n - (i + 1)) = n by omega] at a
  rw [show i + 1 + (L - (i + 1)) = L by omega, C.five] at b
  have hle : dv D (i + 1) + 1 ≤ dv S (i + 1) := by rw [dv_succ, dv_succ, he]; omega
  have p1 : 10 ^ n = 10 ^ (n - (i + 1)) * 10 ^ (i + 1) := by rw [← Nat.pow_add]; congr 1; omega
  have p2 : 10 ^ L = 10 ^ (L - (i + 1)) * 10 ^ (i + 1) := by rw [← Nat.pow_add]; congr 1; omega
  rw [p1, p2, ← Nat.mul_assoc, ← Nat.mul_assoc]
  refine Nat.mul_lt_mul_of_pos_right ?_ (Nat.pow_pos (by omega))
  have hp : 0 < 10 ^ (L - (i + 1)) := Nat.pow_pos (by omega)
  calc dv D n * 10 ^ (L - (i + 1)) < (dv D (i + 1) + 1) * 10 ^ (n - (i + 1)) * 10 ^ (L - (i + 1)) := Nat.mul_lt_mul_of_pos_right a hp
    _ ≤ dv S (i + 1) * 10 ^ (n - (i + 1)) * 10 ^ (L - (i + 1)) := Nat.mul_le_mul_right _ (Nat.mul_le_mul_right _ hle)
    _ = dv S (i + 1) * 10 ^ (L - (i + 1)) * 10 ^ (n - (i + 1)) := Nat.mul_right_comm ..
    _ ≤ 5 ^ k * 10 ^ (n - (i + 1)) := Nat.mul_le_mul_right _ b
theorem less_gt {D S : Nat → Nat} {n k L d i : Nat} (hD : ∀ i, i < n → 48 ≤ D i ∧ D i ≤ 57) (C : Cheat k L d S) (hi : i < n) (hi2 : i < L) (he : dv D i = dv S i) (hlt : S i < D i) : Less false (dv D n) n k L := by
  refine ⟨(fun h => by cases h), fun _ => ?_⟩
  have h1 := hD i hi
  have h2 := C.dig i hi2
  have a := (dv_cut hD (n - (i + 1)) (i + 1) (by omega)).1
  have b := (dv_cut C.dig (L - (i + 1)) (i + 1) (by omega)).2
  rw [show i + 1 + (n - (i + 1)) = n by omega] at a
  rw [show i + 1 + (L - (i + 1)) = L by omega, C.five] at b
  have hle : dv S (i + 1) + 1 ≤ dv D (i + 1) := by rw [dv_succ, dv_succ, he]; omega
  have p1 : 10 ^ n = 10 ^ (n - (i + 1)) * 10 ^ (i + 1) := by rw [← Nat.pow_add]; congr 1; omega
  have p2 : 10 ^ L = 10 ^ (L - (i + 1)) * 10 ^ (i + 1) := by rw [← Nat.pow_add]; congr 1; omega
  rw [p1, p2, ← Nat.mul_assoc, ← Nat.mul_assoc]
  refine Nat.mul_le_mul_right _ ?_
  calc 5 ^ k * 10 ^ (n - (i + 1)) ≤ (dv S (i + 1) + 1) * 10 ^ (L - (i + 1)) * 10 ^ (n - (i + 1)) := Nat.mul_le_mul_right _ (Nat.le_of_lt b)
    _ ≤ dv D (i + 1) * 10 ^ (L - (i + 1)) * 10 ^ (n - (i + 1)) := Nat.mul_le_mul_right _ (Nat.mul_le_mul_right _ hle)
    _ = dv D (i + 1) * 10 ^ (n - (i + 1)) * 10 ^ (L - (i + 1)) := Nat.mul_right_comm ..
    _ ≤ dv D n * 10 ^ (L - (i + 1)) := Nat.mul_le_mul_right _ a
theorem less_all {D S : Nat → Nat} {n k L d : Nat} (hD : ∀ i, i < n → 48 ≤ D i ∧ D i ≤ 57) (C : Cheat k L d S) (hn : L ≤ n) (he : dv D L = dv S L) : Less false (dv D n) n k L := by
  refine ⟨(fun h => by cases h), fun _ => ?_⟩
  have a := (dv_cut hD (n - L) L (by omega)).1
  rw [show L + (n - L) = n by omega, he, C.five] at a
  have p1 : 10 ^ n = 10 ^ (n - L) * 10 ^ L := by rw [← Nat.pow_add]; congr 1; omega
  rw [p1, ← Nat.mul_assoc]
  exact Nat.mul_le_mul_right _ a

/-- How many digits the shifted number has. -/
theorem shift_len {k L d n V : Nat} {S : Nat → Nat} {res : Bool} (C : Cheat k L d S) (hV : 10 ^ (n - 1) ≤ V) (hV2 : V < 10 ^ n) (hn : 1 ≤ n) (H : Less res V n k L) :
    let e := if res then d - 1 else d
    1 ≤ d ∧ 2 ^ k * V < 10 ^ (n + e) ∧ 10 ^ (n + e - 1) ≤ 2 ^ k * V := by
  have hs := C.sum
  have hhi := C.high
  have hlo := C.low
  have hp1 := C.pos
  have h10 : 10 ^ k = 2 ^ k * 5 ^ k := by rw [← Nat.mul_pow]
  have hd1 : 1 ≤ d := by
    refine Nat.pos_of_ne_zero fun e => ?_
    have hL : L - 1 = k := by omega
    rw [hL, h10] at hlo
    have h2 : 2 ^ 1 ≤ 2 ^ k := Nat.pow_le_pow_right (by omega) C.k1
    have h5 : 0 < 5 ^ k := Nat.pow_pos (by omega)
    have := Nat.mul_le_mul_right (5 ^ k) h2
    omega
  refine ⟨hd1, ?_⟩
  have h5 : 0 < 5 ^ k := Nat.pow_pos (by omega)
  cases res
  · have h := H.no rfl
    simp only [Bool.false_eq_true, if_false]
    constructor
    · -- 2^k ≤ 10^d
      have : 2 ^ k ≤ 10 ^ d := by
        refine Nat.le_of_mul_le_mul_right (c := 5 ^ k) ?_ h5
        rw [← h10, show k = d + (L - 1) by omega, Nat.pow_add]
        rw [show d + (L - 1) = k by omega]
        exact Nat.mul_le_mul_left _ hlo
      calc 2 ^ k * V ≤ 10 ^ d * V := Nat.mul_le_mul_right _ this
        _ < 10 ^ d * 10 ^ n := Nat.mul_lt_mul_of_pos_left hV2 (Nat.pow_pos (by omega))
        _ = 10 ^ (n + d) := by rw [← Nat.pow_add]; congr 1; omega
    · refine Nat.le_of_mul_le_mul_right (c := 10 ^ L) ?_ (Nat.pow_pos (by omega))
      rw [← Nat.pow_add, show n + d - 1 + L = k + n by omega, Nat.pow_add, h10, Nat.mul_assoc, Nat.mul_assoc]
      exact Nat.mul_le_mul_left _ h
  · have h := H.yes rfl
    simp only [if_true]
    constructor
    · refine Nat.lt_of_mul_lt_mul_right (a := 10 ^ L) ?_
      rw [← Nat.pow_add, show n + (d - 1) + L = k + n by omega, Nat.pow_add, h10, Nat.mul_assoc, Nat.mul_assoc]
      exact Nat.mul_lt_mul_of_pos_left h (Nat.pow_pos (by omega))
    · have : 10 ^ (d - 1) ≤ 2 ^ k := by
        refine Nat.le_of_mul_le_mul_right (c := 5 ^ k) ?_ h5
        rw [← h10]
        calc 10 ^ (d - 1) * 5 ^ k ≤ 10 ^ (d - 1) * 10 ^ L := Nat.mul_le_mul_left _ (Nat.le_of_lt hhi)
          _ = 10 ^ k := by rw [← Nat.pow_add]; congr 1; omega
      calc 10 ^ (n + (d - 1) - 1) = 10 ^ (d - 1) * 10 ^ (n - 1) := by rw [← Nat.pow_add]; congr 1; omega
        _ ≤ 2 ^ k * V := Nat.mul_le_mul this hV

/-! ## One step of the shift to the left. -/
/-- With R digits left to read: what is carried. -/
theorem left_step {D : Nat → Nat} {n R K : Nat} (h : ∀ i, i < n → 48 ≤ D i ∧ D i ≤ 57) (hR : R + 1 ≤ n) (c : Nat) (hc : c + K * dv D (R + 1) = K * dv D n / 10 ^ (n - (R + 1))) :
    (c + K * (D R - 48)) / 10 + K * dv D R = K * dv D n / 10 ^ (n - R) ∧ (c + K * (D R - 48)) % 10 = K * dv D n / 10 ^ (n - (R + 1)) % 10 := by
  have hp : 10 ^ (n - R) = 10 ^ (n - (R + 1)) * 10 := by rw [← Nat.pow_succ]; congr 1; omega
  rw [hp, ← Nat.div_div_eq_div_mul, ← hc, dv_succ]
  have e : c + K * (10 * dv D R + (D R - 48)) = (c + K * (D R - 48)) + 10 * (K * dv D R) := by
    rw [Nat.mul_add, Nat.mul_left_comm]; omega
  rw [e]
  omega
/-- The carry is small. -/
theorem left_small {D : Nat → Nat} {n R K : Nat} (h : ∀ i, i < n → 48 ≤ D i ∧ D i ≤ 57) (hR : R ≤ n) (hK : 0 < K) (c : Nat) (hc : c + K * dv D R = K * dv D n / 10 ^ (n - R)) : c < K := by
  have a := (dv_cut h (n - R) R (by omega)).2
  rw [show R + (n - R) = n by omega] at a
  have hp : 0 < 10 ^ (n - R) := Nat.pow_pos (by omega)
  have : K * dv D n / 10 ^ (n - R) < K * (dv D R + 1) := by
    refine Nat.div_lt_of_lt_mul ?_
    rw [Nat.mul_comm (10 ^ (n - R)), Nat.mul_assoc]
    exact Nat.mul_lt_mul_of_pos_left a hK
  rw [Nat.mul_add] at this
  omega

/-! ## What is written. -/
def upd (D : Nat → Nat) (i v : Nat) : Nat → Nat := fun j => if j = i then v else D j
theorem upd_at (D : Nat → Nat) (i v : Nat) : upd D i v i = v := by unfold upd; rw [if_pos rfl]
theorem upd_ne (D : Nat → Nat) {i j : Nat} (v : Nat) (h : j ≠ i) : upd D i v j = D j := by unfold upd; rw [if_neg h]
structure LM (D D' : Nat → Nat) (n e K W : Nat) : Prop where
  same : ∀ i, i < 800 → i < W → D' i = D i
  set : ∀ j, j < 800 → W ≤ j → j < n + e → D' j = 48 + K * dv D n / 10 ^ (n + e - 1 - j) % 10
theorem LM.start (D : Nat → Nat) (n e K : Nat) : LM D D n e K (n + e) := ⟨fun _ _ _ => rfl, fun j _ h1 h2 => by omega⟩
theorem LM.put {D D' : Nat → Nat} {n e K W : Nat} (H : LM D D' n e K (W + 1)) : LM D (upd D' W (48 + K * dv D n / 10 ^ (n + e - 1 - W) % 10)) n e K W := by
  refine ⟨fun i hi hw => ?_, fun j hj hw hn => ?_⟩
  · rw [upd_ne _ _ (by omega)]; exact H.same i hi (by omega)
  · by_cases h : j = W
    · rw [h, upd_at]
    · rw [upd_ne _ _ h]; exact H.set j hj (by omega) hn
theorem LM.skip {D D' : Nat → Nat} {n e K W : Nat} (H : LM D D' n e K (W + 1)) (hW : 800 ≤ W) : LM D D' n e K W :=
  ⟨fun i hi hw => H.same i hi (by omega), fun j hj hw hn => H.set j hj (by omega) hn⟩
theorem LM.good {D D' : Nat → Nat} {n e K : Nat} (H : LM D D' n e K 0) (G : Good D n) (hK : 2 ≤ K) (h1 : K * dv D n < 10 ^ (n + e)) (h2 : 10 ^ (n + e - 1) ≤ K * dv D n) : Good D' (min 800 (n + e)) ∧ (e = 0 → D 0 < D' 0) := by
  have hn := G.one
  have hp : 0 < 10 ^ (n + e - 1) := Nat.pow_pos (by omega)
  have e0 := H.set 0 (by omega) (Nat.zero_le _) (by omega)
  rw [Nat.sub_zero] at e0
  have hq : K * dv D n / 10 ^ (n + e - 1) < 10 := by
    refine Nat.div_lt_of_lt_mul ?_
    rw [show n + e = (n + e - 1) + 1 by omega, Nat.pow_succ] at h1
    exact h1
  have hq1 : 1 ≤ K * dv D n / 10 ^ (n + e - 1) := (Nat.le_div_iff_mul_le hp).2 (by omega)
  refine ⟨⟨fun i hi => ?_, by omega, by omega⟩, fun he => ?_⟩
  · rw [H.set i (by omega) (Nat.zero_le _) (by omega)]
    omega
  · subst he
    have hc := (dv_cut G.dig (n - 1) 1 (by omega)).1
    rw [show 1 + (n - 1) = n by omega, show dv D 1 = D 0 - 48 from by simp [dv]] at hc
    have hd := G.dig 0 (by omega)
    have hl := G.lead
    have : K * (D 0 - 48) ≤ K * dv D n / 10 ^ (n + 0 - 1) := by
      refine (Nat.le_div_iff_mul_le (Nat.pow_pos (by omega))).2 ?_
      rw [Nat.mul_assoc]
      exact Nat.mul_le_mul_left _ hc
    have h2' : 2 * (D 0 - 48) ≤ K * (D 0 - 48) := Nat.mul_le_mul_right _ hK
    omega

/-! ## To the right. -/
structure RM (D D' : Nat → Nat) (w : Nat) : Prop where
  dig : ∀ i, i < w → 48 ≤ D' i ∧ D' i ≤ 57
  same : ∀ i, w ≤ i → D' i = D i
  lead : 0 < w → D' 0 ≠ 48
theorem RM.start (D : Nat → Nat) : RM D D 0 := ⟨fun i h => by omega, fun _ _ => rfl, fun h => by omega⟩
theorem RM.put {D D' : Nat → Nat} {w x : Nat} (H : RM D D' w) (hx : x ≤ 9) (h0 : w = 0 → 1 ≤ x) : RM D (upd D' w (48 + x)) (w + 1) := by
  refine ⟨fun i hi => ?_, fun i hi => ?_, fun _ => ?_⟩
  · by_cases h : i = w
    · rw [h, upd_at]; omega
    · rw [upd_ne _ _ h]; exact H.dig i (by omega)
  · rw [upd_ne _ _ (by omega)]; exact H.same i (by omega)
  · by_cases h : w = 0
    · subst h; rw [upd_at]; have := h0 rfl; omega
    · rw [upd_ne _ _ (by omega)]; exact H.lead (by omega)
theorem RM.put_dig {D D' : Nat → Nat} {w x : Nat} (H : RM D D' w) (h : 0 < w) : upd D' w (48 + x) 0 = D' 0 := upd_ne _ _ (by omega)
/-- The last rest of halves goes. -/
theorem rest_step {n k t : Nat} (ht : t < k) (h : 2 ^ t ∣ n) : 2 ^ (t + 1) ∣ n % 2 ^ k * 10 := by
  obtain ⟨q, hq⟩ := h
  have hk : 2 ^ k = 2 ^ t * 2 ^ (k - t) := by rw [← Nat.pow_add]; congr 1; omega
  rw [hq, hk, Nat.mul_mod_mul_left, Nat.pow_succ]
  exact ⟨q % 2 ^ (k - t) * 5, by rw [Nat.mul_assoc, Nat.mul_assoc]; congr 1; omega⟩
theorem rest_end {n k : Nat} (h : 2 ^ k ∣ n) : n % 2 ^ k * 10 = 0 := by rw [Nat.mod_eq_zero_of_dvd h, Nat.zero_mul]
end Go.Proofs.YtemjlkmlodmmfaaGreatDoor.Dc

/- strconv's decimal in memory. By an AI agent. -/
namespace Go.Proofs.YtemjlkmlodmmfaaGreatDoor
open Go.ChangeShapes Go.WideShapes Go.ChangeAt Go.RowKit
open Bt
set_option linter.unusedVariables false
set_option linter.unusedSimpArgs false
namespace Dc
/-- A decimal. -/
structure DS where
  d : Nat → Nat
  nd : Int
  dp : Int
  ng : Bool
  tr : Bool
def dcell (σ : DS) (i : Nat) : Value := if i < 800 then .int .u8 ((σ.d i : Nat) : Int) else if i = 800 then .int .i64 σ.nd else if i = 801 then .int .i64 σ.dp else if i = 802 then .bool σ.ng else .bool σ.tr
def dA (σ : DS) : Array Value := ((List.range 804).map (dcell σ)).toArray
theorem dA_get (σ : DS) (i : Nat) (h : i < 804) : (dA σ)[i]? = some (dcell σ i) := by simp [dA, h]
theorem dA_set (σ τ : DS) (i : Nat) (v : Value) (h1 : ∀ j, j < 804 → j ≠ i → dcell τ j = dcell σ j) (h2 : i < 804 → dcell τ i = v) : (dA σ).setIfInBounds i v = dA τ := by
  apply Array.ext_getElem?
  intro j
  rw [Array.getElem?_setIfInBounds]
  by_cases hj : j < 804
  · by_cases hij : i = j
    · subst hij
      simp [dA, hj, h2 hj]
    · simp [dA, hj, hij, h1 j hj (fun e => hij e.symm)]
  · by_cases hij : i = j
    · subst hij; simp [dA, hj]
    · simp [dA, hj, hij]
def DAt (w : World) (b : Nat) (σ : DS) : Prop := w.heap[b]? = some (.cells (dA σ) 99 (0, 0))
theorem DAt.digit {w : World} {b : Nat} {σ : DS} (h : DAt w b σ) {i : Nat} (hi : i < 800) : w.cell? ⟨b, i, none⟩ = some (.int .u8 ((σ.d i : Nat) : Int)) := by
  rw [blk_cell h i, dA_get σ i (by omega)]; unfold dcell; rw [if_pos hi]
theorem DAt.cnd {w : World} {b : Nat} {σ : DS} (h : DAt w b σ) : w.cell? ⟨b, 800, none⟩ = some (.int .i64 σ.nd) := by rw [blk_cell h 800, dA_get σ 800 (by omega)]; rfl
theorem DAt.cdp {w : World} {b : Nat} {σ : DS} (h : DAt w b σ) : w.cell? ⟨b, 801, none⟩ = some (.int .i64 σ.dp) := by rw [blk_cell h 801, dA_get σ 801 (by omega)]; rfl
theorem DAt.cng {w : World} {b : Nat} {σ : DS} (h : DAt w b σ) : w.cell? ⟨b, 802, none⟩ = some (.bool σ.ng) := by rw [blk_cell h 802, dA_get σ 802 (by omega)]; rfl
theorem DAt.ctr {w : World} {b : Nat} {σ : DS} (h : DAt w b σ) : w.cell? ⟨b, 803, none⟩ = some (.bool σ.tr) := by rw [blk_cell h 803, dA_get σ 803 (by omega)]; rfl
theorem DAt.free {w : World} {b : Nat} {σ : DS} (h : DAt w b σ) (i : Nat) : w.frozen? ⟨b, i, none⟩ = false := blk_free h i
theorem DAt.sd {w : World} {b : Nat} {σ : DS} (h : DAt w b σ) {i v : Nat} (hi : i < 800) : DAt (w.setCell ⟨b, i, none⟩ (.int .u8 (v : Int))) b { σ with d := upd σ.d i v } := by
  have := blk_set h i (.int .u8 (v : Int))
  rw [dA_set σ { σ with d := upd σ.d i v } i _ (fun j hj hne => by unfold dcell; simp only [upd_ne _ _ hne]) (fun _ => by unfold dcell; rw [if_pos hi]; simp only [upd_at])] at this
  exact this
theorem DAt.snd {w : World} {b : Nat} {σ : DS} (h : DAt w b σ) (v : Int) : DAt (w.setCell ⟨b, 800, none⟩ (.int .i64 v)) b { σ with nd := v } := by
  have := blk_set h 800 (.int .i64 v)
  rw [dA_set σ { σ with nd := v } 800 (.int .i64 v) (fun j hj hne => by unfold dcell; simp only [if_neg hne]) (fun _ => rfl)] at this
  exact this
theorem DAt.sdp {w : World} {b : Nat} {σ : DS} (h : DAt w b σ) (v : Int) : DAt (w.setCell ⟨b, 801, none⟩ (.int .i64 v)) b { σ with dp := v } := by
  have := blk_set h 801 (.int .i64 v)
  rw [dA_set σ { σ with dp := v } 801 (.int .i64 v) (fun j hj hne => by unfold dcell; simp only [if_neg hne]) (fun _ => rfl)] at this
  exact this
theorem DAt.sng {w : World} {b : Nat} {σ : DS} (h : DAt w b σ) (v : Bool) : DAt (w.setCell ⟨b, 802, none⟩ (.bool v)) b { σ with ng := v } := by
  have := blk_set h 802 (.bool v)
  rw [dA_set σ { σ with ng := v } 802 (.bool v) (fun j hj hne => by unfold dcell; simp only [if_neg hne]) (fun _ => rfl)] at this
  exact this
theorem DAt.str {w : World} {b : Nat} {σ : DS} (h : DAt w b σ) (v : Bool) : DAt (w.setCell ⟨b, 803, none⟩ (.bool v)) b { σ with tr := v } := by
  have := blk_set h 803 (.bool v)
  rw [dA_set σ { σ with tr := v } 803 (.bool v) (fun j hj hne => by
    unfold dcell
    have : j = 800 ∨ j = 801 ∨ j = 802 ∨ j < 800 := by omega
    rcases this with h | h | h | h <;> simp [h]) (fun _ => rfl)] at this
  exact this
/-- A decimal that is well. -/
structure Ok (σ : DS) (n : Nat) : Prop where
  good : Good σ.d n
  nd : σ.nd = (n : Int)
  le : n ≤ 800
end Dc
end Go.Proofs.YtemjlkmlodmmfaaGreatDoor

/- Contracts of strconv's trim, shouldRoundUp, RoundedInteger. By an AI agent. -/
namespace Go.Proofs.YtemjlkmlodmmfaaGreatDoor
open Go.ChangeShapes Go.WideShapes Go.ChangeAt Go.RowKit
open Bt Dc
set_option linter.unusedVariables false
set_option linter.unusedSimpArgs false

theorem Dc.DAt.drewN {w : World} {b : Nat} {σ : DS} (h : DAt w b σ) (n : Nat) : DAt (w.drewN n) b σ := h
theorem nd_less {σ : DS} {k : Nat} (hg : Dc.Good σ.d (k + 1 + 1)) : Dc.Good σ.d (k + 1) := ⟨fun i hi => hg.dig i (by omega), by omega, hg.lead⟩

set_option maxRecDepth 100000 in
set_option maxHeartbeats 2000000 in
theorem trim_any (b : Nat) (σ : DS) (n : Nat) (w : World) (h : DAt w b σ) (ho : Dc.Ok σ n) :
    Calls Tryz.prog 86 #[.pointer (some ⟨b, 0, none⟩)] w fun e w' => e = .returned (.tuple #[]) ∧ RowKit.Hid ((∃ n' : Nat, DAt w' b { σ with nd := (n' : Int) } ∧ Dc.Good σ.d n' ∧ n' ≤ n) ∧ Keep (· = b) w w') := by
  have H := Lib.hid (And.intro h ho)
  clear h ho
  go_enter Tryz.func86, Tryz.ntmps86
  go_wp2_with fail
  go_loopg [] n (fun gq wx => ∃ k : Nat, gq = k + 1 ∧ k + 1 ≤ n ∧ RowKit.Hid (DAt wx b { σ with nd := ((k + 1 : Nat) : Int) } ∧ Dc.Good σ.d (k + 1) ∧ Keep (· = b) w wx))
  case atStart =>
    have h1 := H.out.2.good.one
    refine ⟨n - 1, by omega, by omega, ?_⟩
    rw [show n - 1 + 1 = n by omega, ← H.out.2.nd]
    exact ⟨H.out.1, H.out.2.good, Keep.refl _ _⟩
  case round =>
    obtain ⟨k, hgk, hkn, HR⟩ := hrel
    have hle := H.out.2.le
    have c0 := HR.out.1.cnd
    have c1 := HR.out.1.digit (i := k) (by omega)
    have f0 := HR.out.1.free 800
    simp only at c0 c1
    have hw1 : IntKind.i64.wrap (k : Int) = (k : Int) := by rw [IntKind.wrap_i64]; omega
    have hk8 : (k : Int) < 800 := by omega
    clear hle
    by_cases h0 : σ.d k = 48
    · have hk1 : 1 ≤ k := Nat.pos_of_ne_zero fun e => by subst e; exact HR.out.2.1.lead h0
      rw [h0] at c1
      have HK := Lib.hid hk1
      clear h0 hk1
      go_wp2_with fail
      go_quiet (fail)
      go_wp2_with fail
      go_roundg (gk - 1)
      case measure => omega
      case rel =>
        obtain ⟨j, rfl⟩ : ∃ j, k = j + 1 := ⟨k - 1, by have := HK.out; omega⟩
        refine ⟨j, by omega, by omega, ?_, ⟨fun i hi => HR.out.2.1.dig i (by omega), by omega, HR.out.2.1.lead⟩, Keep.setCell (HR.out.2.2.drewN _) (p := ⟨b, 800, none⟩) (Or.inl rfl) _⟩
        exact (HR.out.1.drewN _).snd _
    · have h0' : (((σ.d k : Nat) : Int) == 48) = false := by rw [beq_eq_false_iff_ne]; omega
      clear h0
      go_wp2_with fail
      go_quiet (fail)
      go_wp2_with fail
      go_end0
      exact ⟨rfl, ⟨k + 1, HR.out.1, HR.out.2.1, hkn⟩, HR.out.2.2.drewN _⟩
end Go.Proofs.YtemjlkmlodmmfaaGreatDoor
