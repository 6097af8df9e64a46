/- Package linear: Check and Most. By an AI agent. -/
import Derived.Test.YtjiehgfamlidnaaLinU
import Derived.Test.YtjiehgfamlidnaaLinV
namespace Go.Proofs.Ytjiehgfamlidnaa.Lin
open Go.ChangeShapes Go.WideShapes Go.ChangeAt Go.RowKit
open Md
set_option linter.unusedVariables false
set_option linter.unusedSimpArgs false

theorem bg_zero {base : Int} {ps : List Past} (h : bgE base ps = 0) : 1 ≤ base ∧ ps.length ≤ 12 ∧ timB ps = true := by
  unfold bgE at h
  split at h
  · cases h
  · split at h
    · cases h
    · split at h
      · refine ⟨by omega, by omega, by assumption⟩
      · cases h

/-- What Check answers. -/
def CkRes (w : World) (base : Int) (ps : List Past) (e : Ending) (w' : World) : Prop :=
  Below w.heap.size w w' ∧
  ((bgE base ps ≠ 0 ∧ e = .returned (.tuple #[.slice none 0 0, .bool false, .int .i64 (bgE base ps)])) ∨
   (bgE base ps = 0 ∧ Dead ps (nd0 base) ∧ e = .returned (.tuple #[.slice none 0 0, .bool false, .int .i64 0])) ∨
   (bgE base ps = 0 ∧ ∃ v l d, e = .returned (.tuple #[v, .bool true, .int .i64 0]) ∧ w'.ownsRow w.heap.size 3 1 v l.length (ints l) ∧ Chain ps (nd0 base) l d ∧ Done ps d ∧ Best ps (nd0 base) l))

theorem srowcell {w0 : World} {ps : List Past} {o : Option Addr} {cap b bb bt : Nat} {w : World} {ov : Value} {ord : List Nat} {most : Int} {n : Nat} {T : Key → Prop} (h : SM w0 ps o cap b bb bt w ov ord most n T) : w.cell? ⟨b, 4, none⟩ = some ov ∧ w.cell? ⟨b, 5, none⟩ = some (.int .i64 most) := ⟨blk_cell h.row 4, blk_cell h.row 5⟩

theorem results_ck (tmps : Array Value) (w : World) (v4 v5 v6 : Value) (h4 : tmps.getD 4 undef = v4) (h5 : tmps.getD 5 undef = v5) (h6 : tmps.getD 6 undef = v6) :
    (results Try.f14 tmps).run Try.prog w = .ok (.tuple #[v4, v5, v6]) w := by
  have e4 : tmps[4]?.getD undef = v4 := by simpa using h4
  have e5 : tmps[5]?.getD undef = v5 := by simpa using h5
  have e6 : tmps[6]?.getD undef = v6 := by simpa using h6
  simp [results, Try.results14, e4, e5, e6]
theorem results_mo (tmps : Array Value) (w : World) (v4 v5 : Value) (h4 : tmps.getD 4 undef = v4) (h5 : tmps.getD 5 undef = v5) :
    (results Try.f16 tmps).run Try.prog w = .ok (.tuple #[v4, v5]) w := by
  have e4 : tmps[4]?.getD undef = v4 := by simpa using h4
  have e5 : tmps[5]?.getD undef = v5 := by simpa using h5
  simp [results, Try.results16, e4, e5]

set_option maxRecDepth 100000 in
set_option maxHeartbeats 16000000 in
theorem check_any (base : Int) (o : Option Addr) (ps : List Past) (cap : Nat) (w : World) (hP : Ps w o ps) (hn : ps.length ≤ 1000000) (hb : base ≤ topN) :
    Calls Try.prog 14 #[.int .i64 base, .slice o ps.length cap] w (CkRes w base ps) := by
  have HBE := Lib.hid (begun_any base o ps cap w hP hn)
  have HC := Lib.hid (And.intro hP hb)
  clear hP hb
  generalize hl : ps.length = n at *
  have HLN := Lib.hid hl
  clear hl
  by_cases hbg : bgE base ps = 0
  · have hbe : Calls Try.prog 26 #[.int .i64 base, .slice o n cap] w fun e w' => ∃ b bb bt, e = .returned (.tuple #[.pointer (some ⟨b, 0, none⟩), .agg (cs (newS base) (.slice none 0 0)), .int .i64 0]) ∧ RowKit.Hid (SM w ps o cap b bb bt w' (.slice none 0 0) [] 0 0 (fun _ => False)) := HBE.out.mono fun e w' h => by
      rcases h with ⟨h, -⟩ | ⟨-, b, bb, bt, h1, h2⟩
      · exact absurd hbg h
      · exact ⟨b, bb, bt, h1, Lib.hid h2⟩
    have HB2 := Lib.hid hbe
    obtain ⟨g1, g2, g3⟩ := bg_zero hbg
    have HG := Lib.hid (And.intro g1 (And.intro g2 (And.intro g3 hbg)))
    clear hbe HBE g1 g2 g3 hbg
    unfold cs newS at HB2
    have HFI := Lib.hid (fun (b bb bt : Nat) (w2 w3 : World) (hs : SM w ps o cap b bb bt w2 (.slice none 0 0) [] 0 0 (fun _ => False)) (g : Below w2.heap.size w2 w3) => finds_any HC.out.1 HG.out.2.1 HG.out.1 HC.out.2 12 [] (nd0 base) rfl (Chain.nil _) w3 (.slice none 0 0) [] 0 (fun _ => False) (.agg (cs (newS base) (.slice none 0 0))) (hs.grow g) (mv_new _ base w3) (fun x hx => hx.elim) (by simp) (by decide))
    have hkz : (Value.agg (kcells (nd0 base).k)) = .agg #[.int .u64 0, .int .i64 0, .int .i64 0, .int .i64 0, .int .i64 0, .int .i64 0, .int .i64 0, .int .i64 0, .int .i64 0, .int .i64 0, .int .i64 0, .int .i64 0, .int .i64 0] := rfl
    rw [hkz] at HFI
    unfold cs newS at HFI
    clear hkz
    rcases hf : fB ps (nd0 base) with _ | _
    · rw [hf] at HFI
      have HF := Lib.hid hf
      clear hf
      go_enter Try.func14, Try.ntmps14
      go_wp2_with (first
        | (go_at_call 26
           refine HB2.out.mono ?_
           intro e w2 h2
           obtain ⟨b, bb, bt, rfl, h2⟩ := h2
           have H2 := Lib.hid h2.out
           clear h2)
        | (go_at_call 27
           refine (HFI.out _ _ _ _ _ H2.out ((Below.refl _ w2).alloc (Nat.le_refl _) _)).mono ?_
           intro e w3 h3
           obtain ⟨rfl, h3⟩ := h3
           have H3 := Lib.hid h3.out
           clear h3))
      refine bodyPost_ret (results_ck _ _ (.slice none 0 0) (.bool false) (.int .i64 0) rfl rfl rfl) rfl ?_
      obtain ⟨ov', ord', n', T', hF⟩ := H3.out
      exact ⟨hF.sm.low, Or.inr (Or.inl ⟨HG.out.2.2.2, fB_false.1 HF.out, rfl⟩)⟩
    · rw [hf] at HFI
      have HF := Lib.hid hf
      clear hf
      go_enter Try.func14, Try.ntmps14
      go_wp2_with (first
        | (go_at_call 26
           refine HB2.out.mono ?_
           intro e w2 h2
           obtain ⟨b, bb, bt, rfl, h2⟩ := h2
           have H2 := Lib.hid h2.out
           clear h2)
        | (go_at_call 27
           refine (HFI.out _ _ _ _ _ H2.out ((Below.refl _ w2).alloc (Nat.le_refl _) _)).mono ?_
           intro e w3 h3
           obtain ⟨rfl, h3⟩ := h3
           obtain ⟨ov', ord', n', T', hF⟩ := h3.out
           have R4 := (srowcell hF.sm).1
           have H3 := Lib.hid hF
           clear h3 hF))
      refine bodyPost_ret (results_ck _ _ ov' (.bool true) (.int .i64 0) rfl rfl rfl) rfl ?_
      obtain ⟨l2, d2, he, hc2, hd2, hb2⟩ := H3.out.yes HF.out
      rw [List.nil_append] at he
      rw [← he] at hc2 hb2
      exact ⟨H3.out.sm.low, Or.inr (Or.inr ⟨HG.out.2.2.2, ov', ord', d2, rfl, H3.out.sm.own, hc2, hd2, hb2⟩)⟩
  · have hbe : Calls Try.prog 26 #[.int .i64 base, .slice o n cap] w fun e w' => e = .returned (.tuple #[.pointer none, .agg (cs zS (.slice none 0 0)), .int .i64 (bgE base ps)]) ∧ Below w.heap.size w w' := HBE.out.mono fun e w' h => by
      rcases h with ⟨-, h1, h2⟩ | ⟨h, -⟩
      · exact ⟨h1, h2⟩
      · exact absurd h hbg
    have HB2 := Lib.hid hbe
    have HG := Lib.hid hbg
    have d1 : (bgE base ps != 0) = true := by simpa using hbg
    clear hbe HBE hbg
    unfold cs zS at HB2
    have HBG : RowKit.Hid (∀ w', CkRes w base ps (.returned (.tuple #[.slice none 0 0, .bool false, .int .i64 (bgE base ps)])) w' ↔ Below w.heap.size w w') := Lib.hid fun w' => ⟨fun h => h.1, fun h => ⟨h, Or.inl ⟨HG.out, rfl⟩⟩⟩
    generalize bgE base ps = ge at *
    go_enter Try.func14, Try.ntmps14
    go_wp2_with (go_at_call 26
                 refine HB2.out.mono ?_
                 intro e w2 h2
                 obtain ⟨rfl, h2⟩ := h2
                 have H2 := Lib.hid h2
                 clear h2)
    refine bodyPost_ret (results_ck _ _ (.slice none 0 0) (.bool false) (.int .i64 ge) rfl rfl rfl) rfl ?_
    exact (HBG.out _).2 (H2.out.alloc H2.out.size _)
/-- What Most answers. -/
def MoRes (w : World) (base : Int) (ps : List Past) (e : Ending) (w' : World) : Prop :=
  Below w.heap.size w w' ∧
  ((bgE base ps ≠ 0 ∧ e = .returned (.tuple #[.int .i64 0, .int .i64 (bgE base ps)])) ∨
   (bgE base ps = 0 ∧ ∃ most : Int, e = .returned (.tuple #[.int .i64 most, .int .i64 0]) ∧ (∀ l d, Chain ps (nd0 base) l d → (l.length : Int) ≤ most) ∧ most ≤ ps.length))
set_option maxRecDepth 100000 in
set_option maxHeartbeats 16000000 in
theorem most_any (base : Int) (o : Option Addr) (ps : List Past) (cap : Nat) (w : World) (hP : Ps w o ps) (hn : ps.length ≤ 1000000) (hb : base ≤ topN) :
    Calls Try.prog 16 #[.int .i64 base, .slice o ps.length cap] w (MoRes w base ps) := by
  have HBE := Lib.hid (begun_any base o ps cap w hP hn)
  have HC := Lib.hid (And.intro hP hb)
  clear hP hb
  generalize hl : ps.length = n at *
  have HLN := Lib.hid hl
  clear hl
  by_cases hbg : bgE base ps = 0
  · have hbe : Calls Try.prog 26 #[.int .i64 base, .slice o n cap] w fun e w' => ∃ b bb bt, e = .returned (.tuple #[.pointer (some ⟨b, 0, none⟩), .agg (cs (newS base) (.slice none 0 0)), .int .i64 0]) ∧ RowKit.Hid (SM w ps o cap b bb bt w' (.slice none 0 0) [] 0 0 (fun _ => False)) := HBE.out.mono fun e w' h => by
      rcases h with ⟨h, -⟩ | ⟨-, b, bb, bt, h1, h2⟩
      · exact absurd hbg h
      · exact ⟨b, bb, bt, h1, Lib.hid h2⟩
    have HB2 := Lib.hid hbe
    obtain ⟨g1, g2, g3⟩ := bg_zero hbg
    have HG := Lib.hid (And.intro g1 (And.intro g2 (And.intro g3 hbg)))
    clear hbe HBE g1 g2 g3 hbg
    unfold cs newS at HB2
    have HFI := Lib.hid (fun (b bb bt : Nat) (w2 w3 : World) (hs : SM w ps o cap b bb bt w2 (.slice none 0 0) [] 0 0 (fun _ => False)) (g : Below w2.heap.size w2 w3) => goes_any HC.out.1 HG.out.2.1 HG.out.1 HC.out.2 12 [] (nd0 base) rfl (Chain.nil _) w3 0 (fun _ => False) 0 (.agg (cs (newS base) (.slice none 0 0))) (hs.grow g) (mv_new _ base w3) (fun l d _ hx => hx.elim) (by decide) (by decide))
    have hkz : (Value.agg (kcells (nd0 base).k)) = .agg #[.int .u64 0, .int .i64 0, .int .i64 0, .int .i64 0, .int .i64 0, .int .i64 0, .int .i64 0, .int .i64 0, .int .i64 0, .int .i64 0, .int .i64 0, .int .i64 0, .int .i64 0] := rfl
    rw [hkz, show ((([] : List Nat).length : Nat) : Int) = 0 from rfl] at HFI
    unfold cs newS at HFI
    clear hkz
    go_enter Try.func16, Try.ntmps16
    go_wp2_with (first
      | (go_at_call 26
         refine HB2.out.mono ?_
         intro e w2 h2
         obtain ⟨b, bb, bt, rfl, h2⟩ := h2
         have H2 := Lib.hid h2.out
         clear h2)
      | (go_at_call 31
         refine (HFI.out _ _ _ _ _ H2.out ((Below.refl _ w2).alloc (Nat.le_refl _) _)).mono ?_
         intro e w3 h3
         obtain ⟨rfl, h3⟩ := h3
         obtain ⟨most', n', T', hG⟩ := h3.out
         have R5 := (srowcell hG.sm).2
         have H3 := Lib.hid hG
         clear h3 hG))
    refine bodyPost_ret (results_mo _ _ (.int .i64 most') (.int .i64 0) rfl rfl) rfl ?_
    refine ⟨H3.out.sm.low, Or.inr ⟨HG.out.2.2.2, most', rfl, ?_, ?_⟩⟩
    · intro l d hc
      exact H3.out.len l d hc (reach_all H3.out.mine (fun k hk => (H3.out.clo k hk).elim (fun h => h.elim) id) (Chain.nil _) H3.out.mine hc)
    · have := H3.out.top
      omega
  · have hbe : Calls Try.prog 26 #[.int .i64 base, .slice o n cap] w fun e w' => e = .returned (.tuple #[.pointer none, .agg (cs zS (.slice none 0 0)), .int .i64 (bgE base ps)]) ∧ Below w.heap.size w w' := HBE.out.mono fun e w' h => by
      rcases h with ⟨-, h1, h2⟩ | ⟨h, -⟩
      · exact ⟨h1, h2⟩
      · exact absurd h hbg
    have HB2 := Lib.hid hbe
    have HG := Lib.hid hbg
    have d1 : (bgE base ps != 0) = true := by simpa using hbg
    clear hbe HBE hbg
    unfold cs zS at HB2
    have HBG : RowKit.Hid (∀ w', MoRes w base ps (.returned (.tuple #[.int .i64 0, .int .i64 (bgE base ps)])) w' ↔ Below w.heap.size w w') := Lib.hid fun w' => ⟨fun h => h.1, fun h => ⟨h, Or.inl ⟨HG.out, rfl⟩⟩⟩
    generalize bgE base ps = ge at *
    go_enter Try.func16, Try.ntmps16
    go_wp2_with (go_at_call 26
                 refine HB2.out.mono ?_
                 intro e w2 h2
                 obtain ⟨rfl, h2⟩ := h2
                 have H2 := Lib.hid h2
                 clear h2)
    refine bodyPost_ret (results_mo _ _ (.int .i64 0) (.int .i64 ge) rfl rfl) rfl ?_
    exact (HBG.out _).2 (H2.out.alloc H2.out.size _)
end Go.Proofs.Ytjiehgfamlidnaa.Lin
