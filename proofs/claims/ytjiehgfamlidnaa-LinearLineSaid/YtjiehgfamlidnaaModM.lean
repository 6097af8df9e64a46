/- The model package: Apply. By an AI agent. -/
import Derived.Test.YtjiehgfamlidnaaModL
namespace Go.Proofs.Ytjiehgfamlidnaa
open Go.ChangeShapes Go.WideShapes Go.ChangeAt Go.RowKit
set_option linter.unusedVariables false
namespace Md

def applyF (s : S) (bs : List (List Nat)) (kind cl : Int) (D : List Nat) (err lsn : Int) (R : List Nat) : Option (S × List (List Nat)) :=
  if usedC kind cl D.length = true then applyS s bs kind cl D err lsn R else none

theorem results_apply (tmps : Array Value) (w : World) (bo : Nat) (s : S) (rv v : Value) (h6 : tmps.getD 6 undef = .pointer (some ⟨bo, 0, none⟩)) (h7 : tmps.getD 7 undef = v) (ho : outAt w bo s rv) :
    (results Try.f10 tmps).run Try.prog w = .ok (.tuple #[.agg (cs s rv), v]) w := by
  have h1 := run_loadVar_row (P := Try.prog) w bo 26 26 (cs s rv) (0, 0) _ ho Try.underlying26 rfl model_size
  have e6 : tmps[6]?.getD undef = .pointer (some ⟨bo, 0, none⟩) := by simpa using h6
  have e7 : tmps[7]?.getD undef = v := by simpa using h7
  simp [results, Try.results10, e6, e7, asAddr, h1]

set_option maxRecDepth 100000 in
set_option maxHeartbeats 4000000 in
theorem apply_any (s : S) (o : Option Addr) (cap : Nat) (bs : List (List Nat)) (kind cl err lsn : Int) (od : Option Addr) (cd : Nat) (D : List Nat) (ord : Option Addr) (crd : Nat) (R : List Nat) (w : World) (hS : Src w o bs) (hn : bs.length ≤ 1000000) (hI : Inv s bs.length)
    (hD : Bys w od D) (hc : od = none → cd = 0) (hv : ∀ i, D.getD i 0 < 256) (hR : Bys w ord R) (hrv : ∀ i, R.getD i 0 < 256) :
    Calls Try.prog 10 #[.agg (cs s (.slice o bs.length cap)), .agg #[.int .i64 kind, .int .i64 cl, .slice od D.length cd], .agg #[.int .i64 err, .int .i64 lsn, .slice ord R.length crd]] w (ChRes (applyF s bs kind cl D err lsn R) w) := by
  have hmf : ∀ (fn : Fn) (first cap : Array Value) (w : World), (Instr.makeFunc fn first cap).run Try.prog w = .ok (.func fn first cap) w := fun _ _ _ _ => rfl
  have hw1 : ((((w.alloc (.cells (cs s (.slice o bs.length cap)) 26)).alloc (.cells #[.int .i64 kind, .int .i64 cl, .slice od D.length cd] 32)).alloc (.cells #[.int .i64 err, .int .i64 lsn, .slice ord R.length crd] 34)).alloc (.cells (cs zS (.slice none 0 0)) 26)).heap[w.heap.size + 1]? = some (.cells #[.int .i64 kind, .int .i64 cl, .slice od D.length cd] 32 (0, 0)) := blk_alloc (blk_alloc (blk_new_at (w.alloc (.cells (cs s (.slice o bs.length cap)) 26)) (.cells #[.int .i64 kind, .int .i64 cl, .slice od D.length cd] 32) (n := w.heap.size + 1) (by simp)) _) _
  have hw2 : ((((w.alloc (.cells (cs s (.slice o bs.length cap)) 26)).alloc (.cells #[.int .i64 kind, .int .i64 cl, .slice od D.length cd] 32)).alloc (.cells #[.int .i64 err, .int .i64 lsn, .slice ord R.length crd] 34)).alloc (.cells (cs zS (.slice none 0 0)) 26)).heap[w.heap.size + 1 + 1]? = some (.cells #[.int .i64 err, .int .i64 lsn, .slice ord R.length crd] 34 (0, 0)) := blk_alloc (blk_new_at ((w.alloc (.cells (cs s (.slice o bs.length cap)) 26)).alloc (.cells #[.int .i64 kind, .int .i64 cl, .slice od D.length cd] 32)) (.cells #[.int .i64 err, .int .i64 lsn, .slice ord R.length crd] 34) (n := w.heap.size + 1 + 1) (by simp)) _
  have hw3 : outAt ((((w.alloc (.cells (cs s (.slice o bs.length cap)) 26)).alloc (.cells #[.int .i64 kind, .int .i64 cl, .slice od D.length cd] 32)).alloc (.cells #[.int .i64 err, .int .i64 lsn, .slice ord R.length crd] 34)).alloc (.cells (cs zS (.slice none 0 0)) 26)) (w.heap.size + 1 + 1 + 1) zS (.slice none 0 0) := blk_new_at (((w.alloc (.cells (cs s (.slice o bs.length cap)) 26)).alloc (.cells #[.int .i64 kind, .int .i64 cl, .slice od D.length cd] 32)).alloc (.cells #[.int .i64 err, .int .i64 lsn, .slice ord R.length crd] 34)) (.cells (cs zS (.slice none 0 0)) 26) (n := w.heap.size + 1 + 1 + 1) (by simp)
  have hw0 : ((((w.alloc (.cells (cs s (.slice o bs.length cap)) 26)).alloc (.cells #[.int .i64 kind, .int .i64 cl, .slice od D.length cd] 32)).alloc (.cells #[.int .i64 err, .int .i64 lsn, .slice ord R.length crd] 34)).alloc (.cells (cs zS (.slice none 0 0)) 26)).heap[w.heap.size]? = some (.cells (cs s (.slice o bs.length cap)) 26 (0, 0)) := blk_alloc (blk_alloc (blk_alloc (blk_new_at w (.cells (cs s (.slice o bs.length cap)) 26) (n := w.heap.size) rfl) _) _) _
  have hz4 : ((((w.alloc (.cells (cs s (.slice o bs.length cap)) 26)).alloc (.cells #[.int .i64 kind, .int .i64 cl, .slice od D.length cd] 32)).alloc (.cells #[.int .i64 err, .int .i64 lsn, .slice ord R.length crd] 34)).alloc (.cells (cs zS (.slice none 0 0)) 26)).heap.size = w.heap.size + 4 := by simp
  have hb4 : Below w.heap.size w ((((w.alloc (.cells (cs s (.slice o bs.length cap)) 26)).alloc (.cells #[.int .i64 kind, .int .i64 cl, .slice od D.length cd] 32)).alloc (.cells #[.int .i64 err, .int .i64 lsn, .slice ord R.length crd] 34)).alloc (.cells (cs zS (.slice none 0 0)) 26)) := ((((Below.refl w.heap.size w).alloc (Nat.le_refl _) (.cells (cs s (.slice o bs.length cap)) 26)).alloc (by simp) (.cells #[.int .i64 kind, .int .i64 cl, .slice od D.length cd] 32)).alloc (by simp; omega) (.cells #[.int .i64 err, .int .i64 lsn, .slice ord R.length crd] 34)).alloc (by simp; omega) (.cells (cs zS (.slice none 0 0)) 26)
  have HW := Lib.hid (And.intro hw0 (And.intro hw1 (And.intro hw2 (And.intro hw3 (And.intro hz4 hb4)))))
  have HU := Lib.hid (used_any kind cl od D.length cd ((((w.alloc (.cells (cs s (.slice o bs.length cap)) 26)).alloc (.cells #[.int .i64 kind, .int .i64 cl, .slice od D.length cd] 32)).alloc (.cells #[.int .i64 err, .int .i64 lsn, .slice ord R.length crd] 34)).alloc (.cells (cs zS (.slice none 0 0)) 26)))
  have HA := Lib.hid (And.intro hS (And.intro hn (And.intro hI (And.intro hD (And.intro hc (And.intro hv (And.intro hR hrv)))))))
  clear hw0 hw1 hw2 hw3 hz4 hb4 hS hI hD hc hv hR hrv
  unfold cs at HU HW ⊢
  unfold zS at HW HU
  simp only at HU HW ⊢
  generalize hbl : bs.length = n at *
  generalize hdl : D.length = dl at *
  generalize hrl : R.length = rl at *
  have HL := Lib.hid (And.intro hbl (And.intro hdl hrl))
  clear hbl hdl hrl
  generalize hAF : applyF s bs kind cl D err lsn R = AF
  have HAF := Lib.hid hAF
  clear hAF
  go_enter Try.func10, Try.ntmps10
  go_wp2_with fail
  refine HU.out.mono ?_
  rintro e w1 ⟨rfl, hk⟩
  have hz := HW.out.2.2.2.2.1
  have hm1 := hk.same HW.out.1 id
  have hc1 := hk.same HW.out.2.1 id
  have hr1 := hk.same HW.out.2.2.1 id
  have ho1 : outAt w1 (w.heap.size + 1 + 1 + 1) zS (.slice none 0 0) := hk.same HW.out.2.2.2.1 id
  have hbw : Below w.heap.size w w1 := HW.out.2.2.2.2.2.trans (hk.none.mono (by omega))
  have hz1 : w.heap.size + 4 ≤ w1.heap.size := by have := hk.size; omega
  by_cases hu : usedC kind cl dl = true
  · rw [hu]
    have ek : applyF s bs kind cl D err lsn R = applyS s bs kind cl D err lsn R := by unfold applyF; rw [HL.out.2.1, if_pos hu]
    obtain rfl : AF = applyS s bs kind cl D err lsn R := HAF.out.symm.trans ek
    clear HAF
    obtain ⟨hS, hn', hI, hD, hc, hv, hR, hrv⟩ := HA.out
    have hch := change_any s o cap bs 23 #[.pointer (some ⟨w.heap.size + 1 + 1, 0, none⟩), .pointer (some ⟨w.heap.size + 1, 0, none⟩)] (applyS s bs kind cl D err lsn R) w1 (hS.keep hbw) (by rw [HL.out.1]; exact hn) enter_apply1
      (fun s' bs' h => short_grown (apply_grown h) hS.short)
      (fun base g rv xs w2 h1 h2 h3 hat hrec => by
        have hcall := apply1_any base g (w.heap.size + 1 + 1) (w.heap.size + 1) s rv bs xs kind cl err lsn od cd D ord crd R w2 hat hrec h2 (by rw [HL.out.1]; exact hI) (bys_keep hD (hbw.trans (h3.mono hbw.size))) hc hv (by rw [HL.out.1]; exact hn) (bys_keep hR (hbw.trans (h3.mono hbw.size))) hrv (used_one hu)
          (by rw [HL.out.2.2]; exact (h3.block _ (by omega)).trans hr1) (by rw [HL.out.2.1]; exact (h3.block _ (by omega)).trans hc1)
        exact hcall)
    rw [HL.out.1] at hch
    have hsh := hS.short
    generalize applyS s bs kind cl D err lsn R = O at *
    have HCH := Lib.hid hch
    have H1 := Lib.hid (And.intro hm1 (And.intro ho1 hbw))
    clear hch hm1 hc1 hr1 ho1 hbw hk hS hn' hI hD hc hv hR hrv ek hsh HU
    go_wp2_with (refine load_guard (.tmp 3) 26 (by rfl) ?_; go_must (refine wpList_load_row rfl 26 (.tmp 3) rfl w.heap.size rfl 26 _ (0, 0) _ H1.out.1 Try.underlying26 rfl model_size ?_))
    refine HCH.out.mono ?_
    intro e w2 h
    rcases O with _ | ⟨s', bs'⟩
    · obtain ⟨rfl, hb⟩ := h
      have ho2 : outAt w2 (w.heap.size + 1 + 1 + 1) zS (.slice none 0 0) := (hb.block _ (by omega)).trans H1.out.2.1
      have H2 := Lib.hid (And.intro ho2 (H1.out.2.2.trans (hb.mono H1.out.2.2.size)))
      clear ho2 hb
      go_wp2_with (refine store_guard (.tmp 6) (.tmp 15) 26 (by rfl) ?_; go_must (refine wpList_store_row rfl 26 (.tmp 6) (.tmp 15) rfl (w.heap.size + 1 + 1 + 1) (cs zS (.slice none 0 0)) rfl rfl 26 _ H2.out.1 model_size rfl (cs_all _ _ _ _) ?_))
      refine bodyPost_ret (results_apply _ _ (w.heap.size + 1 + 1 + 1) zS (.slice none 0 0) (.bool false) rfl rfl (setRow_heap w2 _ _ _ _ _ H2.out.1)) rfl ?_
      exact ⟨rfl, H2.out.2.trans ((Keep.setRow (bs := (· = w.heap.size + 1 + 1 + 1)) (Keep.refl _ w2) (Or.inl rfl) _).below H2.out.2.size (fun b hb => by omega))⟩
    · obtain ⟨⟨base, g, o', cap', xs', rfl, hrec, hba⟩, hb⟩ := h
      have ho2 : outAt w2 (w.heap.size + 1 + 1 + 1) zS (.slice none 0 0) := (hb.block _ (by omega)).trans H1.out.2.1
      have H2 := Lib.hid (And.intro ho2 (And.intro (H1.out.2.2.trans (hb.mono H1.out.2.2.size)) hrec))
      clear ho2 hb hrec
      go_wp2_with (refine store_guard (.tmp 6) (.tmp 15) 26 (by rfl) ?_; go_must (refine wpList_store_row rfl 26 (.tmp 6) (.tmp 15) rfl (w.heap.size + 1 + 1 + 1) (cs s' (.slice o' bs'.length cap')) rfl rfl 26 _ H2.out.1 model_size rfl (cs_all _ _ _ _) ?_))
      refine bodyPost_ret (results_apply _ _ (w.heap.size + 1 + 1 + 1) s' (.slice o' bs'.length cap') (.bool true) rfl rfl (setRow_heap w2 _ _ _ _ _ H2.out.1)) rfl ?_
      have kk := Keep.setRow (bs := (· = w.heap.size + 1 + 1 + 1)) (Keep.refl _ w2) (Or.inl rfl) (cs s' (.slice o' bs'.length cap'))
      exact ⟨⟨base, g, o', cap', xs', rfl, H2.out.2.2.keep1 kk (by omega), by omega⟩, H2.out.2.1.trans (kk.below H2.out.2.1.size (fun b hb => by omega))⟩
  · have hu' : usedC kind cl dl = false := by simpa using hu
    rw [hu']
    have ek : applyF s bs kind cl D err lsn R = none := by unfold applyF; rw [HL.out.2.1, if_neg hu]
    obtain rfl : AF = none := HAF.out.symm.trans ek
    clear HAF
    have H2 := Lib.hid (And.intro ho1 hbw)
    clear hm1 hc1 hr1 ho1 hbw hk HU HA ek hu hu'
    go_wp2_with (refine store_guard (.tmp 6) (.tmp 11) 26 (by rfl) ?_; go_must (refine wpList_store_row rfl 26 (.tmp 6) (.tmp 11) rfl (w.heap.size + 1 + 1 + 1) (cs zS (.slice none 0 0)) rfl rfl 26 _ H2.out.1 model_size rfl (cs_all _ _ _ _) ?_))
    refine bodyPost_ret (results_apply _ _ (w.heap.size + 1 + 1 + 1) zS (.slice none 0 0) (.bool false) rfl rfl (setRow_heap w1 _ _ _ _ _ H2.out.1)) rfl ?_
    exact ⟨rfl, H2.out.2.trans ((Keep.setRow (bs := (· = w.heap.size + 1 + 1 + 1)) (Keep.refl _ w1) (Or.inl rfl) _).below H2.out.2.size (fun b hb => by omega))⟩
end Md
end Go.Proofs.Ytjiehgfamlidnaa
