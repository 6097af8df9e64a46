/- Package linear: begun. By an AI agent. -/
import Derived.Test.YtjiehgfamlidnaaLinT
import Derived.Test.YtjiehgfamlidnaaModN
import Derived.Deep.OwnRows
import Derived.Carry
namespace Go.Proofs.Ytjiehgfamlidnaa.Lin
open Go.ChangeShapes Go.WideShapes Go.ChangeAt Go.RowKit
open Md
set_option linter.unusedVariables false
set_option linter.unusedSimpArgs false

theorem info_uint : (Try.prog.info? 68).map (fun i => (i.zero, i.size, i.bytes)) = some (some (.int .u64 0), 1, 8) := by kernel_rfl
/-- A row of bit sets. -/
def befsA (f : Nat → Nat) (n : Nat) : Array Value := ((List.range n).map fun i => Value.int .u64 ((f i : Nat) : Int)).toArray
theorem befsA_get (f : Nat → Nat) (n i : Nat) (h : i < n) : (befsA f n)[i]? = some (.int .u64 ((f i : Nat) : Int)) := by simp [befsA, h]
theorem befsA_set (f : Nat → Nat) (n i v : Nat) : (befsA f n).setIfInBounds i (.int .u64 (v : Int)) = befsA (fun j => if j = i then v else f j) n := by
  apply Array.ext_getElem?
  intro j
  rw [Array.getElem?_setIfInBounds]
  by_cases hj : j < n
  · by_cases hij : i = j
    · subst hij
      simp [befsA, hj]
    · have : ¬ j = i := fun e => hij e.symm
      simp [befsA, hj, hij, this]
  · by_cases hij : i = j
    · subst hij; simp [befsA, hj]
    · simp [befsA, hj, hij]
theorem befsA_congr {f g : Nat → Nat} {n : Nat} (h : ∀ i, i < n → f i = g i) : befsA f n = befsA g n := by
  unfold befsA
  congr 1
  apply List.map_congr_left
  intro i hi
  rw [h i (List.mem_range.1 hi)]
theorem made_uints (n : Nat) : Go.madeCells #[Value.int .u64 0] n = befsA (fun _ => 0) n := by
  rw [← Array.toList_inj, toList_madeCells_one]
  apply List.ext_getElem?
  intro j
  by_cases hj : j < n <;> simp [befsA, hj]
theorem mask_succ (n : Nat) (f : Nat → Bool) : maskOf (n + 1) f = if f n = true then maskOf n f ||| 2 ^ n else maskOf n f := by
  unfold maskOf
  rw [List.range_succ, List.foldl_append]
  rfl

def openN (ps : List Past) : Nat → Nat
  | 0 => 0
  | k + 1 => openN ps k + if (ps.getD k zP).en = 0 then 1 else 0
theorem openN_le (ps : List Past) (k : Nat) : openN ps k ≤ k := by
  induction k with
  | zero => simp [openN]
  | succ k ih => unfold openN; split <;> omega
/-- What the search begins with: is it refused? -/
def bgE (base : Int) (ps : List Past) : Int := if base < 1 then 1 else if 12 < ps.length ∨ 4 < openN ps ps.length then 9 else if timB ps = true then 0 else 63

def BgRes (w : World) (base : Int) (o : Option Addr) (ps : List Past) (cap : Nat) (e : Ending) (w' : World) : Prop :=
  (bgE base ps ≠ 0 ∧ e = .returned (.tuple #[.pointer none, .agg (cs zS (.slice none 0 0)), .int .i64 (bgE base ps)]) ∧ Below w.heap.size w w') ∨
  (bgE base ps = 0 ∧ ∃ b bb bt, e = .returned (.tuple #[.pointer (some ⟨b, 0, none⟩), .agg (cs (newS base) (.slice none 0 0)), .int .i64 0]) ∧ SM w ps o cap b bb bt w' (.slice none 0 0) [] 0 0 (fun _ => False))

theorem results_begun (tmps : Array Value) (w : World) (bo : Nat) (s : S) (rv v4 v6 : Value) (h4 : tmps.getD 4 undef = v4) (h5 : tmps.getD 5 undef = .pointer (some ⟨bo, 0, none⟩)) (h6 : tmps.getD 6 undef = v6) (ho : outAt w bo s rv) :
    (results Try.f26 tmps).run Try.prog w = .ok (.tuple #[v4, .agg (cs s rv), v6]) w := by
  have h1 := run_loadVar_row (P := Try.prog) w bo 26 26 (cs s rv) (0, 0) _ ho Try.underlying26 rfl model_size
  have e4 : tmps[4]?.getD undef = v4 := by simpa using h4
  have e5 : tmps[5]?.getD undef = .pointer (some ⟨bo, 0, none⟩) := by simpa using h5
  have e6 : tmps[6]?.getD undef = v6 := by simpa using h6
  simp [results, Try.results26, e4, e5, e6, asAddr, h1]

def srowA (o : Option Addr) (n cap : Nat) (a : Nat) (bb bt : Nat) : Array Value :=
  #[.slice o n cap, .int .u64 (a : Int), .slice (some ⟨bb, 0, none⟩) n n, .map (some bt), .slice none 0 0, .int .i64 0]
def doneB (ps : List Past) (k : Nat) : Bool := decide ((ps.getD k zP).en ≠ 0)
/-- The bit sets so far: of those below k, and of k so far as kk. -/
def befF (ps : List Past) (k kk j : Nat) : Nat := if j < k then befOf ps j else if j = k then maskOf kk (fun q => ahead (ps.getD q zP) (ps.getD k zP)) else 0
/-- The search as far as it was filled. -/
structure L3 (w : World) (o : Option Addr) (ps : List Past) (cap bm : Nat) (base : Int) (wr : World) (b bb bt : Nat) (k a kk : Nat) : Prop where
  low : Below w.heap.size w wr
  box : wr.heap[bm]? = some (.cells #[.int .i64 base, .int .i64 base, .int .i64 base, .int .i64 base, .int .i64 9223372036854775807, .slice none 0 0, .bool false, .bool false] 26 (0, 0))
  row : wr.heap[b]? = some (.cells (srowA o ps.length cap (maskOf a (doneB ps)) bb bt) 75 (0, 0))
  bef : wr.heap[bb]? = some (.cells (befsA (befF ps k kk) ps.length) 68 (0, 0))
  map : TM wr bt 0 (fun _ => False)
  out : outAt wr w.heap.size zS (.slice none 0 0)
  hb : w.heap.size ≤ b
  hbb : w.heap.size ≤ bb
  hbt : w.heap.size ≤ bt
  hbm : w.heap.size ≤ bm
abbrev L2 (w : World) (o : Option Addr) (ps : List Past) (cap bm : Nat) (base : Int) (wr : World) (b bb bt : Nat) (k : Nat) : Prop := L3 w o ps cap bm base wr b bb bt k k 0
theorem bef_zero (ps : List Past) (n : Nat) : befsA (fun _ => 0) n = befsA (befF ps 0 0) n := by
  apply befsA_congr
  intro i hi
  unfold befF
  simp [maskOf]
theorem heap_drew1 (w : World) : w.drew.heap = w.heap := rfl
theorem below_drew (w : World) : Below w.heap.size w w.drew := ⟨rfl, rfl, rfl, Nat.le_refl _, fun _ _ => rfl⟩
theorem L3.next {w : World} {o : Option Addr} {ps : List Past} {cap bm : Nat} {base : Int} {wr : World} {b bb bt k a : Nat} (h : L3 w o ps cap bm base wr b bb bt k a ps.length) : L3 w o ps cap bm base wr b bb bt (k + 1) a 0 := by
  refine ⟨h.low, h.box, h.row, ?_, h.map, h.out, h.hb, h.hbb, h.hbt, h.hbm⟩
  have := h.bef
  rw [befsA_congr (g := befF ps (k + 1) 0)] at this
  · exact this
  · intro i hi
    unfold befF
    rcases Nat.lt_trichotomy i k with h | h | h
    · rw [if_pos h, if_pos (by omega)]
    · subst h
      rw [if_neg (by omega), if_pos rfl, if_pos (by omega)]
      rfl
    · rw [if_neg (by omega), if_neg (by omega), if_neg (by omega)]
      split
      · simp [maskOf]
      · rfl
theorem L3.apart {w : World} {o : Option Addr} {ps : List Past} {cap bm : Nat} {base : Int} {wr : World} {b bb bt k a kk : Nat} (h : L3 w o ps cap bm base wr b bb bt k a kk) : b ≠ bb ∧ b ≠ bt ∧ bb ≠ bt ∧ b ≠ bm ∧ bb ≠ bm ∧ b ≠ w.heap.size ∧ bb ≠ w.heap.size ∧ bt ≠ w.heap.size := by
  obtain ⟨D, ⟨es, clock, hb2, r⟩, _⟩ := h.map
  have h1 := h.row
  have h2 := h.bef
  have h3 := h.box
  have h4 : wr.heap[w.heap.size]? = some (.cells (cs zS (.slice none 0 0)) 26 (0, 0)) := h.out
  refine ⟨fun e => ?_, fun e => ?_, fun e => ?_, fun e => ?_, fun e => ?_, fun e => ?_, fun e => ?_, fun e => ?_⟩
  · rw [e, h2] at h1
    have h2 : (68 : TypeId) = 75 := congrArg (fun o => match o with | some (Obj.cells _ t _) => t | _ => 0) h1
    exact absurd h2 (by decide)
  · rw [e, hb2] at h1; cases h1
  · rw [e, hb2] at h2; cases h2
  · rw [e, h3] at h1
    have h2 : (26 : TypeId) = 75 := congrArg (fun o => match o with | some (Obj.cells _ t _) => t | _ => 0) h1
    exact absurd h2 (by decide)
  · rw [e, h3] at h2
    have h2 : (26 : TypeId) = 68 := congrArg (fun o => match o with | some (Obj.cells _ t _) => t | _ => 0) h2
    exact absurd h2 (by decide)
  · rw [e, h4] at h1
    have h2 : (26 : TypeId) = 75 := congrArg (fun o => match o with | some (Obj.cells _ t _) => t | _ => 0) h1
    exact absurd h2 (by decide)
  · rw [e, h4] at h2
    have h2 : (26 : TypeId) = 68 := congrArg (fun o => match o with | some (Obj.cells _ t _) => t | _ => 0) h2
    exact absurd h2 (by decide)
  · rw [e, h4] at hb2; cases hb2
theorem L3.grow {w : World} {o : Option Addr} {ps : List Past} {cap bm : Nat} {base : Int} {wr wr' : World} {b bb bt k a kk : Nat} (h : L3 w o ps cap bm base wr b bb bt k a kk) (g : Below wr.heap.size wr wr') : L3 w o ps cap bm base wr' b bb bt k a kk :=
  ⟨h.low.trans (g.mono h.low.size), blk_keep g h.box, blk_keep g h.row, blk_keep g h.bef, tm_kept h.map (Keep.of_below g) id, blk_keep g h.out, h.hb, h.hbb, h.hbt, h.hbm⟩
/-- A done one is counted. -/
theorem L3.all {w : World} {o : Option Addr} {ps : List Past} {cap bm : Nat} {base : Int} {wr : World} {b bb bt k a kk : Nat} (h : L3 w o ps cap bm base wr b bb bt k a kk) (hd : doneB ps a = true) :
    L3 w o ps cap bm base (wr.setCell ⟨b, 1, none⟩ (.int .u64 ((maskOf a (doneB ps) ||| 2 ^ a : Nat) : Int))) b bb bt k (a + 1) kk := by
  have ha := h.apart
  have k4 : Keep (· = b) wr (wr.setCell ⟨b, 1, none⟩ (.int .u64 ((maskOf a (doneB ps) ||| 2 ^ a : Nat) : Int))) := Keep.setCell (bs := (· = b)) (Keep.refl _ wr) (p := ⟨b, 1, none⟩) (Or.inl rfl) _
  refine ⟨h.low.trans (k4.below h.low.size (fun x hx => by have := h.hb; omega)), k4.same h.box (fun e => ha.2.2.2.1 e.symm), ?_, k4.same h.bef (fun e => ha.1 e.symm), tm_kept h.map k4 (fun e => ha.2.1 e.symm), k4.same h.out (fun e => ha.2.2.2.2.2.1 e.symm), h.hb, h.hbb, h.hbt, h.hbm⟩
  have := blk_set h.row 1 (.int .u64 ((maskOf a (doneB ps) ||| 2 ^ a : Nat) : Int))
  rw [mask_succ, if_pos hd]
  exact this
theorem L3.skip {w : World} {o : Option Addr} {ps : List Past} {cap bm : Nat} {base : Int} {wr : World} {b bb bt k a kk : Nat} (h : L3 w o ps cap bm base wr b bb bt k a kk) (hd : doneB ps a = false) : L3 w o ps cap bm base wr b bb bt k (a + 1) kk := by
  refine ⟨h.low, h.box, ?_, h.bef, h.map, h.out, h.hb, h.hbb, h.hbt, h.hbm⟩
  have := h.row
  rw [mask_succ, if_neg (by rw [hd]; decide)]
  exact this
theorem befF_self (ps : List Past) (k kk : Nat) : befF ps k kk k = maskOf kk (fun q => ahead (ps.getD q zP) (ps.getD k zP)) := by unfold befF; rw [if_neg (by omega), if_pos rfl]
theorem L3.put {w : World} {o : Option Addr} {ps : List Past} {cap bm : Nat} {base : Int} {wr : World} {b bb bt k a kk : Nat} (h : L3 w o ps cap bm base wr b bb bt k a kk) (hd : ahead (ps.getD kk zP) (ps.getD k zP) = true) :
    L3 w o ps cap bm base (wr.setCell ⟨bb, k, none⟩ (.int .u64 ((befF ps k kk k ||| 2 ^ kk : Nat) : Int))) b bb bt k a (kk + 1) := by
  have ha := h.apart
  have k4 : Keep (· = bb) wr (wr.setCell ⟨bb, k, none⟩ (.int .u64 ((befF ps k kk k ||| 2 ^ kk : Nat) : Int))) := Keep.setCell (bs := (· = bb)) (Keep.refl _ wr) (p := ⟨bb, k, none⟩) (Or.inl rfl) _
  refine ⟨h.low.trans (k4.below h.low.size (fun x hx => by have := h.hbb; omega)), k4.same h.box (fun e => ha.2.2.2.2.1 e.symm), k4.same h.row ha.1, ?_, tm_kept h.map k4 (fun e => ha.2.2.1 e.symm), k4.same h.out (fun e => ha.2.2.2.2.2.2.1 e.symm), h.hb, h.hbb, h.hbt, h.hbm⟩
  have := blk_set h.bef k (.int .u64 ((befF ps k kk k ||| 2 ^ kk : Nat) : Int))
  rw [befsA_set] at this
  rw [befsA_congr (g := befF ps k (kk + 1))] at this
  · exact this
  · intro i hi
    by_cases he : i = k
    · subst he
      rw [if_pos rfl, befF_self, befF_self, mask_succ, if_pos hd]
    · rw [if_neg he]
      unfold befF
      simp [he]
theorem L3.pass {w : World} {o : Option Addr} {ps : List Past} {cap bm : Nat} {base : Int} {wr : World} {b bb bt k a kk : Nat} (h : L3 w o ps cap bm base wr b bb bt k a kk) (hd : ahead (ps.getD kk zP) (ps.getD k zP) = false) : L3 w o ps cap bm base wr b bb bt k a (kk + 1) := by
  refine ⟨h.low, h.box, h.row, ?_, h.map, h.out, h.hb, h.hbb, h.hbt, h.hbm⟩
  have := h.bef
  rw [befsA_congr (g := befF ps k (kk + 1))] at this
  · exact this
  · intro i hi
    have e : maskOf (kk + 1) (fun q => ahead (ps.getD q zP) (ps.getD k zP)) = maskOf kk (fun q => ahead (ps.getD q zP) (ps.getD k zP)) := by rw [mask_succ, if_neg (by rw [hd]; decide)]
    unfold befF
    rw [e]
theorem L3.sm {w : World} {o : Option Addr} {ps : List Past} {cap bm : Nat} {base : Int} {wr : World} {b bb bt : Nat} (h : L3 w o ps cap bm base wr b bb bt ps.length ps.length 0) : SM w ps o cap b bb bt wr (.slice none 0 0) [] 0 0 (fun _ => False) := by
  refine ⟨h.row, ?_, h.low, h.hb, h.hbb, h.hbt, ⟨rfl, Or.inl ⟨rfl, rfl⟩⟩, h.map⟩
  have := h.bef
  rw [befsA_congr (g := befOf ps)] at this
  · exact this
  · intro i hi
    unfold befF
    rw [if_pos hi]
theorem SM.other {w0 : World} {ps : List Past} {o : Option Addr} {cap b bb bt x : Nat} {most : Int} {w w' : World} {n : Nat} {T : Key → Prop} (h : SM w0 ps o cap b bb bt w (.slice none 0 0) [] most n T) (k : Keep (· = x) w w') (hx : w0.heap.size ≤ x) (h1 : b ≠ x) (h2 : bb ≠ x) (h3 : bt ≠ x) : SM w0 ps o cap b bb bt w' (.slice none 0 0) [] most n T :=
  ⟨k.same h.row h1, k.same h.bef h2, h.low.trans (k.below h.low.size (fun y hy => by omega)), h.hb, h.hbb, h.hbt, ⟨rfl, Or.inl ⟨rfl, rfl⟩⟩, tm_kept h.tried k h3⟩
theorem l2_start {w wr w4 : World} {o : Option Addr} {ps : List Past} {cap bm k : Nat} {base : Int} (hk : ps.length = k) (h : Below w.heap.size w wr) (hm : wr.heap[bm]? = some (.cells #[.int .i64 base, .int .i64 base, .int .i64 base, .int .i64 base, .int .i64 9223372036854775807, .slice none 0 0, .bool false, .bool false] 26 (0, 0))) (ho : outAt wr w.heap.size zS (.slice none 0 0)) (hbm : w.heap.size ≤ bm) (h4 : Below wr.heap.size wr w4) :
    L2 w o ps cap bm base ((((w4.alloc (.cells (befsA (fun _ => 0) k) 68)).alloc (.map #[] 0)).alloc (.cells (srowA o k cap 0 w4.heap.size (w4.heap.size + 1)) 75))) (w4.heap.size + 1 + 1) w4.heap.size (w4.heap.size + 1) 0 := by
  subst hk
  have hs := h.size
  have hs4 := h4.size
  have g : Below wr.heap.size wr ((((w4.alloc (.cells (befsA (fun _ => 0) ps.length) 68)).alloc (.map #[] 0)).alloc (.cells (srowA o ps.length cap 0 w4.heap.size (w4.heap.size + 1)) 75))) := ((h4.alloc hs4 _).alloc (by simp; omega) _).alloc (by simp; omega) _
  have hmap : TM ((w4.alloc (.cells (befsA (fun _ => 0) ps.length) 68)).alloc (.map #[] 0)) (w4.heap.size + 1) 0 (fun _ => False) := by
    have := tm_new (w4.alloc (.cells (befsA (fun _ => 0) ps.length) 68))
    rw [show (w4.alloc (.cells (befsA (fun _ => 0) ps.length) 68)).heap.size = w4.heap.size + 1 from by simp] at this
    exact this
  refine ⟨h.trans (g.mono hs), blk_keep g hm, blk_new_at _ _ (by simp), ?_, tm_kept hmap (Keep.of_below ((Below.refl _ _).alloc (Nat.le_refl _) _)) id, blk_keep g ho, by omega, by omega, by omega, hbm⟩
  rw [← bef_zero]
  exact blk_alloc (blk_alloc (blk_new w4 _) _) _

set_option maxRecDepth 100000 in
set_option maxHeartbeats 16000000 in
theorem begun_any (base : Int) (o : Option Addr) (ps : List Past) (cap : Nat) (w : World) (hP : Ps w o ps) (hn : ps.length ≤ 1000000) :
    Calls Try.prog 26 #[.int .i64 base, .slice o ps.length cap] w (BgRes w base o ps cap) := by
  have HNEW := Lib.hid (fun w => new_any base w)
  have HP := Lib.hid hP
  have HBG : RowKit.Hid (bgE base ps = if base < 1 then 1 else if 12 < ps.length ∨ 4 < openN ps ps.length then 9 else if timB ps = true then 0 else 63) := Lib.hid rfl
  clear hP
  generalize hl : ps.length = n at *
  have HLN := Lib.hid hl
  clear hl
  by_cases hb : base < 1
  · rw [if_pos hb, if_pos hb] at HNEW
    rw [if_pos hb] at HBG
    clear hb
    unfold cs zS at HNEW
    go_enter Try.func26, Try.ntmps26
    go_wp2_with (first
      | (go_at_call 8
         refine (HNEW.out _).mono ?_
         intro e w2 h2
         obtain ⟨rfl, hb2⟩ := h2
         have H2 := Lib.hid (And.intro (((Below.refl _ w).alloc (Nat.le_refl _) (.cells (cs zS (.slice none 0 0)) 26)).trans (hb2.mono (by simp))) (show outAt w2 w.heap.size zS (.slice none 0 0) from (hb2.block w.heap.size (by simp)).trans (blk_new w _)))
         clear hb2)
      | (refine store_guard (.tmp 5) (.tmp 24) 26 (by rfl) ?_
         go_must (refine wpList_store_row rfl 26 (.tmp 5) (.tmp 24) rfl w.heap.size (cs zS (.slice none 0 0)) rfl rfl 26 _ (blk_alloc H2.out.2 _) model_size rfl (cs_all _ _ _ _) ?_)))
    refine bodyPost_ret (results_begun _ _ w.heap.size zS (.slice none 0 0) (.pointer none) (.int .i64 1) rfl rfl rfl (setRow_heap _ _ _ _ _ _ (blk_alloc H2.out.2 _))) rfl ?_
    refine Or.inl ⟨by rw [HBG.out]; decide, by rw [HBG.out], ?_⟩
    exact (H2.out.1.alloc H2.out.1.size _).trans ((Keep.setRow (bs := (· = w.heap.size)) (Keep.refl _ _) (Or.inl rfl) _).below (by have := H2.out.1.size; simp; omega) (fun b hb => by omega))
  · rw [if_neg hb, if_neg hb] at HNEW
    rw [if_neg hb] at HBG
    clear hb
    unfold cs newS at HNEW
    go_enter Try.func26, Try.ntmps26
    go_wp2_with (go_at_call 8
                 refine (HNEW.out _).mono ?_
                 intro e w2 h2
                 obtain ⟨rfl, hb2⟩ := h2
                 have H2 := Lib.hid (And.intro (((Below.refl _ w).alloc (Nat.le_refl _) (.cells (cs zS (.slice none 0 0)) 26)).trans (hb2.mono (by simp))) (show outAt w2 w.heap.size zS (.slice none 0 0) from (hb2.block w.heap.size (by simp)).trans (blk_new w _)))
                 clear hb2)
    go_wp2_with fail
    have hk3 : Below w.heap.size w (w2.alloc (.cells #[.int .i64 base, .int .i64 base, .int .i64 base, .int .i64 base, .int .i64 9223372036854775807, .slice none 0 0, .bool false, .bool false] 26)) := H2.out.1.alloc H2.out.1.size _
    have hz3 : outAt (w2.alloc (.cells #[.int .i64 base, .int .i64 base, .int .i64 base, .int .i64 base, .int .i64 9223372036854775807, .slice none 0 0, .bool false, .bool false] 26)) w.heap.size zS (.slice none 0 0) := blk_alloc H2.out.2 _
    have hm3 : (w2.alloc (.cells #[.int .i64 base, .int .i64 base, .int .i64 base, .int .i64 base, .int .i64 9223372036854775807, .slice none 0 0, .bool false, .bool false] 26)).heap[w2.heap.size]? = some (.cells #[.int .i64 base, .int .i64 base, .int .i64 base, .int .i64 base, .int .i64 9223372036854775807, .slice none 0 0, .bool false, .bool false] 26 (0, 0)) := blk_new w2 _
    have HW2 := Lib.hid H2.out.1.size
    generalize w2.alloc (.cells #[.int .i64 base, .int .i64 base, .int .i64 base, .int .i64 base, .int .i64 9223372036854775807, .slice none 0 0, .bool false, .bool false] 26) = W3 at *
    have H3 := Lib.hid (And.intro hk3 (And.intro hz3 hm3))
    clear hk3 hz3 hm3 H2 HNEW
    go_loopg [9, 27] n (fun gq s9 s27 wr => ∃ k : Nat, gq + k = n ∧ s27 = .int .i64 (k : Int) ∧ s9 = .int .i64 ((openN ps k : Nat) : Int) ∧ Hid (Below W3.heap.size W3 wr))
    case atStart => exact ⟨0, by omega, rfl, rfl, Below.refl _ _⟩
    case round =>
      obtain ⟨k, hgk, rfl, rfl, HK⟩ := hrel
      by_cases hk : k < n
      · obtain ⟨ab, ao, rfl, od, cd, ord, crd, hps, q0, q1, q2, q3, q4, q5, q6, q7⟩ := ((HP.out.keep H3.out.1).keep (HK.out.mono H3.out.1.size |> fun h => ⟨h.os, h.tape, h.output, HK.out.size, HK.out.block⟩)).at k (by rw [HLN.out]; exact hk)
        have HB := Lib.hid (HK.out.alloc HK.out.size (.cells (pcells (ps.getD k zP) od cd ord crd) 50))
        have HO : RowKit.Hid (openN ps (k + 1) = openN ps k + if (ps.getD k zP).en = 0 then 1 else 0) := Lib.hid rfl
        have hole := openN_le ps k
        generalize hok : openN ps k = ok at *
        generalize hok2 : openN ps (k + 1) = ok2 at *
        clear hps hok
        unfold pcells at HB
        generalize (ps.getD k zP).kind = p0 at *
        generalize (ps.getD k zP).cl = p1 at *
        generalize (ps.getD k zP).D.length = p2 at *
        generalize (ps.getD k zP).err = p3 at *
        generalize (ps.getD k zP).lsn = p4 at *
        generalize (ps.getD k zP).R.length = p5 at *
        generalize (ps.getD k zP).beg = p6 at *
        generalize (ps.getD k zP).en = p7 at *
        by_cases he : p7 = 0
        · have e0 : (p7 == 0) = true := by simp [he]
          have ho := HO.out
          rw [if_pos he] at ho
          clear he
          go_wp2_with fail
          go_roundg (gk - 1)
          case measure => omega
          case rel => exact ⟨k + 1, by omega, rfl, by rw [hok2, ho]; rfl, HB.out⟩
        · have e0 : (p7 == 0) = false := by simp [he]
          have ho := HO.out
          rw [if_neg he] at ho
          clear he
          go_wp2_with fail
          go_roundg (gk - 1)
          case measure => omega
          case rel => exact ⟨k + 1, by omega, rfl, by rw [hok2, ho]; rfl, HB.out⟩
      · obtain rfl : k = n := by omega
        have hole := openN_le ps k
        have hkk := H3.out.1.trans (HK.out.mono H3.out.1.size)
        have hzr : outAt wr w.heap.size zS (.slice none 0 0) := (HK.out.block _ (lt_of_block H3.out.2.1)).trans H3.out.2.1
        have hmr : wr.heap[w2.heap.size]? = some (.cells #[.int .i64 base, .int .i64 base, .int .i64 base, .int .i64 base, .int .i64 9223372036854775807, .slice none 0 0, .bool false, .bool false] 26 (0, 0)) := (HK.out.block _ (lt_of_block H3.out.2.2)).trans H3.out.2.2
        have HR := Lib.hid (And.intro hkk (And.intro hzr hmr))
        have HTI := Lib.hid (timely_any o ps cap wr (HP.out.keep hkk) (by rw [HLN.out]; exact hn))
        rw [HLN.out] at HTI
        clear hkk hzr hmr
        generalize openN ps k = op at *
        by_cases h12 : 12 < k
        · have d1 : decide ((k : Int) > 12) = true := by simp; omega
          go_wp2_with (first
            | (refine store_guard (.tmp 5) (.tmp 45) 26 (by rfl) ?_
               go_must (refine wpList_store_row rfl 26 (.tmp 5) (.tmp 45) rfl w.heap.size (cs zS (.slice none 0 0)) rfl rfl 26 _ HR.out.2.1 model_size rfl (cs_all _ _ _ _) ?_)))
          refine bodyPost_ret (results_begun _ _ w.heap.size zS (.slice none 0 0) (.pointer none) (.int .i64 9) rfl rfl rfl (setRow_heap _ _ _ _ _ _ HR.out.2.1)) rfl ?_
          have hbg : bgE base ps = 9 := by rw [HBG.out, if_pos (by omega)]
          refine Or.inl ⟨by rw [hbg]; decide, by rw [hbg], ?_⟩
          exact HR.out.1.trans ((Keep.setRow (bs := (· = w.heap.size)) (Keep.refl _ _) (Or.inl rfl) _).below HR.out.1.size (fun b hb => by omega))
        · have d1 : decide ((k : Int) > 12) = false := by simp; omega
          by_cases h4 : 4 < op
          · have d2 : decide ((op : Int) > 4) = true := by simp; omega
            go_wp2_with (first
              | (refine store_guard (.tmp 5) (.tmp 45) 26 (by rfl) ?_
                 go_must (refine wpList_store_row rfl 26 (.tmp 5) (.tmp 45) rfl w.heap.size (cs zS (.slice none 0 0)) rfl rfl 26 _ HR.out.2.1 model_size rfl (cs_all _ _ _ _) ?_)))
            refine bodyPost_ret (results_begun _ _ w.heap.size zS (.slice none 0 0) (.pointer none) (.int .i64 9) rfl rfl rfl (setRow_heap _ _ _ _ _ _ HR.out.2.1)) rfl ?_
            have hbg : bgE base ps = 9 := by rw [HBG.out, if_pos (by omega)]
            refine Or.inl ⟨by rw [hbg]; decide, by rw [hbg], ?_⟩
            exact HR.out.1.trans ((Keep.setRow (bs := (· = w.heap.size)) (Keep.refl _ _) (Or.inl rfl) _).below HR.out.1.size (fun b hb => by omega))
          · have d2 : decide ((op : Int) > 4) = false := by simp; omega
            rw [if_neg (by omega)] at HBG
            rcases htb : timB ps with _ | _
            · rw [htb] at HTI HBG
              clear htb
              go_wp2_with (first
                | (go_at_call 28; refine HTI.out.mono ?_; intro e w4 h4; obtain ⟨rfl, hb4⟩ := h4; have H4 := Lib.hid (And.intro (HR.out.1.trans (hb4.mono HR.out.1.size)) (show outAt w4 w.heap.size zS (.slice none 0 0) from (hb4.block _ (lt_of_block HR.out.2.1)).trans HR.out.2.1)); clear hb4)
                | (refine store_guard (.tmp 5) (.tmp 50) 26 (by rfl) ?_
                   go_must (refine wpList_store_row rfl 26 (.tmp 5) (.tmp 50) rfl w.heap.size (cs zS (.slice none 0 0)) rfl rfl 26 _ H4.out.2 model_size rfl (cs_all _ _ _ _) ?_)))
              refine bodyPost_ret (results_begun _ _ w.heap.size zS (.slice none 0 0) (.pointer none) (.int .i64 63) rfl rfl rfl (setRow_heap _ _ _ _ _ _ H4.out.2)) rfl ?_
              have hbg : bgE base ps = 63 := by rw [HBG.out]; rfl
              refine Or.inl ⟨by rw [hbg]; decide, by rw [hbg], ?_⟩
              exact H4.out.1.trans ((Keep.setRow (bs := (· = w.heap.size)) (Keep.refl _ _) (Or.inl rfl) _).below H4.out.1.size (fun b hb => by omega))
            · rw [htb] at HTI HBG
              have HTB := Lib.hid htb
              clear htb
              have hmk : ∀ w, (Instr.makeSlice 72 (.int .i64 (k : Int)) (.int .i64 (k : Int))).run Try.prog w = .ok (.slice (some ⟨w.heap.size, 0, none⟩) k k) (w.alloc (.cells (befsA (fun _ => 0) k) 68)) := by
                intro w
                have h := run_make_row' (P := Try.prog) 72 68 (.int .u64 0) 8 Try.underlying72 info_uint rfl .i64 .i64 k (by omega) (by omega) w
                rw [made_uints] at h
                exact h
              have hmm : ∀ w, (Instr.makeMap 73 none).run Try.prog w = .ok (.map (some w.heap.size)) (w.alloc (.map #[] 0)) := fun w => run_makeMap _ w
              have HIN : RowKit.Hid (∀ w4 : World, Below wr.heap.size wr w4 → L2 w o ps cap w2.heap.size base ((((w4.alloc (.cells (befsA (fun _ => 0) k) 68)).alloc (.map #[] 0)).alloc (.cells (srowA o k cap 0 w4.heap.size (w4.heap.size + 1)) 75))) (w4.heap.size + 1 + 1) w4.heap.size (w4.heap.size + 1) 0) := Lib.hid fun w4 k4 => l2_start HLN.out HR.out.1 HR.out.2.2 HR.out.2.1 HW2.out k4
              go_wp2_with (go_at_call 28; refine HTI.out.mono ?_; intro e w4 h4; obtain ⟨rfl, hb4⟩ := h4; have H4 := Lib.hid hb4; clear hb4)
              clear hmk hmm
              have HI2 := Lib.hid (HIN.out w4 H4.out)
              unfold srowA at HI2
              go_loopg [60] k (fun gq s60 wr => ∃ i : Nat, gq + i = k ∧ s60 = .int .i64 (i : Int) ∧ Hid (L2 w o ps cap w2.heap.size base wr (w4.heap.size + 1 + 1) w4.heap.size (w4.heap.size + 1) i))
              case atStart => exact ⟨0, by omega, rfl, HI2.out⟩
              case round =>
                obtain ⟨i, hgi, rfl, HI⟩ := hrel
                obtain ⟨gO, hgO⟩ : ∃ x, x = gk := ⟨_, rfl⟩
                by_cases hi : i < k
                · obtain ⟨ab, ao, rfl, odp, cdp, ordp, crdp, hps, q0, q1, q2, q3, q4, q5, q6, q7⟩ := (HP.out.keep HI.out.low).at i (by rw [HLN.out]; exact hi)
                  have HPC : RowKit.Hid (doneB ps i = decide ((ps.getD i zP).en ≠ 0)) := Lib.hid rfl
                  obtain ⟨p0, hp0⟩ : ∃ x, (ps.getD i zP).kind = x := ⟨_, rfl⟩
                  obtain ⟨p1, hp1⟩ : ∃ x, (ps.getD i zP).cl = x := ⟨_, rfl⟩
                  obtain ⟨p2, hp2⟩ : ∃ x, (ps.getD i zP).D.length = x := ⟨_, rfl⟩
                  obtain ⟨p3, hp3⟩ : ∃ x, (ps.getD i zP).err = x := ⟨_, rfl⟩
                  obtain ⟨p4, hp4⟩ : ∃ x, (ps.getD i zP).lsn = x := ⟨_, rfl⟩
                  obtain ⟨p5, hp5⟩ : ∃ x, (ps.getD i zP).R.length = x := ⟨_, rfl⟩
                  obtain ⟨p6, hp6⟩ : ∃ x, (ps.getD i zP).beg = x := ⟨_, rfl⟩
                  obtain ⟨p7, hp7⟩ : ∃ x, (ps.getD i zP).en = x := ⟨_, rfl⟩
                  rw [hp0] at q0; rw [hp1] at q1; rw [hp2] at q2; rw [hp3] at q3; rw [hp4] at q4; rw [hp5] at q5; rw [hp6] at q6; rw [hp7] at q7 HPC
                  have HPP := Lib.hid (And.intro hp0 (And.intro hp1 (And.intro hp2 (And.intro hp3 (And.intro hp4 (And.intro hp5 (And.intro hp6 hp7)))))))
                  clear hps hp0 hp1 hp2 hp3 hp4 hp5 hp6 hp7
                  have HG2 := Lib.hid (HI.out.grow ((Below.refl _ wr).alloc (Nat.le_refl _) (.cells #[.int .i64 p0, .int .i64 p1, .slice odp p2 cdp, .int .i64 p3, .int .i64 p4, .slice ordp p5 crdp, .int .i64 p6, .int .i64 p7] 50)))
                  have HB2 := Lib.hid (blk_new wr (.cells #[.int .i64 p0, .int .i64 p1, .slice odp p2 cdp, .int .i64 p3, .int .i64 p4, .slice ordp p5 crdp, .int .i64 p6, .int .i64 p7] 50))
                  by_cases he : p7 = 0
                  · have e0 : (p7 != 0) = false := by simp [he]
                    have hdn : doneB ps i = false := by rw [HPC.out]; simp [he]
                    clear he
                    have hL5 := HG2.out.skip hdn
                    have hP5 := HB2.out
                    go_wp2_with fail
                    generalize wr.alloc (.cells #[.int .i64 p0, .int .i64 p1, .slice odp p2 cdp, .int .i64 p3, .int .i64 p4, .slice ordp p5 crdp, .int .i64 p6, .int .i64 p7] 50) = W5 at hL5 hP5 ⊢
                    have hbpw : w4.heap.size < wr.heap.size := lt_of_block HI.out.bef
                    generalize hbp : wr.heap.size = bp at *
                    have HBP := Lib.hid hbpw
                    clear hbpw
                    have HL5 := Lib.hid (And.intro hL5 hP5)
                    clear hL5 hP5
                    go_wp2_with fail
                    go_loopg [79] k (fun gq s79 wx => ∃ q : Nat, gq + q = k ∧ s79 = .int .i64 (q : Int) ∧ Hid (L3 w (some ⟨ab, ao, none⟩) ps cap w2.heap.size base wx (w4.heap.size + 1 + 1) w4.heap.size (w4.heap.size + 1) i (i + 1) q ∧ wx.heap[bp]? = some (.cells #[.int .i64 p0, .int .i64 p1, .slice odp p2 cdp, .int .i64 p3, .int .i64 p4, .slice ordp p5 crdp, .int .i64 p6, .int .i64 p7] 50 (0, 0))))
                    case atStart => exact ⟨0, by omega, rfl, HL5.out.1, HL5.out.2⟩
                    case round =>
                      obtain ⟨q, hgq, rfl, HQ⟩ := hrel
                      by_cases hq : q < k
                      · obtain ⟨qab, qao, hqo, odr, cdr, ordr, crdr, hpq, r0, r1, r2, r3, r4, r5, r6, r7⟩ := (HP.out.keep HQ.out.1.low).at q (by rw [HLN.out]; exact hq)
                        cases hqo
                        have p0' := blk_cell HQ.out.2 0
                        have p1' := blk_cell HQ.out.2 1
                        have p2' := blk_cell HQ.out.2 2
                        have p3' := blk_cell HQ.out.2 3
                        have p4' := blk_cell HQ.out.2 4
                        have p5' := blk_cell HQ.out.2 5
                        have p6' := blk_cell HQ.out.2 6
                        have p7' := blk_cell HQ.out.2 7
                        simp only [List.getElem?_toArray, List.getElem?_cons_zero, List.getElem?_cons_succ] at p0' p1' p2' p3' p4' p5' p6' p7'
                        have hbpl := lt_of_block HQ.out.2
                        have p0'' := fun O => past hbpl p0' O
                        have p1'' := fun O => past hbpl p1' O
                        have p2'' := fun O => past hbpl p2' O
                        have p3'' := fun O => past hbpl p3' O
                        have p4'' := fun O => past hbpl p4' O
                        have p5'' := fun O => past hbpl p5' O
                        have p6'' := fun O => past hbpl p6' O
                        have p7'' := fun O => past hbpl p7' O
                        clear hbpl
                        have HAH := Lib.hid (fun W => ahead_any (ps.getD q zP) (ps.getD i zP) odr cdr ordr crdr odp cdp ordp crdp W)
                        have HGR := Lib.hid (fun O => (show Below wr.heap.size wr (wr.alloc O) from (Below.refl _ wr).alloc (Nat.le_refl _) O))
                        unfold pcells at HAH
                        rcases hah : ahead (ps.getD q zP) (ps.getD i zP) with _ | _
                        · rw [hah] at HAH
                          have HAB := Lib.hid hah
                          clear hah hpq
                          rw [HPP.out.1, HPP.out.2.1, HPP.out.2.2.1, HPP.out.2.2.2.1, HPP.out.2.2.2.2.1, HPP.out.2.2.2.2.2.1, HPP.out.2.2.2.2.2.2.1, HPP.out.2.2.2.2.2.2.2] at HAH
                          generalize (ps.getD q zP).kind = x0 at *
                          generalize (ps.getD q zP).cl = x1 at *
                          generalize (ps.getD q zP).D.length = x2 at *
                          generalize (ps.getD q zP).err = x3 at *
                          generalize (ps.getD q zP).lsn = x4 at *
                          generalize (ps.getD q zP).R.length = x5 at *
                          generalize (ps.getD q zP).beg = x6 at *
                          generalize (ps.getD q zP).en = x7 at *
                          go_wp2_with (go_at_call 29; refine (HAH.out _).mono ?_; intro e w6 h6; obtain ⟨rfl, hb6⟩ := h6; have H6 := Lib.hid ((HGR.out (.cells #[.int .i64 x0, .int .i64 x1, .slice odr x2 cdr, .int .i64 x3, .int .i64 x4, .slice ordr x5 crdr, .int .i64 x6, .int .i64 x7] 50)).trans (hb6.mono (by simp))); clear hb6)
                          go_roundg (gk - 1)
                          case measure => omega
                          case rel => exact ⟨q + 1, by omega, rfl, (HQ.out.1.pass HAB.out).grow H6.out, blk_keep H6.out HQ.out.2⟩
                        · rw [hah] at HAH
                          have HAB := Lib.hid hah
                          clear hah hpq
                          rw [HPP.out.1, HPP.out.2.1, HPP.out.2.2.1, HPP.out.2.2.2.1, HPP.out.2.2.2.2.1, HPP.out.2.2.2.2.2.1, HPP.out.2.2.2.2.2.2.1, HPP.out.2.2.2.2.2.2.2] at HAH
                          generalize (ps.getD q zP).kind = x0 at *
                          generalize (ps.getD q zP).cl = x1 at *
                          generalize (ps.getD q zP).D.length = x2 at *
                          generalize (ps.getD q zP).err = x3 at *
                          generalize (ps.getD q zP).lsn = x4 at *
                          generalize (ps.getD q zP).R.length = x5 at *
                          generalize (ps.getD q zP).beg = x6 at *
                          generalize (ps.getD q zP).en = x7 at *
                          go_wp2_with (go_at_call 29; refine (HAH.out _).mono ?_; intro e w6 h6; obtain ⟨rfl, hb6⟩ := h6; have H6 := Lib.hid ((HGR.out (.cells #[.int .i64 x0, .int .i64 x1, .slice odr x2 cdr, .int .i64 x3, .int .i64 x4, .slice ordr x5 crdr, .int .i64 x6, .int .i64 x7] 50)).trans (hb6.mono (by simp))); clear hb6)
                          have hL6 := HQ.out.1.grow H6.out
                          have hk12 : maskOf q (fun q => ahead (ps.getD q zP) (ps.getD i zP)) < 4096 := Nat.lt_of_lt_of_le (mask_lt _ _) (Nat.le_trans (Nat.pow_le_pow_right (by omega) (show q ≤ 12 by omega)) (by decide))
                          rw [← befF_self] at hk12
                          have R2 : w6.cell? ⟨w4.heap.size + 1 + 1, 2, none⟩ = some (.slice (some ⟨w4.heap.size, 0, none⟩) k k) := by have := blk_cell hL6.row 2; rw [HLN.out] at this; exact this
                          have RB : w6.cell? ⟨w4.heap.size, i, none⟩ = some (.int .u64 ((befF ps i q i : Nat) : Int)) := (blk_cell hL6.bef i).trans (befsA_get _ _ _ (by rw [HLN.out]; exact hi))
                          have FB : w6.frozen? ⟨w4.heap.size, i, none⟩ = false := blk_free hL6.bef i
                          have hL7 := hL6.put HAB.out
                          have hP7 := (Keep.setCell (bs := (· = w4.heap.size)) (Keep.refl _ w6) (p := ⟨w4.heap.size, i, none⟩) (Or.inl rfl) (.int .u64 ((befF ps i q i ||| 2 ^ q : Nat) : Int))).same (blk_keep H6.out HQ.out.2) (fun e => by have := HBP.out; omega)
                          have hq12 : q < 12 := by omega
                          generalize befF ps i q i = bf at *
                          have HL7 := Lib.hid (And.intro hL7 hP7)
                          clear hL6 hL7 hP7
                          go_region
                          rw [or_bit bf q hk12 hq12]
                          generalize w6.setCell ⟨w4.heap.size, i, none⟩ (.int .u64 ((bf ||| 2 ^ q : Nat) : Int)) = W7 at *
                          go_wp2_with fail
                          go_roundg (gk - 1)
                          case measure => omega
                          case rel => exact ⟨q + 1, by omega, rfl, HL7.out.1.grow (below_drew W7), blk_keep (below_drew W7) HL7.out.2⟩
                      · obtain rfl : q = k := by omega
                        go_wp2_with fail
                        go_roundg (gO - 1)
                        case measure => omega
                        case rel => exact ⟨i + 1, by omega, rfl, by have := HQ.out.1; rw [← HLN.out] at this; exact this.next⟩
                  · have e0 : (p7 != 0) = true := by simp [he]
                    have hdn : doneB ps i = true := by rw [HPC.out]; simp [he]
                    clear he
                    have hL5 := HG2.out.all hdn
                    have hbpw0 : w4.heap.size + 1 + 1 < wr.heap.size := lt_of_block HI.out.row
                    have hP5 := (Keep.setCell (bs := (· = w4.heap.size + 1 + 1)) (Keep.refl _ (wr.alloc (.cells #[.int .i64 p0, .int .i64 p1, .slice odp p2 cdp, .int .i64 p3, .int .i64 p4, .slice ordp p5 crdp, .int .i64 p6, .int .i64 p7] 50))) (p := ⟨w4.heap.size + 1 + 1, 1, none⟩) (Or.inl rfl) (.int .u64 ((maskOf i (doneB ps) ||| 2 ^ i : Nat) : Int))).same HB2.out (fun e => by omega)
                    have R1 : (wr.alloc (.cells #[.int .i64 p0, .int .i64 p1, .slice odp p2 cdp, .int .i64 p3, .int .i64 p4, .slice ordp p5 crdp, .int .i64 p6, .int .i64 p7] 50)).cell? ⟨w4.heap.size + 1 + 1, 1, none⟩ = some (.int .u64 ((maskOf i (doneB ps) : Nat) : Int)) := blk_cell HG2.out.row 1
                    have F1 : (wr.alloc (.cells #[.int .i64 p0, .int .i64 p1, .slice odp p2 cdp, .int .i64 p3, .int .i64 p4, .slice ordp p5 crdp, .int .i64 p6, .int .i64 p7] 50)).frozen? ⟨w4.heap.size + 1 + 1, 1, none⟩ = false := blk_free HG2.out.row 1
                    have hm12 : maskOf i (doneB ps) < 4096 := Nat.lt_of_lt_of_le (mask_lt _ _) (Nat.le_trans (Nat.pow_le_pow_right (by omega) (show i ≤ 12 by omega)) (by decide))
                    have hi12 : i < 12 := by omega
                    generalize maskOf i (doneB ps) = mi at *
                    clear hbpw0
                    go_wp2_with fail
                    generalize wr.alloc (.cells #[.int .i64 p0, .int .i64 p1, .slice odp p2 cdp, .int .i64 p3, .int .i64 p4, .slice ordp p5 crdp, .int .i64 p6, .int .i64 p7] 50) = W4 at *
                    go_region
                    rw [or_bit mi i hm12 hi12]
                    generalize W4.setCell ⟨w4.heap.size + 1 + 1, 1, none⟩ (.int .u64 ((mi ||| 2 ^ i : Nat) : Int)) = W5 at *
                    clear R1 F1 hm12
                    have hbpw : w4.heap.size < wr.heap.size := lt_of_block HI.out.bef
                    generalize hbp : wr.heap.size = bp at *
                    have HBP := Lib.hid hbpw
                    clear hbpw
                    have HL5 := Lib.hid (And.intro hL5 hP5)
                    clear hL5 hP5
                    go_wp2_with fail
                    go_loopg [79] k (fun gq s79 wx => ∃ q : Nat, gq + q = k ∧ s79 = .int .i64 (q : Int) ∧ Hid (L3 w (some ⟨ab, ao, none⟩) ps cap w2.heap.size base wx (w4.heap.size + 1 + 1) w4.heap.size (w4.heap.size + 1) i (i + 1) q ∧ wx.heap[bp]? = some (.cells #[.int .i64 p0, .int .i64 p1, .slice odp p2 cdp, .int .i64 p3, .int .i64 p4, .slice ordp p5 crdp, .int .i64 p6, .int .i64 p7] 50 (0, 0))))
                    case atStart => exact ⟨0, by omega, rfl, HL5.out.1.grow (below_drew W5), blk_keep (below_drew W5) HL5.out.2⟩
                    case round =>
                      obtain ⟨q, hgq, rfl, HQ⟩ := hrel
                      by_cases hq : q < k
                      · obtain ⟨qab, qao, hqo, odr, cdr, ordr, crdr, hpq, r0, r1, r2, r3, r4, r5, r6, r7⟩ := (HP.out.keep HQ.out.1.low).at q (by rw [HLN.out]; exact hq)
                        cases hqo
                        have p0' := blk_cell HQ.out.2 0
                        have p1' := blk_cell HQ.out.2 1
                        have p2' := blk_cell HQ.out.2 2
                        have p3' := blk_cell HQ.out.2 3
                        have p4' := blk_cell HQ.out.2 4
                        have p5' := blk_cell HQ.out.2 5
                        have p6' := blk_cell HQ.out.2 6
                        have p7' := blk_cell HQ.out.2 7
                        simp only [List.getElem?_toArray, List.getElem?_cons_zero, List.getElem?_cons_succ] at p0' p1' p2' p3' p4' p5' p6' p7'
                        have hbpl := lt_of_block HQ.out.2
                        have p0'' := fun O => past hbpl p0' O
                        have p1'' := fun O => past hbpl p1' O
                        have p2'' := fun O => past hbpl p2' O
                        have p3'' := fun O => past hbpl p3' O
                        have p4'' := fun O => past hbpl p4' O
                        have p5'' := fun O => past hbpl p5' O
                        have p6'' := fun O => past hbpl p6' O
                        have p7'' := fun O => past hbpl p7' O
                        clear hbpl
                        have HAH := Lib.hid (fun W => ahead_any (ps.getD q zP) (ps.getD i zP) odr cdr ordr crdr odp cdp ordp crdp W)
                        have HGR := Lib.hid (fun O => (show Below wr.heap.size wr (wr.alloc O) from (Below.refl _ wr).alloc (Nat.le_refl _) O))
                        unfold pcells at HAH
                        rcases hah : ahead (ps.getD q zP) (ps.getD i zP) with _ | _
                        · rw [hah] at HAH
                          have HAB := Lib.hid hah
                          clear hah hpq
                          rw [HPP.out.1, HPP.out.2.1, HPP.out.2.2.1, HPP.out.2.2.2.1, HPP.out.2.2.2.2.1, HPP.out.2.2.2.2.2.1, HPP.out.2.2.2.2.2.2.1, HPP.out.2.2.2.2.2.2.2] at HAH
                          generalize (ps.getD q zP).kind = x0 at *
                          generalize (ps.getD q zP).cl = x1 at *
                          generalize (ps.getD q zP).D.length = x2 at *
                          generalize (ps.getD q zP).err = x3 at *
                          generalize (ps.getD q zP).lsn = x4 at *
                          generalize (ps.getD q zP).R.length = x5 at *
                          generalize (ps.getD q zP).beg = x6 at *
                          generalize (ps.getD q zP).en = x7 at *
                          go_wp2_with (go_at_call 29; refine (HAH.out _).mono ?_; intro e w6 h6; obtain ⟨rfl, hb6⟩ := h6; have H6 := Lib.hid ((HGR.out (.cells #[.int .i64 x0, .int .i64 x1, .slice odr x2 cdr, .int .i64 x3, .int .i64 x4, .slice ordr x5 crdr, .int .i64 x6, .int .i64 x7] 50)).trans (hb6.mono (by simp))); clear hb6)
                          go_roundg (gk - 1)
                          case measure => omega
                          case rel => exact ⟨q + 1, by omega, rfl, (HQ.out.1.pass HAB.out).grow H6.out, blk_keep H6.out HQ.out.2⟩
                        · rw [hah] at HAH
                          have HAB := Lib.hid hah
                          clear hah hpq
                          rw [HPP.out.1, HPP.out.2.1, HPP.out.2.2.1, HPP.out.2.2.2.1, HPP.out.2.2.2.2.1, HPP.out.2.2.2.2.2.1, HPP.out.2.2.2.2.2.2.1, HPP.out.2.2.2.2.2.2.2] at HAH
                          generalize (ps.getD q zP).kind = x0 at *
                          generalize (ps.getD q zP).cl = x1 at *
                          generalize (ps.getD q zP).D.length = x2 at *
                          generalize (ps.getD q zP).err = x3 at *
                          generalize (ps.getD q zP).lsn = x4 at *
                          generalize (ps.getD q zP).R.length = x5 at *
                          generalize (ps.getD q zP).beg = x6 at *
                          generalize (ps.getD q zP).en = x7 at *
                          go_wp2_with (go_at_call 29; refine (HAH.out _).mono ?_; intro e w6 h6; obtain ⟨rfl, hb6⟩ := h6; have H6 := Lib.hid ((HGR.out (.cells #[.int .i64 x0, .int .i64 x1, .slice odr x2 cdr, .int .i64 x3, .int .i64 x4, .slice ordr x5 crdr, .int .i64 x6, .int .i64 x7] 50)).trans (hb6.mono (by simp))); clear hb6)
                          have hL6 := HQ.out.1.grow H6.out
                          have hk12 : maskOf q (fun q => ahead (ps.getD q zP) (ps.getD i zP)) < 4096 := Nat.lt_of_lt_of_le (mask_lt _ _) (Nat.le_trans (Nat.pow_le_pow_right (by omega) (show q ≤ 12 by omega)) (by decide))
                          rw [← befF_self] at hk12
                          have R2 : w6.cell? ⟨w4.heap.size + 1 + 1, 2, none⟩ = some (.slice (some ⟨w4.heap.size, 0, none⟩) k k) := by have := blk_cell hL6.row 2; rw [HLN.out] at this; exact this
                          have RB : w6.cell? ⟨w4.heap.size, i, none⟩ = some (.int .u64 ((befF ps i q i : Nat) : Int)) := (blk_cell hL6.bef i).trans (befsA_get _ _ _ (by rw [HLN.out]; exact hi))
                          have FB : w6.frozen? ⟨w4.heap.size, i, none⟩ = false := blk_free hL6.bef i
                          have hL7 := hL6.put HAB.out
                          have hP7 := (Keep.setCell (bs := (· = w4.heap.size)) (Keep.refl _ w6) (p := ⟨w4.heap.size, i, none⟩) (Or.inl rfl) (.int .u64 ((befF ps i q i ||| 2 ^ q : Nat) : Int))).same (blk_keep H6.out HQ.out.2) (fun e => by have := HBP.out; omega)
                          have hq12 : q < 12 := by omega
                          generalize befF ps i q i = bf at *
                          have HL7 := Lib.hid (And.intro hL7 hP7)
                          clear hL6 hL7 hP7
                          go_region
                          rw [or_bit bf q hk12 hq12]
                          generalize w6.setCell ⟨w4.heap.size, i, none⟩ (.int .u64 ((bf ||| 2 ^ q : Nat) : Int)) = W7 at *
                          go_wp2_with fail
                          go_roundg (gk - 1)
                          case measure => omega
                          case rel => exact ⟨q + 1, by omega, rfl, HL7.out.1.grow (below_drew W7), blk_keep (below_drew W7) HL7.out.2⟩
                      · obtain rfl : q = k := by omega
                        go_wp2_with fail
                        go_roundg (gO - 1)
                        case measure => omega
                        case rel => exact ⟨i + 1, by omega, rfl, by have := HQ.out.1; rw [← HLN.out] at this; exact this.next⟩
                · obtain rfl : i = k := by omega
                  go_wp2_with fail
                  have hl := HI.out
                  rw [← HLN.out] at hl
                  obtain ⟨e0, e1, e2, e3, e4, e5, e6, e7⟩ := And.intro (blk_cell hl.box 0) (And.intro (blk_cell hl.box 1) (And.intro (blk_cell hl.box 2) (And.intro (blk_cell hl.box 3) (And.intro (blk_cell hl.box 4) (And.intro (blk_cell hl.box 5) (And.intro (blk_cell hl.box 6) (blk_cell hl.box 7)))))))
                  have ho : wr.heap[w.heap.size]? = some (.cells #[.int .i64 0, .int .i64 0, .int .i64 0, .int .i64 0, .int .i64 0, .slice none 0 0, .bool false, .bool false] 26 (0, 0)) := hl.out
                  obtain ⟨o0, o1, o2, o3, o4, o5, o6, o7⟩ := And.intro (blk_cell ho 0) (And.intro (blk_cell ho 1) (And.intro (blk_cell ho 2) (And.intro (blk_cell ho 3) (And.intro (blk_cell ho 4) (And.intro (blk_cell ho 5) (And.intro (blk_cell ho 6) (blk_cell ho 7)))))))
                  obtain ⟨g0, g1, g2, g3, g4, g5, g6, g7⟩ := And.intro (blk_free ho 0) (And.intro (blk_free ho 1) (And.intro (blk_free ho 2) (And.intro (blk_free ho 3) (And.intro (blk_free ho 4) (And.intro (blk_free ho 5) (And.intro (blk_free ho 6) (blk_free ho 7)))))))
                  simp only [List.getElem?_toArray, List.getElem?_cons_zero, List.getElem?_cons_succ] at e0 e1 e2 e3 e4 e5 e6 e7 o0 o1 o2 o3 o4 o5 o6 o7
                  have HF := Lib.hid (And.intro hl ho)
                  clear hl ho
                  go_region
                  all_goals go_wp2_with fail
                  have E1 := setC_at [.int .i64 base, .int .i64 base, .int .i64 base, .int .i64 base, .int .i64 9223372036854775807, .slice none 0 0, .bool false, .bool false] [] [.int .i64 0, .int .i64 0, .int .i64 0, .int .i64 0, .int .i64 0, .slice none 0 0, .bool false, .bool false] wr rfl HF.out.2
                  have E2 := setC_keep (b := w.heap.size) [.int .i64 base, .int .i64 base, .int .i64 base, .int .i64 base, .int .i64 9223372036854775807, .slice none 0 0, .bool false, .bool false] 0 wr
                  simp only [setC, List.length_nil, Nat.zero_add, Nat.reduceAdd] at E1 E2
                  have hap := HF.out.1.apart
                  have hbg : bgE base ps = 0 := by rw [HBG.out]; rfl
                  refine bodyPost_ret (results_begun _ _ w.heap.size (newS base) (.slice none 0 0) (.pointer (some ⟨w4.heap.size + 1 + 1, 0, none⟩)) (.int .i64 0) rfl rfl rfl ?_) rfl ?_
                  · unfold outAt cs newS
                    rw [heap_drew1]
                    exact E1
                  · exact Or.inr ⟨hbg, _, _, _, rfl, (HF.out.1.sm.other E2 (Nat.le_refl _) hap.2.2.2.2.2.1 hap.2.2.2.2.2.2.1 hap.2.2.2.2.2.2.2).grow (below_drew _)⟩
end Go.Proofs.Ytjiehgfamlidnaa.Lin
