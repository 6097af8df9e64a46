/- LinearLine: the walk. By an AI agent. -/
import Derived.Test.YtjiehgfamlidnaaLiLa
import Derived.Test.YtjiehgfamlidnaaLinZ
import Derived.Test.YtjiehgfamlidnaaLiFa
import Derived.Maps.AppendAt
import Derived.Deep.CutBlock
namespace Go.Proofs.Ytjiehgfamlidnaa.Lin
open Go.ChangeShapes Go.WideShapes Go.ChangeAt Go.RowKit
open Md
set_option linter.unusedVariables false
set_option linter.unusedSimpArgs false

theorem apply_mv {bad : Nat → Prop} {w : World} {v : Value} {m : St} (hm : Mv bad w v m) (hn : m.2.length ≤ 1000000) (hI : Inv m.1 m.2.length) (p : Past) (od : Option Addr) (cd : Nat) (ord : Option Addr) (crd : Nat) (hp : PS w p od cd ord crd) :
    Calls Try.prog 10 #[v, .agg #[.int .i64 p.kind, .int .i64 p.cl, .slice od p.D.length cd], .agg #[.int .i64 p.err, .int .i64 p.lsn, .slice ord p.R.length crd]] w (StepRes (applyF m.1 m.2 p.kind p.cl p.D p.err p.lsn p.R) w) := by
  obtain ⟨o, cap, rfl, hSB⟩ := hm
  refine (apply_any m.1 o cap m.2 p.kind p.cl p.err p.lsn od cd p.D ord crd p.R w hSB.src hn hI hp.hD hp.hc hp.hv hp.hR hp.hrv).mono fun e w' h => ?_
  rcases hq : applyF m.1 m.2 p.kind p.cl p.D p.err p.lsn p.R with _ | ⟨s', bs'⟩
  · rw [hq] at h
    exact h
  · rw [hq] at h
    obtain ⟨⟨base, g, o', cap', xs', rfl, hrec, hba⟩, hb⟩ := h
    have hgrow := short_grown (apply_grown' hq) hSB.src.short
    exact ⟨⟨_, rfl, o', cap', rfl, (srcb_of hrec hgrow).sub (fun x _ hx => Nat.lt_of_lt_of_le hx hba)⟩, hb⟩

theorem inv_zero : Inv zS 0 := by constructor <;> decide

/-- Behind k rounds. -/
structure LN (w : World) (base : Int) (ps : List Past) (b5 : Nat) (wr : World) (k : Nat) (lv : Value) (lg : Bool) (s : S) (vo : Option Addr) (bs : List (List Nat)) (vc : Nat) (xs : List Value) : Prop where
  low : Below w.heap.size w wr
  hb5 : w.heap.size ≤ b5
  box : wr.heap[b5]? = some (.cells (cs s (.slice vo bs.length vc)) 26 (0, 0))
  src : SrcB (fun x => x = b5 ∨ lv.ownBlock = some x) wr vo bs
  inv : Inv s bs.length
  few : bs.length ≤ k
  leg : lg = (seqF base ps k).isSome
  st : ∀ m, seqF base ps k = some m → m = (s, bs)
  own : wr.ownsRow w.heap.size 50 8 lv k xs
  each : ∀ i, i < k → ∃ od cd ord crd, PS w (ps.getD i zP) od cd ord crd ∧ ∀ j, j < 8 → xs[i * 8 + j]? = (pcells (lnP ps i) od cd ord crd)[j]?

theorem LN.ps {w : World} {base : Int} {ps : List Past} {b5 : Nat} {wr : World} {k : Nat} {lv : Value} {lg : Bool} {s : S} {vo : Option Addr} {bs : List (List Nat)} {vc : Nat} {xs : List Value} (h : LN w base ps b5 wr k lv lg s vo bs vc xs) : ∃ lo lc, lv = .slice lo k lc ∧ Ps wr lo (lnL ps k) := by
  rcases Nat.eq_zero_or_pos k with rfl | hk
  · rcases h.own.2 with ⟨rfl, -⟩ | ⟨g, cap, cur, rfl, -⟩
    · exact ⟨none, 0, rfl, fun i hi => absurd hi (by simp [lnL])⟩
    · exact ⟨_, cap, rfl, fun i hi => absurd hi (by simp [lnL])⟩
  · obtain ⟨g, cap, rfl, -, -⟩ := World.ownsRow.form h.own hk
    refine ⟨_, cap, rfl, fun i hi => ?_⟩
    rw [lnL_len] at hi
    obtain ⟨od, cd, ord, crd, h1, h2⟩ := h.each i hi
    refine ⟨g, 0, rfl, od, cd, ord, crd, ?_, fun j hj => ?_⟩
    · rw [lnL_get ps hi]
      have := h1.keep h.low
      exact ⟨this.hD, this.hc, this.hv, this.hR, this.hrv⟩
    · rw [lnL_get ps hi, ← h2 j hj]
      have hx : ∃ u, xs[i * 8 + j]? = some u := ⟨_, by rw [h2 j hj]; exact Array.getElem?_eq_getElem (by simpa [pcells] using hj)⟩
      obtain ⟨u, hu⟩ := hx
      have := h.own.cells rfl (i * 8 + j) u hu
      rw [addr_add] at this
      rw [hu, ← this, Nat.add_assoc]

theorem info_past : (Try.prog.info? 50).map (fun i => (i.zero, i.size, i.bytes)) = some (some (.agg #[.int .i64 0, .int .i64 0, .slice none 0 0, .int .i64 0, .int .i64 0, .slice none 0 0, .int .i64 0, .int .i64 0]), 8, 96) := by kernel_rfl

/-- What Apply answers, whether it may be or not. -/
theorem apply_u {s : S} {bs : List (List Nat)} {w : World} {e : Ending} {w' : World} {k : Nat} {kind cl err lsn : Int} {D R : List Nat} (hI : Inv s bs.length) (hk : bs.length ≤ k) (h : StepRes (applyF s bs kind cl D err lsn R) w e w') :
    ∃ (s' : S) (o' : Option Addr) (bs' : List (List Nat)) (c' : Nat), e = .returned (.tuple #[.agg (cs s' (.slice o' bs'.length c')), .bool (applyF s bs kind cl D err lsn R).isSome]) ∧
      RowKit.Hid (SrcB (fun x => x < w.heap.size) w' o' bs' ∧ Inv s' bs'.length ∧ bs'.length ≤ k + 1 ∧ (∀ m, applyF s bs kind cl D err lsn R = some m → m = (s', bs')) ∧ Below w.heap.size w w') := by
  obtain ⟨h, hb⟩ := h
  rcases hq : applyF s bs kind cl D err lsn R with _ | ⟨s', bs'⟩
  · rw [hq] at h
    exact ⟨zS, none, [], 0, h, Lib.hid ⟨⟨fun i hi => absurd hi (by simp), fun i j => by simp, fun i => by simp⟩, inv_zero, by simp, (fun m hm => by cases hm), hb⟩⟩
  · rw [hq] at h
    obtain ⟨v', rfl, o', c', rfl, hsb⟩ := h
    obtain ⟨h1, h2⟩ := apply_ord hI hq
    refine ⟨s', o', bs', c', rfl, Lib.hid ⟨hsb, h1.inv, ?_, (fun m hm => by cases hm; rfl), hb⟩⟩
    rcases h2 with rfl | ⟨rfl, -⟩
    · omega
    · rw [List.length_append, List.length_singleton]; omega

theorem own_kept {bad : Nat → Prop} {w w' : World} {base size n : Nat} {e : TypeId} {v : Value} {xs : List Value} (h : w.ownsRow base e size v n xs) (k : Keep bad w w') (hne : ∀ g, v.ownBlock = some g → ¬ bad g) : w'.ownsRow base e size v n xs := by
  rcases h.2 with ⟨rfl, h0⟩ | ⟨g', cap, cur, rfl, h1, h2, h3⟩
  · exact ⟨h.1, Or.inl ⟨rfl, h0⟩⟩
  · exact ⟨h.1, Or.inr ⟨_, cap, cur, rfl, h1, k.same h2 (hne g' rfl), h3⟩⟩

theorem LN.ne {w : World} {base : Int} {ps : List Past} {b5 : Nat} {wr : World} {k : Nat} {lv : Value} {lg : Bool} {s : S} {vo : Option Addr} {bs : List (List Nat)} {vc : Nat} {xs : List Value} (h : LN w base ps b5 wr k lv lg s vo bs vc xs) {g : Nat} (hg : lv.ownBlock = some g) : g ≠ b5 ∧ g < wr.heap.size ∧ w.heap.size ≤ g := by
  obtain ⟨h1, cur, h2⟩ : w.heap.size ≤ g ∧ ∃ cur, wr.heap[g]? = some (.cells cur 50 (0, 0)) := by
    rcases h.own.2 with ⟨rfl, -⟩ | ⟨g', cap, cur, rfl, h1, h2, -⟩
    · cases hg
    · cases hg
      exact ⟨h1, cur, h2⟩
  refine ⟨fun e => ?_, lt_of_block h2, h1⟩
  subst e
  have h3 := h.box
  rw [h2] at h3
  have h4 : (50 : TypeId) = 26 := congrArg (fun o => match o with | some (Obj.cells _ t _) => t | _ => 0) h3
  exact absurd h4 (by decide)

/-- A round more. -/
theorem LN.next {w : World} {base : Int} {ps : List Past} {b5 : Nat} {wr : World} {k : Nat} {lv : Value} {lg : Bool} {s : S} {vo : Option Addr} {bs : List (List Nat)} {vc : Nat} {xs : List Value} (h : LN w base ps b5 wr k lv lg s vo bs vc xs)
    {w8 w9 w10 : World} {g c8 : Nat} {od : Option Addr} {cd : Nat} {ord : Option Addr} {crd : Nat} (hps : PS w (ps.getD k zP) od cd ord crd)
    (hlow8 : Below w.heap.size w w8) (hg8 : g < w8.heap.size ∧ g ≠ b5 ∧ b5 < w8.heap.size) (hbox8 : w8.heap[b5]? = some (.cells (cs s (.slice vo bs.length vc)) 26 (0, 0)))
    (hown8 : w8.ownsRow w.heap.size 50 8 (.slice (some ⟨g, 0, none⟩) (k + 1) c8) (k + 1) (xs ++ (pcells (lnP ps k) od cd ord crd).toList))
    {s' : S} {o' : Option Addr} {bs' : List (List Nat)} {c' : Nat} {ok : Bool} (hok : ok = (applyF s bs (ps.getD k zP).kind (ps.getD k zP).cl (ps.getD k zP).D (ps.getD k zP).err (ps.getD k zP).lsn (ps.getD k zP).R).isSome)
    (hm : ∀ m, applyF s bs (ps.getD k zP).kind (ps.getD k zP).cl (ps.getD k zP).D (ps.getD k zP).err (ps.getD k zP).lsn (ps.getD k zP).R = some m → m = (s', bs'))
    (hsrc : SrcB (fun x => x < w8.heap.size) w9 o' bs') (hinv : Inv s' bs'.length) (hfew : bs'.length ≤ k + 1) (hb9 : Below w8.heap.size w8 w9) {X : Obj} (h10 : w10 = (w9.alloc X).setRow b5 (cs s' (.slice o' bs'.length c'))) :
    LN w base ps b5 w10 (k + 1) (.slice (some ⟨g, 0, none⟩) (k + 1) c8) (lg && ok) s' o' bs' c' (xs ++ (pcells (lnP ps k) od cd ord crd).toList) := by
  subst h10
  have ha : Below w8.heap.size w8 (w9.alloc X) := hb9.alloc hb9.size _
  have kk := Md.Keep.setRow (bs := (· = b5)) (Keep.refl _ (w9.alloc X)) (Or.inl rfl) (cs s' (.slice o' bs'.length c'))
  have hst : stepF (s, bs) (lnP ps k) = applyF s bs (ps.getD k zP).kind (ps.getD k zP).cl (ps.getD k zP).D (ps.getD k zP).err (ps.getD k zP).lsn (ps.getD k zP).R := by
    unfold stepF
    rw [if_neg (by show ¬ (2 * (k : Int) + 2 = 0); omega)]
    rfl
  have hlow9 := hlow8.trans (ha.mono hlow8.size)
  have hxl : xs.length = k * 8 := h.own.1
  have hsz9 := hb9.size
  refine ⟨hlow9.trans (kk.below hlow9.size (fun x hx => by rw [hx]; exact h.hb5)), h.hb5, setRow_heap _ _ _ _ _ _ ((ha.block _ hg8.2.2).trans hbox8), ?_, hinv, hfew, ?_, ?_, ?_, ?_⟩
  · refine ((srcb_grow hsrc ((Below.refl _ w9).alloc (Nat.le_refl _) _)).keep2 kk (fun x hx => Or.inl (by rw [hx]; exact hg8.2.2))).sub (fun x _ hx => ?_)
    rcases hx with rfl | hx
    · exact hg8.2.2
    · have : g = x := by simpa [Value.ownBlock] using hx
      subst this; exact hg8.1
  · have hl := h.leg
    unfold seqF
    rcases hs : seqF base ps k with _ | m
    · rw [hs] at hl
      rw [hl]; rfl
    · rw [hs] at hl
      obtain rfl := h.st m hs
      rw [hl, Option.bind_some, hst, ← hok]; rfl
  · intro m hm'
    unfold seqF at hm'
    rcases hs : seqF base ps k with _ | m0
    · rw [hs] at hm'; cases hm'
    · rw [hs] at hm'
      obtain rfl := h.st m0 hs
      rw [Option.bind_some, hst] at hm'
      exact hm m hm'
  · exact own_kept (row_below hown8 ha) kk (fun g' hg' => by
      have : g = g' := by simpa [Value.ownBlock] using hg'
      subst this; exact hg8.2.1)
  · intro i hi
    rcases Nat.lt_succ_iff_lt_or_eq.1 hi with hi | rfl
    · obtain ⟨od', cd', ord', crd', h1, h2⟩ := h.each i hi
      refine ⟨od', cd', ord', crd', h1, fun j hj => ?_⟩
      rw [List.getElem?_append_left (by omega)]
      exact h2 j hj
    · refine ⟨od, cd, ord, crd, hps, fun j hj => ?_⟩
      rw [List.getElem?_append_right (by omega), hxl, show i * 8 + j - i * 8 = j by omega]
      simp

set_option maxRecDepth 100000 in
set_option maxHeartbeats 16000000 in
theorem line_walk (base : Int) (o : Option Addr) (ps : List Past) (cap : Nat) (w : World) (hP : Ps w o ps) (hn : ps.length ≤ 9223372036854775807) (hb : base ≤ topN) :
    Calls Try.prog 6 #[.int .i64 base, .slice o ps.length cap] w fun e w' => e = .returned (.bool true) ∧ Below w.heap.size w w' := by
  have HSM := Lib.hid (fun (W : World) (k : Below w.heap.size w W) => small_any o ps cap W (hP.keep k) hn)
  have HP := Lib.hid hP
  clear hP
  generalize hl : ps.length = n at *
  have HLN := Lib.hid hl
  clear hl
  go_enter Try.func6, Try.ntmps6
  go_wp2_with fail
  refine (begun24_any w).mono ?_
  rintro e w1 ⟨rfl, hb1⟩
  have H1 := Lib.hid hb1
  clear hb1
  go_wp2_with fail
  refine (HSM.out w1 H1.out).mono ?_
  rintro e w2 ⟨sb, rfl, h30, rfl⟩
  rcases sb with _ | _
  · clear h30
    go_wp2_with fail
    go_ret
    exact ⟨rfl, H1.out⟩
  clear h30
  by_cases h12 : (12 : Int) < (n : Int)
  · have d1 : decide ((n : Int) > 12) = true := by simpa using h12
    go_wp2_with fail
    go_ret
    exact ⟨rfl, H1.out⟩
  have d1 : decide ((n : Int) > 12) = false := by simpa using h12
  have hn12 : n ≤ 12 := by omega
  clear h12
  by_cases hb1 : base < 1
  · have HNEW := Lib.hid (new_any base w2)
    rw [if_pos hb1, if_pos hb1] at HNEW
    unfold cs zS at HNEW
    have d2 : decide (base < 1) = true := by simpa using hb1
    go_wp2_with fail
    refine HNEW.out.mono ?_
    rintro e w3 ⟨rfl, hb3⟩
    have H3 := Lib.hid (H1.out.trans (hb3.mono H1.out.size))
    clear hb3
    go_wp2_with fail
    go_ret
    exact ⟨rfl, H3.out.alloc H3.out.size _⟩
  have HNEW := Lib.hid (new_any base w2)
  rw [if_neg hb1, if_neg hb1] at HNEW
  unfold cs newS at HNEW
  have HB1 := Lib.hid (show 1 ≤ base by omega)
  clear hb1
  go_wp2_with fail
  refine HNEW.out.mono ?_
  rintro e w3 ⟨rfl, hb3⟩
  have H3 := Lib.hid (H1.out.trans (hb3.mono H1.out.size))
  clear hb3 HNEW
  go_wp2_with fail
  go_loopg [7, 8, 9] n (fun gq s7 s8 s9 wr => ∃ (k : Nat) (lg : Bool), gq + k = n ∧ s8 = .bool lg ∧ s9 = .int .i64 (k : Int) ∧ Hid (∃ s vo bs vc xs, LN w base ps w3.heap.size wr k s7 lg s vo bs vc xs))
  case atStart =>
    refine ⟨0, true, by omega, rfl, rfl, newS base, none, [], 0, [], H3.out.alloc H3.out.size _, H3.out.size, blk_new w3 _, ⟨fun i hi => absurd hi (by simp), fun i j => by simp, fun i => by simp⟩, inv_new base HB1.out hb, Nat.le_refl _, rfl, fun m h => by cases h; rfl, ⟨rfl, Or.inl ⟨rfl, rfl⟩⟩, fun i hi => absurd hi (by omega)⟩
  case round =>
    obtain ⟨k, lg, hgk, rfl, rfl, HLX⟩ := hrel
    obtain ⟨s, vo, bs, vc, xs, hLN⟩ := HLX.out
    have HL := Lib.hid hLN
    clear hLN HLX
    by_cases hk : k < n
    · obtain ⟨ab, ao, rfl, od, cd, ord, crd, hps, q0, q1, q2, q3, q4, q5, q6, q7⟩ := HP.out.at k (by rw [HLN.out]; exact hk)
      generalize hpk : ps.getD k zP = p at *
      have HPS := Lib.hid (And.intro hpk hps)
      clear hpk hps
      have z0 := (HL.out.low.cell (cell_in q0)).trans q0
      have z1 := (HL.out.low.cell (cell_in q1)).trans q1
      have z2 := (HL.out.low.cell (cell_in q2)).trans q2
      have z3 := (HL.out.low.cell (cell_in q3)).trans q3
      have z4 := (HL.out.low.cell (cell_in q4)).trans q4
      have z5 := (HL.out.low.cell (cell_in q5)).trans q5
      have z6 := (HL.out.low.cell (cell_in q6)).trans q6
      have z7 := (HL.out.low.cell (cell_in q7)).trans q7
      clear q0 q1 q2 q3 q4 q5 q6 q7
      have hHL := HL.out
      have a0 : wr.cell? ⟨w3.heap.size, 0, none⟩ = some (.int .i64 s.base) := blk_cell hHL.box 0
      clear a0
      generalize hPB : (Obj.cells #[.int .i64 p.kind, .int .i64 p.cl, .slice od p.D.length cd, .int .i64 p.err, .int .i64 p.lsn, .slice ord p.R.length crd, .int .i64 (2 * (k : Int) + 1), .int .i64 (2 * (k : Int) + 2)] 50) = PB
      have hbW7 : Below wr.heap.size wr ((wr.alloc PB).alloc PB) := ((Below.refl _ wr).alloc (Nat.le_refl _) _).alloc (by simp) _
      have hown7 : ((wr.alloc PB).alloc PB).ownsRow w.heap.size 50 8 u7 k xs := row_below hHL.own hbW7
      have hp6 : ((wr.alloc PB).alloc PB).heap[wr.heap.size]? = some PB := blk_alloc (blk_new wr _) _
      have hp7 : ((wr.alloc PB).alloc PB).heap[wr.heap.size + 1]? = some PB := blk_new_at _ _ (by simp)
      have hz7 : ((wr.alloc PB).alloc PB).heap.size = wr.heap.size + 2 := by simp
      rw [← hPB] at hbW7 hown7 hp6 hp7 hz7
      subst hPB
      obtain ⟨i0, hi0, hi1, hi2, hi3⟩ := info_parts info_past
      have HI0 := Lib.hid (And.intro hi0 (And.intro hi1 (And.intro hi2 hi3)))
      have H7 := Lib.hid (And.intro hbW7 (And.intro hown7 (And.intro hp6 (And.intro hp7 hz7))))
      clear hHL hbW7 hown7 hp6 hp7 hz7 hi0 hi1 hi2 hi3
      go_upto_region 16 with fail
      iterate 22 (first | at_builtin | go_values | go_skip | go_guarded | go_step | go_upon | go_back)
      refine wpList_append_own_at _ rfl (.tmp 53) (.tmp 55) 43 rfl w.heap.size 50 i0 _ 8 96 Try.underlying43 HI0.out.1 HI0.out.2.1 HI0.out.2.2.1 HI0.out.2.2.2 ?hzs ?hsz u7 k xs ?hs ?hown ⟨wr.heap.size + 1, 0, none⟩ 1 1 [.int .i64 p.kind, .int .i64 p.cl, .slice od p.D.length cd, .int .i64 p.err, .int .i64 p.lsn, .slice ord p.R.length crd, .int .i64 (2 * (k : Int) + 1), .int .i64 (2 * (k : Int) + 2)] ?hx ?hl ?hnews ?h1 ?h63 ?hby ?hba ?hgo
      case hzs => rfl
      case hsz => decide
      case hs => rfl
      case hown => exact H7.out.2.1
      case hx => rfl
      case hl => rfl
      case hnews =>
        intro j u hu
        rw [addr_add]
        have := blk_cell H7.out.2.2.2.1 (0 + j)
        rw [this, Nat.zero_add]
        simpa using hu
      case h1 =>
        intro u hu
        simp only [List.mem_cons, List.not_mem_nil, or_false] at hu
        rcases hu with rfl | rfl | rfl | rfl | rfl | rfl | rfl | rfl <;> rfl
      case h63 => unfold maxLen; omega
      case hby => omega
      case hba => have := H7.out.2.2.2.2; have := HL.out.low.size; omega
      intro v8 w8 hown8 hgr8 hnil8 hblk8
      obtain ⟨g, c8, rfl, hg8, hgs8⟩ := World.ownsRow.form hown8 (by omega)
      have hblk : u7.ownBlock = some g ∨ g = wr.heap.size + 2 := by
        rcases hblk8 with h | h
        · exact Or.inl (by rw [← h]; rfl)
        · exact Or.inr (by
            have h2 := h
            simp only [Value.ownBlock, Option.some.injEq] at h2
            rw [h2]
            exact H7.out.2.2.2.2)
      have kgr := (Keep.refl (fun x => u7.ownBlock = some x) _).grown hgr8 (fun x hx => Or.inl hx)
      have hb5s : w3.heap.size < wr.heap.size := lt_of_block HL.out.box
      have hbox8 := kgr.same ((H7.out.1.block _ hb5s).trans HL.out.box) (fun h => (HL.out.ne h).1 rfl)
      have hpb8 := kgr.same H7.out.2.2.1 (fun h => by have := (HL.out.ne h).2.1; omega)
      have hsrc8 : SrcB (fun x => x = w3.heap.size ∨ x = g) w8 vo bs := by
        have e1 := srcb_grow HL.out.src H7.out.1
        have e2 := e1.widen (bad2 := fun x => x = w3.heap.size ∨ u7.ownBlock = some x ∨ x = g) (fun x hx => by
          rcases hx with hx | hx | hx
          · exact Or.inl (Or.inl hx)
          · exact Or.inl (Or.inr hx)
          · rcases hblk with h | h
            · exact Or.inl (Or.inr (by rw [hx]; exact h))
            · exact Or.inr (by rw [H7.out.2.2.2.2, hx, h]; exact Nat.le_refl _))
        exact (e2.keep2 kgr (fun x hx => Or.inl (Or.inr (Or.inl hx)))).sub (fun x _ hx => hx.elim Or.inl (fun h => Or.inr (Or.inr h)))
      have hlow7 := HL.out.low.trans (H7.out.1.mono HL.out.low.size)
      have hlow8 := hlow7.trans (kgr.below hlow7.size (fun x hx => (HL.out.ne hx).2.2))
      have hsz8 := kgr.size
      have hne5 : g ≠ w3.heap.size := by
        rcases hblk with h | h
        · exact (HL.out.ne h).1
        · omega
      have hb58 : w3.heap.size < w8.heap.size := lt_of_block hbox8
      have HAP := Lib.hid ((apply_mv (m := (s, bs)) ⟨vo, vc, rfl, hsrc8⟩ (by have := HL.out.few; simp only; omega) HL.out.inv p od cd ord crd (HPS.out.2.keep hlow8)).mono fun e w' h => apply_u HL.out.inv HL.out.few h)
      have a0 : w8.cell? ⟨w3.heap.size, 0, none⟩ = some (.int .i64 s.base) := blk_cell hbox8 0
      have a1 : w8.cell? ⟨w3.heap.size, 1, none⟩ = some (.int .i64 s.first) := blk_cell hbox8 1
      have a2 : w8.cell? ⟨w3.heap.size, 2, none⟩ = some (.int .i64 s.durable) := blk_cell hbox8 2
      have a3 : w8.cell? ⟨w3.heap.size, 3, none⟩ = some (.int .i64 s.next) := blk_cell hbox8 3
      have a4 : w8.cell? ⟨w3.heap.size, 4, none⟩ = some (.int .i64 s.limit) := blk_cell hbox8 4
      have a5 : w8.cell? ⟨w3.heap.size, 5, none⟩ = some (.slice vo bs.length vc) := blk_cell hbox8 5
      have a6 : w8.cell? ⟨w3.heap.size, 6, none⟩ = some (.bool s.failed) := blk_cell hbox8 6
      have a7 : w8.cell? ⟨w3.heap.size, 7, none⟩ = some (.bool s.closed) := blk_cell hbox8 7
      have y0 : w8.cell? ⟨wr.heap.size, 0, none⟩ = some (.int .i64 p.kind) := blk_cell hpb8 0
      have y1 : w8.cell? ⟨wr.heap.size, 1, none⟩ = some (.int .i64 p.cl) := blk_cell hpb8 1
      have y2 : w8.cell? ⟨wr.heap.size, 2, none⟩ = some (.slice od p.D.length cd) := blk_cell hpb8 2
      have y3 : w8.cell? ⟨wr.heap.size, 3, none⟩ = some (.int .i64 p.err) := blk_cell hpb8 3
      have y4 : w8.cell? ⟨wr.heap.size, 4, none⟩ = some (.int .i64 p.lsn) := blk_cell hpb8 4
      have y5 : w8.cell? ⟨wr.heap.size, 5, none⟩ = some (.slice ord p.R.length crd) := blk_cell hpb8 5
      have y6 : w8.cell? ⟨wr.heap.size, 6, none⟩ = some (.int .i64 (2 * (k : Int) + 1)) := blk_cell hpb8 6
      have y7 : w8.cell? ⟨wr.heap.size, 7, none⟩ = some (.int .i64 (2 * (k : Int) + 2)) := blk_cell hpb8 7
      have H8 := Lib.hid (And.intro hlow8 (And.intro hgs8 (And.intro hne5 (And.intro hb58 (And.intro hbox8 hown8)))))
      clear hblk kgr hb5s hpb8 hsrc8 hlow7 hlow8 hsz8 hne5 hb58 hown8 hgr8 hnil8 hblk8 hg8 hgs8 z0 z1 z2 z3 z4 z5 z6 z7 hbox8
      unfold cs at HAP
      simp only at HAP
      generalize hO : applyF s bs p.kind p.cl p.D p.err p.lsn p.R = O at HAP
      have HO := Lib.hid hO
      clear hO
      generalize hok : O.isSome = ok at HAP
      have HOK := Lib.hid hok
      clear hok
      rcases lg with _ | _
      · go_wp2_with (first
          | (go_at_call 10
             refine HAP.out.mono ?_
             rintro e w9 ⟨s', o', bs', c', rfl, h9⟩
             have H9 := Lib.hid h9.out
             have HBX := Lib.hid (fun X => blk_alloc ((h9.out.2.2.2.2.block _ H8.out.2.2.2.1).trans H8.out.2.2.2.2.1) X)
             clear h9)
          | (refine store_guard (.tmp 5) (.tmp 70) 26 (by rfl) ?_
             go_must (refine wpList_store_row rfl 26 (.tmp 5) (.tmp 70) rfl w3.heap.size (cs s' (.slice o' bs'.length c')) rfl rfl 26 _ (HBX.out _) model_size rfl (cs_all _ _ _ _) ?_)))
        go_roundg (gk - 1)
        all_goals first | omega | skip
        case rel =>
          obtain ⟨hpk, hps⟩ := HPS.out
          subst hpk
          have hO := HO.out
          have hok := HOK.out
          subst hO
          exact ⟨k + 1, (false && ok), by omega, rfl, rfl, s', o', bs', c', _, HL.out.next hps H8.out.1 ⟨H8.out.2.1, H8.out.2.2.1, H8.out.2.2.2.1⟩ H8.out.2.2.2.2.1 H8.out.2.2.2.2.2 hok.symm H9.out.2.2.2.1 H9.out.1 H9.out.2.1 H9.out.2.2.1 H9.out.2.2.2.2 rfl⟩
      · go_wp2_with (first
          | (go_at_call 10
             refine HAP.out.mono ?_
             rintro e w9 ⟨s', o', bs', c', rfl, h9⟩
             have H9 := Lib.hid h9.out
             have HBX := Lib.hid (fun X => blk_alloc ((h9.out.2.2.2.2.block _ H8.out.2.2.2.1).trans H8.out.2.2.2.2.1) X)
             clear h9)
          | (refine store_guard (.tmp 5) (.tmp 70) 26 (by rfl) ?_
             go_must (refine wpList_store_row rfl 26 (.tmp 5) (.tmp 70) rfl w3.heap.size (cs s' (.slice o' bs'.length c')) rfl rfl 26 _ (HBX.out _) model_size rfl (cs_all _ _ _ _) ?_)))
        go_roundg (gk - 1)
        all_goals first | omega | skip
        case rel =>
          obtain ⟨hpk, hps⟩ := HPS.out
          subst hpk
          have hO := HO.out
          have hok := HOK.out
          subst hO
          exact ⟨k + 1, (true && ok), by omega, rfl, rfl, s', o', bs', c', _, HL.out.next hps H8.out.1 ⟨H8.out.2.1, H8.out.2.2.1, H8.out.2.2.2.1⟩ H8.out.2.2.2.2.1 H8.out.2.2.2.2.2 hok.symm H9.out.2.2.2.1 H9.out.1 H9.out.2.1 H9.out.2.2.1 H9.out.2.2.2.2 rfl⟩
    · obtain rfl : k = n := by omega
      obtain ⟨lo, lc, hlv, hPs⟩ := HL.out.ps
      subst hlv
      have hck := check_any base lo (lnL ps k) lc wr hPs (by rw [lnL_len]; omega) hb
      rw [lnL_len] at hck
      have HCK := Lib.hid hck
      have hbg : bgE base (lnL ps k) = 0 := by
        have := ln_bg (ps := ps) HB1.out (by rw [HLN.out]; exact hn12)
        rw [HLN.out] at this
        exact this
      have HBG := Lib.hid hbg
      have HLG := Lib.hid (HL.out.leg)
      have HLW := Lib.hid HL.out.low
      clear hck hbg hPs HL
      go_wp2_with fail
      refine HCK.out.mono ?_
      rintro e w5 ⟨hb5, h5⟩
      have H5 := Lib.hid (HLW.out.trans (hb5.mono HLW.out.size))
      clear hb5
      rcases h5 with ⟨h5, -⟩ | ⟨-, hd, rfl⟩ | ⟨-, v, l, d, rfl, hown, hc, hd, -⟩
      · exact absurd HBG.out h5
      · have hlg : lg = false := by
          rw [HLG.out]
          rcases hs : seqF base ps k with _ | m
          · rfl
          · obtain ⟨d, hc, hdn⟩ := ln_some hs
            exact absurd hdn (hd _ _ hc)
        subst hlg
        clear hd
        go_wp2_with fail
        go_loopg [15] 0 (fun gq i wx => i = .int .i64 0 ∧ wx = w5)
        case atStart => exact ⟨rfl, rfl⟩
        case round =>
          obtain ⟨rfl, rfl⟩ := hrel
          go_wp2_with fail
          go_ret
          exact ⟨rfl, H5.out⟩
      · obtain ⟨hl, hs⟩ := ln_only hc hd
        have hlg : lg = true := by rw [HLG.out, hs]; rfl
        subst hlg
        subst hl
        obtain ⟨vo, vc, rfl, hvi⟩ := own_slice hown
        rw [List.length_range] at *
        have HVI := Lib.hid hvi
        clear hown hc hd hs hvi
        go_wp2_with fail
        go_loopg [15] k (fun gq i wx => ∃ j : Nat, gq + j = k ∧ i = .int .i64 (j : Int) ∧ wx = w5)
        case atStart => exact ⟨0, by omega, rfl, rfl⟩
        case round =>
          obtain ⟨j, hgj, rfl, rfl⟩ := hrel
          by_cases hj : j < k
          · obtain ⟨ab, ao, rfl, x0⟩ := HVI.out j (by simp [nats, hj])
            rw [nats_getD] at x0
            have ej : (List.range k).getD j 0 = j := by rw [List.getD_eq_getElem?_getD]; simp [hj]
            rw [ej] at x0
            clear ej
            go_wp2_with fail
            go_roundg (gk - 1)
            all_goals first | omega | exact ⟨j + 1, by omega, rfl, rfl⟩
          · obtain rfl : j = k := by omega
            go_wp2_with fail
            go_ret
            exact ⟨rfl, H5.out⟩
end Go.Proofs.Ytjiehgfamlidnaa.Lin
