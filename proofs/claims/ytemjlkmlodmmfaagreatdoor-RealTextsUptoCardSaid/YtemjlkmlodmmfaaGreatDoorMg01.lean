/-
  DERIVED: THE SHELF's CONTRACTS AT THIS DUMP, IN PLAIN WORDS (tools/lay-plain.mjs out of 'TryzShelf.lean', which tools/lay-shelf.mjs wrote): THE SAME DECLARATIONS UNDER THE SAME NAMES: 'import', 'namespace', 'open', 'def', 'theorem' AND NOTHING ELSE: no command of the shelf's: FOR A HAND-IN. Each laying: the table of numbers ('.._ren') and one theorem, a field a fact of the dump's own or the kernel's comparison; each contract: ONE APPLICATION.
-/
import Derived.Shelf.Strconv.Itoa0
import Derived.Shelf.Strconv.Itoa1
import Derived.Shelf.LaysM
import Derived.Shelf.Strconv.Itoa2
import Derived.Shelf.Strconv.Clone
import Derived.Shelf.Strconv.SyntaxError
import Derived.Shelf.LaysC
import Derived.Shelf.Strconv.ToError
import Derived.Shelf.Strconv.Lower
import Derived.Shelf.Strconv.RangeError
import Derived.Shelf.Strconv.ToErrorRange
import Derived.Shelf.Bits.Mul64
import Derived.Test.YtemjlkmlodmmfaaGreatDoorProg
import Derived.Test.YtemjlkmlodmmfaaGreatDoorMg00
import Derived.BigQuiet
import Derived.Deep.QuietTactic
import Derived.Deep.RegionWith
import Derived.Deep.CutBlock
import Derived.Deep.CutRange
import Derived.Lib.Hide
import Derived.Laws.BitsAllLaws
namespace Go.Proofs
open Go.Shelf
def Tryz.lays129_ren : Go.Shelf.Ren := ⟨fun | 129 => 51 | n => n, fun | 53 => 42 | 3 => 3 | 4 => 4 | 46 => 65 | 5 => 5 | 9 => 9 | n => n, fun | n => n⟩
theorem Tryz.lays129 : Go.Proofs.Lays.n129 Tryz.prog Tryz.lays129_ren := {
  mixed := by kernel_rfl
  f129 := Tryz.func51.trans (congrArg some (by kernel_rfl))
  t3 := Tryz.underlying3
  a3 := Tryz.isAgg3
  z3 := Tryz.sizeOf3
  v3 := Tryz.zeroValue3
  t4 := Tryz.underlying4
  a4 := Tryz.isAgg4
  z4 := Tryz.sizeOf4
  v4 := Tryz.zeroValue4
  t5 := Tryz.underlying5
  a5 := Tryz.isAgg5
  z5 := Tryz.sizeOf5
  v5 := Tryz.zeroValue5
  t9 := Tryz.underlying9
  a9 := Tryz.isAgg9
  z9 := Tryz.sizeOf9
  v9 := Tryz.zeroValue9
  t46 := Tryz.underlying65
  a46 := Tryz.isAgg65
  z46 := Tryz.sizeOf65
  v46 := Tryz.zeroValue65
  t53 := Tryz.underlying42
  a53 := Tryz.isAgg42
  z53 := Tryz.sizeOf42
  v53 := Tryz.zeroValue42 }
/-- bits.Len64: "Len64 returns the minimum number of bits required to represent x; the result is 0 for x == 0.": IT RETURNS 'Lib.bitLen x'; the world is as it was. ('h0', 'h1': x is a uint64.) (LAID: no walk: one application.) -/
theorem Tryz.bits_Len64 (x : Int) (w : World) (h0 : 0 ≤ x) (h1 : x ≤ 18446744073709551615) :
    Calls Tryz.prog 51 #[.int .u64 x] w fun e w' => e = .returned (.int .i64 (Lib.bitLen x.toNat)) ∧ w' = w := Any.bits_Len64 Tryz.lays129 x w h0 h1
def Tryz.lays317_ren : Go.Shelf.Ren := ⟨fun | 317 => 60 | n => n, fun | 3 => 3 | 46 => 65 | n => n, fun | n => n⟩
theorem Tryz.lays317 : Go.Proofs.Lays.n317 Tryz.prog Tryz.lays317_ren := {
  mixed := by kernel_rfl
  f317 := Tryz.func60.trans (congrArg some (by kernel_rfl))
  t3 := Tryz.underlying3
  a3 := Tryz.isAgg3
  z3 := Tryz.sizeOf3
  v3 := Tryz.zeroValue3
  t46 := Tryz.underlying65
  a46 := Tryz.isAgg65
  z46 := Tryz.sizeOf65
  v46 := Tryz.zeroValue65 }
open Go.Lib in
/-- internal/strconv.log10Pow2: "log10Pow2(x) returns ⌊log₁₀ 2**x⌋ = ⌊x * log₁₀ 2⌋.": '(x * 78913) >> 18', at an x up to 64 (a length in bits). The world is as it was. (LAID: no walk: one application.) -/
theorem Tryz.internal_strconv_log10Pow2 (x : Nat) (h : x ≤ 64) (w : World) :
    Calls Tryz.prog 60 #[.int .i64 x] w fun e w' => e = .returned (.int .i64 (Lib.l10 x)) ∧ w' = w := Any.internal_strconv_log10Pow2 Tryz.lays317 x h w
def Tryz.lays318_ren : Go.Shelf.Ren := ⟨fun | 318 => 83 | n => n, fun | 3 => 3 | 4 => 4 | n => n, fun | n => n⟩
theorem Tryz.lays318 : Go.Proofs.Lays.n318 Tryz.prog Tryz.lays318_ren := {
  mixed := by kernel_rfl
  f318 := Tryz.func83.trans (congrArg some (by kernel_rfl))
  t3 := Tryz.underlying3
  a3 := Tryz.isAgg3
  z3 := Tryz.sizeOf3
  v3 := Tryz.zeroValue3
  t4 := Tryz.underlying4
  a4 := Tryz.isAgg4
  z4 := Tryz.sizeOf4
  v4 := Tryz.zeroValue4 }
open Go.Lib in
/-- internal/strconv.bool2: "bool2 converts b to an integer: 1 for true, 0 for false." The world is as it was. (LAID: no walk: one application.) -/
theorem Tryz.internal_strconv_bool2_int (b : Bool) (w : World) :
    Calls Tryz.prog 83 #[.bool b] w fun e w' => e = .returned (.int .i64 (if b then 1 else 0)) ∧ w' = w := Any.internal_strconv_bool2_int Tryz.lays318 b w
def Tryz.lays283_ren : Go.Shelf.Ren := ⟨fun | 283 => 106 | n => n, fun | 3 => 3 | 9 => 9 | 4 => 4 | n => n, fun | n => n⟩
theorem Tryz.lays283 : Go.Proofs.Lays.n283 Tryz.prog Tryz.lays283_ren := {
  mixed := by kernel_rfl
  f283 := Tryz.func106.trans (congrArg some (by kernel_rfl))
  t3 := Tryz.underlying3
  a3 := Tryz.isAgg3
  z3 := Tryz.sizeOf3
  v3 := Tryz.zeroValue3
  t4 := Tryz.underlying4
  a4 := Tryz.isAgg4
  z4 := Tryz.sizeOf4
  v4 := Tryz.zeroValue4
  t9 := Tryz.underlying9
  a9 := Tryz.isAgg9
  z9 := Tryz.sizeOf9
  v9 := Tryz.zeroValue9 }
open Go.Lib in
/-- internal/strconv.small: "small returns the string for an i with 0 <= i < nSmalls.": i's decimal numeral. The world is as it was. (LAID: no walk: one application.) -/
theorem Tryz.internal_strconv_small (i : Nat) (h : i < 100) (w : World) :
    Calls Tryz.prog 106 #[.int .i64 i] w fun e w' => e = .returned (.string ⟨(Lib.decDigits i).toArray⟩) ∧ w' = w := Any.internal_strconv_small Tryz.lays283 i h w
def Tryz.laysM284_ren : Go.Shelf.Ren := ⟨fun | 284 => 59 | 129 => 51 | 317 => 60 | 318 => 83 | n => n, fun | 53 => 42 | 3 => 3 | 212 => 122 | 0 => 0 | 4 => 4 | 46 => 65 | 5 => 5 | 9 => 9 | n => n, fun | 17 => 4 | n => n⟩
theorem Tryz.laysM284 : Go.Proofs.LaysM.n284 Tryz.prog Tryz.laysM284_ren := {
  mixed := by kernel_rfl
  f129 := Tryz.func51.trans (congrArg some (by kernel_rfl))
  f284 := Tryz.func59.trans (congrArg some (by kernel_rfl))
  f317 := Tryz.func60.trans (congrArg some (by kernel_rfl))
  f318 := Tryz.func83.trans (congrArg some (by kernel_rfl))
  t0 := Tryz.underlying0
  a0 := Tryz.isAgg0
  z0 := Tryz.sizeOf0
  v0 := Tryz.zeroValue0
  t3 := Tryz.underlying3
  a3 := Tryz.isAgg3
  z3 := Tryz.sizeOf3
  v3 := Tryz.zeroValue3
  t4 := Tryz.underlying4
  a4 := Tryz.isAgg4
  z4 := Tryz.sizeOf4
  v4 := Tryz.zeroValue4
  t5 := Tryz.underlying5
  a5 := Tryz.isAgg5
  z5 := Tryz.sizeOf5
  v5 := Tryz.zeroValue5
  t9 := Tryz.underlying9
  a9 := Tryz.isAgg9
  z9 := Tryz.sizeOf9
  v9 := Tryz.zeroValue9
  t46 := Tryz.underlying65
  a46 := Tryz.isAgg65
  z46 := Tryz.sizeOf65
  v46 := Tryz.zeroValue65
  t53 := Tryz.underlying42
  a53 := Tryz.isAgg42
  z53 := Tryz.sizeOf42
  v53 := Tryz.zeroValue42
  t212 := Tryz.underlying122
  a212 := Tryz.isAgg122
  z212 := Tryz.sizeOf122
  v212 := Tryz.zeroValue122
  g17 := by kernel_rfl
  i0 := by kernel_rfl
  i3 := by kernel_rfl
  i4 := by kernel_rfl
  i5 := by kernel_rfl
  i9 := by kernel_rfl
  i46 := by kernel_rfl
  i53 := by kernel_rfl
  i212 := by kernel_rfl
  m17 := by kernel_rfl }
open Go.Lib in
/-- internal/strconv.numDigits, at a d that is not 0: THE NUMBER OF d's DECIMAL DIGITS. The world is as it was. (LAID: no walk: one application.) -/
theorem Tryz.internal_strconv_numDigits (u : Nat) (h1 : 1 ≤ u) (h2 : u < 18446744073709551616) (w : World) (htab : Lib.TabIs Tryz.prog w "internal/strconv.uint64pow10" .u64 Lib.pow10Tab) :
    Calls Tryz.prog 59 #[.int .u64 u] w fun e w' => e = .returned (.int .i64 (Lib.nDigits u)) ∧ w' = w := Any.internal_strconv_numDigits Tryz.laysM284 u h1 h2 w htab
def Tryz.lays285_ren : Go.Shelf.Ren := ⟨fun | 285 => 82 | n => n, fun | 37 => 72 | 53 => 42 | 3 => 3 | 4 => 4 | 51 => 83 | 9 => 9 | 5 => 5 | 0 => 0 | n => n, fun | n => n⟩
theorem Tryz.lays285 : Go.Proofs.Lays.n285 Tryz.prog Tryz.lays285_ren := {
  mixed := by kernel_rfl
  f285 := Tryz.func82.trans (congrArg some (by kernel_rfl))
  t0 := Tryz.underlying0
  a0 := Tryz.isAgg0
  z0 := Tryz.sizeOf0
  v0 := Tryz.zeroValue0
  t3 := Tryz.underlying3
  a3 := Tryz.isAgg3
  z3 := Tryz.sizeOf3
  v3 := Tryz.zeroValue3
  t4 := Tryz.underlying4
  a4 := Tryz.isAgg4
  z4 := Tryz.sizeOf4
  v4 := Tryz.zeroValue4
  t5 := Tryz.underlying5
  a5 := Tryz.isAgg5
  z5 := Tryz.sizeOf5
  v5 := Tryz.zeroValue5
  t9 := Tryz.underlying9
  a9 := Tryz.isAgg9
  z9 := Tryz.sizeOf9
  v9 := Tryz.zeroValue9
  t37 := Tryz.underlying72
  a37 := Tryz.isAgg72
  z37 := Tryz.sizeOf72
  v37 := Tryz.zeroValue72
  t51 := Tryz.underlying83
  a51 := Tryz.isAgg83
  z51 := Tryz.sizeOf83
  v51 := Tryz.zeroValue83
  t53 := Tryz.underlying42
  a53 := Tryz.isAgg42
  z53 := Tryz.sizeOf42
  v53 := Tryz.zeroValue42 }
open Go.RowKit Go.Sort Go.Lib in
/-- internal/strconv.formatBase10: "formatBase10 formats the decimal representation of u into a. The caller is responsible for ensuring that a is big enough to hold u. If a is too big, leading zeros will be filled in as needed.": THE ROW HOLDS u's DIGITS ('FmtInv .. 0 ..': every place t holds 'dg u (len - 1 - t)'); all else is as it was but for the count of draws. (LAID: no walk: one application.) -/
theorem Tryz.internal_strconv_formatBase10 (blk off cap : Nat) (u : Nat) (d : Array UInt8) (w : World) (hH : Holds (fun (b : UInt8) => Value.int .u8 (b.toNat : Int)) w blk off d) (hu : u < 10 ^ d.size) (hu64 : u < 18446744073709551616) (hsz : d.size < 4611686018427387904) :
    Calls Tryz.prog 82 #[.slice (some ⟨blk, off, none⟩) d.size cap, .int .u64 u] w fun e w' =>
      e = .returned (.tuple #[]) ∧ ∃ (n v' : Nat) (dk : Array UInt8), w' = (putRow (fun (b : UInt8) => Value.int .u8 (b.toNat : Int)) w blk off dk).drewN n ∧ FmtInv d.size u 0 v' dk := Any.internal_strconv_formatBase10 Tryz.lays285 blk off cap u d w hH hu hu64 hsz
def Tryz.laysM316_ren : Go.Shelf.Ren := ⟨fun | 316 => 68 | n => n, fun | 9 => 9 | 3 => 3 | 4 => 4 | 37 => 72 | 0 => 0 | 127 => 147 | 5 => 5 | n => n, fun | n => n⟩
theorem Tryz.laysM316 : Go.Proofs.LaysM.n316 Tryz.prog Tryz.laysM316_ren := {
  mixed := by kernel_rfl
  f316 := Tryz.func68.trans (congrArg some (by kernel_rfl))
  t0 := Tryz.underlying0
  a0 := Tryz.isAgg0
  z0 := Tryz.sizeOf0
  v0 := Tryz.zeroValue0
  t3 := Tryz.underlying3
  a3 := Tryz.isAgg3
  z3 := Tryz.sizeOf3
  v3 := Tryz.zeroValue3
  t4 := Tryz.underlying4
  a4 := Tryz.isAgg4
  z4 := Tryz.sizeOf4
  v4 := Tryz.zeroValue4
  t9 := Tryz.underlying9
  a9 := Tryz.isAgg9
  z9 := Tryz.sizeOf9
  v9 := Tryz.zeroValue9
  t37 := Tryz.underlying72
  a37 := Tryz.isAgg72
  z37 := Tryz.sizeOf72
  v37 := Tryz.zeroValue72
  t127 := Tryz.underlying147
  a127 := Tryz.isAgg147
  z127 := Tryz.sizeOf147
  v127 := Tryz.zeroValue147
  t5 := Tryz.underlying5
  a5 := Tryz.isAgg5
  z5 := Tryz.sizeOf5
  v5 := Tryz.zeroValue5
  i0 := by kernel_rfl
  i3 := by kernel_rfl
  i4 := by kernel_rfl
  i5 := by kernel_rfl
  i9 := by kernel_rfl
  i37 := by kernel_rfl
  i127 := by kernel_rfl }
open Go.RowKit in
/-- internal/stringslite.Clone (what strings.Clone calls): "Clone returns a fresh copy of s.": THE SAME BYTES. Of what was there nothing has turned (a new row is laid, and frozen, where s is not empty). (LAID: no walk: one application.) -/
theorem Tryz.stringslite_Clone (s : ByteArray) (w : World) (hlim : s.size ≤ 281474976710656) :
    Calls Tryz.prog 68 #[.string s] w fun e w' => e = .returned (.string s) ∧ Below w.heap.size w w' := Any.stringslite_Clone Tryz.laysM316 s w hlim
def Tryz.laysM279_ren : Go.Shelf.Ren := ⟨fun | 279 => 47 | 316 => 68 | n => n, fun | 9 => 9 | 168 => 79 | 75 => 48 | 210 => 107 | 3 => 3 | 4 => 4 | 37 => 72 | 0 => 0 | 127 => 147 | 80 => 172 | 5 => 5 | n => n, fun | 15 => 2 | n => n⟩
theorem Tryz.laysM279 : Go.Proofs.LaysM.n279 Tryz.prog Tryz.laysM279_ren := {
  mixed := by kernel_rfl
  f279 := Tryz.func47.trans (congrArg some (by kernel_rfl))
  f316 := Tryz.func68.trans (congrArg some (by kernel_rfl))
  t0 := Tryz.underlying0
  a0 := Tryz.isAgg0
  z0 := Tryz.sizeOf0
  v0 := Tryz.zeroValue0
  t3 := Tryz.underlying3
  a3 := Tryz.isAgg3
  z3 := Tryz.sizeOf3
  v3 := Tryz.zeroValue3
  t4 := Tryz.underlying4
  a4 := Tryz.isAgg4
  z4 := Tryz.sizeOf4
  v4 := Tryz.zeroValue4
  t9 := Tryz.underlying9
  a9 := Tryz.isAgg9
  z9 := Tryz.sizeOf9
  v9 := Tryz.zeroValue9
  t37 := Tryz.underlying72
  a37 := Tryz.isAgg72
  z37 := Tryz.sizeOf72
  v37 := Tryz.zeroValue72
  t75 := Tryz.underlying48
  a75 := Tryz.isAgg48
  z75 := Tryz.sizeOf48
  v75 := Tryz.zeroValue48
  t127 := Tryz.underlying147
  a127 := Tryz.isAgg147
  z127 := Tryz.sizeOf147
  v127 := Tryz.zeroValue147
  t168 := Tryz.underlying79
  a168 := Tryz.isAgg79
  z168 := Tryz.sizeOf79
  v168 := Tryz.zeroValue79
  t210 := Tryz.underlying107
  a210 := Tryz.isAgg107
  z210 := Tryz.sizeOf107
  v210 := Tryz.zeroValue107
  g15 := by kernel_rfl
  t5 := Tryz.underlying5
  a5 := Tryz.isAgg5
  z5 := Tryz.sizeOf5
  v5 := Tryz.zeroValue5
  t80 := Tryz.underlying172
  a80 := Tryz.isAgg172
  z80 := Tryz.sizeOf172
  v80 := Tryz.zeroValue172
  i0 := by kernel_rfl
  i3 := by kernel_rfl
  i4 := by kernel_rfl
  i5 := by kernel_rfl
  i9 := by kernel_rfl
  i37 := by kernel_rfl
  i75 := by kernel_rfl
  i80 := by kernel_rfl
  i127 := by kernel_rfl
  i168 := by kernel_rfl
  i210 := by kernel_rfl
  m15 := by kernel_rfl }
open Go.RowKit in
/-- strconv.syntaxError: '&NumError{fn, stringslite.Clone(str), ErrSyntax}': A POINTER TO A NEW BLOCK that holds fn, str's bytes, and what the variable ErrSyntax holds. Of what was there nothing has turned. (LAID: no walk: one application.) -/
theorem Tryz.strconv_syntaxError (fn s : ByteArray) (ev : Value) (w : World) (hlim : s.size ≤ 281474976710656) (hv : w.cell? ⟨2, 0, none⟩ = some ev) (hev : ev = .nilIface ∨ ∃ te pe, ev = .iface te pe) :
    Calls Tryz.prog 47 #[.string fn, .string s] w fun e w' => ∃ N, e = .returned (.pointer (some ⟨N, 0, none⟩)) ∧ w.heap.size ≤ N ∧ w'.heap[N]? = some (.cells #[.string fn, .string s, ev] 107 (0, 0)) ∧ Below w.heap.size w w' := Any.strconv_syntaxError Tryz.laysM279 fn s ev w hlim hv hev
def Tryz.laysC245_ren : Go.Shelf.Ren := ⟨fun | 245 => 35 | 279 => 47 | 280 => 48 | 281 => 49 | 282 => 50 | 316 => 68 | 171 => 70 | 205 => 69 | 243 => 105 | 246 => 118 | 283 => 106 | 284 => 59 | 285 => 82 | 286 => 107 | 129 => 51 | 317 => 60 | 318 => 83 | 319 => 119 | 320 => 120 | 337 => 121 | 338 => 122 | n => n, fun | 9 => 9 | 3 => 3 | 75 => 48 | 167 => 78 | 4 => 4 | 168 => 79 | 210 => 107 | 37 => 72 | 0 => 0 | 127 => 147 | 145 => 150 | 143 => 148 | 2 => 2 | 171 => 94 | 53 => 42 | 5 => 5 | 173 => 151 | 212 => 122 | 51 => 83 | 20 => 20 | 213 => 168 | 46 => 65 | 232 => 88 | 233 => 171 | 80 => 172 | n => n, fun | 15 => 2 | 16 => 3 | 17 => 4 | 18 => 12 | 19 => 13 | n => n⟩
theorem Tryz.laysC245 : Go.Proofs.LaysC.n245 Tryz.prog Tryz.laysC245_ren := {
  mixed := by kernel_rfl
  f129 := Tryz.func51.trans (congrArg some (by kernel_rfl))
  f171 := Tryz.func70.trans (congrArg some (by kernel_rfl))
  f205 := Tryz.func69.trans (congrArg some (by kernel_rfl))
  f243 := Tryz.func105.trans (congrArg some (by kernel_rfl))
  f245 := Tryz.func35.trans (congrArg some (by kernel_rfl))
  f246 := Tryz.func118.trans (congrArg some (by kernel_rfl))
  f279 := Tryz.func47.trans (congrArg some (by kernel_rfl))
  f280 := Tryz.func48.trans (congrArg some (by kernel_rfl))
  f281 := Tryz.func49.trans (congrArg some (by kernel_rfl))
  f282 := Tryz.func50.trans (congrArg some (by kernel_rfl))
  f283 := Tryz.func106.trans (congrArg some (by kernel_rfl))
  f284 := Tryz.func59.trans (congrArg some (by kernel_rfl))
  f285 := Tryz.func82.trans (congrArg some (by kernel_rfl))
  f286 := Tryz.func107.trans (congrArg some (by kernel_rfl))
  f316 := Tryz.func68.trans (congrArg some (by kernel_rfl))
  f317 := Tryz.func60.trans (congrArg some (by kernel_rfl))
  f318 := Tryz.func83.trans (congrArg some (by kernel_rfl))
  f319 := Tryz.func119.trans (congrArg some (by kernel_rfl))
  f320 := Tryz.func120.trans (congrArg some (by kernel_rfl))
  f337 := Tryz.func121.trans (congrArg some (by kernel_rfl))
  f338 := Tryz.func122.trans (congrArg some (by kernel_rfl))
  t0 := Tryz.underlying0
  a0 := Tryz.isAgg0
  z0 := Tryz.sizeOf0
  v0 := Tryz.zeroValue0
  t2 := Tryz.underlying2
  a2 := Tryz.isAgg2
  z2 := Tryz.sizeOf2
  v2 := Tryz.zeroValue2
  t3 := Tryz.underlying3
  a3 := Tryz.isAgg3
  z3 := Tryz.sizeOf3
  v3 := Tryz.zeroValue3
  t4 := Tryz.underlying4
  a4 := Tryz.isAgg4
  z4 := Tryz.sizeOf4
  v4 := Tryz.zeroValue4
  t5 := Tryz.underlying5
  a5 := Tryz.isAgg5
  z5 := Tryz.sizeOf5
  v5 := Tryz.zeroValue5
  t9 := Tryz.underlying9
  a9 := Tryz.isAgg9
  z9 := Tryz.sizeOf9
  v9 := Tryz.zeroValue9
  t20 := Tryz.underlying20
  a20 := Tryz.isAgg20
  z20 := Tryz.sizeOf20
  v20 := Tryz.zeroValue20
  t37 := Tryz.underlying72
  a37 := Tryz.isAgg72
  z37 := Tryz.sizeOf72
  v37 := Tryz.zeroValue72
  t46 := Tryz.underlying65
  a46 := Tryz.isAgg65
  z46 := Tryz.sizeOf65
  v46 := Tryz.zeroValue65
  t51 := Tryz.underlying83
  a51 := Tryz.isAgg83
  z51 := Tryz.sizeOf83
  v51 := Tryz.zeroValue83
  t53 := Tryz.underlying42
  a53 := Tryz.isAgg42
  z53 := Tryz.sizeOf42
  v53 := Tryz.zeroValue42
  t75 := Tryz.underlying48
  a75 := Tryz.isAgg48
  z75 := Tryz.sizeOf48
  v75 := Tryz.zeroValue48
  t127 := Tryz.underlying147
  a127 := Tryz.isAgg147
  z127 := Tryz.sizeOf147
  v127 := Tryz.zeroValue147
  t143 := Tryz.underlying148
  a143 := Tryz.isAgg148
  z143 := Tryz.sizeOf148
  v143 := Tryz.zeroValue148
  t145 := Tryz.underlying150
  a145 := Tryz.isAgg150
  z145 := Tryz.sizeOf150
  v145 := Tryz.zeroValue150
  t167 := Tryz.underlying78
  a167 := Tryz.isAgg78
  z167 := Tryz.sizeOf78
  v167 := Tryz.zeroValue78
  t168 := Tryz.underlying79
  a168 := Tryz.isAgg79
  z168 := Tryz.sizeOf79
  v168 := Tryz.zeroValue79
  t171 := Tryz.underlying94
  a171 := Tryz.isAgg94
  z171 := Tryz.sizeOf94
  v171 := Tryz.zeroValue94
  t173 := Tryz.underlying151
  a173 := Tryz.isAgg151
  z173 := Tryz.sizeOf151
  v173 := Tryz.zeroValue151
  t210 := Tryz.underlying107
  a210 := Tryz.isAgg107
  z210 := Tryz.sizeOf107
  v210 := Tryz.zeroValue107
  t212 := Tryz.underlying122
  a212 := Tryz.isAgg122
  z212 := Tryz.sizeOf122
  v212 := Tryz.zeroValue122
  t213 := Tryz.underlying168
  a213 := Tryz.isAgg168
  z213 := Tryz.sizeOf168
  t232 := Tryz.underlying88
  a232 := Tryz.isAgg88
  z232 := Tryz.sizeOf88
  v232 := Tryz.zeroValue88
  t233 := Tryz.underlying171
  a233 := Tryz.isAgg171
  z233 := Tryz.sizeOf171
  v233 := Tryz.zeroValue171
  g15 := by kernel_rfl
  g16 := by kernel_rfl
  g17 := by kernel_rfl
  g18 := by kernel_rfl
  g19 := by kernel_rfl
  t80 := Tryz.underlying172
  a80 := Tryz.isAgg172
  z80 := Tryz.sizeOf172
  v80 := Tryz.zeroValue172
  i0 := by kernel_rfl
  i2 := by kernel_rfl
  i3 := by kernel_rfl
  i4 := by kernel_rfl
  i5 := by kernel_rfl
  i9 := by kernel_rfl
  i20 := by kernel_rfl
  i37 := by kernel_rfl
  i46 := by kernel_rfl
  i51 := by kernel_rfl
  i53 := by kernel_rfl
  i75 := by kernel_rfl
  i80 := by kernel_rfl
  i127 := by kernel_rfl
  i143 := by kernel_rfl
  i145 := by kernel_rfl
  i167 := by kernel_rfl
  i168 := by kernel_rfl
  i171 := by kernel_rfl
  i173 := by kernel_rfl
  i210 := by kernel_rfl
  i212 := by kernel_rfl
  i232 := by kernel_rfl
  i233 := by kernel_rfl
  m15 := by kernel_rfl
  m16 := by kernel_rfl
  m17 := by kernel_rfl
  m18 := by kernel_rfl
  m19 := by kernel_rfl
  c0 := by kernel_rfl
  c2 := by kernel_rfl
  c3 := by kernel_rfl
  c4 := by kernel_rfl
  c5 := by kernel_rfl
  c9 := by kernel_rfl
  c20 := by kernel_rfl
  c37 := by kernel_rfl
  c46 := by kernel_rfl
  c51 := by kernel_rfl
  c53 := by kernel_rfl
  c75 := by kernel_rfl
  c80 := by kernel_rfl
  c127 := by kernel_rfl
  c143 := by kernel_rfl
  c145 := by kernel_rfl
  c167 := by kernel_rfl
  c168 := by kernel_rfl
  c171 := by kernel_rfl
  c173 := by kernel_rfl
  c210 := by kernel_rfl
  c212 := by kernel_rfl
  c213 := by kernel_rfl
  c232 := by kernel_rfl
  c233 := by kernel_rfl }
open Go.RowKit in
/-- strconv.toError, at the inner package's ErrSyntax: 'syntaxError(fn, s)' as an error: A *NumError IN A NEW BLOCK. (LAID: no walk: one application.) -/
theorem Tryz.strconv_toError_syntax (fn s : ByteArray) (base bits : Int) (ev : Value) (w : World) (hlim : s.size ≤ 281474976710656) (hv : w.cell? ⟨2, 0, none⟩ = some ev) (hev : ev = .nilIface ∨ ∃ te pe, ev = .iface te pe) :
    Calls Tryz.prog 35 #[.string fn, .string s, .int .i64 base, .int .i64 bits, .iface 78 (.int .i64 2)] w fun e w' => ∃ N, e = .returned (.iface 79 (.pointer (some ⟨N, 0, none⟩))) ∧ w.heap.size ≤ N ∧ w'.heap[N]? = some (.cells #[.string fn, .string s, ev] 107 (0, 0)) ∧ Below w.heap.size w w' := Any.strconv_toError_syntax Tryz.laysC245 fn s base bits ev w hlim hv hev
def Tryz.lays321_ren : Go.Shelf.Ren := ⟨fun | 321 => 73 | n => n, fun | 5 => 5 | n => n, fun | n => n⟩
theorem Tryz.lays321 : Go.Proofs.Lays.n321 Tryz.prog Tryz.lays321_ren := {
  mixed := by kernel_rfl
  f321 := Tryz.func73.trans (congrArg some (by kernel_rfl))
  t5 := Tryz.underlying5
  a5 := Tryz.isAgg5
  z5 := Tryz.sizeOf5
  v5 := Tryz.zeroValue5 }
open Go.RowKit in
/-- internal/strconv.lower: 'c | ('x' - 'X')': the bit 32 set. The world is as it was. (LAID: no walk: one application.) -/
theorem Tryz.internal_strconv_lower (c : Int) (w : World) :
    Calls Tryz.prog 73 #[.int .u8 c] w fun e w' => e = .returned (.int .u8 (bits .or .u8 c 32)) ∧ w' = w := Any.internal_strconv_lower Tryz.lays321 c w
def Tryz.laysM280_ren : Go.Shelf.Ren := ⟨fun | 280 => 48 | 316 => 68 | n => n, fun | 9 => 9 | 168 => 79 | 75 => 48 | 210 => 107 | 3 => 3 | 4 => 4 | 37 => 72 | 0 => 0 | 127 => 147 | 80 => 172 | 5 => 5 | n => n, fun | 16 => 3 | n => n⟩
theorem Tryz.laysM280 : Go.Proofs.LaysM.n280 Tryz.prog Tryz.laysM280_ren := {
  mixed := by kernel_rfl
  f280 := Tryz.func48.trans (congrArg some (by kernel_rfl))
  f316 := Tryz.func68.trans (congrArg some (by kernel_rfl))
  t0 := Tryz.underlying0
  a0 := Tryz.isAgg0
  z0 := Tryz.sizeOf0
  v0 := Tryz.zeroValue0
  t3 := Tryz.underlying3
  a3 := Tryz.isAgg3
  z3 := Tryz.sizeOf3
  v3 := Tryz.zeroValue3
  t4 := Tryz.underlying4
  a4 := Tryz.isAgg4
  z4 := Tryz.sizeOf4
  v4 := Tryz.zeroValue4
  t9 := Tryz.underlying9
  a9 := Tryz.isAgg9
  z9 := Tryz.sizeOf9
  v9 := Tryz.zeroValue9
  t37 := Tryz.underlying72
  a37 := Tryz.isAgg72
  z37 := Tryz.sizeOf72
  v37 := Tryz.zeroValue72
  t75 := Tryz.underlying48
  a75 := Tryz.isAgg48
  z75 := Tryz.sizeOf48
  v75 := Tryz.zeroValue48
  t127 := Tryz.underlying147
  a127 := Tryz.isAgg147
  z127 := Tryz.sizeOf147
  v127 := Tryz.zeroValue147
  t168 := Tryz.underlying79
  a168 := Tryz.isAgg79
  z168 := Tryz.sizeOf79
  v168 := Tryz.zeroValue79
  t210 := Tryz.underlying107
  a210 := Tryz.isAgg107
  z210 := Tryz.sizeOf107
  v210 := Tryz.zeroValue107
  g16 := by kernel_rfl
  t5 := Tryz.underlying5
  a5 := Tryz.isAgg5
  z5 := Tryz.sizeOf5
  v5 := Tryz.zeroValue5
  t80 := Tryz.underlying172
  a80 := Tryz.isAgg172
  z80 := Tryz.sizeOf172
  v80 := Tryz.zeroValue172
  i0 := by kernel_rfl
  i3 := by kernel_rfl
  i4 := by kernel_rfl
  i5 := by kernel_rfl
  i9 := by kernel_rfl
  i37 := by kernel_rfl
  i75 := by kernel_rfl
  i80 := by kernel_rfl
  i127 := by kernel_rfl
  i168 := by kernel_rfl
  i210 := by kernel_rfl
  m16 := by kernel_rfl }
open Go.RowKit in
/-- strconv.rangeError: '&NumError{fn, stringslite.Clone(str), ErrRange}': A POINTER TO A NEW BLOCK that holds fn, str's bytes, and what the variable ErrRange holds. Of what was there nothing has turned. (LAID: no walk: one application.) -/
theorem Tryz.strconv_rangeError (fn s : ByteArray) (ev : Value) (w : World) (hlim : s.size ≤ 281474976710656) (hv : w.cell? ⟨3, 0, none⟩ = some ev) (hev : ev = .nilIface ∨ ∃ te pe, ev = .iface te pe) :
    Calls Tryz.prog 48 #[.string fn, .string s] w fun e w' => ∃ N, e = .returned (.pointer (some ⟨N, 0, none⟩)) ∧ w.heap.size ≤ N ∧ w'.heap[N]? = some (.cells #[.string fn, .string s, ev] 107 (0, 0)) ∧ Below w.heap.size w w' := Any.strconv_rangeError Tryz.laysM280 fn s ev w hlim hv hev
open Go.RowKit in
/-- strconv.toError, at the inner package's ErrRange: 'rangeError(fn, s)' as an error: A *NumError IN A NEW BLOCK. (LAID: no walk: one application.) -/
theorem Tryz.strconv_toError_range (fn s : ByteArray) (base bits : Int) (ev : Value) (w : World) (hlim : s.size ≤ 281474976710656) (hv : w.cell? ⟨3, 0, none⟩ = some ev) (hev : ev = .nilIface ∨ ∃ te pe, ev = .iface te pe) :
    Calls Tryz.prog 35 #[.string fn, .string s, .int .i64 base, .int .i64 bits, .iface 78 (.int .i64 1)] w fun e w' => ∃ N, e = .returned (.iface 79 (.pointer (some ⟨N, 0, none⟩))) ∧ w.heap.size ≤ N ∧ w'.heap[N]? = some (.cells #[.string fn, .string s, ev] 107 (0, 0)) ∧ Below w.heap.size w w' := Any.strconv_toError_range Tryz.laysC245 fn s base bits ev w hlim hv hev
def Tryz.lays264_ren : Go.Shelf.Ren := ⟨fun | 264 => 108 | n => n, fun | 53 => 42 | 46 => 65 | n => n, fun | n => n⟩
theorem Tryz.lays264 : Go.Proofs.Lays.n264 Tryz.prog Tryz.lays264_ren := {
  mixed := by kernel_rfl
  f264 := Tryz.func108.trans (congrArg some (by kernel_rfl))
  t46 := Tryz.underlying65
  a46 := Tryz.isAgg65
  z46 := Tryz.sizeOf65
  v46 := Tryz.zeroValue65
  t53 := Tryz.underlying42
  a53 := Tryz.isAgg42
  z53 := Tryz.sizeOf42
  v53 := Tryz.zeroValue42 }
open Go.RowKit Go.Lib in
theorem Tryz.bits_Mul64 (x y : Nat) (hx : x < 18446744073709551616) (hy : y < 18446744073709551616) (w : World) :
    Calls Tryz.prog 108 #[.int .u64 x, .int .u64 y] w fun e w' => e = .returned (.tuple #[.int .u64 ((x * y / 18446744073709551616 : Nat) : Int), .int .u64 ((x * y % 18446744073709551616 : Nat) : Int)]) ∧ w' = w := Any.bits_Mul64 Tryz.lays264 x y hx hy w
end Go.Proofs

/- Plain: numbers of many words; the number that lies nearest. By an AI agent. -/
namespace Go.Proofs.YtemjlkmlodmmfaaGreatDoor.Sm
set_option linter.unusedVariables false
set_option linter.unusedSimpArgs false

/-- The value of the first n words. -/
def wv (B : Nat) (f : Nat → Nat) : Nat → Nat
  | 0 => 0
  | n + 1 => wv B f n + f n * B ^ n
def upd (f : Nat → Nat) (i x : Nat) : Nat → Nat := fun j => if j = i then x else f j
theorem upd_same (f : Nat → Nat) (i x : Nat) : upd f i x i = x := by simp [upd]
theorem upd_other {f : Nat → Nat} {i x j : Nat} (h : j ≠ i) : upd f i x j = f j := by simp [upd, h]
theorem upd_lt {f : Nat → Nat} {i x M : Nat} (h : ∀ j, f j < M) (hx : x < M) (j : Nat) : upd f i x j < M := by
  unfold upd; split
  · exact hx
  · exact h j
theorem wv_congr {B : Nat} {f g : Nat → Nat} : ∀ {n : Nat}, (∀ i, i < n → f i = g i) → wv B f n = wv B g n
  | 0, _ => rfl
  | n + 1, h => by
    unfold wv
    rw [wv_congr (n := n) (fun i hi => h i (by omega)), h n (by omega)]
theorem wv_upd {B : Nat} {f : Nat → Nat} {i x : Nat} : ∀ {n : Nat}, i < n → wv B (upd f i x) n + f i * B ^ i = wv B f n + x * B ^ i
  | n + 1, h => by
    unfold wv
    by_cases e : i = n
    · subst e
      rw [upd_same, wv_congr (g := f) (fun j hj => upd_other (by omega))]
      omega
    · have := wv_upd (B := B) (f := f) (i := i) (x := x) (n := n) (by omega)
      rw [upd_other (fun h => e h.symm)]
      omega
theorem wv_lt {B : Nat} {f : Nat → Nat} (hB : 0 < B) : ∀ {n : Nat}, (∀ i, i < n → f i < B) → wv B f n < B ^ n
  | 0, _ => by simp [wv]
  | n + 1, h => by
    unfold wv
    have h1 := wv_lt (B := B) (f := f) hB (n := n) (fun i hi => h i (by omega))
    have h2 := h n (by omega)
    have h3 : (f n + 1) * B ^ n ≤ B * B ^ n := Nat.mul_le_mul_right _ h2
    rw [Nat.pow_succ, Nat.mul_comm (B ^ n) B]
    rw [Nat.add_mul, Nat.one_mul] at h3
    omega
theorem wv_zero (B n : Nat) : wv B (fun _ => 0) n = 0 := by
  induction n with
  | zero => rfl
  | succ n ih => unfold wv; rw [ih]; simp
/-- A word, out of the value. -/
theorem wv_word {B : Nat} {f : Nat → Nat} (hB : 0 < B) : ∀ {n : Nat}, (∀ i, i < n → f i < B) → ∀ i, i < n → wv B f n / B ^ i % B = f i
  | 0, _, i, hi => absurd hi (by omega)
  | n + 1, h, i, hi => by
    have hlt := wv_lt (B := B) (f := f) hB (n := n) (fun i hi => h i (by omega))
    unfold wv
    have hp : 0 < B ^ i := Nat.pow_pos hB
    by_cases e : i = n
    · subst e
      rw [Nat.add_mul_div_right _ _ hp, Nat.div_eq_of_lt hlt, Nat.zero_add, Nat.mod_eq_of_lt (h i (by omega))]
    · have ih := wv_word (B := B) (f := f) hB (n := n) (fun i hi => h i (by omega)) i (by omega)
      have e2 : f n * B ^ n = f n * B ^ (n - i - 1) * B * B ^ i := by
        rw [Nat.mul_assoc, Nat.mul_assoc, ← Nat.pow_succ', ← Nat.pow_add, show n - i - 1 + (i + 1) = n by omega]
      rw [e2, Nat.add_mul_div_right _ _ hp, Nat.add_mul_mod_self_right]
      exact ih
/-- A bit, out of a word. -/
theorem wv_bit {k : Nat} {f : Nat → Nat} {n : Nat} (hk : 0 < k) (h : ∀ i, i < n → f i < 2 ^ k) (i : Nat) (hi : i < k * n) : (f (i / k)).testBit (i % k) = (wv (2 ^ k) f n).testBit i := by
  have hq : i / k < n := by rw [Nat.div_lt_iff_lt_mul hk, Nat.mul_comm]; exact hi
  have := wv_word (B := 2 ^ k) (Nat.pow_pos (by omega)) h (i / k) hq
  have hr : i % k < k := Nat.mod_lt _ hk
  rw [← this, Nat.testBit_mod_two_pow, ← Nat.pow_mul, Nat.testBit_div_two_pow]
  have e : i % k + k * (i / k) = i := by have := Nat.div_add_mod i k; omega
  simp only [hr, decide_true, Bool.true_and]
  rw [e]
theorem wv_high {B : Nat} {f : Nat → Nat} {m : Nat} : ∀ {n : Nat}, m ≤ n → (∀ i, m ≤ i → i < n → f i = 0) → wv B f n = wv B f m
  | 0, h, _ => by
    have : m = 0 := by omega
    subst this; rfl
  | n + 1, h, h0 => by
    by_cases e : m = n + 1
    · subst e; rfl
    · show wv B f n + f n * B ^ n = wv B f m
      rw [wv_high (n := n) (by omega) (fun i h1 h2 => h0 i h1 (by omega)), h0 n (by omega) (by omega)]
      simp

/-! ### how many bits -/
/-- n is how many bits V has. -/
def Len (V n : Nat) : Prop := V < 2 ^ n ∧ (0 < n → 2 ^ (n - 1) ≤ V)
theorem len_unique {V n m : Nat} (h : Len V n) (k : Len V m) : n = m := by
  rcases Nat.lt_trichotomy n m with hlt | h1 | hlt
  · have h2 := k.2 (by omega)
    have : 2 ^ n ≤ 2 ^ (m - 1) := Nat.pow_le_pow_right (by omega) (by omega)
    have := h.1
    omega
  · exact h1
  · have h2 := h.2 (by omega)
    have : 2 ^ m ≤ 2 ^ (n - 1) := Nat.pow_le_pow_right (by omega) (by omega)
    have := k.1
    omega
theorem len_zero : Len 0 0 := ⟨by simp, fun h => absurd h (by omega)⟩
theorem len_of_top {V n : Nat} (h1 : V < 2 ^ (n + 1)) (h2 : V.testBit n = true) : Len V (n + 1) := ⟨h1, fun _ => by
  have := Nat.ge_two_pow_of_testBit h2
  simpa using this⟩
/-- Of words: the highest that is none 0. -/
theorem len_words {k : Nat} {f : Nat → Nat} {n i l : Nat} (h : ∀ j, j < n → f j < 2 ^ k) (hi : i < n) (hz : ∀ j, i < j → j < n → f j = 0) (hl : Len (f i) l) (hp : 0 < l) : Len (wv (2 ^ k) f n) (k * i + l) := by
  have e : wv (2 ^ k) f n = wv (2 ^ k) f (i + 1) := wv_high (by omega) (fun j h1 h2 => hz j (by omega) h2)
  have hlt := wv_lt (B := 2 ^ k) (f := f) (Nat.pow_pos (by omega)) (n := i) (fun j hj => h j (by omega))
  rw [← Nat.pow_mul] at hlt
  rw [e]
  unfold wv
  rw [← Nat.pow_mul]
  have h1 := hl.1
  have h2 := hl.2 hp
  refine ⟨?_, fun _ => ?_⟩
  · rw [Nat.pow_add]
    have : (f i + 1) * 2 ^ (k * i) ≤ 2 ^ l * 2 ^ (k * i) := Nat.mul_le_mul_right _ h1
    rw [Nat.add_mul, Nat.one_mul] at this
    rw [Nat.mul_comm (2 ^ (k * i)) (2 ^ l)]
    omega
  · rw [show k * i + l - 1 = k * i + (l - 1) by omega, Nat.pow_add, Nat.mul_comm (2 ^ (k * i))]
    have : 2 ^ (l - 1) * 2 ^ (k * i) ≤ f i * 2 ^ (k * i) := Nat.mul_le_mul_right _ h2
    omega

/-! ### the number that lies nearest -/
/-- How many bits V has. -/
def lenN (V : Nat) : Nat := if V = 0 then 0 else Nat.log2 V + 1
theorem lenN_len (V : Nat) : Len V (lenN V) := by
  unfold lenN
  by_cases h : V = 0
  · rw [if_pos h, h]; exact len_zero
  · rw [if_neg h]
    refine ⟨Nat.lt_log2_self, fun _ => ?_⟩
    rw [Nat.add_sub_cancel]
    exact Nat.log2_self_le h
theorem len_lenN {V n : Nat} (h : Len V n) : lenN V = n := len_unique (lenN_len V) h

/-- The digits, rounded: V has by more bits than 53. -/
def digR (V by_ : Nat) : Nat := let d := V >>> by_; if V.testBit (by_ - 1) = true ∧ (d % 2 = 1 ∨ V % 2 ^ (by_ - 1) ≠ 0) then d + 1 else d
/-- The bits of the number above 0 that lies nearest to V times 2^-1074. -/
def roundB (V : Nat) : Nat :=
  let n := lenN V
  if n ≤ 53 then V else
    let by_ := n - 53
    let d := digR V by_
    let d2 := if d = 2 ^ 53 then 2 ^ 52 else d
    let b2 := if d = 2 ^ 53 then by_ + 1 else by_
    if b2 + 1 ≥ 2047 then 2047 * 2 ^ 52 else (b2 + 1) * 2 ^ 52 + (d2 - 2 ^ 52)

theorem dig_range {V n : Nat} (h : Len V n) (hn : 53 < n) : 2 ^ 52 ≤ V >>> (n - 53) ∧ V >>> (n - 53) < 2 ^ 53 := by
  rw [Nat.shiftRight_eq_div_pow]
  have h1 := h.1
  have h2 := h.2 (by omega)
  constructor
  · rw [Nat.le_div_iff_mul_le (Nat.pow_pos (by omega)), ← Nat.pow_add, show 52 + (n - 53) = n - 1 by omega]; exact h2
  · rw [Nat.div_lt_iff_lt_mul (Nat.pow_pos (by omega)), ← Nat.pow_add, show 53 + (n - 53) = n by omega]; exact h1
theorem digR_range {V n : Nat} (h : Len V n) (hn : 53 < n) : 2 ^ 52 ≤ digR V (n - 53) ∧ digR V (n - 53) ≤ 2 ^ 53 := by
  have := dig_range h hn
  unfold digR
  simp only
  split <;> omega

/-- A finite number's bits: its digits, how far they are shifted. -/
def mant (u : Nat) : Nat := if u / 2 ^ 52 % 2048 = 0 then u % 2 ^ 52 else u % 2 ^ 52 + 2 ^ 52
def shft (u : Nat) : Nat := u / 2 ^ 52 % 2048 - 1
def isNeg (u : Nat) : Bool := decide (2 ^ 63 ≤ u)
/-- A finite number, in units of 2^-1074. -/
def fin (u : Nat) : Int := if isNeg u = true then -((mant u * 2 ^ shft u : Nat) : Int) else ((mant u * 2 ^ shft u : Nat) : Int)
theorem mant_lt (u : Nat) : mant u < 2 ^ 53 := by
  unfold mant
  split <;> omega
theorem pow_split (s a b : Nat) (h : s ≤ a + 64 * b) : 2 ^ s ≤ 2 ^ a * (2 ^ 64) ^ b := by
  rw [← Nat.pow_mul, ← Nat.pow_add]
  exact Nat.pow_le_pow_right (by decide) h
theorem fin_lt {u : Nat} (h : u / 2 ^ 52 % 2048 < 2047) : mant u * 2 ^ shft u < 2 ^ 53 * (2 ^ 61 * (2 ^ 64) ^ 31) := by
  have h1 := mant_lt u
  have h2 := pow_split (shft u) 61 31 (by unfold shft; omega)
  have h3 : 0 < 2 ^ 61 * (2 ^ 64) ^ 31 := by decide
  generalize 2 ^ 61 * (2 ^ 64) ^ 31 = X at *
  exact Nat.lt_of_le_of_lt (Nat.mul_le_mul_left _ h2) (Nat.mul_lt_mul_of_pos_right h1 h3)
end Go.Proofs.YtemjlkmlodmmfaaGreatDoor.Sm

/- Package real: exact sums in memory: below, add. By an AI agent. -/
namespace Go.Proofs.YtemjlkmlodmmfaaGreatDoor.Sm
open Go.ChangeShapes Go.WideShapes Go.ChangeAt Go.RowKit
set_option linter.unusedVariables false
set_option linter.unusedSimpArgs false

/-- Words as cells. -/
def wA (n : Nat) (f : Nat → Nat) : Array Value := ((List.range n).map fun i => Value.int .u64 ((f i : Nat) : Int)).toArray
theorem wA_get (n : Nat) (f : Nat → Nat) (i : Nat) (h : i < n) : (wA n f)[i]? = some (.int .u64 ((f i : Nat) : Int)) := by simp [wA, h]
theorem wA_set (n : Nat) (f : Nat → Nat) (i v : Nat) : (wA n f).setIfInBounds i (.int .u64 (v : Int)) = wA n (upd f i v) := by
  apply Array.ext_getElem?
  intro j
  rw [Array.getElem?_setIfInBounds]
  by_cases hj : j < n
  · by_cases hij : i = j
    · subst hij
      simp [wA, hj, upd]
    · have : ¬ j = i := fun e => hij e.symm
      simp [wA, hj, hij, upd, this]
  · by_cases hij : i = j
    · subst hij; simp [wA, hj]
    · simp [wA, hj, hij]
/-- An exact number in memory. -/
def ExAt (w : World) (b : Nat) (f : Nat → Nat) : Prop := w.heap[b]? = some (.cells (wA 36 f) 54 (0, 0))
theorem ExAt.cell {w : World} {b : Nat} {f : Nat → Nat} (h : ExAt w b f) {i : Nat} (hi : i < 36) : w.cell? ⟨b, i, none⟩ = some (.int .u64 ((f i : Nat) : Int)) := (blk_cell h i).trans (wA_get 36 f i hi)
theorem ExAt.free {w : World} {b : Nat} {f : Nat → Nat} (h : ExAt w b f) (i : Nat) : w.frozen? ⟨b, i, none⟩ = false := blk_free h i
theorem ExAt.set {w : World} {b : Nat} {f : Nat → Nat} (h : ExAt w b f) (i v : Nat) : ExAt (w.setCell ⟨b, i, none⟩ (.int .u64 (v : Int))) b (upd f i v) := by
  have := blk_set h i (.int .u64 (v : Int))
  rw [wA_set] at this
  exact this

set_option maxHeartbeats 2000000 in
theorem below_any {w : World} {b : Nat} {f : Nat → Nat} (h : ExAt w b f) :
    Calls Tryz.prog 32 #[.pointer (some ⟨b, 0, none⟩)] w fun e w' => e = .returned (.bool (decide (2 ^ 63 ≤ f 35))) ∧ w' = w := by
  have c := h.cell (i := 35) (by omega)
  clear h
  go_enter Tryz.func32, Tryz.ntmps32
  go_wp2_with fail
  go_ret
  refine ⟨?_, rfl⟩
  congr 2
  by_cases hx : 2 ^ 63 ≤ f 35
  · have h2 : ((f 35 : Nat) : Int) ≥ 9223372036854775808 := by omega
    rw [decide_eq_true hx, decide_eq_true h2]
    rfl
  · have h2 : ¬ ((f 35 : Nat) : Int) ≥ 9223372036854775808 := by omega
    rw [decide_eq_false hx, decide_eq_false h2]
    rfl

theorem wrap64_id (x : Int) (h1 : -9223372036854775808 ≤ x) (h2 : x ≤ 9223372036854775807) : wrap64 x = x := by
  unfold wrap64
  omega
theorem and_pow (u : Nat) (hu : u < 2 ^ 64) : bits BinOp.and IntKind.i64 (wrap64 ((u : Int) / 4503599627370496)) 2047 = ((u / 2 ^ 52 % 2048 : Nat) : Int) := by
  have e : ((u : Int) / 4503599627370496) = ((u / 2 ^ 52 : Nat) : Int) := by omega
  have hq : u / 2 ^ 52 < 4096 := by omega
  rw [e, wrap64_id _ (by omega) (by omega)]
  generalize u / 2 ^ 52 = q at *
  have h1 : (BitVec.ofInt 64 (q : Int)).toNat = q := by rw [BitVec.ofInt_natCast, BitVec.toNat_ofNat]; omega
  have h2 : (BitVec.ofInt 64 2047).toNat = 2 ^ 11 - 1 := by decide
  show IntKind.i64.wrap ((BitVec.ofInt 64 (q : Int) &&& BitVec.ofInt 64 2047).toNat : Int) = _
  rw [BitVec.toNat_and, h1, h2, Nat.and_two_pow_sub_one_eq_mod]
  rw [IntKind.wrap_i64]
  omega
theorem and_frac (u : Nat) (hu : u < 2 ^ 64) : bits BinOp.and IntKind.u64 (u : Int) 4503599627370495 = ((u % 2 ^ 52 : Nat) : Int) := by
  have h1 : (BitVec.ofInt 64 (u : Int)).toNat = u := by rw [BitVec.ofInt_natCast, BitVec.toNat_ofNat]; omega
  have h2 : (BitVec.ofInt 64 4503599627370495).toNat = 2 ^ 52 - 1 := by decide
  show IntKind.u64.wrap ((BitVec.ofInt 64 (u : Int) &&& BitVec.ofInt 64 4503599627370495).toNat : Int) = _
  rw [BitVec.toNat_and, h1, h2, Nat.and_two_pow_sub_one_eq_mod, IntKind.wrap_u64]
  omega
theorem or_norm (a : Nat) (h : a < 4503599627370496) : bits BinOp.or IntKind.u64 (a : Int) 4503599627370496 = ((a + 4503599627370496 : Nat) : Int) := by
  have h1 : (BitVec.ofInt 64 (a : Int)).toNat = a := by rw [BitVec.ofInt_natCast, BitVec.toNat_ofNat]; omega
  have h2 : (BitVec.ofInt 64 4503599627370496).toNat = 2 ^ 52 := by decide
  show IntKind.u64.wrap ((BitVec.ofInt 64 (a : Int) ||| BitVec.ofInt 64 4503599627370496).toNat : Int) = _
  have h3 : a ||| 2 ^ 52 = a + 2 ^ 52 := by
    rw [Nat.or_comm, Nat.add_comm]
    have := Nat.two_pow_add_eq_or_of_lt (i := 52) (b := a) (by omega) 1
    simpa using this.symm
  rw [BitVec.toNat_or, h1, h2, h3, IntKind.wrap_u64]
  omega

/-- bits.Add64, bits.Sub64. -/
def subS (x y c : Nat) : Nat := (x + Extern.MathBitsCarry.m64 - y - c) % Extern.MathBitsCarry.m64
def subC (x y c : Nat) : Nat := if x < y + c then 1 else 0
def stepS (neg : Bool) (x y c : Nat) : Nat := if neg = true then (x + 18446744073709551616 - y - c) % 18446744073709551616 else (x + y + c) % 18446744073709551616
def stepC (neg : Bool) (x y c : Nat) : Nat := if neg = true then (if x < y + c then 1 else 0) else (x + y + c) / 18446744073709551616
theorem ext_add0 (x y : Nat) (w : World) : (callFunc 38 #[.int .u64 (x : Int), .int .u64 (y : Int), .int .u64 ((0 : Nat) : Int)]).run Tryz.prog w = .ok (.value (.tuple #[.int .u64 ((stepS false x y 0 : Nat) : Int), .int .u64 ((stepC false x y 0 : Nat) : Int)])) w := by kernel_rfl
theorem ext_add1 (x y : Nat) (w : World) : (callFunc 38 #[.int .u64 (x : Int), .int .u64 (y : Int), .int .u64 ((1 : Nat) : Int)]).run Tryz.prog w = .ok (.value (.tuple #[.int .u64 ((stepS false x y 1 : Nat) : Int), .int .u64 ((stepC false x y 1 : Nat) : Int)])) w := by kernel_rfl
theorem ext_add (x y c : Nat) (hc : c ≤ 1) (w : World) : (callFunc 38 #[.int .u64 (x : Int), .int .u64 (y : Int), .int .u64 (c : Int)]).run Tryz.prog w = .ok (.value (.tuple #[.int .u64 ((stepS false x y c : Nat) : Int), .int .u64 ((stepC false x y c : Nat) : Int)])) w := by
  have : c = 0 ∨ c = 1 := by omega
  rcases this with rfl | rfl
  · exact ext_add0 x y w
  · exact ext_add1 x y w
theorem ext_sub0 (x y : Nat) (w : World) : (callFunc 39 #[.int .u64 (x : Int), .int .u64 (y : Int), .int .u64 ((0 : Nat) : Int)]).run Tryz.prog w = .ok (.value (.tuple #[.int .u64 ((subS x y 0 : Nat) : Int), .int .u64 ((subC x y 0 : Nat) : Int)])) w := by kernel_rfl
theorem ext_sub1 (x y : Nat) (w : World) : (callFunc 39 #[.int .u64 (x : Int), .int .u64 (y : Int), .int .u64 ((1 : Nat) : Int)]).run Tryz.prog w = .ok (.value (.tuple #[.int .u64 ((subS x y 1 : Nat) : Int), .int .u64 ((subC x y 1 : Nat) : Int)])) w := by kernel_rfl
theorem subS_eq (x y c : Nat) : subS x y c = stepS true x y c := by
  have : Extern.MathBitsCarry.m64 = 18446744073709551616 := by decide
  unfold subS stepS
  rw [this, if_pos rfl]
theorem subC_eq (x y c : Nat) : subC x y c = stepC true x y c := by
  unfold subC stepC
  rw [if_pos (rfl : true = true)]
theorem ext_sub (x y c : Nat) (hc : c ≤ 1) (w : World) : (callFunc 39 #[.int .u64 (x : Int), .int .u64 (y : Int), .int .u64 (c : Int)]).run Tryz.prog w = .ok (.value (.tuple #[.int .u64 ((stepS true x y c : Nat) : Int), .int .u64 ((stepC true x y c : Nat) : Int)])) w := by
  have : c = 0 ∨ c = 1 := by omega
  rcases this with rfl | rfl
  · rw [← subS_eq, ← subC_eq]; exact ext_sub0 x y w
  · rw [← subS_eq, ← subC_eq]; exact ext_sub1 x y w
theorem stepS_lt (neg : Bool) (x y c : Nat) : stepS neg x y c < 18446744073709551616 := by
  unfold stepS; split <;> omega
theorem stepC_le {neg : Bool} {x y c : Nat} (hx : x < 18446744073709551616) (hy : y < 18446744073709551616) (hc : c ≤ 1) : stepC neg x y c ≤ 1 := by
  unfold stepC; split
  · split <;> omega
  · omega
/-- How far a sum, or a difference, has come: a carry is left at word j. -/
def Rel (neg : Bool) (V V' d c j : Nat) : Prop := if neg = true then V' + d = V + c * 18446744073709551616 ^ j else V' + c * 18446744073709551616 ^ j = V + d
theorem rel_step {neg : Bool} {f : Nat → Nat} {V d y c j : Nat} (h : Rel neg V (wv 18446744073709551616 f 36) d c j) (hj : j < 36) (hf : f j < 18446744073709551616) (hy : y < 18446744073709551616) (hc : c ≤ 1) :
    Rel neg V (wv 18446744073709551616 (upd f j (stepS neg (f j) y c)) 36) (d + y * 18446744073709551616 ^ j) (stepC neg (f j) y c) (j + 1) := by
  have hu := wv_upd (B := 18446744073709551616) (f := f) (i := j) (x := stepS neg (f j) y c) (n := 36) hj
  unfold Rel at h ⊢
  rw [Nat.pow_succ, Nat.mul_comm _ 18446744073709551616, ← Nat.mul_assoc]
  generalize 18446744073709551616 ^ j = P at *
  generalize wv 18446744073709551616 (upd f j (stepS neg (f j) y c)) 36 = V2 at *
  generalize wv 18446744073709551616 f 36 = V1 at *
  cases neg
  · simp only [Bool.false_eq_true, if_false] at h ⊢
    have e : stepS false (f j) y c + stepC false (f j) y c * 18446744073709551616 = f j + y + c := by unfold stepS stepC; simp only [Bool.false_eq_true, if_false]; omega
    have e2 := congrArg (· * P) e
    simp only [Nat.add_mul] at e2
    omega
  · simp only [if_true] at h ⊢
    have e : stepS true (f j) y c + y + c = f j + stepC true (f j) y c * 18446744073709551616 := by unfold stepS stepC; simp only [if_true]; split <;> omega
    have e2 := congrArg (· * P) e
    simp only [Nat.add_mul] at e2
    omega
theorem rel_start (neg : Bool) (V j : Nat) : Rel neg V V 0 0 j := by
  unfold Rel; cases neg <;> simp
/-- Which of both: by a name that the walk does not open. -/
structure Step (K : Nat) (neg : Bool) : Prop where
  run : ∀ (x y c : Nat), c ≤ 1 → ∀ w, (callFunc K #[.int .u64 (x : Int), .int .u64 (y : Int), .int .u64 (c : Int)]).run Tryz.prog w = .ok (.value (.tuple #[.int .u64 ((stepS neg x y c : Nat) : Int), .int .u64 ((stepC neg x y c : Nat) : Int)])) w

theorem pow_word (a i : Nat) : 2 ^ (a + 64 * i) = 2 ^ a * 18446744073709551616 ^ i := by
  have h : (2 : Nat) ^ 64 = 18446744073709551616 := by decide
  rw [Nat.pow_add, Nat.pow_mul, h]
theorem rel_zero {neg : Bool} {V V' d j k : Nat} (h : Rel neg V V' d 0 j) : Rel neg V V' d 0 k := by
  unfold Rel at h ⊢
  rw [Nat.zero_mul] at h ⊢
  exact h

set_option maxRecDepth 100000 in
set_option maxHeartbeats 4000000 in
theorem add_any {w : World} {b : Nat} {f : Nat → Nat} (h : ExAt w b f) (hf : ∀ i, f i < 2 ^ 64) (u : Nat) (hu : u < 2 ^ 64) (he : u / 2 ^ 52 % 2048 < 2047) :
    Calls Tryz.prog 29 #[.pointer (some ⟨b, 0, none⟩), .float .f64 u] w fun e w' => e = .returned (.tuple #[]) ∧ Hid (∃ (f' : Nat → Nat) (c : Nat), ExAt w' b f' ∧ (∀ j, f' j < 18446744073709551616) ∧ c ≤ 1 ∧ Keep (· = b) w w' ∧ Rel (isNeg u) (wv 18446744073709551616 f 36) (wv 18446744073709551616 f' 36) (mant u * 2 ^ shft u) c 36) := by
  have HF := Lib.hid (And.intro h (And.intro hf (And.intro hu he)))
  clear h hf hu he
  refine (show ∀ Q : Ending → World → Prop, (∀ e w', (e = .returned (.tuple #[]) ∧ Hid (∃ (f' : Nat → Nat) (c : Nat), ExAt w' b f' ∧ (∀ j, f' j < 18446744073709551616) ∧ c ≤ 1 ∧ Keep (· = b) w w' ∧ Rel (isNeg u) (wv 18446744073709551616 f 36) (wv 18446744073709551616 f' 36) (mant u * 2 ^ shft u) c 36)) → Q e w') → Calls Tryz.prog 29 #[.pointer (some ⟨b, 0, none⟩), .float .f64 u] w Q from ?_) _ (fun _ _ h => h)
  intro Q hQ
  have HQ := Lib.hid hQ
  clear hQ
  have e1 := ext_bits
  go_enter Tryz.func29, Tryz.ntmps29
  have hp2 : bits BinOp.and IntKind.i64 (wrap64 ((u : Int) / 4503599627370496)) 2047 = ((u / 2 ^ 52 % 2048 : Nat) : Int) := and_pow u HF.out.2.2.1
  have hp3 : bits BinOp.and IntKind.u64 (u : Int) 4503599627370495 = ((u % 2 ^ 52 : Nat) : Int) := and_frac u HF.out.2.2.1
  have hfr : u % 2 ^ 52 < 4503599627370496 := by omega
  have hpp : u / 2 ^ 52 % 2048 < 2047 := HF.out.2.2.2
  have HM : RowKit.Hid (mant u = (if u / 2 ^ 52 % 2048 = 0 then u % 2 ^ 52 else u % 2 ^ 52 + 2 ^ 52) ∧ shft u = u / 2 ^ 52 % 2048 - 1) := Lib.hid ⟨rfl, rfl⟩
  generalize u / 2 ^ 52 % 2048 = p at *
  generalize u % 2 ^ 52 = fr at *
  have hp4 : bits BinOp.or IntKind.u64 (fr : Int) 4503599627370496 = ((fr + 4503599627370496 : Nat) : Int) := or_norm fr hfr
  go_upto_if 22 with fail
  go_cut [5, 6] from 23 (fun s5 s6 wx => s5 = .int .i64 ((shft u : Nat) : Int) ∧ s6 = .int .u64 ((mant u : Nat) : Int) ∧ w = wx)
  case first =>
    by_cases h0 : p = 0
    · subst h0
      have hm := HM.out
      rw [if_pos rfl] at hm
      go_wp2_with fail
      go_meet
      refine ⟨?_, ?_, rfl⟩
      · rw [hm.2]; rfl
      · rw [hm.1]
    · have hm := HM.out
      rw [if_neg h0] at hm
      have hp : 0 < p := by omega
      have hw : wrap64 ((p : Int) - 1) = ((p - 1 : Nat) : Int) := by rw [wrap64_id] <;> omega
      go_wp2_with fail
      go_meet
      refine ⟨?_, ?_, rfl⟩
      · rw [hm.2]
        congr 1
        omega
      · rw [hm.1]; rfl
  case rest =>
    obtain ⟨rfl, rfl, rfl⟩ := hcut
    have hsh : shft u < 2046 := by have := HM.out.2; omega
    have hmn : mant u < 9007199254740992 := mant_lt u
    have HU := Lib.hid (And.intro hp2 (And.intro hp3 hp4))
    clear hp2 hp3 hp4
    generalize shft u = sh at *
    generalize mant u = mn at *
    obtain ⟨i, hi⟩ : ∃ i, i = sh / 64 := ⟨_, rfl⟩
    obtain ⟨by_, hby⟩ : ∃ x, x = sh % 64 := ⟨_, rfl⟩
    have hs : sh = 64 * i + by_ := by omega
    have hi31 : i < 32 := by omega
    have hb64 : by_ < 64 := by omega
    have t1 : ((sh : Int)).tdiv 64 = (i : Int) := by rw [hi, Int.tdiv_eq_ediv_of_nonneg (by omega)]; omega
    have t2 : ((sh : Int)).tmod 64 = (by_ : Int) := by rw [hby, Int.tmod_eq_emod_of_nonneg (by omega)]; omega
    clear hi hby
    have HS := Lib.hid hs
    clear hs
    go_upto_region 7 with fail
    go_cut [9, 10] from 31 to 37 (fun s9 s10 wx => ∃ lo hi : Nat, s9 = .int .u64 (lo : Int) ∧ s10 = .int .u64 (hi : Int) ∧ Hid (Keep (fun _ => False) w wx ∧ lo < 18446744073709551616 ∧ hi < 18446744073709551616 ∧ lo + hi * 18446744073709551616 = mn * 2 ^ by_))
    case first =>
      go_quiet (fail)
      go_wp2_with fail
      go_meet
      have hp : (2 : Nat) ^ 64 = 2 ^ (64 - by_) * 2 ^ by_ := by rw [← Nat.pow_add]; congr 1; omega
      have h64 : (18446744073709551616 : Nat) = 2 ^ 64 := by decide
      have hpos : 0 < 2 ^ by_ := Nat.pow_pos (by decide)
      have hdv : mn / 2 ^ (64 - by_) = (mn * 2 ^ by_) / 18446744073709551616 := by rw [h64, hp, Nat.mul_div_mul_right _ _ hpos]
      have hle : mn / 2 ^ (64 - by_) ≤ mn := Nat.div_le_self _ _
      refine ⟨(mn * 2 ^ by_) % 18446744073709551616, mn / 2 ^ (64 - by_), ?_, ?_, ((Keep.refl _ w).drewN nq), by omega, by omega, ?_⟩
      · have e0 : ((mn * 2 ^ by_ : Nat) : Int) = (mn : Int) * 2 ^ by_ := by push_cast; rfl
        rw [IntKind.wrap_u64, ← e0]
        generalize mn * 2 ^ by_ = X
        congr 1
      · have e0 : ((mn / 2 ^ (64 - by_) : Nat) : Int) = (mn : Int) / 2 ^ (64 - by_) := by push_cast; rfl
        rw [e0]
      · rw [hdv]; omega
    case rest =>
      obtain ⟨lo, hi, rfl, rfl, HLH⟩ := hcut
      obtain ⟨w1, hw1⟩ : ∃ w1, w1 = wc := ⟨_, rfl⟩
      subst hw1
      have hul : u < 18446744073709551616 := HF.out.2.2.1
      have E1 := Lib.hid e1
      clear e1
      go_upto_if 39 with fail
      go_cut [12] from 38 to 39 (fun s12 wx => ∃ K : Nat, s12 = .func (.func K) #[] #[] ∧ w1 = wx ∧ Hid (Step K (isNeg u)))
      case first =>
        by_cases hneg : 2 ^ 63 ≤ u
        · have d1 : decide (9223372036854775808 ≤ (u : Int)) = true := by rw [decide_eq_true_eq]; omega
          rw [d1]
          clear d1
          have hng : isNeg u = true := decide_eq_true hneg
          have HN := Lib.hid hng
          clear hneg hng hul
          go_wp2_with fail
          go_meet
          exact ⟨39, rfl, rfl, Lib.hid ⟨fun x y c hc w => by rw [HN.out]; exact ext_sub x y c hc w⟩⟩
        · have d1 : decide (9223372036854775808 ≤ (u : Int)) = false := by rw [decide_eq_false_iff_not]; omega
          rw [d1]
          clear d1
          have hng : isNeg u = false := decide_eq_false hneg
          have HN := Lib.hid hng
          clear hneg hng hul
          go_wp2_with fail
          go_meet
          exact ⟨38, rfl, rfl, Lib.hid ⟨fun x y c hc w => by rw [HN.out]; exact ext_add x y c hc w⟩⟩
      case rest =>
        obtain ⟨K, rfl, rfl, HK⟩ := hcut
        generalize isNeg u = neg at *
        have hx1 : ExAt w1 b f := HLH.out.1.same HF.out.1 (fun h => h)
        have HX1 := Lib.hid (And.intro hx1 (fun j => (show f j < 18446744073709551616 from HF.out.2.1 j)))
        clear hx1
        go_upto_region 12 with fail
        go_cut [11] from 40 to 54 (fun s11 wx => ∃ (f1 : Nat → Nat) (c : Nat), s11 = .int .u64 (c : Int) ∧ Hid (ExAt wx b f1 ∧ (∀ j, f1 j < 18446744073709551616) ∧ c ≤ 1 ∧ Keep (· = b) w1 wx ∧ Rel neg (wv 18446744073709551616 f 36) (wv 18446744073709551616 f1 36) (0 + lo * 18446744073709551616 ^ i) c (i + 1)))
        case first =>
          have c0 := HX1.out.1.cell (show i < 36 by omega)
          have f0 := HX1.out.1.free i
          have hst : ∀ w, (callFunc K #[.int .u64 (f i : Int), .int .u64 (lo : Int), .int .u64 (0 : Int)]).run Tryz.prog w = .ok (.value (.tuple #[.int .u64 ((stepS neg (f i) lo 0 : Nat) : Int), .int .u64 ((stepC neg (f i) lo 0 : Nat) : Int)])) w := HK.out.run (f i) lo 0 (by omega)
          have HR := Lib.hid (rel_step (rel_start neg (wv 18446744073709551616 f 36) i) (show i < 36 by omega) (HX1.out.2 i) HLH.out.2.1 (show 0 ≤ 1 by omega))
          have HC := Lib.hid (And.intro (stepS_lt neg (f i) lo 0) (stepC_le (neg := neg) (HX1.out.2 i) HLH.out.2.1 (show 0 ≤ 1 by omega)))
          generalize stepS neg (f i) lo 0 = s at *
          generalize stepC neg (f i) lo 0 = c1 at *
          go_region_with fail
          all_goals (go_wp2_with fail; go_meet)
          all_goals exact ⟨upd f i s, c1, rfl, Lib.hid ⟨HX1.out.1.set i s, upd_lt HX1.out.2 HC.out.1, HC.out.2, (Keep.setCell (bs := (· = b)) (Keep.refl _ w1) (p := ⟨b, i, none⟩) (Or.inl rfl) _).drew, HR.out⟩⟩
        case rest =>
          obtain ⟨f1, c1, rfl, H1⟩ := hcut
          obtain ⟨w2, hw2⟩ : ∃ w2, w2 = wc := ⟨_, rfl⟩
          subst hw2
          obtain ⟨i1, hi1⟩ : ∃ i1, i1 = i + 1 := ⟨_, rfl⟩
          have hi36 : i1 < 36 := by omega
          have ei1 : (i : Int) + 1 = (i1 : Int) := by omega
          have ew1 : IntKind.i64.wrap (i1 : Int) = (i1 : Int) := by rw [IntKind.wrap_i64]; omega
          have HH1 := H1.out
          rw [← hi1] at HH1
          have H1 := Lib.hid HH1
          clear HH1
          have HI1 := Lib.hid hi1
          clear hi1
          go_upto_region 13 with fail
          go_cut [11] from 55 to 72 (fun s11 wx => ∃ (f2 : Nat → Nat) (c : Nat), s11 = .int .u64 (c : Int) ∧ Hid (ExAt wx b f2 ∧ (∀ j, f2 j < 18446744073709551616) ∧ c ≤ 1 ∧ Keep (· = b) w1 wx ∧ Rel neg (wv 18446744073709551616 f 36) (wv 18446744073709551616 f2 36) (0 + lo * 18446744073709551616 ^ i + hi * 18446744073709551616 ^ i1) c (i1 + 1)))
          case first =>
            have c0 := H1.out.1.cell (show i1 < 36 from hi36)
            have f0 := H1.out.1.free i1
            have hst : ∀ w, (callFunc K #[.int .u64 (f1 i1 : Int), .int .u64 (hi : Int), .int .u64 (c1 : Int)]).run Tryz.prog w = .ok (.value (.tuple #[.int .u64 ((stepS neg (f1 i1) hi c1 : Nat) : Int), .int .u64 ((stepC neg (f1 i1) hi c1 : Nat) : Int)])) w := HK.out.run (f1 i1) hi c1 H1.out.2.2.1
            have HR := Lib.hid (rel_step H1.out.2.2.2.2 (show i1 < 36 from hi36) (H1.out.2.1 i1) HLH.out.2.2.1 H1.out.2.2.1)
            have HC := Lib.hid (And.intro (stepS_lt neg (f1 i1) hi c1) (stepC_le (neg := neg) (H1.out.2.1 i1) HLH.out.2.2.1 H1.out.2.2.1))
            generalize stepS neg (f1 i1) hi c1 = s at *
            generalize stepC neg (f1 i1) hi c1 = c2 at *
            generalize f1 i1 = x1 at *
            go_region_with fail
            all_goals (go_wp2_with fail; go_meet)
            all_goals exact ⟨upd f1 i1 s, c2, rfl, Lib.hid ⟨H1.out.1.set i1 s, upd_lt H1.out.2.1 HC.out.1, HC.out.2, H1.out.2.2.2.1.trans ((Keep.setCell (bs := (· = b)) (Keep.refl _ w2) (p := ⟨b, i1, none⟩) (Or.inl rfl) _).drew), HR.out⟩⟩
          case rest =>
            obtain ⟨f2, c2, rfl, H2⟩ := hcut
            obtain ⟨w3, hw3⟩ : ∃ w3, w3 = wc := ⟨_, rfl⟩
            subst hw3
            have hD : 0 + lo * 18446744073709551616 ^ i + hi * 18446744073709551616 ^ i1 = mn * 2 ^ sh := by
              have e1 := HLH.out.2.2.2
              have e2 : sh = by_ + 64 * i := by have := HS.out; omega
              have e4 : 2 ^ sh = 2 ^ by_ * 18446744073709551616 ^ i := by
                rw [e2, pow_word]
              rw [e4, HI1.out, Nat.pow_succ, ← Nat.mul_assoc mn, ← e1]
              generalize 18446744073709551616 ^ i = P
              rw [Nat.zero_add, Nat.add_mul, Nat.mul_assoc hi, Nat.mul_comm 18446744073709551616 P]
            have HH2 := H2.out
            rw [hD] at HH2
            have H3 := Lib.hid HH2
            clear hD HH2 H2
            go_wp2_with fail
            go_loopg [7, 11] (34 - i) (fun gq s7 s11 wx => ∃ (j c : Nat) (f3 : Nat → Nat), gq + j = 36 ∧ s7 = .int .i64 (j : Int) ∧ s11 = .int .u64 (c : Int) ∧ Hid (ExAt wx b f3 ∧ (∀ j, f3 j < 18446744073709551616) ∧ c ≤ 1 ∧ Keep (· = b) w1 wx ∧ Rel neg (wv 18446744073709551616 f 36) (wv 18446744073709551616 f3 36) (mn * 2 ^ sh) c j))
            case atStart =>
              refine ⟨i1 + 1, c2, f2, by have := HI1.out; omega, ?_, rfl, H3.out⟩
              have := HI1.out
              congr 1
              omega
            case round =>
              obtain ⟨j, c, f3, hgj, rfl, rfl, HJ⟩ := hrel
              have HEND : RowKit.Hid (c = 0 ∨ j = 36 → ∀ wf : World, wf.heap = wr.heap → Keep (fun _ => False) wr wf → ∃ (f' : Nat → Nat) (c : Nat), ExAt wf b f' ∧ (∀ j, f' j < 18446744073709551616) ∧ c ≤ 1 ∧ Keep (· = b) w wf ∧ Rel neg (wv 18446744073709551616 f 36) (wv 18446744073709551616 f' 36) (mn * 2 ^ sh) c 36) := Lib.hid fun hz wf hh kf => by
                refine ⟨f3, c, kf.same HJ.out.1 (fun h => h), HJ.out.2.1, HJ.out.2.2.1, ((HLH.out.1.mono (fun _ _ h => h.elim)).trans HJ.out.2.2.2.1).trans (kf.mono (fun _ _ h => h.elim)), ?_⟩
                rcases hz with rfl | rfl
                · exact rel_zero HJ.out.2.2.2.2
                · exact HJ.out.2.2.2.2
              have hc1 := HJ.out.2.2.1
              rcases (show c = 0 ∨ c = 1 by omega) with rfl | rfl
              · clear hc1
                by_cases hj : j < 36
                · go_wp2_with fail
                  go_end0
                  exact HQ.out _ _ ⟨rfl, HEND.out (by simp) _ rfl (Keep.refl _ _)⟩
                · obtain rfl : j = 36 := by omega
                  go_wp2_with fail
                  go_end0
                  exact HQ.out _ _ ⟨rfl, HEND.out (by simp) _ rfl (Keep.refl _ _)⟩
              · clear hc1
                by_cases hj : j < 36
                · have c0 := HJ.out.1.cell hj
                  have f0 := HJ.out.1.free j
                  have hst : ∀ w, (callFunc K #[.int .u64 (f3 j : Int), .int .u64 (0 : Int), .int .u64 (1 : Int)]).run Tryz.prog w = .ok (.value (.tuple #[.int .u64 ((stepS neg (f3 j) 0 1 : Nat) : Int), .int .u64 ((stepC neg (f3 j) 0 1 : Nat) : Int)])) w := HK.out.run (f3 j) 0 1 (by omega)
                  have hr := rel_step HJ.out.2.2.2.2 hj (HJ.out.2.1 j) (show 0 < 18446744073709551616 by omega) (show 1 ≤ 1 by omega)
                  rw [Nat.zero_mul, Nat.add_zero] at hr
                  have HR := Lib.hid hr
                  have HC := Lib.hid (And.intro (stepS_lt neg (f3 j) 0 1) (stepC_le (neg := neg) (y := 0) (c := 1) (HJ.out.2.1 j) (by omega) (by omega)))
                  clear hr
                  generalize stepS neg (f3 j) 0 1 = s at *
                  generalize stepC neg (f3 j) 0 1 = c3 at *
                  go_wp2_with fail
                  go_region_with fail
                  all_goals go_wp2_with fail
                  all_goals go_roundg (gk - 1)
                  all_goals first | omega | exact ⟨j + 1, c3, upd f3 j s, by omega, rfl, rfl, Lib.hid ⟨HJ.out.1.set j s, upd_lt HJ.out.2.1 HC.out.1, HC.out.2, HJ.out.2.2.2.1.trans ((Keep.setCell (bs := (· = b)) (Keep.refl _ wr) (p := ⟨b, j, none⟩) (Or.inl rfl) _).drew), HR.out⟩⟩
                · obtain rfl : j = 36 := by omega
                  go_wp2_with fail
                  go_end0
                  exact HQ.out _ _ ⟨rfl, HEND.out (by simp) _ rfl (Keep.refl _ _)⟩
end Go.Proofs.YtemjlkmlodmmfaaGreatDoor.Sm
