/- The library's contracts that the proofs take, laid at this program: strings.CutPrefix, strings.Split. Written by the shelf's own commands. -/
import Derived.Test.YtglglbbjacgbdaaGreatDoorProg
import Derived.Shelf.Small.Wraps
import Derived.Shelf.Strings.Split
import Derived.Shelf.Strings.Repeat
namespace Go.Proofs.YtglglbbjacgbdaaGreatDoor
open Go.Shelf
def lays103_ren : Go.Shelf.Ren := ⟨fun | 103 => 76 | 210 => 106 | 206 => 124 | n => n, fun | 9 => 9 | 4 => 4 | 24 => 125 | 3 => 3 | n => n, fun | n => n⟩
theorem lays103 : Go.Proofs.Lays.n103 Tryz.prog lays103_ren := {
  mixed := by kernel_rfl
  f103 := Tryz.func76.trans (congrArg some (by kernel_rfl))
  f206 := Tryz.func124.trans (congrArg some (by kernel_rfl))
  f210 := Tryz.func106.trans (congrArg some (by kernel_rfl))
  t3 := Tryz.underlying3
  a3 := Tryz.isAgg3
  z3 := Tryz.sizeOf3
  v3 := Tryz.zeroValue3
  t4 := Tryz.underlying4
  a4 := Tryz.isAgg4
  z4 := Tryz.sizeOf4
  v4 := Tryz.zeroValue4
  t9 := Tryz.underlying9
  a9 := Tryz.isAgg9
  z9 := Tryz.sizeOf9
  v9 := Tryz.zeroValue9
  t24 := Tryz.underlying125
  a24 := Tryz.isAgg125
  z24 := Tryz.sizeOf125
  v24 := Tryz.zeroValue125 }
open Go.RowKit in
theorem strings_CutPrefix (s p : ByteArray) (w : World) :
    Calls Tryz.prog 76 #[.string s, .string p] w fun e w' => e = .returned (.tuple #[.string ⟨(Lib.trimPrefix s.data.toList p.data.toList).toArray⟩, .bool (Lib.hasPrefix s.data.toList p.data.toList)]) ∧ w' = w := Any.strings_CutPrefix lays103 s p w
def lays146_ren : Go.Shelf.Ren := ⟨fun | 146 => 77 | 221 => 107 | 268 => 132 | 138 => 133 | 143 => 134 | 195 => 142 | 197 => 143 | 218 => 144 | 219 => 145 | 260 => 148 | 217 => 149 | 225 => 150 | 224 => 151 | 267 => 152 | 266 => 153 | 314 => 154 | n => n, fun | 9 => 9 | 31 => 33 | 3 => 3 | 4 => 4 | 0 => 0 | 105 => 189 | 21 => 21 | 5 => 5 | 46 => 123 | 119 => 194 | 139 => 197 | 138 => 196 | 146 => 169 | 51 => 157 | n => n, fun | 1 => 0 | 3 => 1 | 4 => 2 | n => n⟩
theorem lays146 : Go.Proofs.Lays.n146 Tryz.prog lays146_ren := {
  mixed := by kernel_rfl
  f138 := Tryz.func133.trans (congrArg some (by kernel_rfl))
  f143 := Tryz.func134.trans (congrArg some (by kernel_rfl))
  f146 := Tryz.func77.trans (congrArg some (by kernel_rfl))
  f195 := Tryz.func142.trans (congrArg some (by kernel_rfl))
  f197 := Tryz.func143.trans (congrArg some (by kernel_rfl))
  f217 := Tryz.func149.trans (congrArg some (by kernel_rfl))
  f218 := Tryz.func144.trans (congrArg some (by kernel_rfl))
  f219 := Tryz.func145.trans (congrArg some (by kernel_rfl))
  f221 := Tryz.func107.trans (congrArg some (by kernel_rfl))
  f224 := Tryz.func151.trans (congrArg some (by kernel_rfl))
  f225 := Tryz.func150.trans (congrArg some (by kernel_rfl))
  f260 := Tryz.func148.trans (congrArg some (by kernel_rfl))
  f266 := Tryz.func153.trans (congrArg some (by kernel_rfl))
  f267 := Tryz.func152.trans (congrArg some (by kernel_rfl))
  f268 := Tryz.func132.trans (congrArg some (by kernel_rfl))
  f314 := Tryz.func154.trans (congrArg some (by kernel_rfl))
  t0 := Tryz.underlying0
  a0 := Tryz.isAgg0
  z0 := Tryz.sizeOf0
  v0 := Tryz.zeroValue0
  t3 := Tryz.underlying3
  a3 := Tryz.isAgg3
  z3 := Tryz.sizeOf3
  v3 := Tryz.zeroValue3
  t4 := Tryz.underlying4
  a4 := Tryz.isAgg4
  z4 := Tryz.sizeOf4
  v4 := Tryz.zeroValue4
  t5 := Tryz.underlying5
  a5 := Tryz.isAgg5
  z5 := Tryz.sizeOf5
  v5 := Tryz.zeroValue5
  t9 := Tryz.underlying9
  a9 := Tryz.isAgg9
  z9 := Tryz.sizeOf9
  v9 := Tryz.zeroValue9
  t21 := Tryz.underlying21
  a21 := Tryz.isAgg21
  z21 := Tryz.sizeOf21
  v21 := Tryz.zeroValue21
  t31 := Tryz.underlying33
  a31 := Tryz.isAgg33
  z31 := Tryz.sizeOf33
  v31 := Tryz.zeroValue33
  t46 := Tryz.underlying123
  a46 := Tryz.isAgg123
  z46 := Tryz.sizeOf123
  v46 := Tryz.zeroValue123
  t51 := Tryz.underlying157
  a51 := Tryz.isAgg157
  z51 := Tryz.sizeOf157
  v51 := Tryz.zeroValue157
  t105 := Tryz.underlying189
  a105 := Tryz.isAgg189
  z105 := Tryz.sizeOf189
  v105 := Tryz.zeroValue189
  t119 := Tryz.underlying194
  a119 := Tryz.isAgg194
  z119 := Tryz.sizeOf194
  t138 := Tryz.underlying196
  a138 := Tryz.isAgg196
  z138 := Tryz.sizeOf196
  v138 := Tryz.zeroValue196
  t139 := Tryz.underlying197
  a139 := Tryz.isAgg197
  z139 := Tryz.sizeOf197
  v139 := Tryz.zeroValue197
  t146 := Tryz.underlying169
  a146 := Tryz.isAgg169
  z146 := Tryz.sizeOf169
  v146 := Tryz.zeroValue169
  g1 := by kernel_rfl
  g3 := by kernel_rfl
  g4 := by kernel_rfl }
open Go.RowKit Go.Lib in
theorem strings_Split (s sep : ByteArray) (m : Int) (w : World) (hs : s.size < 4294967281) (hm : w.cell? ⟨0, 0, none⟩ = some (.int .i64 m)) (h1 : 1 ≤ sep.size) :
    Calls Tryz.prog 77 #[.string s, .string sep] w fun e w' =>
      e = .returned (.slice (some ⟨w.heap.size, 0, none⟩) (Lib.countB s sep + 1) (Lib.countB s sep + 1)) ∧ w' = w.alloc (.cells ((Lib.splitB sep 0 (Lib.countB s sep) s).map Value.string).toArray 9) := Any.strings_Split lays146 (by kernel_rfl) s sep m w hs hm h1
end Go.Proofs.YtglglbbjacgbdaaGreatDoor
