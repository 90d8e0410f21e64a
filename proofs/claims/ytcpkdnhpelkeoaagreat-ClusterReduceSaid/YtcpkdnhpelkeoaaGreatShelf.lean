/-
  slices.Clone and slices.SortFunc at [2]int: the shelf's contracts in this program's numbers (written by the shelf's tool).
-/
import Derived.Shelf.Sort.Plain
import Derived.Ground.Names2Prog
import Derived.Shelf.Slices.Clone
import Derived.Shelf.Slices.CompactI
import Derived.Shelf.Slices.In.SortNone
import Derived.Shelf.Slices.Empties
import Derived.Ground.SlsfProg
import Derived.Shelf.SlSortCmp.WholeK
import Derived.Shelf.SlSortCmp.Whole1
import Derived.Shelf.SlSortCmp.NoneTotal
import Derived.Ground.Names8Prog
import Derived.Shelf.Spec.SlicesGrow
import Derived.Test.YtcpkdnhpelkeoaaGreatProg
namespace Go.Proofs
open Go.Shelf
def Tryz.laysNm84_f67_ren : Go.Shelf.Ren := ⟨fun | 4 => 67 | n => n, fun | 22 => 24 | 25 => 3 | 3 => 3 | 4 => 4 | 9 => 9 | 20 => 20 | 0 => 0 | n => n, fun | n => n⟩
theorem Tryz.laysNm84_f67 : Go.Proofs.Lays8.n4 Tryz.prog Tryz.laysNm84_f67_ren := {
  mixed := by kernel_rfl
  f4 := ⟨Tryz.f67.name, by decide, Tryz.func67.trans (congrArg some (by kernel_rfl))⟩
  t0 := Tryz.underlying0
  a0 := Tryz.isAgg0
  z0 := Tryz.sizeOf0
  v0 := Tryz.zeroValue0
  t3 := Tryz.underlying3
  a3 := Tryz.isAgg3
  z3 := Tryz.sizeOf3
  v3 := Tryz.zeroValue3
  t4 := Tryz.underlying4
  a4 := Tryz.isAgg4
  z4 := Tryz.sizeOf4
  v4 := Tryz.zeroValue4
  t9 := Tryz.underlying9
  a9 := Tryz.isAgg9
  z9 := Tryz.sizeOf9
  v9 := Tryz.zeroValue9
  t20 := Tryz.underlying20
  a20 := Tryz.isAgg20
  z20 := Tryz.sizeOf20
  v20 := Tryz.zeroValue20
  t22 := Tryz.underlying24
  a22 := Tryz.isAgg24
  z22 := Tryz.sizeOf24
  v22 := Tryz.zeroValue24 }
def Tryz.lays189_ren : Go.Shelf.Ren := ⟨fun | 189 => 39 | 125 => 36 | 257 => 68 | 128 => 64 | 129 => 65 | 294 => 81 | 295 => 82 | 296 => 83 | 297 => 84 | 298 => 85 | 299 => 86 | 216 => 87 | 300 => 88 | 301 => 89 | 328 => 93 | 329 => 77 | 330 => 78 | 331 => 94 | 332 => 95 | 215 => 66 | 343 => 106 | n => n, fun | 28 => 24 | 3 => 3 | 46 => 58 | 0 => 0 | 51 => 85 | 53 => 87 | 4 => 4 | 183 => 79 | 182 => 78 | 131 => 44 | 5 => 5 | 9 => 9 | 218 => 95 | 222 => 99 | 228 => 110 | 229 => 111 | n => n, fun | n => n⟩
theorem Tryz.lays189 : Go.Proofs.Lays.n189 Tryz.prog Tryz.lays189_ren := {
  mixed := by kernel_rfl
  f125 := Tryz.func36.trans (congrArg some (by kernel_rfl))
  f128 := Tryz.func64.trans (congrArg some (by kernel_rfl))
  f129 := Tryz.func65.trans (congrArg some (by kernel_rfl))
  f189 := Tryz.func39.trans (congrArg some (by kernel_rfl))
  f215 := Tryz.func66.trans (congrArg some (by kernel_rfl))
  f216 := Tryz.func87.trans (congrArg some (by kernel_rfl))
  f257 := Tryz.func68.trans (congrArg some (by kernel_rfl))
  f294 := Tryz.func81.trans (congrArg some (by kernel_rfl))
  f295 := Tryz.func82.trans (congrArg some (by kernel_rfl))
  f296 := Tryz.func83.trans (congrArg some (by kernel_rfl))
  f297 := Tryz.func84.trans (congrArg some (by kernel_rfl))
  f298 := Tryz.func85.trans (congrArg some (by kernel_rfl))
  f299 := Tryz.func86.trans (congrArg some (by kernel_rfl))
  f300 := Tryz.func88.trans (congrArg some (by kernel_rfl))
  f301 := Tryz.func89.trans (congrArg some (by kernel_rfl))
  f328 := Tryz.func93.trans (congrArg some (by kernel_rfl))
  f329 := Tryz.func77.trans (congrArg some (by kernel_rfl))
  f330 := Tryz.func78.trans (congrArg some (by kernel_rfl))
  f331 := Tryz.func94.trans (congrArg some (by kernel_rfl))
  f332 := Tryz.func95.trans (congrArg some (by kernel_rfl))
  f343 := Tryz.func106.trans (congrArg some (by kernel_rfl))
  t0 := Tryz.underlying0
  a0 := Tryz.isAgg0
  z0 := Tryz.sizeOf0
  v0 := Tryz.zeroValue0
  t3 := Tryz.underlying3
  a3 := Tryz.isAgg3
  z3 := Tryz.sizeOf3
  v3 := Tryz.zeroValue3
  t4 := Tryz.underlying4
  a4 := Tryz.isAgg4
  z4 := Tryz.sizeOf4
  v4 := Tryz.zeroValue4
  t5 := Tryz.underlying5
  a5 := Tryz.isAgg5
  z5 := Tryz.sizeOf5
  v5 := Tryz.zeroValue5
  t9 := Tryz.underlying9
  a9 := Tryz.isAgg9
  z9 := Tryz.sizeOf9
  v9 := Tryz.zeroValue9
  t28 := Tryz.underlying24
  a28 := Tryz.isAgg24
  z28 := Tryz.sizeOf24
  v28 := Tryz.zeroValue24
  t46 := Tryz.underlying58
  a46 := Tryz.isAgg58
  z46 := Tryz.sizeOf58
  v46 := Tryz.zeroValue58
  t51 := Tryz.underlying85
  a51 := Tryz.isAgg85
  z51 := Tryz.sizeOf85
  v51 := Tryz.zeroValue85
  t53 := Tryz.underlying87
  a53 := Tryz.isAgg87
  z53 := Tryz.sizeOf87
  v53 := Tryz.zeroValue87
  t131 := Tryz.underlying44
  a131 := Tryz.isAgg44
  z131 := Tryz.sizeOf44
  v131 := Tryz.zeroValue44
  t182 := Tryz.underlying78
  a182 := Tryz.isAgg78
  z182 := Tryz.sizeOf78
  v182 := Tryz.zeroValue78
  t183 := Tryz.underlying79
  a183 := Tryz.isAgg79
  z183 := Tryz.sizeOf79
  v183 := Tryz.zeroValue79
  t218 := Tryz.underlying95
  a218 := Tryz.isAgg95
  z218 := Tryz.sizeOf95
  v218 := Tryz.zeroValue95
  t222 := Tryz.underlying99
  a222 := Tryz.isAgg99
  z222 := Tryz.sizeOf99
  v222 := Tryz.zeroValue99
  t228 := Tryz.underlying110
  a228 := Tryz.isAgg110
  z228 := Tryz.sizeOf110
  v228 := Tryz.zeroValue110
  t229 := Tryz.underlying111
  a229 := Tryz.isAgg111
  z229 := Tryz.sizeOf111
  v229 := Tryz.zeroValue111 }
open Go.Sort Go.RowKit in
theorem Tryz.slices_Sort_int (blk off cap : Nat) (zs : List Int) (w : World) (hH : Holds (Value.int .i64) w blk off zs.toArray) (hblk : blk < w.heap.size) (hsz : zs.length < 4611686018427387904) :
    Calls Tryz.prog 39 #[.slice (some ⟨blk, off, none⟩) zs.length cap] w fun e w' =>
      e = .returned (.tuple #[]) ∧ ∃ n os, w' = grow (putRow (Value.int .i64) (Sort.ahead w n) blk off (zs.mergeSort fun x y => decide (x ≤ y)).toArray) os := Any.slices_Sort_int Tryz.lays189 blk off cap zs w hH hblk hsz
def Tryz.laysNm215_ren : Go.Shelf.Ren := ⟨fun | 15 => 15 | n => n, fun | 22 => 24 | 3 => 3 | 4 => 4 | n => n, fun | n => n⟩
theorem Tryz.laysNm215 : Go.Proofs.Lays2.n15 Tryz.prog Tryz.laysNm215_ren := {
  mixed := by kernel_rfl
  f15 := Tryz.func15.trans (congrArg some (by kernel_rfl))
  t3 := Tryz.underlying3
  a3 := Tryz.isAgg3
  z3 := Tryz.sizeOf3
  v3 := Tryz.zeroValue3
  t4 := Tryz.underlying4
  a4 := Tryz.isAgg4
  z4 := Tryz.sizeOf4
  v4 := Tryz.zeroValue4
  t22 := Tryz.underlying24
  a22 := Tryz.isAgg24
  z22 := Tryz.sizeOf24
  v22 := Tryz.zeroValue24
  i3 := by kernel_rfl }
open Go.RowKit Go.Lib in
theorem Tryz.slices_Clone_int (b off n c : Nat) (zs : List Int) (w : World) (hz : n ≤ zs.length) (hbig : n * 8 ≤ 140737488355328) (hc : ∀ j, j < zs.length → w.cell? ⟨b, off + j, none⟩ = some (.int .i64 (zs.getD j 0))) :
    Calls Tryz.prog 15 #[.slice (some ⟨b, off, none⟩) n c] w fun e w' => ∃ v', e = .returned v' ∧ w'.ownsRow w.heap.size 3 1 v' n ((zs.take n).map (Value.int .i64)) ∧ v' ≠ .slice none 0 0 ∧ Below w.heap.size w w' := Any.slices_Clone_int Tryz.laysNm215 b off n c zs w hz hbig hc
open Go.RowKit Go.Lib in
theorem Tryz.slices_Clone_int_nil (n c : Nat) (w : World) :
    Calls Tryz.prog 15 #[.slice none n c] w fun e w' => e = .returned (.slice none 0 0) ∧ w' = w := Any.slices_Clone_int_nil Tryz.laysNm215 n c w
open Go.RowKit Go.Lib in
theorem Tryz.slices_Clone_int_zero (a : Addr) (c : Nat) (w : World) :
    Calls Tryz.prog 15 #[.slice (some a) 0 c] w fun e w' => ∃ v', e = .returned v' ∧ w'.ownsRow w.heap.size 3 1 v' 0 [] ∧ v' ≠ .slice none 0 0 ∧ Below w.heap.size w w' := Any.slices_Clone_int_zero Tryz.laysNm215 a c w
def Tryz.laysNm220_ren : Go.Shelf.Ren := ⟨fun | 20 => 40 | n => n, fun | 22 => 24 | 3 => 3 | 4 => 4 | 0 => 0 | n => n, fun | n => n⟩
theorem Tryz.laysNm220 : Go.Proofs.Lays2.n20 Tryz.prog Tryz.laysNm220_ren := {
  mixed := by kernel_rfl
  f20 := Tryz.func40.trans (congrArg some (by kernel_rfl))
  t0 := Tryz.underlying0
  a0 := Tryz.isAgg0
  z0 := Tryz.sizeOf0
  v0 := Tryz.zeroValue0
  t3 := Tryz.underlying3
  a3 := Tryz.isAgg3
  z3 := Tryz.sizeOf3
  v3 := Tryz.zeroValue3
  t4 := Tryz.underlying4
  a4 := Tryz.isAgg4
  z4 := Tryz.sizeOf4
  v4 := Tryz.zeroValue4
  t22 := Tryz.underlying24
  a22 := Tryz.isAgg24
  z22 := Tryz.sizeOf24
  v22 := Tryz.zeroValue24
  i3 := by kernel_rfl }
open Go.RowKit Go.Lib Go.Sort in
theorem Tryz.slices_Compact_int_arr (blk off cap : Nat) (d : Array Int) (w : World) (hH : Holds encI w blk off d) (hsz : d.size ≤ 9223372036854775807) (hcap : d.size ≤ cap) :
    Calls Tryz.prog 40 #[.slice (some ⟨blk, off, none⟩) d.size cap] w fun e w' => e = .returned (.slice (some ⟨blk, off, none⟩) (compactUpTo d d.size).length cap) ∧ ∃ q, w' = putRow encI (Sort.ahead w q) blk off (compactUpTo d d.size ++ List.replicate (d.size - (compactUpTo d d.size).length) 0).toArray := Any.slices_Compact_int_arr Tryz.laysNm220 blk off cap d w hH hsz hcap
open Go.RowKit Go.Lib Go.Sort in
theorem Tryz.slices_Compact_int (blk off cap : Nat) (zs : List Int) (w : World) (hH : Holds (Value.int .i64) w blk off zs.toArray) (hsz : zs.length ≤ 9223372036854775807) (hcap : zs.length ≤ cap) :
    Calls Tryz.prog 40 #[.slice (some ⟨blk, off, none⟩) zs.length cap] w fun e w' => e = .returned (.slice (some ⟨blk, off, none⟩) (Lib.compact zs).length cap) ∧ ∃ q, w' = putRow (Value.int .i64) (Sort.ahead w q) blk off (Lib.compact zs ++ List.replicate (zs.length - (Lib.compact zs).length) 0).toArray := Any.slices_Compact_int Tryz.laysNm220 blk off cap zs w hH hsz hcap
open Go.RowKit Go.Lib Go.Sort in
theorem Tryz.slices_Compact_int_empty (a : Option Addr) (cap : Nat) (w : World) :
    Calls Tryz.prog 40 #[.slice a 0 cap] w fun e w' => e = .returned (.slice a 0 cap) ∧ w' = w := Any.slices_Compact_int_empty Tryz.laysNm220 a cap w
open Go.RowKit Go.Sort in
theorem Tryz.slices_Sort_int_none (p : Option Addr) (cap : Nat) (w : World) :
    Calls Tryz.prog 39 #[.slice p 0 cap] w fun e w' => e = .returned (.tuple #[]) ∧ w' = w := Any.slices_Sort_int_none Tryz.lays189 p cap w
def Tryz.laysSlF06_f74_ren : Go.Shelf.Ren := ⟨fun | 6 => 74 | 15 => 36 | 14 => 91 | 28 => 64 | 29 => 65 | 20 => 98 | 21 => 99 | 22 => 100 | 23 => 101 | 24 => 102 | 25 => 103 | 26 => 104 | 27 => 105 | 46 => 108 | 47 => 77 | 48 => 78 | 49 => 109 | 50 => 110 | 57 => 113 | n => n, fun | 22 => 29 | 24 => 28 | 25 => 65 | 3 => 3 | 39 => 58 | 0 => 0 | 53 => 85 | 55 => 87 | 4 => 4 | 46 => 79 | 45 => 78 | 50 => 44 | 5 => 5 | 9 => 9 | 66 => 95 | 70 => 99 | 76 => 110 | 77 => 111 | n => n, fun | n => n⟩
theorem Tryz.laysSlF06_f74 : Go.Proofs.SlLaysF0.n6 Tryz.prog Tryz.laysSlF06_f74_ren := {
  mixed := by kernel_rfl
  f6 := ⟨Tryz.f74.name, by decide, Tryz.func74.trans (congrArg some (by kernel_rfl))⟩
  f14 := ⟨Tryz.f91.name, by decide, Tryz.func91.trans (congrArg some (by kernel_rfl))⟩
  f15 := Tryz.func36.trans (congrArg some (by kernel_rfl))
  f20 := ⟨Tryz.f98.name, by decide, Tryz.func98.trans (congrArg some (by kernel_rfl))⟩
  f21 := ⟨Tryz.f99.name, by decide, Tryz.func99.trans (congrArg some (by kernel_rfl))⟩
  f22 := ⟨Tryz.f100.name, by decide, Tryz.func100.trans (congrArg some (by kernel_rfl))⟩
  f23 := ⟨Tryz.f101.name, by decide, Tryz.func101.trans (congrArg some (by kernel_rfl))⟩
  f24 := ⟨Tryz.f102.name, by decide, Tryz.func102.trans (congrArg some (by kernel_rfl))⟩
  f25 := ⟨Tryz.f103.name, by decide, Tryz.func103.trans (congrArg some (by kernel_rfl))⟩
  f26 := ⟨Tryz.f104.name, by decide, Tryz.func104.trans (congrArg some (by kernel_rfl))⟩
  f27 := ⟨Tryz.f105.name, by decide, Tryz.func105.trans (congrArg some (by kernel_rfl))⟩
  f28 := Tryz.func64.trans (congrArg some (by kernel_rfl))
  f29 := Tryz.func65.trans (congrArg some (by kernel_rfl))
  f46 := ⟨Tryz.f108.name, by decide, Tryz.func108.trans (congrArg some (by kernel_rfl))⟩
  f47 := Tryz.func77.trans (congrArg some (by kernel_rfl))
  f48 := Tryz.func78.trans (congrArg some (by kernel_rfl))
  f49 := ⟨Tryz.f109.name, by decide, Tryz.func109.trans (congrArg some (by kernel_rfl))⟩
  f50 := ⟨Tryz.f110.name, by decide, Tryz.func110.trans (congrArg some (by kernel_rfl))⟩
  f57 := ⟨Tryz.f113.name, by decide, Tryz.func113.trans (congrArg some (by kernel_rfl))⟩
  t0 := Tryz.underlying0
  a0 := Tryz.isAgg0
  z0 := Tryz.sizeOf0
  v0 := Tryz.zeroValue0
  t3 := Tryz.underlying3
  a3 := Tryz.isAgg3
  z3 := Tryz.sizeOf3
  v3 := Tryz.zeroValue3
  t4 := Tryz.underlying4
  a4 := Tryz.isAgg4
  z4 := Tryz.sizeOf4
  v4 := Tryz.zeroValue4
  t5 := Tryz.underlying5
  a5 := Tryz.isAgg5
  z5 := Tryz.sizeOf5
  v5 := Tryz.zeroValue5
  t9 := Tryz.underlying9
  a9 := Tryz.isAgg9
  z9 := Tryz.sizeOf9
  v9 := Tryz.zeroValue9
  t22 := Tryz.underlying29
  a22 := Tryz.isAgg29
  z22 := Tryz.sizeOf29
  v22 := Tryz.zeroValue29
  t25 := Tryz.underlying65
  a25 := Tryz.isAgg65
  z25 := Tryz.sizeOf65
  v25 := Tryz.zeroValue65
  t39 := Tryz.underlying58
  a39 := Tryz.isAgg58
  z39 := Tryz.sizeOf58
  v39 := Tryz.zeroValue58
  t45 := Tryz.underlying78
  a45 := Tryz.isAgg78
  z45 := Tryz.sizeOf78
  v45 := Tryz.zeroValue78
  t46 := Tryz.underlying79
  a46 := Tryz.isAgg79
  z46 := Tryz.sizeOf79
  v46 := Tryz.zeroValue79
  t50 := Tryz.underlying44
  a50 := Tryz.isAgg44
  z50 := Tryz.sizeOf44
  v50 := Tryz.zeroValue44
  t53 := Tryz.underlying85
  a53 := Tryz.isAgg85
  z53 := Tryz.sizeOf85
  v53 := Tryz.zeroValue85
  t55 := Tryz.underlying87
  a55 := Tryz.isAgg87
  z55 := Tryz.sizeOf87
  v55 := Tryz.zeroValue87
  t66 := Tryz.underlying95
  a66 := Tryz.isAgg95
  z66 := Tryz.sizeOf95
  v66 := Tryz.zeroValue95
  t70 := Tryz.underlying99
  a70 := Tryz.isAgg99
  z70 := Tryz.sizeOf99
  v70 := Tryz.zeroValue99
  t76 := Tryz.underlying110
  a76 := Tryz.isAgg110
  z76 := Tryz.sizeOf110
  v76 := Tryz.zeroValue110
  t77 := Tryz.underlying111
  a77 := Tryz.isAgg111
  z77 := Tryz.sizeOf111
  v77 := Tryz.zeroValue111 }
open Go.RowKit Go.Lib Go.Sort in
theorem Tryz.slices_SortFunc_eq {α : Type} [Inhabited α] (k : Nat) (aE : ∀ w, (isAgg 28).run Tryz.prog w = .ok true w) (zE : ∀ w, (Go.sizeOf 28).run Tryz.prog w = .ok k w) (enc : α → List Value) (hk : ∀ x, (enc x).length = k) (h1 : ∀ x, ∀ v ∈ enc x, v.oneCell' = true) (cf : α → α → Int) (hO : SWO (ltOf cf)) (g : Nat) (cb : Array Value) (blk off cap : Nat) (d : Array α) (w : World) (eg : ∀ args w, (callFunc g args).run Tryz.prog w = .ok (.enter g args) w) (hcmp : CmpLays Tryz.prog g cb enc k cf blk off d.size w) (hH : HoldsK enc k w blk off d) (hblk : blk < w.heap.size) (hsz : d.size < 4611686018427387904) :
    Calls Tryz.prog 74 #[.slice (some ⟨blk, off, none⟩) d.size cap, .func (.func g) #[] cb] w fun e w' =>
      e = .returned (.tuple #[]) ∧ ∃ n os, w' = sortWorldK enc k w blk off n (pdq (ltOf cf) d 0 d.size (Lib.bitLen d.size) true true) os := AnyQ.slices_SortFunc_eq Tryz.laysSlF06_f74 k aE zE enc hk h1 cf hO g cb blk off cap d w eg hcmp hH hblk hsz
open Go.RowKit Go.Lib Go.Sort in
theorem Tryz.slices_SortFunc {α : Type} [Inhabited α] (k : Nat) (aE : ∀ w, (isAgg 28).run Tryz.prog w = .ok true w) (zE : ∀ w, (Go.sizeOf 28).run Tryz.prog w = .ok k w) (enc : α → List Value) (hk : ∀ x, (enc x).length = k) (h1 : ∀ x, ∀ v ∈ enc x, v.oneCell' = true) (cf : α → α → Int) (hO : SWO (ltOf cf)) (g : Nat) (cb : Array Value) (blk off cap : Nat) (d : Array α) (w : World) (eg : ∀ args w, (callFunc g args).run Tryz.prog w = .ok (.enter g args) w) (hcmp : CmpLays Tryz.prog g cb enc k cf blk off d.size w) (hH : HoldsK enc k w blk off d) (hblk : blk < w.heap.size) (hsz : d.size < 4611686018427387904) :
    Calls Tryz.prog 74 #[.slice (some ⟨blk, off, none⟩) d.size cap, .func (.func g) #[] cb] w fun e w' =>
      e = .returned (.tuple #[]) ∧ ∃ d' n os, PermIn 0 d.size d d' ∧ SortedIn (ltOf cf) 0 d.size d' ∧ w' = sortWorldK enc k w blk off n d' os := AnyQ.slices_SortFunc Tryz.laysSlF06_f74 k aE zE enc hk h1 cf hO g cb blk off cap d w eg hcmp hH hblk hsz
def Tryz.laysSlF6_f16_ren : Go.Shelf.Ren := ⟨fun | 6 => 16 | 15 => 36 | 14 => 35 | 28 => 64 | 29 => 65 | 20 => 56 | 21 => 57 | 22 => 58 | 23 => 59 | 24 => 60 | 25 => 61 | 26 => 62 | 27 => 63 | 46 => 76 | 47 => 77 | 48 => 78 | 49 => 79 | 50 => 80 | 57 => 92 | n => n, fun | 22 => 22 | 24 => 24 | 25 => 41 | 3 => 3 | 39 => 58 | 0 => 0 | 53 => 85 | 55 => 87 | 4 => 4 | 46 => 79 | 45 => 78 | 50 => 44 | 5 => 5 | 9 => 9 | 66 => 95 | 70 => 99 | 76 => 110 | 77 => 111 | n => n, fun | n => n⟩
theorem Tryz.laysSlF6_f16 : Go.Proofs.SlLaysF.n6 Tryz.prog Tryz.laysSlF6_f16_ren := {
  mixed := by kernel_rfl
  f6 := ⟨Tryz.f16.name, by decide, Tryz.func16.trans (congrArg some (by kernel_rfl))⟩
  f14 := ⟨Tryz.f35.name, by decide, Tryz.func35.trans (congrArg some (by kernel_rfl))⟩
  f15 := Tryz.func36.trans (congrArg some (by kernel_rfl))
  f20 := ⟨Tryz.f56.name, by decide, Tryz.func56.trans (congrArg some (by kernel_rfl))⟩
  f21 := ⟨Tryz.f57.name, by decide, Tryz.func57.trans (congrArg some (by kernel_rfl))⟩
  f22 := ⟨Tryz.f58.name, by decide, Tryz.func58.trans (congrArg some (by kernel_rfl))⟩
  f23 := ⟨Tryz.f59.name, by decide, Tryz.func59.trans (congrArg some (by kernel_rfl))⟩
  f24 := ⟨Tryz.f60.name, by decide, Tryz.func60.trans (congrArg some (by kernel_rfl))⟩
  f25 := ⟨Tryz.f61.name, by decide, Tryz.func61.trans (congrArg some (by kernel_rfl))⟩
  f26 := ⟨Tryz.f62.name, by decide, Tryz.func62.trans (congrArg some (by kernel_rfl))⟩
  f27 := ⟨Tryz.f63.name, by decide, Tryz.func63.trans (congrArg some (by kernel_rfl))⟩
  f28 := Tryz.func64.trans (congrArg some (by kernel_rfl))
  f29 := Tryz.func65.trans (congrArg some (by kernel_rfl))
  f46 := ⟨Tryz.f76.name, by decide, Tryz.func76.trans (congrArg some (by kernel_rfl))⟩
  f47 := Tryz.func77.trans (congrArg some (by kernel_rfl))
  f48 := Tryz.func78.trans (congrArg some (by kernel_rfl))
  f49 := ⟨Tryz.f79.name, by decide, Tryz.func79.trans (congrArg some (by kernel_rfl))⟩
  f50 := ⟨Tryz.f80.name, by decide, Tryz.func80.trans (congrArg some (by kernel_rfl))⟩
  f57 := ⟨Tryz.f92.name, by decide, Tryz.func92.trans (congrArg some (by kernel_rfl))⟩
  t0 := Tryz.underlying0
  a0 := Tryz.isAgg0
  z0 := Tryz.sizeOf0
  v0 := Tryz.zeroValue0
  t3 := Tryz.underlying3
  a3 := Tryz.isAgg3
  z3 := Tryz.sizeOf3
  v3 := Tryz.zeroValue3
  t4 := Tryz.underlying4
  a4 := Tryz.isAgg4
  z4 := Tryz.sizeOf4
  v4 := Tryz.zeroValue4
  t5 := Tryz.underlying5
  a5 := Tryz.isAgg5
  z5 := Tryz.sizeOf5
  v5 := Tryz.zeroValue5
  t9 := Tryz.underlying9
  a9 := Tryz.isAgg9
  z9 := Tryz.sizeOf9
  v9 := Tryz.zeroValue9
  t22 := Tryz.underlying22
  a22 := Tryz.isAgg22
  z22 := Tryz.sizeOf22
  v22 := Tryz.zeroValue22
  a24 := Tryz.isAgg24
  z24 := Tryz.sizeOf24
  t25 := Tryz.underlying41
  a25 := Tryz.isAgg41
  z25 := Tryz.sizeOf41
  v25 := Tryz.zeroValue41
  t39 := Tryz.underlying58
  a39 := Tryz.isAgg58
  z39 := Tryz.sizeOf58
  v39 := Tryz.zeroValue58
  t45 := Tryz.underlying78
  a45 := Tryz.isAgg78
  z45 := Tryz.sizeOf78
  v45 := Tryz.zeroValue78
  t46 := Tryz.underlying79
  a46 := Tryz.isAgg79
  z46 := Tryz.sizeOf79
  v46 := Tryz.zeroValue79
  t50 := Tryz.underlying44
  a50 := Tryz.isAgg44
  z50 := Tryz.sizeOf44
  v50 := Tryz.zeroValue44
  t53 := Tryz.underlying85
  a53 := Tryz.isAgg85
  z53 := Tryz.sizeOf85
  v53 := Tryz.zeroValue85
  t55 := Tryz.underlying87
  a55 := Tryz.isAgg87
  z55 := Tryz.sizeOf87
  v55 := Tryz.zeroValue87
  t66 := Tryz.underlying95
  a66 := Tryz.isAgg95
  z66 := Tryz.sizeOf95
  v66 := Tryz.zeroValue95
  t70 := Tryz.underlying99
  a70 := Tryz.isAgg99
  z70 := Tryz.sizeOf99
  v70 := Tryz.zeroValue99
  t76 := Tryz.underlying110
  a76 := Tryz.isAgg110
  z76 := Tryz.sizeOf110
  v76 := Tryz.zeroValue110
  t77 := Tryz.underlying111
  a77 := Tryz.isAgg111
  z77 := Tryz.sizeOf111
  v77 := Tryz.zeroValue111 }
open Go.RowKit Go.Lib Go.Sort in
theorem Tryz.slices_SortFunc_eq_f16 {α : Type} [Inhabited α] (enc : α → Value) (h1 : OneCell enc) (cf : α → α → Int) (hO : SWO (ltOf cf)) (g : Nat) (cb : Array Value) (blk off cap : Nat) (d : Array α) (w : World) (eg : ∀ args w, (callFunc g args).run Tryz.prog w = .ok (.enter g args) w) (hcmp : CmpLays1 Tryz.prog g cb enc cf blk off d.size w) (hH : Holds enc w blk off d) (hblk : blk < w.heap.size) (hsz : d.size < 4611686018427387904) :
    Calls Tryz.prog 16 #[.slice (some ⟨blk, off, none⟩) d.size cap, .func (.func g) #[] cb] w fun e w' =>
      e = .returned (.tuple #[]) ∧ ∃ n os, w' = sortWorld enc w blk off n (pdq (ltOf cf) d 0 d.size (Lib.bitLen d.size) true true) os := Any.slices_SortFunc_eq Tryz.laysSlF6_f16 enc h1 cf hO g cb blk off cap d w eg hcmp hH hblk hsz
open Go.RowKit Go.Lib Go.Sort in
theorem Tryz.slices_SortFunc_f16 {α : Type} [Inhabited α] (enc : α → Value) (h1 : OneCell enc) (cf : α → α → Int) (hO : SWO (ltOf cf)) (g : Nat) (cb : Array Value) (blk off cap : Nat) (d : Array α) (w : World) (eg : ∀ args w, (callFunc g args).run Tryz.prog w = .ok (.enter g args) w) (hcmp : CmpLays1 Tryz.prog g cb enc cf blk off d.size w) (hH : Holds enc w blk off d) (hblk : blk < w.heap.size) (hsz : d.size < 4611686018427387904) :
    Calls Tryz.prog 16 #[.slice (some ⟨blk, off, none⟩) d.size cap, .func (.func g) #[] cb] w fun e w' =>
      e = .returned (.tuple #[]) ∧ ∃ d' n os, PermIn 0 d.size d d' ∧ SortedIn (ltOf cf) 0 d.size d' ∧ w' = sortWorld enc w blk off n d' os := Any.slices_SortFunc Tryz.laysSlF6_f16 enc h1 cf hO g cb blk off cap d w eg hcmp hH hblk hsz
def Tryz.laysSlF06_f16_ren : Go.Shelf.Ren := ⟨fun | 6 => 16 | 15 => 36 | 14 => 35 | 28 => 64 | 29 => 65 | 20 => 56 | 21 => 57 | 22 => 58 | 23 => 59 | 24 => 60 | 25 => 61 | 26 => 62 | 27 => 63 | 46 => 76 | 47 => 77 | 48 => 78 | 49 => 79 | 50 => 80 | 57 => 92 | n => n, fun | 22 => 22 | 24 => 24 | 25 => 41 | 3 => 3 | 39 => 58 | 0 => 0 | 53 => 85 | 55 => 87 | 4 => 4 | 46 => 79 | 45 => 78 | 50 => 44 | 5 => 5 | 9 => 9 | 66 => 95 | 70 => 99 | 76 => 110 | 77 => 111 | n => n, fun | n => n⟩
theorem Tryz.laysSlF06_f16 : Go.Proofs.SlLaysF0.n6 Tryz.prog Tryz.laysSlF06_f16_ren := {
  mixed := by kernel_rfl
  f6 := ⟨Tryz.f16.name, by decide, Tryz.func16.trans (congrArg some (by kernel_rfl))⟩
  f14 := ⟨Tryz.f35.name, by decide, Tryz.func35.trans (congrArg some (by kernel_rfl))⟩
  f15 := Tryz.func36.trans (congrArg some (by kernel_rfl))
  f20 := ⟨Tryz.f56.name, by decide, Tryz.func56.trans (congrArg some (by kernel_rfl))⟩
  f21 := ⟨Tryz.f57.name, by decide, Tryz.func57.trans (congrArg some (by kernel_rfl))⟩
  f22 := ⟨Tryz.f58.name, by decide, Tryz.func58.trans (congrArg some (by kernel_rfl))⟩
  f23 := ⟨Tryz.f59.name, by decide, Tryz.func59.trans (congrArg some (by kernel_rfl))⟩
  f24 := ⟨Tryz.f60.name, by decide, Tryz.func60.trans (congrArg some (by kernel_rfl))⟩
  f25 := ⟨Tryz.f61.name, by decide, Tryz.func61.trans (congrArg some (by kernel_rfl))⟩
  f26 := ⟨Tryz.f62.name, by decide, Tryz.func62.trans (congrArg some (by kernel_rfl))⟩
  f27 := ⟨Tryz.f63.name, by decide, Tryz.func63.trans (congrArg some (by kernel_rfl))⟩
  f28 := Tryz.func64.trans (congrArg some (by kernel_rfl))
  f29 := Tryz.func65.trans (congrArg some (by kernel_rfl))
  f46 := ⟨Tryz.f76.name, by decide, Tryz.func76.trans (congrArg some (by kernel_rfl))⟩
  f47 := Tryz.func77.trans (congrArg some (by kernel_rfl))
  f48 := Tryz.func78.trans (congrArg some (by kernel_rfl))
  f49 := ⟨Tryz.f79.name, by decide, Tryz.func79.trans (congrArg some (by kernel_rfl))⟩
  f50 := ⟨Tryz.f80.name, by decide, Tryz.func80.trans (congrArg some (by kernel_rfl))⟩
  f57 := ⟨Tryz.f92.name, by decide, Tryz.func92.trans (congrArg some (by kernel_rfl))⟩
  t0 := Tryz.underlying0
  a0 := Tryz.isAgg0
  z0 := Tryz.sizeOf0
  v0 := Tryz.zeroValue0
  t3 := Tryz.underlying3
  a3 := Tryz.isAgg3
  z3 := Tryz.sizeOf3
  v3 := Tryz.zeroValue3
  t4 := Tryz.underlying4
  a4 := Tryz.isAgg4
  z4 := Tryz.sizeOf4
  v4 := Tryz.zeroValue4
  t5 := Tryz.underlying5
  a5 := Tryz.isAgg5
  z5 := Tryz.sizeOf5
  v5 := Tryz.zeroValue5
  t9 := Tryz.underlying9
  a9 := Tryz.isAgg9
  z9 := Tryz.sizeOf9
  v9 := Tryz.zeroValue9
  t22 := Tryz.underlying22
  a22 := Tryz.isAgg22
  z22 := Tryz.sizeOf22
  v22 := Tryz.zeroValue22
  t25 := Tryz.underlying41
  a25 := Tryz.isAgg41
  z25 := Tryz.sizeOf41
  v25 := Tryz.zeroValue41
  t39 := Tryz.underlying58
  a39 := Tryz.isAgg58
  z39 := Tryz.sizeOf58
  v39 := Tryz.zeroValue58
  t45 := Tryz.underlying78
  a45 := Tryz.isAgg78
  z45 := Tryz.sizeOf78
  v45 := Tryz.zeroValue78
  t46 := Tryz.underlying79
  a46 := Tryz.isAgg79
  z46 := Tryz.sizeOf79
  v46 := Tryz.zeroValue79
  t50 := Tryz.underlying44
  a50 := Tryz.isAgg44
  z50 := Tryz.sizeOf44
  v50 := Tryz.zeroValue44
  t53 := Tryz.underlying85
  a53 := Tryz.isAgg85
  z53 := Tryz.sizeOf85
  v53 := Tryz.zeroValue85
  t55 := Tryz.underlying87
  a55 := Tryz.isAgg87
  z55 := Tryz.sizeOf87
  v55 := Tryz.zeroValue87
  t66 := Tryz.underlying95
  a66 := Tryz.isAgg95
  z66 := Tryz.sizeOf95
  v66 := Tryz.zeroValue95
  t70 := Tryz.underlying99
  a70 := Tryz.isAgg99
  z70 := Tryz.sizeOf99
  v70 := Tryz.zeroValue99
  t76 := Tryz.underlying110
  a76 := Tryz.isAgg110
  z76 := Tryz.sizeOf110
  v76 := Tryz.zeroValue110
  t77 := Tryz.underlying111
  a77 := Tryz.isAgg111
  z77 := Tryz.sizeOf111
  v77 := Tryz.zeroValue111 }
open Go.RowKit Go.Lib Go.Sort in
theorem Tryz.slices_SortFunc_none_f16 {α : Type} [Inhabited α] (p : Option Addr) (cap : Nat) (fv : Value) (w : World) :
    Calls Tryz.prog 16 #[.slice p 0 cap, fv] w fun e w' => e = .returned (.tuple #[]) ∧ w' = w := AnyF.slices_SortFunc_none Tryz.laysSlF06_f16 p cap fv w
open Go.RowKit Go.Lib Go.Sort in
theorem Tryz.slices_SortFunc_none_f74 {α : Type} [Inhabited α] (p : Option Addr) (cap : Nat) (fv : Value) (w : World) :
    Calls Tryz.prog 74 #[.slice p 0 cap, fv] w fun e w' => e = .returned (.tuple #[]) ∧ w' = w := AnyF.slices_SortFunc_none Tryz.laysSlF06_f74 p cap fv w
open Go.RowKit Go.Lib Go.Sort in
theorem Tryz.slices_SortFunc_total {α : Type} [Inhabited α] (enc : α → Value) (h1 : OneCell enc) (cf : α → α → Int) (hO : SWO (ltOf cf)) (g : Nat) (cb : Array Value) (blk off cap : Nat) (d : Array α) (w : World) (eg : ∀ args w, (callFunc g args).run Tryz.prog w = .ok (.enter g args) w) (hcmp : CmpLays1 Tryz.prog g cb enc cf blk off d.size w) (hH : Holds enc w blk off d) (hblk : blk < w.heap.size) (hsz : d.size < 4611686018427387904) (hT : ∀ x y, (ltOf cf) x y = false → (ltOf cf) y x = false → x = y) :
    Calls Tryz.prog 16 #[.slice (some ⟨blk, off, none⟩) d.size cap, .func (.func g) #[] cb] w fun e w' =>
      e = .returned (.tuple #[]) ∧ ∃ n os, w' = sortWorld enc w blk off n (d.toList.mergeSort fun x y => !(ltOf cf) y x).toArray os := Any.slices_SortFunc_total Tryz.laysSlF6_f16 enc h1 cf hO g cb blk off cap d w eg hcmp hH hblk hsz hT
open Go.RowKit Go.Lib Go.Sort in
theorem Tryz.slices_SortFunc_total_f74 {α : Type} [Inhabited α] (k : Nat) (aE : ∀ w, (isAgg 28).run Tryz.prog w = .ok true w) (zE : ∀ w, (Go.sizeOf 28).run Tryz.prog w = .ok k w) (enc : α → List Value) (hk : ∀ x, (enc x).length = k) (h1 : ∀ x, ∀ v ∈ enc x, v.oneCell' = true) (cf : α → α → Int) (hO : SWO (ltOf cf)) (g : Nat) (cb : Array Value) (blk off cap : Nat) (d : Array α) (w : World) (eg : ∀ args w, (callFunc g args).run Tryz.prog w = .ok (.enter g args) w) (hcmp : CmpLays Tryz.prog g cb enc k cf blk off d.size w) (hH : HoldsK enc k w blk off d) (hblk : blk < w.heap.size) (hsz : d.size < 4611686018427387904) (hT : ∀ x y, (ltOf cf) x y = false → (ltOf cf) y x = false → x = y) :
    Calls Tryz.prog 74 #[.slice (some ⟨blk, off, none⟩) d.size cap, .func (.func g) #[] cb] w fun e w' =>
      e = .returned (.tuple #[]) ∧ ∃ n os, w' = sortWorldK enc k w blk off n (d.toList.mergeSort fun x y => !(ltOf cf) y x).toArray os := AnyQ.slices_SortFunc_total Tryz.laysSlF06_f74 k aE zE enc hk h1 cf hO g cb blk off cap d w eg hcmp hH hblk hsz hT
end Go.Proofs
