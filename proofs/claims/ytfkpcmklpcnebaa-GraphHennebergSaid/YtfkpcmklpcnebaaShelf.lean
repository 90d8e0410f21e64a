/-
  slices.Clone and slices.SortFunc at [2]int: the shelf's contracts in this program's numbers (written by the shelf's tool).
-/
import Derived.Ground.SlsfProg
import Derived.Shelf.SlSortCmp.WholeK
import Derived.Test.YtfkpcmklpcnebaaProg
namespace Go.Proofs
open Go.Shelf
def Try.laysSlF06_f35_ren : Go.Shelf.Ren := ⟨fun | 6 => 35 | 15 => 51 | 14 => 50 | 28 => 63 | 29 => 64 | 20 => 55 | 21 => 56 | 22 => 57 | 23 => 58 | 24 => 59 | 25 => 60 | 26 => 61 | 27 => 62 | 46 => 65 | 47 => 66 | 48 => 67 | 49 => 68 | 50 => 69 | 57 => 70 | n => n, fun | 22 => 22 | 24 => 36 | 25 => 47 | 3 => 3 | 39 => 63 | 0 => 0 | 53 => 75 | 55 => 77 | 4 => 4 | 46 => 69 | 45 => 68 | 50 => 57 | 5 => 5 | 9 => 9 | 66 => 78 | 70 => 82 | 76 => 84 | 77 => 85 | n => n, fun | n => n⟩
theorem Try.laysSlF06_f35 : Go.Proofs.SlLaysF0.n6 Try.prog Try.laysSlF06_f35_ren := {
  mixed := by kernel_rfl
  f6 := ⟨Try.f35.name, by decide, Try.func35.trans (congrArg some (by kernel_rfl))⟩
  f14 := ⟨Try.f50.name, by decide, Try.func50.trans (congrArg some (by kernel_rfl))⟩
  f15 := Try.func51.trans (congrArg some (by kernel_rfl))
  f20 := ⟨Try.f55.name, by decide, Try.func55.trans (congrArg some (by kernel_rfl))⟩
  f21 := ⟨Try.f56.name, by decide, Try.func56.trans (congrArg some (by kernel_rfl))⟩
  f22 := ⟨Try.f57.name, by decide, Try.func57.trans (congrArg some (by kernel_rfl))⟩
  f23 := ⟨Try.f58.name, by decide, Try.func58.trans (congrArg some (by kernel_rfl))⟩
  f24 := ⟨Try.f59.name, by decide, Try.func59.trans (congrArg some (by kernel_rfl))⟩
  f25 := ⟨Try.f60.name, by decide, Try.func60.trans (congrArg some (by kernel_rfl))⟩
  f26 := ⟨Try.f61.name, by decide, Try.func61.trans (congrArg some (by kernel_rfl))⟩
  f27 := ⟨Try.f62.name, by decide, Try.func62.trans (congrArg some (by kernel_rfl))⟩
  f28 := Try.func63.trans (congrArg some (by kernel_rfl))
  f29 := Try.func64.trans (congrArg some (by kernel_rfl))
  f46 := ⟨Try.f65.name, by decide, Try.func65.trans (congrArg some (by kernel_rfl))⟩
  f47 := Try.func66.trans (congrArg some (by kernel_rfl))
  f48 := Try.func67.trans (congrArg some (by kernel_rfl))
  f49 := ⟨Try.f68.name, by decide, Try.func68.trans (congrArg some (by kernel_rfl))⟩
  f50 := ⟨Try.f69.name, by decide, Try.func69.trans (congrArg some (by kernel_rfl))⟩
  f57 := ⟨Try.f70.name, by decide, Try.func70.trans (congrArg some (by kernel_rfl))⟩
  t0 := Try.underlying0
  a0 := Try.isAgg0
  z0 := Try.sizeOf0
  v0 := Try.zeroValue0
  t3 := Try.underlying3
  a3 := Try.isAgg3
  z3 := Try.sizeOf3
  v3 := Try.zeroValue3
  t4 := Try.underlying4
  a4 := Try.isAgg4
  z4 := Try.sizeOf4
  v4 := Try.zeroValue4
  t5 := Try.underlying5
  a5 := Try.isAgg5
  z5 := Try.sizeOf5
  v5 := Try.zeroValue5
  t9 := Try.underlying9
  a9 := Try.isAgg9
  z9 := Try.sizeOf9
  v9 := Try.zeroValue9
  t22 := Try.underlying22
  a22 := Try.isAgg22
  z22 := Try.sizeOf22
  v22 := Try.zeroValue22
  t25 := Try.underlying47
  a25 := Try.isAgg47
  z25 := Try.sizeOf47
  v25 := Try.zeroValue47
  t39 := Try.underlying63
  a39 := Try.isAgg63
  z39 := Try.sizeOf63
  v39 := Try.zeroValue63
  t45 := Try.underlying68
  a45 := Try.isAgg68
  z45 := Try.sizeOf68
  v45 := Try.zeroValue68
  t46 := Try.underlying69
  a46 := Try.isAgg69
  z46 := Try.sizeOf69
  v46 := Try.zeroValue69
  t50 := Try.underlying57
  a50 := Try.isAgg57
  z50 := Try.sizeOf57
  v50 := Try.zeroValue57
  t53 := Try.underlying75
  a53 := Try.isAgg75
  z53 := Try.sizeOf75
  v53 := Try.zeroValue75
  t55 := Try.underlying77
  a55 := Try.isAgg77
  z55 := Try.sizeOf77
  v55 := Try.zeroValue77
  t66 := Try.underlying78
  a66 := Try.isAgg78
  z66 := Try.sizeOf78
  v66 := Try.zeroValue78
  t70 := Try.underlying82
  a70 := Try.isAgg82
  z70 := Try.sizeOf82
  v70 := Try.zeroValue82
  t76 := Try.underlying84
  a76 := Try.isAgg84
  z76 := Try.sizeOf84
  v76 := Try.zeroValue84
  t77 := Try.underlying85
  a77 := Try.isAgg85
  z77 := Try.sizeOf85
  v77 := Try.zeroValue85 }
open Go.RowKit Go.Lib Go.Sort in
/-- **slices.SortFunc, IN THE DOCUMENTATION's OWN TERMS: A PERMUTATION OF WHAT THE ROW HELD, SORTED BY 'cmp(a, b) < 0'.** Which of two equals comes first is left open ("The sort is not guaranteed to be stable"). (LAID AT THE INSTANCE 'slices.SortFunc[[][2]int,[2]int]': no walk: one application.) -/
theorem Try.slices_SortFunc {α : Type} [Inhabited α] (k : Nat) (aE : ∀ w, (isAgg 36).run Try.prog w = .ok true w) (zE : ∀ w, (Go.sizeOf 36).run Try.prog w = .ok k w) (enc : α → List Value) (hk : ∀ x, (enc x).length = k) (h1 : ∀ x, ∀ v ∈ enc x, v.oneCell' = true) (cf : α → α → Int) (hO : SWO (ltOf cf)) (g : Nat) (cb : Array Value) (blk off cap : Nat) (d : Array α) (w : World) (eg : ∀ args w, (callFunc g args).run Try.prog w = .ok (.enter g args) w) (hcmp : CmpLays Try.prog g cb enc k cf blk off d.size w) (hH : HoldsK enc k w blk off d) (hblk : blk < w.heap.size) (hsz : d.size < 4611686018427387904) :
    Calls Try.prog 35 #[.slice (some ⟨blk, off, none⟩) d.size cap, .func (.func g) #[] cb] w fun e w' =>
      e = .returned (.tuple #[]) ∧ ∃ d' n os, PermIn 0 d.size d d' ∧ SortedIn (ltOf cf) 0 d.size d' ∧ w' = sortWorldK enc k w blk off n d' os := AnyQ.slices_SortFunc Try.laysSlF06_f35 k aE zE enc hk h1 cf hO g cb blk off cap d w eg hcmp hH hblk hsz
end Go.Proofs
