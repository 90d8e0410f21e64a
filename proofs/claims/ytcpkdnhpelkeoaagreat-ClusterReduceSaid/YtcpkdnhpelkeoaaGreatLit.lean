/-
  Lists that are written out in the program's text: what the new blocks read as. No program stands in this text.
-/
import Derived.Test.YtcpkdnhpelkeoaaGreatBase
import Derived.Deep.DeepCutAuto
namespace Go.Proofs.YtcpkdnhpelkeoaaGreat
set_option linter.unusedVariables false
set_option linter.unusedSimpArgs false
open Go.RowKit

theorem cell_new (w : World) (cs : Array Value) (t : TypeId) (j : Nat) : (w.alloc (.cells cs t)).cell? ⟨w.heap.size, j, none⟩ = cs[j]? := by simp
theorem cell_at {w : World} {b : Nat} (hb : w.heap.size = b) (cs : Array Value) (t : TypeId) (j : Nat) {v : Value} (h : cs[j]? = some v) : (w.alloc (.cells cs t)).cell? ⟨b, j, none⟩ = some v := by
  subst hb; rw [cell_new]; exact h
theorem add0 (b j : Nat) : (⟨b, 0, none⟩ : Addr).add j = ⟨b, j, none⟩ := by unfold Addr.add; split <;> simp_all
theorem rd_new (w : World) (size n : Nat) (xs : List Value) (t : TypeId) (h : xs.length = n * size) : Rd (w.alloc (.cells xs.toArray t)) size (some ⟨w.heap.size, 0, none⟩) n xs :=
  ⟨h, fun _ => ⟨_, rfl, fun j u hu => by rw [add0, cell_new]; simpa using hu⟩⟩
theorem rd_lit (w : World) (l : List Int) (t : TypeId) : Rd (w.alloc (.cells (ints l).toArray t)) 1 (some ⟨w.heap.size, 0, none⟩) l.length (ints l) := rd_new w 1 _ _ t (by rw [ints_length]; omega)
theorem rd_lit2 (w : World) (l : List (Int × Int)) (t : TypeId) : Rd (w.alloc (.cells (prs l).toArray t)) 2 (some ⟨w.heap.size, 0, none⟩) l.length (prs l) := rd_new w 2 _ _ t (prs_length l)
def heads (hs : List (Option Addr × Nat)) (ls : List (List Int)) : List Value := List.zipWith (fun (h : Option Addr × Nat) (l : List Int) => Value.slice h.1 l.length h.2) hs ls
theorem rdL_lit (w : World) (hs : List (Option Addr × Nat)) (ls : List (List Int)) (t : TypeId) (hl : hs.length = ls.length) (h : ∀ (i : Nat) (hd : Option Addr × Nat) (l : List Int), hs[i]? = some hd → ls[i]? = some l → Rd w 1 hd.1 l.length (ints l)) :
    RdL (w.alloc (.cells (heads hs ls).toArray t)) (some ⟨w.heap.size, 0, none⟩) ls.length ls :=
  ⟨rfl, hs, hl, rd_new w 1 _ _ t (by simp [heads, List.length_zipWith, hl]), fun i hd l a b => (h i hd l a b).keep (Keeps.alloc w _)⟩
theorem rd_lit_at {w : World} {b : Nat} (hb : w.heap.size = b) (l : List Int) (t : TypeId) : Rd (w.alloc (.cells (ints l).toArray t)) 1 (some ⟨b, 0, none⟩) l.length (ints l) := by subst hb; exact rd_lit w l t
theorem rd_lit2_at {w : World} {b : Nat} (hb : w.heap.size = b) (l : List (Int × Int)) (t : TypeId) : Rd (w.alloc (.cells (prs l).toArray t)) 2 (some ⟨b, 0, none⟩) l.length (prs l) := by subst hb; exact rd_lit2 w l t
theorem rdL_lit_at {w : World} {b : Nat} (hb : w.heap.size = b) (hs : List (Option Addr × Nat)) (ls : List (List Int)) (t : TypeId) (hl : hs.length = ls.length) (h : ∀ (i : Nat) (hd : Option Addr × Nat) (l : List Int), hs[i]? = some hd → ls[i]? = some l → Rd w 1 hd.1 l.length (ints l)) :
    RdL (w.alloc (.cells (heads hs ls).toArray t)) (some ⟨b, 0, none⟩) ls.length ls := by subst hb; exact rdL_lit w hs ls t hl h
end Go.Proofs.YtcpkdnhpelkeoaaGreat
