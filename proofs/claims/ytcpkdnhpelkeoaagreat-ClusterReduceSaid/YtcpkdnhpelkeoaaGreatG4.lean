/-
  Small functions of the reference of the graph layer: in, less, point, Has, Degree, Induced.
-/
import Derived.Test.YtcpkdnhpelkeoaaGreatG3
import Derived.Test.YtcpkdnhpelkeoaaGreatW2
namespace Go.Proofs.YtcpkdnhpelkeoaaGreat
set_option linter.unusedVariables false
set_option linter.unusedSimpArgs false
open Go.RowKit Go.Sort

/-- A contract of a function that leaves the world alone, at any world that keeps w's cells. -/
theorem call_r {P : Program} {f : FuncId} {args : Array Value} {w : World} {v : Value}
    (h : ∀ w', Keeps w w' → Calls P f args w' fun e w'' => e = .returned v ∧ w' = w'') :
    ∀ d os, Calls P f args (grow (redrawn w d) os) fun e w'' => e = .returned v ∧ ∃ p : Regrown, w'' = grow (redrawn w p.d) p.os :=
  fun d os => Calls.regrown_of ((h _ (Keeps.grown w d os)).mono fun e w'' hh => ⟨hh.1, by rw [← hh.2]; exact Below.refl _ _⟩)

theorem gvalid_b {b : Bool} (N : Int) (A : Option Addr) (n c : Nat) (es : List (Int × Int)) (w : World) (hn : n ≤ 4611686018427387904) (he : Rd w 2 A n (prs es)) (hb : validB N es = b) :
    Calls Tryz.prog 23 #[.agg #[.int .i64 N, .slice A n c]] w fun e w' => e = .returned (.bool b) ∧ Below w.heap.size w w' := by
  subst hb; exact gvalid_any N A n c es w hn he

theorem contains_b {b : Bool} (A : Option Addr) (n c : Nat) (l : List Int) (x : Int) (w : World) (hn : n ≤ 4611686018427387904) (hr : Rd w 1 A n (ints l)) (hb : decide (x ∈ l) = b) :
    Calls Tryz.prog 43 #[.slice A n c, .int .i64 x] w fun e w' => e = .returned (.bool b) ∧ w = w' := by
  subst hb; exact contains_any A n c l x w hn hr

def lessI (n a : Int) : Int := if a < n then n - 1 else n
def hasE (N : Int) (es : List (Int × Int)) (a b : Int) : Bool := validB N es && pairsB es a b
/-- How many of the first k edges meet a point. -/
def degK (es : List (Int × Int)) (a : Int) (k : Nat) : Int := ((es.take k).countP fun e => e.1 == a || e.2 == a : Nat)
def degE (N : Int) (es : List (Int × Int)) (a : Int) : Int := if validB N es = true then degK es a es.length else 0
theorem degK_step {es : List (Int × Int)} {a : Int} {k : Nat} (hk : k < es.length) {x y : Int} (hxy : es.getD k (0, 0) = (x, y)) : degK es a (k + 1) = degK es a k + if (x == a || y == a) = true then 1 else 0 := by
  unfold degK
  rw [List.take_succ_eq_append_getElem hk, List.countP_append]
  rw [List.getD_eq_getElem?_getD, List.getElem?_eq_getElem hk] at hxy
  simp only [Option.getD_some] at hxy
  rw [hxy]
  simp only [List.countP_cons, List.countP_nil]
  split <;> simp
theorem degK_bd (es : List (Int × Int)) (a : Int) (k : Nat) : 0 ≤ degK es a k ∧ degK es a k ≤ k := by
  unfold degK
  have h1 := List.countP_le_length (p := fun e : Int × Int => e.1 == a || e.2 == a) (l := es.take k)
  have h2 : (es.take k).length ≤ k := List.length_take_le _ _
  omega
end Go.Proofs.YtcpkdnhpelkeoaaGreat
