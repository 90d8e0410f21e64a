/-
  Small functions of the reference of the graph layer: in, less, point, Has, Degree, Induced.
-/
import Derived.Test.YtagcaljpgifppaaG3
import Derived.Test.YtagcaljpgifppaaW2
namespace Go.Proofs.Ytagcaljpgifppaa
set_option linter.unusedVariables false
set_option linter.unusedSimpArgs false
open Go.RowKit Go.Sort

/-- A contract of a function that leaves the world alone, at any world that keeps w's cells. -/
theorem call_r {P : Program} {f : FuncId} {args : Array Value} {w : World} {v : Value}
    (h : ∀ w', Keeps w w' → Calls P f args w' fun e w'' => e = .returned v ∧ w' = w'') :
    ∀ d os, Calls P f args (grow (redrawn w d) os) fun e w'' => e = .returned v ∧ ∃ p : Regrown, w'' = grow (redrawn w p.d) p.os :=
  fun d os => Calls.regrown_of ((h _ (Keeps.grown w d os)).mono fun e w'' hh => ⟨hh.1, by rw [← hh.2]; exact Below.refl _ _⟩)

theorem rvalid_b {b : Bool} (N : Int) (A : Option Addr) (n c : Nat) (es : List (Int × Int)) (w : World) (hn : n ≤ 4611686018427387904) (he : Rd w 2 A n (prs es)) (hb : validB N es = b) :
    Calls Try.prog 17 #[.agg #[.int .i64 N, .slice A n c]] w fun e w' => e = .returned (.bool b) ∧ Below w.heap.size w w' := by
  subst hb; exact rvalid_any N A n c es w hn he
theorem gvalid_b {b : Bool} (N : Int) (A : Option Addr) (n c : Nat) (es : List (Int × Int)) (w : World) (hn : n ≤ 4611686018427387904) (he : Rd w 2 A n (prs es)) (hb : validB N es = b) :
    Calls Try.prog 60 #[.agg #[.int .i64 N, .slice A n c]] w fun e w' => e = .returned (.bool b) ∧ Below w.heap.size w w' := by
  subst hb; exact gvalid_any N A n c es w hn he

theorem contains_b {b : Bool} (A : Option Addr) (n c : Nat) (l : List Int) (x : Int) (w : World) (hn : n ≤ 4611686018427387904) (hr : Rd w 1 A n (ints l)) (hb : decide (x ∈ l) = b) :
    Calls Try.prog 127 #[.slice A n c, .int .i64 x] w fun e w' => e = .returned (.bool b) ∧ w = w' := by
  subst hb; exact contains_any A n c l x w hn hr

def lessI (n a : Int) : Int := if a < n then n - 1 else n
set_option maxHeartbeats 400000 in
theorem point_any (N : Int) (A : Option Addr) (n c : Nat) (k : Int) (w : World) :
    Calls Try.prog 111 #[.agg #[.int .i64 N, .slice A n c], .int .i64 k] w fun e w' => e = .returned (.bool (hasB N k)) ∧ Below w.heap.size w w' := by
  by_cases h : 0 ≤ k
  · by_cases h2 : k < N
    · rw [hasB_yes h h2]
      go_enter Try.func111, Try.ntmps111
      go_wp2
      go_ret
      exact ⟨rfl, (Below.refl _ _).alloc (Nat.le_refl _) _⟩
    · rw [hasB_no (.inr (by omega))]
      go_enter Try.func111, Try.ntmps111
      go_wp2
      go_ret
      exact ⟨ret_bool (by simp [h2]), (Below.refl _ _).alloc (Nat.le_refl _) _⟩
  · rw [hasB_no (.inl (by omega))]
    have hd : decide (0 ≤ k) = false := by simpa using h
    go_enter Try.func111, Try.ntmps111
    go_wp2
    go_ret
    exact ⟨rfl, (Below.refl _ _).alloc (Nat.le_refl _) _⟩

def hasE (N : Int) (es : List (Int × Int)) (a b : Int) : Bool := validB N es && pairsB es a b
set_option maxHeartbeats 4000000 in
theorem rhas_any (N : Int) (A : Option Addr) (n c : Nat) (es : List (Int × Int)) (a b : Int) (w : World) (hn : n ≤ 4611686018427387904) (he : Rd w 2 A n (prs es)) :
    Calls Try.prog 112 #[.agg #[.int .i64 N, .slice A n c], .int .i64 a, .int .i64 b] w fun e w' => e = .returned (.bool (hasE N es a b)) ∧ Below w.heap.size w w' := by
  have HE := Lib.hid he.prs_len
  have H1 := Lib.hid (he.keep (Keeps.alloc w (.cells #[.int .i64 N, .slice A n c] 24)))
  clear he
  generalize hv : validB N es = v
  have HV := Lib.hid hv
  clear hv
  go_enter Try.func112, Try.ntmps112
  go_wp2
  go_loopw [7] (fun i wr => Below (w.heap.size + 1) (w.alloc (.cells #[.int .i64 N, .slice A n c] 24)) wr ∧ ∃ k : Nat, k ≤ n ∧ i = .int .i64 k ∧ ∀ j, j < k → ((es.getD j (0, 0)).1 == a && (es.getD j (0, 0)).2 == b || (es.getD j (0, 0)).1 == b && (es.getD j (0, 0)).2 == a) = false) (fun i _ => n - (intOf i).toNat)
  case atStart => exact ⟨Below.refl _ _, 0, Nat.zero_le _, rfl, by omega⟩
  case round =>
    obtain ⟨hb, k, hk, rfl, hok⟩ := hrel
    have HOK := Lib.hid hok
    have g0 : wr.cell? ⟨w.heap.size, 0, none⟩ = some (.int .i64 N) := by rw [hb.cell (by simp)]; simp
    have g1 : wr.cell? ⟨w.heap.size, 1, none⟩ = some (.slice A n c) := by rw [hb.cell (by simp)]; simp
    have gs : w.heap.size < wr.heap.size := by have := hb.size; simp at this; omega
    have HB := Lib.hid hb
    have RD := Lib.hid (H1.out.keep (Keeps.of_below hb (by simp)))
    clear hok hb
    have hfin : Hid (Below w.heap.size w wr) := ((Below.refl _ _).alloc (Nat.le_refl _) _).trans (HB.out.mono (by omega))
    by_cases hlt : k < n
    · obtain ⟨ad, rfl, c0, c1⟩ := RD.out.prs_at hlt
      generalize hxy : es.getD k (0, 0) = xy at c0 c1
      obtain ⟨x, y⟩ := xy
      simp only at c0 c1
      have HXY := Lib.hid hxy
      have RD2 := Lib.hid (RD.out.keep (Keeps.alloc wr (.cells #[.int .i64 x, .int .i64 y] 42)))
      clear hxy
      cases h1 : (x == a) <;> cases h2 : (y == b) <;> cases h3 : (x == b) <;> cases h4 : (y == a)
      all_goals go_wp2_with (go_at_call 17; refine (rvalid_b (b := v) N _ n c es _ hn RD2.out HV.out).mono ?_; rintro e w1 ⟨rfl, hb1⟩)
      all_goals first
        | (go_ret
           refine ⟨ret_bool ?_, (hfin.out.alloc (by omega) _).trans (hb1.mono (by simp; omega))⟩
           unfold hasE
           rw [HV.out, pairsB_hit es a b k (by rw [HE.out]; exact hlt) x y HXY.out (by rw [h1, h2, h3, h4]; rfl), Bool.and_true])
        | (go_roundw
           case rel => exact ⟨HB.out.alloc (by omega) _, k + 1, by omega, by go_num, fun j hj => by
             by_cases e : j = k
             · subst e; rw [HXY.out]; show (x == a && y == b || x == b && y == a) = false; rw [h1, h2, h3, h4]; rfl
             · exact HOK.out j (by omega)⟩
           case measure => simp [intOf]; omega)
    · go_wp2
      go_ret
      exact ⟨ret_bool (by unfold hasE; rw [pairsB_miss es a b (fun j hj => HOK.out j (by have := HE.out; omega)), Bool.and_false]), hfin.out⟩
theorem rhas_b {r : Bool} (N : Int) (A : Option Addr) (n c : Nat) (es : List (Int × Int)) (a b : Int) (w : World) (hn : n ≤ 4611686018427387904) (he : Rd w 2 A n (prs es)) (hb : hasE N es a b = r) :
    Calls Try.prog 112 #[.agg #[.int .i64 N, .slice A n c], .int .i64 a, .int .i64 b] w fun e w' => e = .returned (.bool r) ∧ Below w.heap.size w w' := by
  subst hb; exact rhas_any N A n c es a b w hn he

/-- How many of the first k edges meet a point. -/
def degK (es : List (Int × Int)) (a : Int) (k : Nat) : Int := ((es.take k).countP fun e => e.1 == a || e.2 == a : Nat)
def degE (N : Int) (es : List (Int × Int)) (a : Int) : Int := if validB N es = true then degK es a es.length else 0
theorem degK_step {es : List (Int × Int)} {a : Int} {k : Nat} (hk : k < es.length) {x y : Int} (hxy : es.getD k (0, 0) = (x, y)) : degK es a (k + 1) = degK es a k + if (x == a || y == a) = true then 1 else 0 := by
  unfold degK
  rw [List.take_succ_eq_append_getElem hk, List.countP_append]
  rw [List.getD_eq_getElem?_getD, List.getElem?_eq_getElem hk] at hxy
  simp only [Option.getD_some] at hxy
  rw [hxy]
  simp only [List.countP_cons, List.countP_nil]
  split <;> simp
theorem degK_bd (es : List (Int × Int)) (a : Int) (k : Nat) : 0 ≤ degK es a k ∧ degK es a k ≤ k := by
  unfold degK
  have h1 := List.countP_le_length (p := fun e : Int × Int => e.1 == a || e.2 == a) (l := es.take k)
  have h2 : (es.take k).length ≤ k := List.length_take_le _ _
  omega
end Go.Proofs.Ytagcaljpgifppaa
