/-
  Plain functions: what the Go functions of the graph layer answer, said of lists. No program stands in this text.
-/
namespace Go.Proofs.YtcpkdnhpelkeoaaGreat
set_option linter.unusedVariables false
set_option linter.unusedSimpArgs false

def hasB (n k : Int) : Bool := decide (0 ≤ k) && decide (k < n)
/-- (a, b) comes before (c, d). -/
def befB (a b c d : Int) : Bool := decide (a < c) || (decide (a = c) && decide (b < d))
def cmpI (a b : Int) : Int := if a < b then -1 else if b < a then 1 else 0
def orI (a b : Int) : Int := if a = 0 then b else a
def cmpE (a b c d : Int) : Int := orI (cmpI a c) (cmpI b d)

theorem cmpE_ge (a b c d : Int) : decide (0 ≤ cmpE a b c d) = !befB a b c d := by
  unfold cmpE orI cmpI befB
  grind

def EAt (es : List (Int × Int)) (k : Nat) : Int × Int := es.getD k (0, 0)
/-- Edge number k is fit, and comes behind the one before it. -/
def okAt (N : Int) (es : List (Int × Int)) (k : Nat) : Bool :=
  decide (0 ≤ (EAt es k).1) && decide ((EAt es k).1 < (EAt es k).2) && decide ((EAt es k).2 < N) && (decide (k = 0) || befB (EAt es (k - 1)).1 (EAt es (k - 1)).2 (EAt es k).1 (EAt es k).2)
def validB (N : Int) (es : List (Int × Int)) : Bool := decide (0 ≤ N) && decide (N ≤ 60) && (List.range es.length).all (okAt N es)

theorem okAt_x {N : Int} {es : List (Int × Int)} {k : Nat} {x y : Int} (hx : (es.getD k (0, 0)).1 = x) (hy : (es.getD k (0, 0)).2 = y) :
    okAt N es k = (decide (0 ≤ x) && decide (x < y) && decide (y < N) && (decide (k = 0) || befB (es.getD (k - 1) (0, 0)).1 (es.getD (k - 1) (0, 0)).2 x y)) := by
  subst hx hy; rfl
theorem okAt_pq {N : Int} {es : List (Int × Int)} {k : Nat} {x y p q : Int} {b : Bool} (hx : (es.getD k (0, 0)).1 = x) (hy : (es.getD k (0, 0)).2 = y) (hp : (es.getD (k - 1) (0, 0)).1 = p) (hq : (es.getD (k - 1) (0, 0)).2 = q)
    (hb : befB p q x y = b) (h1 : ¬ x < 0) (h2 : ¬ y ≤ x) (h3 : ¬ N ≤ y) (hk : ¬ k = 0) : okAt N es k = b := by
  rw [okAt_x hx hy, hp, hq, hb]
  simp [hk, (by omega : 0 ≤ x), (by omega : x < y), (by omega : y < N)]
theorem validB_no (N : Int) (es : List (Int × Int)) (k : Nat) (hk : k < es.length) (h : okAt N es k = false) : validB N es = false := by
  unfold validB
  have : (List.range es.length).all (okAt N es) = false := by
    rw [List.all_eq_false]; exact ⟨k, by simpa using hk, by simp [h]⟩
  simp [this]
theorem okAt_no {N : Int} {es : List (Int × Int)} {k : Nat} {x y : Int} (hx : (es.getD k (0, 0)).1 = x) (hy : (es.getD k (0, 0)).2 = y) (h : x < 0 ∨ y ≤ x ∨ N ≤ y) : okAt N es k = false := by
  rw [okAt_x hx hy]
  rcases h with h | h | h
  · rw [decide_eq_false (by omega : ¬ 0 ≤ x)]; simp
  · rw [decide_eq_false (by omega : ¬ x < y)]; simp
  · rw [decide_eq_false (by omega : ¬ y < N)]; simp
theorem okAt_zero {N : Int} {es : List (Int × Int)} {k : Nat} {x y : Int} (hx : (es.getD k (0, 0)).1 = x) (hy : (es.getD k (0, 0)).2 = y) (h1 : ¬ x < 0) (h2 : ¬ y ≤ x) (h3 : ¬ N ≤ y) (hk : k = 0) : okAt N es k = true := by
  rw [okAt_x hx hy]
  simp [hk, (by omega : 0 ≤ x), (by omega : x < y), (by omega : y < N)]
theorem okAt_step {N : Int} {es : List (Int × Int)} {k : Nat} (h : ∀ j, j < k → okAt N es j = true) (hk : okAt N es k = true) : ∀ j, j < k + 1 → okAt N es j = true := fun j hj => by
  by_cases e : j = k
  · rw [e]; exact hk
  · exact h j (by omega)
theorem hasB_yes {n k : Int} (h0 : 0 ≤ k) (h1 : k < n) : hasB n k = true := by simp [hasB, h0, h1]
theorem hasB_no {n k : Int} (h : k < 0 ∨ n ≤ k) : hasB n k = false := by
  unfold hasB
  rcases h with h | h
  · rw [decide_eq_false (by omega : ¬ 0 ≤ k)]; rfl
  · rw [decide_eq_false (by omega : ¬ k < n)]; simp
theorem befB_of {p q x y z : Int} (hz : cmpE p q x y = z) : befB p q x y = !decide (0 ≤ z) := by rw [← hz, cmpE_ge]; simp
theorem validB_yes (N : Int) (es : List (Int × Int)) (h0 : 0 ≤ N) (h1 : N ≤ 60) (h : ∀ j, j < es.length → okAt N es j = true) : validB N es = true := by
  unfold validB
  simp only [h0, h1, decide_true, Bool.true_and, List.all_eq_true, List.mem_range]
  exact h
theorem validB_out (N : Int) (es : List (Int × Int)) (h : N < 0 ∨ 60 < N) : validB N es = false := by
  unfold validB
  rcases h with h | h
  · rw [decide_eq_false (by omega : ¬ 0 ≤ N)]; rfl
  · rw [decide_eq_false (by omega : ¬ N ≤ 60)]; simp
theorem validB_iff (N : Int) (es : List (Int × Int)) : validB N es = true ↔ 0 ≤ N ∧ N ≤ 60 ∧ ∀ j, j < es.length → okAt N es j = true := by
  unfold validB
  simp [and_assoc]

def shortB (ls : List (List Int)) : Bool := ls.all (fun l => decide (l.length ≤ 120)) && decide ((ls.length : Int) ≤ 100)
theorem shortB_no (ls : List (List Int)) (k : Nat) (hk : k < ls.length) (h : 120 < (ls.getD k []).length) : shortB ls = false := by
  unfold shortB
  have : ls.all (fun l => decide (l.length ≤ 120)) = false := by
    rw [List.all_eq_false]
    refine ⟨ls[k], List.getElem_mem hk, ?_⟩
    rw [List.getD_eq_getElem?_getD, List.getElem?_eq_getElem hk] at h
    simpa using h
  simp [this]
theorem shortB_yes (ls : List (List Int)) (h : ∀ j, j < ls.length → (ls.getD j []).length ≤ 120) : shortB ls = decide ((ls.length : Int) ≤ 100) := by
  unfold shortB
  have : ls.all (fun l => decide (l.length ≤ 120)) = true := by
    rw [List.all_eq_true]
    intro x hx
    obtain ⟨k, hk, rfl⟩ := List.getElem_of_mem hx
    have := h k hk
    rw [List.getD_eq_getElem?_getD, List.getElem?_eq_getElem hk] at this
    simpa using this
  simp [this]
def IsMax (l : List Int) (m : Int) : Prop := m ∈ l ∧ ∀ x, x ∈ l → x ≤ m
theorem mem_getD {l : List Int} {k : Nat} (h : k < l.length) : l.getD k 0 ∈ l := by
  rw [List.getD_eq_getElem?_getD, List.getElem?_eq_getElem h]; exact List.getElem_mem h
theorem getD_of_mem {l : List Int} {x : Int} (h : x ∈ l) : ∃ k, k < l.length ∧ l.getD k 0 = x := by
  obtain ⟨k, hk, rfl⟩ := List.getElem_of_mem h
  exact ⟨k, hk, by rw [List.getD_eq_getElem?_getD, List.getElem?_eq_getElem hk]; rfl⟩

end Go.Proofs.YtcpkdnhpelkeoaaGreat
