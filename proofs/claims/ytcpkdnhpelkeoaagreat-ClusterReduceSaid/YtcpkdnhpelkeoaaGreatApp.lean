/-
  'append' onto a slice that the call itself owns, the source nil, empty or not; slices of the call's own, read again.
-/
import Derived.Test.YtcpkdnhpelkeoaaGreatLit
import Derived.Maps.AppendAt
import Derived.OwnWalk
import Derived.RegionTactic
namespace Go.Proofs.YtcpkdnhpelkeoaaGreat
set_option linter.unusedVariables false
set_option linter.unusedSimpArgs false
open Go.RowKit

/-- The block of a slice's address. -/
def blk (A : Option Addr) : Option Nat := A.map (·.block)
theorem ownBlock_slice (A : Option Addr) (n c : Nat) : (Value.slice A n c).ownBlock = blk A := by cases A <;> rfl

/-- The slice value is the call's own (its block from 'base' on) and reads xs. -/
def Own (w : World) (base : Nat) (e : TypeId) (size : Nat) (A : Option Addr) (n c : Nat) (xs : List Value) : Prop := w.ownsRow base e size (.slice A n c) n xs

section
variable {w w' : World} {base size n c : Nat} {e : TypeId} {A : Option Addr} {xs : List Value}
theorem Own.nil (w : World) (base : Nat) (e : TypeId) (size : Nat) : Own w base e size none 0 0 [] := World.ownsRow_nil w base e size
theorem Own.rd (h : Own w base e size A n c xs) : Rd w size A n xs := by
  refine ⟨h.1, fun hn => ?_⟩
  rcases h.2 with ⟨h1, h2⟩ | ⟨g, cap, cur, hv, _⟩
  · omega
  · injection hv with hA
    subst hA
    exact ⟨_, rfl, World.ownsRow.cells h (g := g) rfl⟩
theorem Own.len (h : Own w base e size A n c xs) : xs.length = n * size := h.1
theorem Own.keptBy {row : Option Nat} (h : Own w base e size A n c xs) (hg : w.grownBy w' row) (hne : blk A = none ∨ blk A ≠ row) : Own w' base e size A n c xs :=
  World.ownsRow.kept h hg (by rw [ownBlock_slice]; exact hne)
theorem Own.alloc (h : Own w base e size A n c xs) (o : Obj) : Own (w.alloc o) base e size A n c xs := World.ownsRow.alloc h o
theorem Own.lt (h : Own w base e size A n c xs) {k : Nat} (hk : blk A = some k) : base ≤ k ∧ k < w.heap.size := World.ownsRow.lt h k (by rw [ownBlock_slice]; exact hk)
theorem Own.below {B : Nat} (h : Own w base e size A n c xs) (hb : Below B w w') (hB : ∀ k, blk A = some k → k < B) : Own w' base e size A n c xs := by
  refine ⟨h.1, ?_⟩
  rcases h.2 with h2 | ⟨g, cap, cur, hv, hg, hh, rest⟩
  · exact .inl h2
  · have hA : A = some ⟨g, 0, none⟩ := by injection hv
    exact .inr ⟨g, cap, cur, hv, hg, by rw [hb.block g (hB g (by rw [hA]; rfl))]; exact hh, rest⟩
theorem Own.later (h : Own w base e size A n c xs) (hb : Below w.heap.size w w') : Own w' base e size A n c xs := h.below hb fun k hk => (h.lt hk).2
theorem Own.base_le {base' : Nat} (h : Own w base e size A n c xs) (hb : base' ≤ base) : Own w base' e size A n c xs := by
  refine ⟨h.1, ?_⟩
  rcases h.2 with h2 | ⟨g, cap, cur, hv, hg, rest⟩
  · exact .inl h2
  · exact .inr ⟨g, cap, cur, hv, by omega, rest⟩
theorem Own.of_value {v : Value} (h : w.ownsRow base e size v n xs) : ∃ A c, v = .slice A n c ∧ Own w base e size A n c xs := by
  rcases h.2 with ⟨rfl, rfl⟩ | ⟨g, cap, cur, rfl, _⟩
  · exact ⟨none, 0, rfl, h⟩
  · exact ⟨_, cap, rfl, h⟩
end

section
variable {P : Program} (w : World)

theorem run_app_nil (base : Nat) (t ty e : TypeId) (i : TypeInfo) (size : Nat) (ht : P.underlying t = some (.slice e)) (hi : P.info? e = some i)
    (A : Option Addr) (n c : Nat) (xs : List Value) (hown : Own w base e size A n c xs) (d : Nat) : (Builtin.append_ #[t, t] ty #[.slice A n c, .slice none 0 d]).run P w = .ok (.slice A n c) w := by
  rcases hown.2 with ⟨h1, rfl⟩ | ⟨g, cap, cur, h1, _, _, hnc, _⟩
  · injection h1 with h1 _ h3
    subst h1 h3
    simp [Builtin.append_, run_underlying ht, sizeOf, typeInfo, hi, Builtin.lenOf, Builtin.firstCells]
  · injection h1 with h1 _ h3
    subst h1 h3
    simp [Builtin.append_, run_underlying ht, sizeOf, typeInfo, hi, Builtin.lenOf, Builtin.firstCells, hnc, storeCells]

theorem run_app (base : Nat) (t ty e : TypeId) (z : Value) (size bytes : Nat) (ht : P.underlying t = some (.slice e)) (hinfo : (P.info? e).map (fun i => (i.zero, i.size, i.bytes)) = some (some z, size, bytes))
    (hzs : z.cells.size = size) (hsz : 0 < size) (A : Option Addr) (n c : Nat) (xs : List Value) (hown : Own w base e size A n c xs)
    (B : Option Addr) (m d : Nat) (news : List Value) (hr : Rd w size B m news) (h1 : ∀ u ∈ news, u.oneCell' = true)
    (hbytes : (n + m) * bytes ≤ 140737488355328) (h63 : n + m ≤ maxLen) (hbase : base ≤ w.heap.size) :
    ∃ A' c' w', (Builtin.append_ #[t, t] ty #[.slice A n c, .slice B m d]).run P w = .ok (.slice A' (n + m) c') w' ∧ Own w' base e size A' (n + m) c' (xs ++ news) ∧ w.grownBy w' (blk A) ∧ (blk A' = blk A ∨ blk A' = some w.heap.size) := by
  obtain ⟨i, hi, hzz⟩ := Option.map_eq_some_iff.1 hinfo
  simp only [Prod.mk.injEq] at hzz
  obtain ⟨hz, hs, hb⟩ := hzz
  cases B with
  | none =>
    have hm : m = 0 := by
      rcases Nat.eq_zero_or_pos m with h | h
      · exact h
      · obtain ⟨ad, h', _⟩ := hr.2 h; cases h'
    subst hm
    have hn : news = [] := List.eq_nil_of_length_eq_zero (by simpa using hr.1)
    subst hn
    exact ⟨A, c, w, run_app_nil w base t ty e i size ht hi A n c xs hown d, by simpa using hown, World.grownBy.refl w _, .inl rfl⟩
  | some ad =>
    have hcells : ∀ j u, news[j]? = some u → w.cell? (ad.add j) = some u := by
      intro j u hu
      rcases Nat.eq_zero_or_pos m with h | h
      · subst h
        have hn : news = [] := List.eq_nil_of_length_eq_zero (by simpa using hr.1)
        subst hn
        simp at hu
      · obtain ⟨ad', h', hc⟩ := hr.2 h
        injection h' with h'
        subst h'
        exact hc j u hu
    obtain ⟨v', w', hrun, h2, h3, _, h5⟩ := run_append_own_at (P := P) w base t ty e i z size bytes ht hi hz hs hb hzs hsz (.slice A n c) n xs hown ad m d news hr.1 hcells h1 h63 hbytes hbase
    obtain ⟨A', c', rfl, ho⟩ := Own.of_value h2
    rw [ownBlock_slice] at h3 h5
    rw [ownBlock_slice] at h5
    exact ⟨A', c', w', hrun, ho, h3, h5⟩

theorem wp_app {o : Oper} {a : Act} {K : Act → World → Prop} {Q : Exit → Act → World → Prop} (s x : Operand) (t : TypeId)
    (ho : o.op = .call { callee := .builtin .append, args := #[s, x], argTypes := #[t, t] })
    (base : Nat) (e : TypeId) (z : Value) (size bytes : Nat) (ht : P.underlying t = some (.slice e)) (hinfo : (P.info? e).map (fun i => (i.zero, i.size, i.bytes)) = some (some z, size, bytes))
    (hzs : z.cells.size = size) (hsz : 0 < size) (A : Option Addr) (n c : Nat) (xs : List Value) (hs : a.eval s = .slice A n c) (hown : Own w base e size A n c xs)
    (B : Option Addr) (m d : Nat) (news : List Value) (hx : a.eval x = .slice B m d) (hr : Rd w size B m news) (h1 : ∀ u ∈ news, u.oneCell' = true)
    (hbytes : (n + m) * bytes ≤ 140737488355328) (h63 : n + m ≤ maxLen) (hbase : base ≤ w.heap.size)
    (h : ∀ A' c' w', Own w' base e size A' (n + m) c' (xs ++ news) → w.grownBy w' (blk A) → (blk A' = blk A ∨ blk A' = some w.heap.size) → K (a.put o.dst (.slice A' (n + m) c')) w') : o.wp P a w K Q := by
  obtain ⟨A', c', w', hrun, h2, h3, h4⟩ := run_app (P := P) w base t o.type e z size bytes ht hinfo hzs hsz A n c xs hown B m d news hr h1 hbytes h63 hbase
  unfold Oper.wp execOp
  simp only [ho, resolve, invoke, builtin, Sem.run_bind, Sem.run_pure, Result.andThen_ok, List.map_toArray, List.map_cons, List.map_nil, hs, hx, hrun]
  exact h A' c' w' h2 h3 h4

theorem wpList_app {ops : Array Oper} {rest : List Oper} {o : Oper} {a : Act} {Q : Exit → Act → World → Prop} (hgd : o.guard = none) (s x : Operand) (t : TypeId)
    (ho : o.op = .call { callee := .builtin .append, args := #[s, x], argTypes := #[t, t] })
    (base : Nat) (e : TypeId) (z : Value) (size bytes : Nat) (ht : P.underlying t = some (.slice e)) (hinfo : (P.info? e).map (fun i => (i.zero, i.size, i.bytes)) = some (some z, size, bytes))
    (hzs : z.cells.size = size) (hsz : 0 < size) (A : Option Addr) (n c : Nat) (xs : List Value) (hs : a.eval s = .slice A n c) (hown : Own w base e size A n c xs)
    (B : Option Addr) (m d : Nat) (news : List Value) (hx : a.eval x = .slice B m d) (hr : Rd w size B m news) (h1 : ∀ u ∈ news, u.oneCell' = true)
    (hbytes : (n + m) * bytes ≤ 140737488355328) (h63 : n + m ≤ maxLen) (hbase : base ≤ w.heap.size)
    (h : ∀ A' c' w', Own w' base e size A' (n + m) c' (xs ++ news) → w.grownBy w' (blk A) → (blk A' = blk A ∨ blk A' = some w.heap.size) → wpList P ops Q rest (a.put o.dst (.slice A' (n + m) c')) w') : wpList P ops Q (o :: rest) a w :=
  wpList_plain hgd fun _ hK => wp_app w s x t ho base e z size bytes ht hinfo hzs hsz A n c xs hs hown B m d news hx hr h1 hbytes h63 hbase fun A' c' w' h2 h3 h4 => hK _ _ (h A' c' w' h2 h3 h4)
end

theorem ints_one (l : List Int) : ∀ u ∈ ints l, u.oneCell' = true := by
  intro u hu
  obtain ⟨x, -, rfl⟩ := List.mem_map.1 hu
  rfl
theorem prs_one (l : List (Int × Int)) : ∀ u ∈ prs l, u.oneCell' = true := by
  intro u hu
  obtain ⟨x, -, hx⟩ := List.mem_flatMap.1 hu
  simp at hx
  rcases hx with rfl | rfl <;> rfl
theorem ints_app (a b : List Int) : ints (a ++ b) = ints a ++ ints b := by simp [ints]
theorem prs_app (a b : List (Int × Int)) : prs (a ++ b) = prs a ++ prs b := by simp [prs]
theorem Below.app {B : Nat} {a w w' : World} {A : Option Addr} (h : Below B a w) (hg : w.grownBy w' (blk A)) (hB : B ≤ w.heap.size) (hr : ∀ k, blk A = some k → B ≤ k) : Below B a w' := h.grown hg hB hr
theorem own_empty (w : World) (e : TypeId) (size : Nat) : Own (w.alloc (.cells #[] e)) w.heap.size e size (some ⟨w.heap.size, 0, none⟩) 0 0 [] :=
  World.ownsRow_made w #[] 0 (Nat.le_refl _) (by simp [maxLen]) (by simp)
theorem own_empty_at {w : World} {b : Nat} (hb : w.heap.size = b) (e : TypeId) (size : Nat) : Own (w.alloc (.cells #[] e)) b e size (some ⟨b, 0, none⟩) 0 0 [] := by subst hb; exact own_empty w e size
theorem Own.some_ {w : World} {base size n c : Nat} {e : TypeId} {A : Option Addr} {xs : List Value} (h : Own w base e size A n c xs) (hn : 0 < n) : ∃ g, A = some ⟨g, 0, none⟩ ∧ base ≤ g ∧ g < w.heap.size := by
  rcases h.2 with ⟨_, h2⟩ | ⟨g, cap, cur, hv, hg, hh, _⟩
  · omega
  · have hA : A = some ⟨g, 0, none⟩ := by injection hv
    exact ⟨g, hA, (h.lt (by rw [hA]; rfl)).1, (h.lt (by rw [hA]; rfl)).2⟩
theorem Own.cell {w : World} {base g n c : Nat} {e : TypeId} {l : List Int} (h : Own w base e 1 (some ⟨g, 0, none⟩) n c (ints l)) {j : Nat} (hj : j < n) : w.cell? ⟨g, j, none⟩ = some (.int .i64 (l.getD j 0)) := by
  have hl := h.len
  rw [ints_length] at hl
  rw [World.ownsRow.cellAt h j (by omega), ints_at l j (by omega)]
theorem Own.frozen {w : World} {base g n c : Nat} {e : TypeId} {xs : List Value} {size : Nat} (h : Own w base e size (some ⟨g, 0, none⟩) n c xs) (j : Nat) : w.frozen? ⟨g, j, none⟩ = false := World.ownsRow.frozenAt h j
theorem Own.store {w : World} {base g n c : Nat} {e : TypeId} {l : List Int} (h : Own w base e 1 (some ⟨g, 0, none⟩) n c (ints l)) (j : Nat) (x : Int) : Own (w.setCell ⟨g, j, none⟩ (.int .i64 x)) base e 1 (some ⟨g, 0, none⟩) n c (ints (l.set j x)) := by
  have := (World.ownsRow.stored h j (.int .i64 x)).1
  have e1 : ints (l.set j x) = (ints l).set j (.int .i64 x) := by unfold ints; rw [List.map_set]
  unfold Own
  rw [e1]; exact this
theorem Own.cap {w : World} {base size n c : Nat} {e : TypeId} {A : Option Addr} {xs : List Value} (h : Own w base e size A n c xs) : n ≤ c := by
  rcases h.2 with ⟨hv, h2⟩ | ⟨g, cap, cur, hv, _, _, hc, _⟩
  · omega
  · injection hv with _ _ h3
    omega

/-- Two slices of the call's own do not share a block. -/
def Apart (A B : Option Addr) : Prop := blk A = none ∨ blk A ≠ blk B
theorem Apart.symm {A B : Option Addr} (h : Apart A B) : Apart B A := by
  rcases h with h | h
  · cases hb : blk B with
    | none => exact .inl hb
    | some k => exact .inr (by rw [hb, h]; simp)
  · exact .inr (fun e => h e.symm)
theorem Apart.step {A B A' : Option Addr} {S : Nat} (h : Apart A B) (h2 : blk A' = blk A ∨ blk A' = some S) (hB : ∀ k, blk B = some k → k < S) : Apart A' B := by
  rcases h2 with e | e
  · unfold Apart at *; rw [e]; exact h
  · refine .inr (fun h' => ?_)
    rw [e] at h'
    have := hB S h'.symm
    omega
theorem Own.apart {w w' : World} {base size n c : Nat} {e : TypeId} {A B : Option Addr} {xs : List Value} (h : Own w base e size A n c xs) (hg : w.grownBy w' (blk B)) (ha : Apart A B) : Own w' base e size A n c xs := h.keptBy hg ha
end Go.Proofs.YtcpkdnhpelkeoaaGreat
