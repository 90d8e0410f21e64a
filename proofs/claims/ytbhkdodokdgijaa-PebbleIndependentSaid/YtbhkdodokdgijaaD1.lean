/-
  slices.Delete of one element, at numbers and at pairs: on a list that the call itself made.
-/
import Derived.Test.YtbhkdodokdgijaaOwnP
import Derived.Deep.RegionLaw
import Derived.Deep.DrawnRows
import Derived.Outline
namespace Go.Proofs.Ytbhkdodokdgijaa
set_option linter.unusedVariables false
set_option linter.unusedSimpArgs false
open Go.RowKit Go.Sort

attribute [local go_sem ↓] Go.wp_at_zero Go.wp_at_succ
theorem Own.set_cells {base g n c size : Nat} {e : TypeId} : ∀ (vs : List Value) (o : Nat) {w : World} {xs : List Value}, Own w base e size (some ⟨g, 0, none⟩) n c xs → o + vs.length ≤ xs.length →
    Own (w.setCells g o vs) base e size (some ⟨g, 0, none⟩) n c (xs.take o ++ vs ++ xs.drop (o + vs.length)) ∧ w.grownBy (w.setCells g o vs) (some g)
  | [], o, w, xs, h, _ => by
    refine ⟨?_, World.grownBy.refl _ _⟩
    have : xs.take o ++ [] ++ xs.drop (o + ([] : List Value).length) = xs := by simp
    rw [this]; exact h
  | v :: vs, o, w, xs, h, hl => by
    obtain ⟨h1, g1⟩ := World.ownsRow.stored h o v
    simp only [List.length_cons] at hl
    obtain ⟨h2, g2⟩ := Own.set_cells vs (o + 1) h1 (by rw [List.length_set]; omega)
    refine ⟨?_, g1.trans g2⟩
    have e1 : (xs.set o v).take (o + 1) ++ vs ++ (xs.set o v).drop (o + 1 + vs.length) = xs.take o ++ (v :: vs) ++ xs.drop (o + (v :: vs).length) := by
      have ho : o < xs.length := by omega
      rw [List.take_succ_eq_append_getElem (by rw [List.length_set]; exact ho), List.take_set_of_le (Nat.le_refl _), List.getElem_set_self, List.drop_set, if_pos (by omega), List.length_cons, show o + 1 + vs.length = o + (vs.length + 1) by omega]
      simp
    rw [e1] at h2
    exact h2
theorem erase_take (xs : List Value) (o k : Nat) (h : o + k ≤ xs.length) : (xs.take o ++ xs.drop (o + k) ++ xs.drop (o + (xs.drop (o + k)).length)).take (xs.length - k) = xs.take o ++ xs.drop (o + k) := by
  rw [List.take_append_of_le_length (by simp; omega)]
  exact List.take_of_length_le (by simp; omega)
theorem ints_erase (l : List Int) (i : Nat) : ints (l.eraseIdx i) = (ints l).take i ++ (ints l).drop (i + 1) := by
  rw [List.eraseIdx_eq_take_drop_succ, ints_app]; simp [ints, List.map_take, List.map_drop]
theorem prs_drop (l : List (Int × Int)) (k : Nat) : (prs l).drop (k * 2) = prs (l.drop k) := by
  induction l generalizing k with
  | nil => simp [prs]
  | cons e l ih =>
    cases k with
    | zero => simp [prs]
    | succ k =>
      have := ih k
      simp only [prs, List.flatMap_cons, List.drop_succ_cons] at this ⊢
      rw [show (k + 1) * 2 = k * 2 + 1 + 1 by omega]
      simp only [List.cons_append, List.nil_append, List.drop_succ_cons]
      rw [this]
theorem prs_erase (l : List (Int × Int)) (i : Nat) : prs (l.eraseIdx i) = (prs l).take (i * 2) ++ (prs l).drop (i * 2 + 2) := by
  rw [List.eraseIdx_eq_take_drop_succ, prs_app, prs_take, show i * 2 + 2 = (i + 1) * 2 by omega, prs_drop]
theorem clear_ints {w : World} {base g n c : Nat} {xs : List Value} (h : Own w base 3 1 (some ⟨g, 0, none⟩) n c xs) (k m d : Nat) (hm : 0 < m) (hkm : k + m = n) :
    ∃ w', (∀ ty, (Builtin.clear_ #[27] ty #[.slice (some ⟨g, k, none⟩) m d]).run Try.prog w = .ok (.tuple #[]) w') ∧ Own w' base 3 1 (some ⟨g, 0, none⟩) k c (xs.take k) ∧ w.grownBy w' (some g) := by
  have hl := h.len
  have hz : ∀ w, (zeroValue 3).run Try.prog w = .ok (.int .i64 0) w := fun w => by kernel_rfl
  have hzl : (Builtin.zeroCells (Value.int .i64 0).cells m).toList.length = m := by simp [Builtin.zeroCells, Value.cells]
  have hz1 : ∀ v ∈ (Builtin.zeroCells (Value.int .i64 0).cells m).toList, v.oneCell' = true := by
    intro v hv
    simp [Builtin.zeroCells, Value.cells] at hv
    obtain ⟨i, -, rfl⟩ := hv
    rw [Nat.mod_one]; rfl
  obtain ⟨xs', h1, h2, h3⟩ := Own.set_many (Builtin.zeroCells (Value.int .i64 0).cells m).toList k h
  refine ⟨_, fun ty => ?_, ?_, h3⟩
  · have hst := run_storeCells_cells (P := Try.prog) g k (Builtin.zeroCells (Value.int .i64 0).cells m).toList 0 w
      (fun j hj => by
        rw [hzl] at hj
        rw [World.ownsRow.cellAt h (k + 0 + j) (by omega), List.getElem?_eq_getElem (by omega)]; rfl)
      (fun j _ => h.frozen _) hz1
    simp only [Nat.add_zero] at hst
    obtain ⟨q, rfl⟩ : ∃ q, m = q + 1 := ⟨m - 1, by omega⟩
    simp [Builtin.clear_, run_underlying Try.underlying27, hz, hst]
  · have := h1.shrink (k := k) (by omega) (by simp)
    rw [Nat.mul_one, h2] at this
    exact this


/-- 'append(s[:i], s[i+1:]...)' as one step of a region that draws, s the call's own. -/
theorem step_erase {P : Program} {ops : Array Oper} {o : Oper} {a : Act} {w : World} {K : Act → World → Prop} {Q : Exit → Act → World → Prop} {E : Prop}
    (hgd : o.guard = none) (s x : Operand) (t : TypeId) (hop : o.op = Op.call { callee := Callee.builtin Builtin.append, args := #[s, x], argTypes := #[t, t] })
    (e : TypeId) (z : Value) (size bytes : Nat) (h1 : P.underlying t = some (.slice e)) (hinfo : (P.info? e).map (fun i => (i.zero, i.size, i.bytes)) = some (some z, size, bytes))
    (g n c i base : Nat) (xs : List Value) (ho : Own w base e size (some ⟨g, 0, none⟩) n c xs) (hi : i < n) (h1c : ∀ u ∈ xs, u.oneCell' = true)
    (hs : a.eval s = .slice (some ⟨g, 0, none⟩) i c) (hx : a.eval x = .slice (if c = i + 1 then some ⟨g, 0, none⟩ else some ⟨g, (i + 1) * size, none⟩) (n - (i + 1)) (c - (i + 1)))
    (hK : ∀ w', Own w' base e size (some ⟨g, 0, none⟩) n c (xs.take (i * size) ++ xs.drop ((i + 1) * size) ++ xs.drop (i * size + (xs.drop ((i + 1) * size)).length)) → w.grownBy w' (some g) → K (a.put o.dst (.slice (some ⟨g, 0, none⟩) (i + (n - (i + 1))) c)) w') :
    if Region.wanted o (yielded ops a.tmps) = true then Oper.wp P o a w K Q else E := by
  obtain ⟨ti, hti, -, htz, -⟩ := info_parts hinfo
  have hl := ho.len
  have hcap := ho.cap
  have hlen : (xs.drop ((i + 1) * size)).length = (n - (i + 1)) * size := by rw [List.length_drop, hl, Nat.sub_mul]
  have hle : i * size + (n - (i + 1)) * size ≤ n * size := by rw [← Nat.add_mul]; exact Nat.mul_le_mul_right _ (by omega)
  obtain ⟨k1, k2⟩ := Own.set_cells (xs.drop ((i + 1) * size)) (i * size) ho (by rw [hlen, hl]; exact hle)
  have hle2 : (i + 1) * size ≤ n * size := Nat.mul_le_mul_right _ (by omega)
  refine step_append_room hgd s x t hop e ti size h1 hti htz g 0 i c hs (if c = i + 1 then ⟨g, 0, none⟩ else ⟨g, (i + 1) * size, none⟩) (n - (i + 1)) (c - (i + 1)) (xs.drop ((i + 1) * size)) ?_ hlen ?_ (fun u hu => h1c u (List.mem_of_mem_drop hu)) (by omega) (fun j hj => ⟨?_, ?_⟩) ?_
  · rw [hx]; split <;> rfl
  · intro j u hu
    have hj : j < (xs.drop ((i + 1) * size)).length := by
      rcases Nat.lt_or_ge j (xs.drop ((i + 1) * size)).length with h' | h'
      · exact h'
      · rw [List.getElem?_eq_none h'] at hu; cases hu
    rw [hlen] at hj
    have hne : ¬ c = i + 1 := by
      intro e
      have : n - (i + 1) = 0 := by omega
      rw [this, Nat.zero_mul] at hj
      omega
    rw [if_neg hne]
    rw [List.getElem?_drop] at hu
    have hb : (i + 1) * size + j < n * size := by
      have : (i + 1) * size + (n - (i + 1)) * size = n * size := by rw [← Nat.add_mul]; congr 1; omega
      omega
    have := World.ownsRow.cellAt ho ((i + 1) * size + j) (by rw [hl] at *; omega)
    rw [hu] at this
    rw [← this]
    unfold Addr.add
    by_cases h0 : j = 0
    · subst h0; simp
    · simp [h0]
  · rw [hlen] at hj
    have hb : 0 + i * size + j < n * size := by omega
    rw [World.ownsRow.cellAt ho (0 + i * size + j) (by omega), List.getElem?_eq_getElem (by omega)]; rfl
  · exact ho.frozen _
  · rw [Nat.zero_add]
    exact hK _ k1 k2

set_option maxRecDepth 100000 in
set_option maxHeartbeats 4000000 in
theorem del_own (g n c : Nat) (l : List Int) (i : Nat) (w : World) (base : Nat) (ho : Own w base 3 1 (some ⟨g, 0, none⟩) n c (ints l)) (hi : i < n) (hn : n ≤ 1000000) :
    Calls Try.prog 74 #[.slice (some ⟨g, 0, none⟩) n c, .int .i64 i, .int .i64 (i + 1)] w fun e w' => e = .returned (.slice (some ⟨g, 0, none⟩) (n - 1) c) ∧ Own w' base 3 1 (some ⟨g, 0, none⟩) (n - 1) c (ints (l.eraseIdx i)) ∧ w.grownBy w' (some g) := by
  have OWN := Lib.hid ho
  have hl := ho.len
  have hcap := ho.cap
  clear ho
  have hi0 : (0 : Int) ≤ (i : Int) := by omega
  have hi1 : (0 : Int) ≤ (i : Int) + 1 := by omega
  have hi2 : ((i : Int) + 1).toNat = i + 1 := by omega
  have hne : ((i : Int) == (i : Int) + 1) = false := by simp; omega
  have a1 : i ≤ c := by omega
  have a2 : i + 1 ≤ n := by omega
  have a3 : n ≤ c := hcap
  have a4 : (i : Int) + 1 ≤ (n : Int) := by omega
  have a5 : i + (n - (i + 1)) = n - 1 := by omega
  have a6 : n - 1 ≤ n := by omega
  go_enter Try.func74, Try.ntmps74
  go_wp2
  go_region_law ((first
    | (refine step_erase rfl (.tmp 22) (.tmp 25) 27 rfl 3 (.int .i64 0) 1 8 Try.underlying27 info_int' g n c i base (ints l) (w := w.drew) OWN.out hi (ints_one _) (by simp [Act.eval, Act.put]) (by simp [Act.eval, Act.put]) ?_; intro w1 ho1 hg1; have O1 := Lib.hid ho1; have G1 : Hid (w.grownBy w1 (some g)) := Lib.hid ((grownBy_of_below (Below.refl w.heap.size w).drew).trans hg1); clear ho1 hg1)
    | fail))
  obtain ⟨w5, hcl, ho5, hg5⟩ := clear_ints O1.out (n - 1) (n - (n - 1)) (c - (n - 1)) (by omega) (by omega)
  have he : ((ints l).take (i * 1) ++ (ints l).drop ((i + 1) * 1) ++ (ints l).drop (i * 1 + ((ints l).drop ((i + 1) * 1)).length)).take (n - 1) = ints (l.eraseIdx i) := by
    have := erase_take (ints l) i 1 (by rw [hl]; omega)
    rw [ints_erase, Nat.mul_one, Nat.mul_one]
    rw [hl, Nat.mul_one] at this
    exact this
  rw [he] at ho5
  have O5 := Lib.hid ho5
  have G5 := Lib.hid hg5
  clear he ho5 hg5
  have a7 : n - 1 < c := by omega
  have a8 : ¬ c = n - 1 := by omega
  have a9 : ((n - 1 : Nat) : Int) ≤ (n : Int) := by omega
  go_wp2
  all_goals go_ret
  all_goals first
    | exact ⟨rfl, O5.out, G1.out.trans G5.out⟩
    | (have hc : c = i + 1 := (by assumption); have O6 : Own w5 base 3 1 (some ⟨g, 0, none⟩) (n - 1) (i + 1) (ints (l.eraseIdx i)) := (by rw [← hc]; exact O5.out); exact ⟨rfl, O6, G1.out.trans G5.out⟩)
theorem clear_pairs' {w : World} {base g n c : Nat} {xs : List Value} (h : Own w base 45 2 (some ⟨g, 0, none⟩) n c xs) (k m d : Nat) (hm : 0 < m) (hkm : k + m = n) :
    ∃ w', (∀ ty, (Builtin.clear_ #[22] ty #[.slice (some ⟨g, k * 2, none⟩) m d]).run Try.prog w = .ok (.tuple #[]) w') ∧ Own w' base 45 2 (some ⟨g, 0, none⟩) k c (xs.take (k * 2)) ∧ w.grownBy w' (some g) := by
  have hl := h.len
  have hzl : (Builtin.zeroCells (Value.agg #[.int .i64 0, .int .i64 0]).cells m).toList.length = m * 2 := by simp [Builtin.zeroCells, Value.cells]
  have hz1 : ∀ v ∈ (Builtin.zeroCells (Value.agg #[.int .i64 0, .int .i64 0]).cells m).toList, v.oneCell' = true := by
    intro v hv
    simp [Builtin.zeroCells, Value.cells] at hv
    obtain ⟨i, -, rfl⟩ := hv
    rcases Nat.mod_two_eq_zero_or_one i with e | e <;> rw [e] <;> rfl
  obtain ⟨xs', h1, h2, h3⟩ := Own.set_many (Builtin.zeroCells (Value.agg #[.int .i64 0, .int .i64 0]).cells m).toList (k * 2) h
  refine ⟨_, fun ty => ?_, ?_, h3⟩
  · have hst := run_storeCells_cells (P := Try.prog) g (k * 2) (Builtin.zeroCells (Value.agg #[.int .i64 0, .int .i64 0]).cells m).toList 0 w
      (fun j hj => by
        rw [hzl] at hj
        rw [World.ownsRow.cellAt h (k * 2 + 0 + j) (by omega), List.getElem?_eq_getElem (by omega)]; rfl)
      (fun j _ => h.frozen _) hz1
    simp only [Nat.add_zero] at hst
    obtain ⟨q, rfl⟩ : ∃ q, m = q + 1 := ⟨m - 1, by omega⟩
    simp [Builtin.clear_, run_underlying Try.underlying22, zeroPair, hst]
  · have := h1.shrink (k := k) (by omega) (by simp)
    rw [h2] at this
    exact this

set_option maxRecDepth 100000 in
set_option maxHeartbeats 4000000 in
theorem delp_own (g n c : Nat) (l : List (Int × Int)) (i : Nat) (w : World) (base : Nat) (ho : Own w base 45 2 (some ⟨g, 0, none⟩) n c (prs l)) (hi : i < n) (hn : n ≤ 1000000) :
    Calls Try.prog 34 #[.slice (some ⟨g, 0, none⟩) n c, .int .i64 i, .int .i64 (i + 1)] w fun e w' => e = .returned (.slice (some ⟨g, 0, none⟩) (n - 1) c) ∧ Own w' base 45 2 (some ⟨g, 0, none⟩) (n - 1) c (prs (l.eraseIdx i)) ∧ w.grownBy w' (some g) := by
  have OWN := Lib.hid ho
  have hl := ho.len
  have hcap := ho.cap
  clear ho
  have hi0 : (0 : Int) ≤ (i : Int) := by omega
  have hi1 : (0 : Int) ≤ (i : Int) + 1 := by omega
  have hi2 : ((i : Int) + 1).toNat = i + 1 := by omega
  have hne : ((i : Int) == (i : Int) + 1) = false := by simp; omega
  have a1 : i ≤ c := by omega
  have a2 : i + 1 ≤ n := by omega
  have a3 : n ≤ c := hcap
  have a4 : (i : Int) + 1 ≤ (n : Int) := by omega
  have a5 : i + (n - (i + 1)) = n - 1 := by omega
  have a6 : n - 1 ≤ n := by omega
  go_enter Try.func34, Try.ntmps34
  go_wp2
  go_region_law ((first
    | (refine step_erase rfl (.tmp 22) (.tmp 25) 22 rfl 45 (.agg #[.int .i64 0, .int .i64 0]) 2 16 Try.underlying22 info_pair g n c i base (prs l) (w := w.drew) OWN.out hi (prs_one _) (by simp [Act.eval, Act.put]) (by simp [Act.eval, Act.put]) ?_; intro w1 ho1 hg1; have O1 := Lib.hid ho1; have G1 : Hid (w.grownBy w1 (some g)) := Lib.hid ((grownBy_of_below (Below.refl w.heap.size w).drew).trans hg1); clear ho1 hg1)
    | fail))
  obtain ⟨w5, hcl, ho5, hg5⟩ := clear_pairs' O1.out (n - 1) (n - (n - 1)) (c - (n - 1)) (by omega) (by omega)
  have he : ((prs l).take (i * 2) ++ (prs l).drop ((i + 1) * 2) ++ (prs l).drop (i * 2 + ((prs l).drop ((i + 1) * 2)).length)).take ((n - 1) * 2) = prs (l.eraseIdx i) := by
    have := erase_take (prs l) (i * 2) 2 (by rw [hl]; omega)
    rw [prs_erase, show (i + 1) * 2 = i * 2 + 2 by omega, show (n - 1) * 2 = (prs l).length - 2 by rw [hl]; omega]
    exact this
  rw [he] at ho5
  have O5 := Lib.hid ho5
  have G5 := Lib.hid hg5
  clear he ho5 hg5
  have a7 : n - 1 < c := by omega
  have a8 : ¬ c = n - 1 := by omega
  have a9 : ((n - 1 : Nat) : Int) ≤ (n : Int) := by omega
  go_wp2
  all_goals go_ret
  all_goals first
    | exact ⟨rfl, O5.out, G1.out.trans G5.out⟩
    | (have hc : c = i + 1 := (by assumption); have O6 : Own w5 base 45 2 (some ⟨g, 0, none⟩) (n - 1) (i + 1) (prs (l.eraseIdx i)) := (by rw [← hc]; exact O5.out); exact ⟨rfl, O6, G1.out.trans G5.out⟩)
end Go.Proofs.Ytbhkdodokdgijaa
