/-
  Sequence of the sparsity layer: joined texts.
-/
import Derived.Test.YtagcaljpgifppaaOpen
import Derived.Test.YtagcaljpgifppaaSpecQ
import Derived.Test.YtagcaljpgifppaaRdFar
import Derived.Test.YtagcaljpgifppaaMa
import Derived.Test.YtagcaljpgifppaaH5
import Derived.Test.YtagcaljpgifppaaEqP
namespace Go.Proofs.Ytagcaljpgifppaa
set_option linter.unusedVariables false
set_option maxRecDepth 100000
set_option linter.unusedSimpArgs false
open Go.ChangeShapes Go.WideShapes Go.ChangeAt Go.RowKit

def trs (l : List (Int × Int × Int)) : List Value := l.flatMap fun t => [.int .i64 t.1, .int .i64 t.2.1, .int .i64 t.2.2]
theorem trs_length (l : List (Int × Int × Int)) : (trs l).length = l.length * 3 := by
  induction l with
  | nil => rfl
  | cons e l ih => simp only [trs, List.flatMap_cons, List.length_append, List.length_cons, List.length_nil] at ih ⊢; omega
theorem trs_at (l : List (Int × Int × Int)) (k : Nat) (h : k < l.length) : (trs l)[k * 3]? = some (.int .i64 (l.getD k (0, 0, 0)).1) ∧ (trs l)[k * 3 + 1]? = some (.int .i64 (l.getD k (0, 0, 0)).2.1) ∧ (trs l)[k * 3 + 2]? = some (.int .i64 (l.getD k (0, 0, 0)).2.2) := by
  induction l generalizing k with
  | nil => simp at h
  | cons e l ih =>
    cases k with
    | zero => simp [trs]
    | succ k =>
      have := ih k (by simpa using h)
      simp only [trs, List.flatMap_cons] at this ⊢
      rw [show (k + 1) * 3 = k * 3 + 3 from by omega, show k * 3 + 3 + 1 = (k * 3 + 1) + 3 from by omega, show k * 3 + 3 + 2 = (k * 3 + 2) + 3 from by omega]
      simpa using this
theorem add_next2 (a : Addr) (j : Nat) : a.add (j + 2) = ⟨(a.add j).block, (a.add j).off + 2, none⟩ := by
  unfold Addr.add
  by_cases hj : j = 0
  · subst hj; simp
  · simp [hj]; omega
theorem Rd.trs_len {w : World} {A : Option Addr} {n : Nat} {l : List (Int × Int × Int)} (h : Rd w 3 A n (trs l)) : l.length = n := by have := h.1; rw [trs_length] at this; omega
theorem Rd.trs_at {w : World} {A : Option Addr} {n : Nat} {l : List (Int × Int × Int)} (h : Rd w 3 A n (trs l)) {k : Nat} (hk : k < n) :
    ∃ ad, A = some ad ∧ w.cell? (ad.add (k * 3)) = some (.int .i64 (l.getD k (0, 0, 0)).1) ∧
      w.cell? ⟨(ad.add (k * 3)).block, (ad.add (k * 3)).off + 1, none⟩ = some (.int .i64 (l.getD k (0, 0, 0)).2.1) ∧
      w.cell? ⟨(ad.add (k * 3)).block, (ad.add (k * 3)).off + 2, none⟩ = some (.int .i64 (l.getD k (0, 0, 0)).2.2) := by
  obtain ⟨ad, e, hc⟩ := h.2 (by omega)
  have hl := h.trs_len
  obtain ⟨h0, h1, h2⟩ := Go.Proofs.Ytagcaljpgifppaa.trs_at l k (by omega)
  exact ⟨ad, e, hc _ _ h0, by rw [← add_next]; exact hc _ _ h1, by rw [← add_next2]; exact hc _ _ h2⟩

theorem Tp.cellsTrip : Try.prog.cellsOf 77 = 3 := by kernel_rfl
section
variable {H : Type} {enc : TypeId × Value → H} {W : World}
theorem open_trip {fuel : Nat} {cs : List Value} {x : DataW H × List MemPlace} (h : DataW.trod enc Try.prog W 0 (fun _ => true) true fuel 77 cs = some x) :
    ∃ a b c : Int, cs = [.int .i64 a, .int .i64 b, .int .i64 c] ∧ WfI a ∧ WfI b ∧ WfI c := by
  obtain ⟨xs, m, -, -, hl, hx, hi⟩ := DataW.trod_array Try.underlying77 h
  rw [Tp.cellsTrip] at hl
  rw [Tp.cellsInt] at hi
  match cs, hl with
  | [u, v, z], _ =>
    have h0 := hi 0 (by omega)
    have h1 := hi 1 (by omega)
    have h2 := hi 2 (by omega)
    simp only [List.drop, List.take, Nat.zero_mul, Nat.one_mul] at h0 h1 h2
    rw [List.getElem?_eq_getElem (by omega)] at h0 h1 h2
    obtain ⟨a, e0, -, wa⟩ := DataW.trod_int Try.underlying3 h0
    obtain ⟨b, e1, -, wb⟩ := DataW.trod_int Try.underlying3 h1
    obtain ⟨c, e2, -, wc⟩ := DataW.trod_int Try.underlying3 h2
    simp at e0 e1 e2
    subst e0 e1 e2
    exact ⟨a, b, c, rfl, wfI_of wa, wfI_of wb, wfI_of wc⟩

theorem open_trips {v : Value} {d : DataW H} {p : List MemPlace} (hv : Value.okWide Try.prog W .any 0 34 v) (h : DataW.Trod enc Try.prog W 0 (fun _ => true) true 34 v d p) :
    ∃ (A : Option Addr) (n cap : Nat) (l : List (Int × Int × Int)), v = .slice A n cap ∧ n ≤ maxLen ∧ Rd W 3 A n (trs l) ∧ ∀ e ∈ l, WfI e.1 ∧ WfI e.2.1 ∧ WfI e.2.2 := by
  obtain ⟨a0, len0, cap0, rfl⟩ := okWide_slice Try.underlying34 hv
  obtain ⟨fuel, hf⟩ := h
  rcases Go.Deep.open_slice Try.underlying34 hf with ⟨hc, -⟩ | ⟨a, len, cap, m, k, D, Pl, hc, -, hl, hm, hmm, -, hi⟩
  · simp [Value.cells] at hc
    obtain ⟨rfl, rfl, rfl⟩ := hc
    exact ⟨none, 0, 0, [], rfl, by simp [maxLen], Rd.nil _ _ _, by simp⟩
  · simp [Value.cells] at hc
    obtain ⟨rfl, rfl, rfl⟩ := hc
    have hml : len0 ≤ m := by rw [hmm]; split <;> omega
    have hq : ∀ i, ∃ e : Int × Int × Int, i < len0 → W.cell? (a.add (i * 3)) = some (.int .i64 e.1) ∧ W.cell? (a.add (i * 3 + 1)) = some (.int .i64 e.2.1) ∧ W.cell? (a.add (i * 3 + 2)) = some (.int .i64 e.2.2) ∧ WfI e.1 ∧ WfI e.2.1 ∧ WfI e.2.2 := by
      intro i
      by_cases hil : i < len0
      · obtain ⟨cs', hcs, ht⟩ := hi i (by omega)
        rw [Tp.cellsTrip] at hcs
        obtain ⟨p, q, r, rfl, wp, wq, wr⟩ := open_trip ht
        obtain ⟨-, -, hat⟩ := World.cells?_some hcs
        have h0 := hat 0 (by omega)
        have h1 := hat 1 (by omega)
        have h2 := hat 2 (by omega)
        refine ⟨(p, q, r), fun _ => ⟨?_, ?_, ?_, wp, wq, wr⟩⟩
        · have : (a.add (i * 3)).add 0 = a.add (i * 3) := rfl
          rw [this] at h0; exact h0
        · rw [Go.Deep.add_add] at h1; exact h1
        · rw [Go.Deep.add_add] at h2; exact h2
      · exact ⟨(0, 0, 0), fun h => absurd h hil⟩
    obtain ⟨f, hf'⟩ : ∃ f : Nat → Int × Int × Int, ∀ i, i < len0 → W.cell? (a.add (i * 3)) = some (.int .i64 (f i).1) ∧ W.cell? (a.add (i * 3 + 1)) = some (.int .i64 (f i).2.1) ∧ W.cell? (a.add (i * 3 + 2)) = some (.int .i64 (f i).2.2) ∧ WfI (f i).1 ∧ WfI (f i).2.1 ∧ WfI (f i).2.2 := ⟨fun i => (hq i).choose, fun i => (hq i).choose_spec⟩
    clear hq
    refine ⟨some a, len0, cap0, (List.range len0).map f, rfl, by omega, ⟨?_, fun _ => ⟨a, rfl, fun j u hu => ?_⟩⟩, ?_⟩
    · rw [trs_length]; simp
    · have hj : j < len0 * 3 := by
        rcases Nat.lt_or_ge j (len0 * 3) with h' | h'
        · exact h'
        · rw [List.getElem?_eq_none (by rw [trs_length]; simpa using h')] at hu; cases hu
      have hk : j / 3 < len0 := by omega
      have hkl : j / 3 < ((List.range len0).map f).length := by simpa using hk
      have eg : ((List.range len0).map f).getD (j / 3) (0, 0, 0) = f (j / 3) := by
        rw [List.getD_eq_getElem?_getD, List.getElem?_eq_getElem hkl]; simp
      obtain ⟨h0, h1, h2, -, -, -⟩ := hf' (j / 3) hk
      obtain ⟨t0, t1, t2⟩ := Go.Proofs.Ytagcaljpgifppaa.trs_at _ _ hkl
      rw [eg] at t0 t1 t2
      rcases (by omega : j = j / 3 * 3 ∨ j = j / 3 * 3 + 1 ∨ j = j / 3 * 3 + 2) with e | e | e
      · rw [e] at hu ⊢
        rw [← e] at hu ⊢
        rw [← e, hu] at t0
        rw [t0, e]; rw [show j / 3 * 3 / 3 = j / 3 by omega]; exact h0
      · rw [← e, hu] at t1
        rw [t1, e]; rw [show (j / 3 * 3 + 1) / 3 = j / 3 by omega]; exact h1
      · rw [← e, hu] at t2
        rw [t2, e]; rw [show (j / 3 * 3 + 2) / 3 = j / 3 by omega]; exact h2
    · intro e he
      obtain ⟨i, hi', rfl⟩ := List.mem_map.1 he
      obtain ⟨-, -, -, w0, w1, w2⟩ := hf' i (List.mem_range.1 hi')
      exact ⟨w0, w1, w2⟩
end
end Go.Proofs.Ytagcaljpgifppaa

namespace Go.Proofs.Ytagcaljpgifppaa
set_option linter.unusedVariables false
set_option linter.unusedSimpArgs false
open Go.RowKit Go.Sort

def SeqPost (w : World) (r : Option (Int × List (Int × Int))) (e : Ending) (w' : World) : Prop :=
  Below w.heap.size w w' ∧ ((r = none ∧ e = .returned (.tuple #[.agg #[.int .i64 0, .slice none 0 0], .bool false])) ∨
    (∃ N es B c, r = some (N, es) ∧ e = .returned (.tuple #[.agg #[.int .i64 N, .slice B es.length c], .bool true]) ∧ Rd w' 2 B es.length (prs es)))

/-- What lies in memory while the steps are taken. -/
structure SQ (w wr : World) (N : Int) (es : List (Int × Int)) (B : Option Addr) (m c : Nat) : Prop where
  bel : Below w.heap.size w wr
  size : w.heap.size + 2 < wr.heap.size
  r0 : wr.cell? ⟨w.heap.size, 0, none⟩ = some (.int .i64 0)
  r1 : wr.cell? ⟨w.heap.size, 1, none⟩ = some (.slice none 0 0)
  f0 : wr.frozen? ⟨w.heap.size, 0, none⟩ = false
  f1 : wr.frozen? ⟨w.heap.size, 1, none⟩ = false
  g0 : wr.cell? ⟨w.heap.size + 1 + 1, 0, none⟩ = some (.int .i64 N)
  g1 : wr.cell? ⟨w.heap.size + 1 + 1, 1, none⟩ = some (.slice B m c)
  h0 : wr.frozen? ⟨w.heap.size + 1 + 1, 0, none⟩ = false
  h1 : wr.frozen? ⟨w.heap.size + 1 + 1, 1, none⟩ = false
  rd : Rd wr 2 B m (prs es)
theorem SQ.later {w wr w2 : World} {N : Int} {es : List (Int × Int)} {B : Option Addr} {m c : Nat} (h : SQ w wr N es B m c) (hb : Below wr.heap.size wr w2) : SQ w w2 N es B m c := by
  have hz := h.size
  have hs := hb.size
  exact ⟨h.bel.trans (hb.mono h.bel.size), by omega, by rw [hb.cell (by simp; omega)]; exact h.r0, by rw [hb.cell (by simp; omega)]; exact h.r1, by rw [hb.frozen (by simp; omega)]; exact h.f0, by rw [hb.frozen (by simp; omega)]; exact h.f1,
    by rw [hb.cell (by simp; omega)]; exact h.g0, by rw [hb.cell (by simp; omega)]; exact h.g1, by rw [hb.frozen (by simp; omega)]; exact h.h0, by rw [hb.frozen (by simp; omega)]; exact h.h1, h.rd.keep (Keeps.of_below hb (Nat.le_refl _))⟩
/-- The variable's two cells are given a new graph. -/
theorem SQ.put {w wr : World} {N N' : Int} {es es' : List (Int × Int)} {B B' : Option Addr} {m c m' c' : Nat} (h : SQ w wr N es B m c) (hr : Rd wr 2 B' m' (prs es')) :
    SQ w ((wr.setCell ⟨w.heap.size + 1 + 1, 0, none⟩ (.int .i64 N')).setCell ⟨w.heap.size + 1 + 1, 1, none⟩ (.slice B' m' c')) N' es' B' m' c' := by
  have hz := h.size
  refine ⟨(h.bel.setCell (by simp; omega) _).setCell (by simp; omega) _, by simp; exact hz, ?_, ?_, by simp; exact h.f0, by simp; exact h.f1, ?_, ?_, by simp; exact h.h0, by simp; exact h.h1, ?_⟩
  · rw [World.cell?_setCell_other _ _ _ _ (by simp), World.cell?_setCell_other _ _ _ _ (by simp)]; exact h.r0
  · rw [World.cell?_setCell_other _ _ _ _ (by simp), World.cell?_setCell_other _ _ _ _ (by simp)]; exact h.r1
  · rw [World.cell?_setCell_other _ _ _ _ (by simp)]
    exact World.cell?_setCell_same _ _ _ h.g0
  · exact World.cell?_setCell_same _ _ _ (u := .slice B m c) (by rw [World.cell?_setCell_other _ _ _ _ (by simp)]; exact h.g1)
  · refine Rd.far (Rd.far hr h.g1 (.inl rfl) _) (g := w.heap.size + 1 + 1) (A := B) (n' := m) (c' := c) ?_ (.inr rfl) _
    rw [World.cell?_setCell_other _ _ _ _ (by simp)]; exact h.g1
end Go.Proofs.Ytagcaljpgifppaa

namespace Go.Proofs.Ytagcaljpgifppaa
set_option linter.unusedVariables false
set_option linter.unusedSimpArgs false
open Go.RowKit Go.Sort

theorem two_put {W : World} {b : Nat} {u v x y : Value} (h0 : W.cell? ⟨b, 0, none⟩ = some u) (h1 : W.cell? ⟨b, 1, none⟩ = some v) : ((W.setCell ⟨b, 0, none⟩ x).setCell ⟨b, 1, none⟩ y).cell? ⟨b, 0, none⟩ = some x ∧ ((W.setCell ⟨b, 0, none⟩ x).setCell ⟨b, 1, none⟩ y).cell? ⟨b, 1, none⟩ = some y := by
  refine ⟨?_, ?_⟩
  · rw [World.cell?_setCell_other _ _ _ _ (by simp)]
    exact World.cell?_setCell_same _ _ _ h0
  · exact World.cell?_setCell_same _ _ _ (u := v) (by rw [World.cell?_setCell_other _ _ _ _ (by simp)]; exact h1)
theorem SQ.start (w : World) : SQ w (((w.alloc (.cells #[.int .i64 0, .slice none 0 0] 24)).alloc (.cells #[.int .i64 0, .int .i64 1] 42)).alloc (.cells #[.int .i64 2, .slice (some ⟨w.heap.size + 1, 0, none⟩) 1 1] 24)) 2 [(0, 1)] (some ⟨w.heap.size + 1, 0, none⟩) 1 1 := by
  have hb : Below (w.heap.size + 1) (w.alloc (.cells #[.int .i64 0, .slice none 0 0] 24)) (((w.alloc (.cells #[.int .i64 0, .slice none 0 0] 24)).alloc (.cells #[.int .i64 0, .int .i64 1] 42)).alloc (.cells #[.int .i64 2, .slice (some ⟨w.heap.size + 1, 0, none⟩) 1 1] 24)) := ((Below.refl _ _).alloc (by simp) _).alloc (by simp) _
  have top : ∀ (W : World) (h : w.heap.size + 1 + 1 = W.heap.size) (B : Option Addr), (W.alloc (.cells #[.int .i64 2, .slice B 1 1] 24)).cell? ⟨w.heap.size + 1 + 1, 0, none⟩ = some (.int .i64 2) ∧ (W.alloc (.cells #[.int .i64 2, .slice B 1 1] 24)).cell? ⟨w.heap.size + 1 + 1, 1, none⟩ = some (.slice B 1 1) ∧ (W.alloc (.cells #[.int .i64 2, .slice B 1 1] 24)).frozen? ⟨w.heap.size + 1 + 1, 0, none⟩ = false ∧ (W.alloc (.cells #[.int .i64 2, .slice B 1 1] 24)).frozen? ⟨w.heap.size + 1 + 1, 1, none⟩ = false := fun W h B => by rw [h]; simp
  obtain ⟨t0, t1, t2, t3⟩ := top ((w.alloc (.cells #[.int .i64 0, .slice none 0 0] 24)).alloc (.cells #[.int .i64 0, .int .i64 1] 42)) (by simp) (some ⟨w.heap.size + 1, 0, none⟩)
  refine ⟨(((Below.refl _ _).alloc (Nat.le_refl _) _).alloc (by simp) _).alloc (by simp; omega) _, by simp, ?_, ?_, ?_, ?_, ?_, ?_, ?_, ?_, ?_⟩
  · rw [hb.cell (by simp)]; simp
  · rw [hb.cell (by simp)]; simp
  · rw [hb.frozen (by simp)]; simp
  · rw [hb.frozen (by simp)]; simp
  · exact t0
  · exact t1
  · exact t2
  · exact t3
  · exact (rd_lit2_at (b := w.heap.size + 1) (by simp) [(0, 1)] _).keep (Keeps.alloc _ _)

theorem SQ.stores {w wr : World} {N : Int} {es : List (Int × Int)} {B : Option Addr} {m c : Nat} (h : SQ w wr N es B m c) {b : Nat} (hb : w.heap.size + 2 < b) {A : Option Addr} {n' c' : Nat} (q1 : wr.cell? ⟨b, 1, none⟩ = some (.slice A n' c')) (u v : Value) :
    SQ w ((wr.setCell ⟨b, 0, none⟩ u).setCell ⟨b, 1, none⟩ v) N es B m c := by
  have o : ∀ (a : Addr), a.block < b → ((wr.setCell ⟨b, 0, none⟩ u).setCell ⟨b, 1, none⟩ v).cell? a = wr.cell? a := fun a ha => by
    rw [World.cell?_setCell_other _ _ _ _ (fun e => by rw [← e] at ha; simp at ha), World.cell?_setCell_other _ _ _ _ (fun e => by rw [← e] at ha; simp at ha)]
  refine ⟨(h.bel.setCell (by simp; omega) _).setCell (by simp; omega) _, by simp; exact h.size, by rw [o _ (by simp; omega)]; exact h.r0, by rw [o _ (by simp; omega)]; exact h.r1, by simp; exact h.f0, by simp; exact h.f1, by rw [o _ (by simp; omega)]; exact h.g0, by rw [o _ (by simp; omega)]; exact h.g1, by simp; exact h.h0, by simp; exact h.h1, ?_⟩
  refine Rd.far (Rd.far h.rd q1 (.inl rfl) _) (g := b) (A := A) (n' := n') (c' := c') ?_ (.inr rfl) _
  rw [World.cell?_setCell_other _ _ _ _ (by simp)]; exact q1

set_option maxHeartbeats 8000000 in
theorem rseq_any (A : Option Addr) (n c : Nat) (st : List (Int × Int × Int)) (w : World) (hn : n ≤ 20) (hs : Rd w 3 A n (trs st)) :
    Calls Try.prog 26 #[.slice A n c] w (SeqPost w (seqK st n)) := by
  have HS := Lib.hid hs
  have HL := Lib.hid hs.trs_len
  clear hs
  go_enter Try.func26, Try.ntmps26
  go_wp2
  go_loopw [5, 6, 7] (fun i _ _ wr => ∃ (k : Nat) (N : Int) (es : List (Int × Int)) (B : Option Addr) (m cB : Nat), k ≤ n ∧ i = .int .i64 k ∧ seqK st k = some (N, es) ∧ es.length = m ∧ SQ w wr N es B m cB) (fun i _ _ _ => n - (intOf i).toNat)
  case atStart => exact ⟨0, 2, [(0, 1)], _, 1, 1, Nat.zero_le _, rfl, rfl, rfl, SQ.start w⟩
  case round =>
    obtain ⟨k, N, es, B, m, cB, hk, rfl, hsk, hlen, hsq⟩ := hrel
    have inv := Lib.hid (seqK_inv st k _ hsk)
    have hN := inv.out.n
    have hlm := inv.out.len
    simp only at hN hlm
    have HSK := Lib.hid hsk
    have HLEN := Lib.hid hlen
    have SQR := Lib.hid hsq
    have RD := Lib.hid hsq.rd
    have g0 := hsq.g0
    have g1 := hsq.g1
    have r0 := hsq.r0
    have r1 := hsq.r1
    have f0 := hsq.f0
    have f1 := hsq.f1
    have h0 := hsq.h0
    have h1 := hsq.h1
    have hz := hsq.size
    rw [hlen] at hlm
    have hm9 : m ≤ 100 := by omega
    clear hsk hlen hsq hN hlm
    by_cases hlt : k < n
    · obtain ⟨ad, rfl, c0, c1, c2⟩ := (HS.out.keep (Keeps.of_below SQR.out.bel (Nat.le_refl _))).trs_at hlt
      have STEP : Hid (seqK st (k + 1) = seqStep (N, es) (st.getD k (0, 0, 0))) := Lib.hid (by rw [seqK, HSK.out]; rfl)
      generalize st.getD k (0, 0, 0) = t at c0 c1 c2 STEP
      obtain ⟨a, b, s⟩ := t
      simp only at c0 c1 c2
      have hki0 : (0 : Int) ≤ (k : Int) := by omega
      have hki1 : (k : Int) < (n : Int) := by omega
      have n0 := World.new_ne wr _ g1
      have n1 := World.new_ne wr _ c0
      by_cases hz0 : (hennE N es a b s).1 = 0
      · obtain ⟨-, -, hen⟩ := henn_zero hz0
        generalize mkL (N + 1).toNat (hennL N es a b s) = l at hen
        have NEXT : Hid (seqK st (k + 1) = some (N + 1, l)) := Lib.hid (by rw [STEP.out]; unfold seqStep; simp [hen])
        generalize hq : l.length = q
        have HQ := Lib.hid hq
        have CT : Hid (∀ w', Rd w' 2 B m (prs es) → Calls Try.prog 74 #[.agg #[.int .i64 N, .slice B m cB], .int .i64 a, .int .i64 b, .int .i64 s] w' fun e w'' => Below w'.heap.size w' w'' ∧ ∃ B5 d5, e = .returned (.tuple #[.agg #[.int .i64 (N + 1), .slice B5 q d5], .int .i64 0]) ∧ Rd w'' 2 B5 q (prs l)) := Lib.hid (fun w' h => (rhenn_any N B m cB es a b s w' (by omega) h).mono (fun e w'' hp => by
          rw [hen] at hp
          obtain ⟨hb, h9 | ⟨-, B5, d5, he, hr⟩⟩ := hp
          · exact absurd rfl h9.1
          · simp only at he hr
            rw [hq] at he hr
            exact ⟨hb, B5, d5, he, hr⟩))
        clear hz0 hen hq
        go_wp2
        have nz : wr.heap.size ≠ w.heap.size + 1 + 1 := by omega
        have nz' : w.heap.size + 1 + 1 ≠ wr.heap.size := by omega
        go_region_held3 (fun w' => w'.cell? ⟨w.heap.size + 1 + 1, 0, none⟩ = some (.int .i64 N) ∧ w'.cell? ⟨w.heap.size + 1 + 1, 1, none⟩ = some (.slice B m cB) ∧ w'.cell? (ad.add (k * 3)) = some (.int .i64 a) ∧ w'.cell? ⟨(ad.add (k * 3)).block, (ad.add (k * 3)).off + 1, none⟩ = some (.int .i64 b) ∧ w'.cell? ⟨(ad.add (k * 3)).block, (ad.add (k * 3)).off + 2, none⟩ = some (.int .i64 s)) (go_keep)
          ((first
            | (go_at_call 74; refine (CT.out _ (RD.out.keep (Keeps.drew _))).mono ?_; rintro e w5 ⟨hb, B5, d5, rfl, hr⟩; have R5 := Lib.hid hr; clear hr; have hbb : Below wr.heap.size wr w5 := ((Below.refl _ _).drew).trans hb; have kk := Keeps.of_below hbb (Nat.le_refl _); have SQ5 := Lib.hid (SQR.out.later hbb); have g0 := kk _ _ g0; have g1 := kk _ _ g1; have c0 := kk _ _ c0; have c1 := kk _ _ c1; have c2 := kk _ _ c2; have n0 := World.new_ne w5 _ g1; have n1 := World.new_ne w5 _ c0; have h0 := SQ5.out.h0; have h1 := SQ5.out.h1; have hz5 := SQ5.out.size; clear hb hbb kk)
            | (go_at_call 74; refine (CT.out _ (RD.out.keep ((Keeps.alloc wr (.cells #[.int .i64 0, .slice none 0 0] 24)).trans (Keeps.drew _)))).mono ?_; rintro e w5 ⟨hb, B5, d5, rfl, hr⟩; have R5 := Lib.hid hr; clear hr; have hbb : Below wr.heap.size wr w5 := (((Below.refl _ _).alloc (Nat.le_refl _) _).drew).trans (hb.mono (by simp)); have kk := Keeps.of_below hbb (Nat.le_refl _); have SQ5 := Lib.hid (SQR.out.later hbb); have g0 := kk _ _ g0; have g1 := kk _ _ g1; have c0 := kk _ _ c0; have c1 := kk _ _ c1; have c2 := kk _ _ c2; have n0 := World.new_ne w5 _ g1; have n1 := World.new_ne w5 _ c0; have q0 : w5.cell? ⟨wr.heap.size, 0, none⟩ = some (.int .i64 0) := (by rw [hb.cell (by simp)]; simp); have q1 : w5.cell? ⟨wr.heap.size, 1, none⟩ = some (.slice none 0 0) := (by rw [hb.cell (by simp)]; simp); have z0 : w5.frozen? ⟨wr.heap.size, 0, none⟩ = false := (by rw [hb.frozen (by simp)]; simp); have z1 : w5.frozen? ⟨wr.heap.size, 1, none⟩ = false := (by rw [hb.frozen (by simp)]; simp); have h0 := SQ5.out.h0; have h1 := SQ5.out.h1; have hz5 := SQ5.out.size; clear hb hbb kk)
            | fail))
        all_goals
         go_wp2
         go_roundw
         case rel => first
           | exact ⟨k + 1, N + 1, l, B5, q, d5, by omega, by go_num, NEXT.out, HQ.out, (SQ.put SQ5.out R5.out).later ((Below.refl _ _).alloc (by simp) _)⟩
           | exact ⟨k + 1, N + 1, l, B5, q, d5, by omega, by go_num, NEXT.out, HQ.out, SQ.put (SQ5.out.stores (by omega) q1 _ _) (Rd.far (Rd.far R5.out q1 (.inl rfl) _) (g := wr.heap.size) (A := none) (n' := 0) (c' := 0) (by rw [World.cell?_setCell_other _ _ _ _ (by simp)]; exact q1) (.inr rfl) _)⟩
         case measure => simp [intOf]; omega
      · obtain ⟨v, hv, hen⟩ : ∃ v : Int, (v != 0) = true ∧ hennE N es a b s = (v, []) := by
          cases h1 : hennBad1 N es a b
          · cases h2 : hennBad2 N es a b s
            · by_cases h3 : N = 60
              · exact ⟨3, by decide, henn_60 h1 h2 h3⟩
              · rw [henn_ok h1 h2 h3] at hz0; exact absurd rfl hz0
            · exact ⟨1, by decide, henn_bad2 h2⟩
          · exact ⟨1, by decide, henn_bad1 h1⟩
        have NONE : Hid (seqK st n = none) := Lib.hid (seqK_none (k := k + 1) (by rw [STEP.out]; unfold seqStep; rw [if_neg hz0]) (by omega))
        have CT : Hid (∀ w', Rd w' 2 B m (prs es) → Calls Try.prog 74 #[.agg #[.int .i64 N, .slice B m cB], .int .i64 a, .int .i64 b, .int .i64 s] w' fun e w'' => Below w'.heap.size w' w'' ∧ e = .returned (.tuple #[.agg #[.int .i64 0, .slice none 0 0], .int .i64 v])) := Lib.hid (fun w' h => (rhenn_any N B m cB es a b s w' (by omega) h).mono (fun e w'' hp => by
          rw [hen] at hp
          obtain ⟨hb, h9 | ⟨h9, -⟩⟩ := hp
          · exact ⟨hb, h9.2.2⟩
          · simp only at h9; rw [h9] at hv; cases hv))
        clear hz0 hen
        go_wp2
        have nz : wr.heap.size ≠ w.heap.size + 1 + 1 := by omega
        have nz' : w.heap.size + 1 + 1 ≠ wr.heap.size := by omega
        have nz0 : wr.heap.size ≠ w.heap.size := by omega
        go_region_held3 (fun w' => w'.cell? ⟨w.heap.size + 1 + 1, 0, none⟩ = some (.int .i64 N) ∧ w'.cell? ⟨w.heap.size + 1 + 1, 1, none⟩ = some (.slice B m cB) ∧ w'.cell? (ad.add (k * 3)) = some (.int .i64 a) ∧ w'.cell? ⟨(ad.add (k * 3)).block, (ad.add (k * 3)).off + 1, none⟩ = some (.int .i64 b) ∧ w'.cell? ⟨(ad.add (k * 3)).block, (ad.add (k * 3)).off + 2, none⟩ = some (.int .i64 s)) (go_keep)
          ((first
            | (go_at_call 74; refine (CT.out _ (RD.out.keep (Keeps.drew _))).mono ?_; rintro e w5 ⟨hb, rfl⟩; have hbb : Below wr.heap.size wr w5 := ((Below.refl _ _).drew).trans hb; have kk := Keeps.of_below hbb (Nat.le_refl _); have SQ5 := Lib.hid (SQR.out.later hbb); have g0 := kk _ _ g0; have g1 := kk _ _ g1; have c0 := kk _ _ c0; have c1 := kk _ _ c1; have c2 := kk _ _ c2; have n0 := World.new_ne w5 _ g1; have n1 := World.new_ne w5 _ c0; have r0 := SQ5.out.r0; have r1 := SQ5.out.r1; have f0 := SQ5.out.f0; have f1 := SQ5.out.f1; have h0 := SQ5.out.h0; have h1 := SQ5.out.h1; have hz5 := SQ5.out.size; have nz5 : w5.heap.size ≠ w.heap.size := (by omega); have nz6 : w.heap.size ≠ w5.heap.size := (by omega); clear hb hbb kk)
            | (go_at_call 74; refine (CT.out _ (RD.out.keep ((Keeps.alloc wr (.cells #[.int .i64 0, .slice none 0 0] 24)).trans (Keeps.drew _)))).mono ?_; rintro e w5 ⟨hb, rfl⟩; have hbb : Below wr.heap.size wr w5 := (((Below.refl _ _).alloc (Nat.le_refl _) _).drew).trans (hb.mono (by simp)); have kk := Keeps.of_below hbb (Nat.le_refl _); have SQ5 := Lib.hid (SQR.out.later hbb); have g0 := kk _ _ g0; have g1 := kk _ _ g1; have c0 := kk _ _ c0; have c1 := kk _ _ c1; have c2 := kk _ _ c2; have n0 := World.new_ne w5 _ g1; have n1 := World.new_ne w5 _ c0; have q0 : w5.cell? ⟨wr.heap.size, 0, none⟩ = some (.int .i64 0) := (by rw [hb.cell (by simp)]; simp); have q1 : w5.cell? ⟨wr.heap.size, 1, none⟩ = some (.slice none 0 0) := (by rw [hb.cell (by simp)]; simp); have z0 : w5.frozen? ⟨wr.heap.size, 0, none⟩ = false := (by rw [hb.frozen (by simp)]; simp); have z1 : w5.frozen? ⟨wr.heap.size, 1, none⟩ = false := (by rw [hb.frozen (by simp)]; simp); have r0 := SQ5.out.r0; have r1 := SQ5.out.r1; have f0 := SQ5.out.f0; have f1 := SQ5.out.f1; have h0 := SQ5.out.h0; have h1 := SQ5.out.h1; have hz5 := SQ5.out.size; have nz5 : w5.heap.size ≠ w.heap.size := (by omega); have nz6 : w.heap.size ≠ w5.heap.size := (by omega); clear hb hbb kk)
            | fail))
        all_goals
         have r0b : (w5.alloc (.cells #[.int .i64 0, .slice none 0 0] 24)).cell? ⟨w.heap.size, 0, none⟩ = some (.int .i64 0) := Keeps.alloc _ _ _ _ r0
         have r1b : (w5.alloc (.cells #[.int .i64 0, .slice none 0 0] 24)).cell? ⟨w.heap.size, 1, none⟩ = some (.slice none 0 0) := Keeps.alloc _ _ _ _ r1
         have f0b : (w5.alloc (.cells #[.int .i64 0, .slice none 0 0] 24)).frozen? ⟨w.heap.size, 0, none⟩ = false := by rw [Below.frozen ((Below.refl w5.heap.size w5).alloc (Nat.le_refl _) _) (by simp; omega)]; exact f0
         have f1b : (w5.alloc (.cells #[.int .i64 0, .slice none 0 0] 24)).frozen? ⟨w.heap.size, 1, none⟩ = false := by rw [Below.frozen ((Below.refl w5.heap.size w5).alloc (Nat.le_refl _) _) (by simp; omega)]; exact f1
         go_wp2
         refine bodyPost_ret (v := .tuple #[.agg #[.int .i64 0, .slice none 0 0], .bool false]) (by simp [results, Try.results26, go_sem, r0, r1, (two_put (x := .int .i64 0) (y := .slice none 0 0) r0b r1b).1, (two_put (x := .int .i64 0) (y := .slice none 0 0) r0b r1b).2]) rfl ⟨?_, .inl ⟨NONE.out, rfl⟩⟩
         first
           | exact ((((SQ5.out.bel.setCell (by simp; omega) _).setCell (by simp; omega) _).setCell (by simp) _).setCell (by simp) _)
           | exact (((SQ5.out.bel.alloc (by omega) _).setCell (by simp) _).setCell (by simp) _)
    · obtain rfl : k = n := by omega
      go_wp2
      refine bodyPost_ret (v := .tuple #[.agg #[.int .i64 N, .slice B m cB], .bool true]) (by simp [results, Try.results26, go_sem, r0, r1]) rfl ⟨?_, .inr ⟨N, es, B, cB, HSK.out, by rw [HLEN.out], ?_⟩⟩
      · exact (SQR.out.bel.setCell (by simp) _).setCell (by simp) _
      · rw [HLEN.out]
        refine Rd.far (Rd.far RD.out r1 (.inl rfl) _) (g := w.heap.size) (A := none) (n' := 0) (c' := 0) ?_ (.inr rfl) _
        rw [World.cell?_setCell_other _ _ _ _ (by simp)]; exact r1
end Go.Proofs.Ytagcaljpgifppaa

namespace Go.Proofs.Ytagcaljpgifppaa
set_option linter.unusedVariables false
set_option linter.unusedSimpArgs false
open Go.RowKit Go.Sort

attribute [local go_sem ↓] Go.wp_at_zero Go.wp_at_succ
/-- What the program's Sequence answers. -/
def seqB (N : Int) (es : List (Int × Int)) : Option (Int × List (Int × Int)) → Bool
  | none => false
  | some g => validB N es && (decide (N = g.1) && decide (es = g.2))
structure PQ (w wr : World) (N : Int) (A : Option Addr) (m c hb : Nat) (N' : Int) (es' : List (Int × Int)) (B' : Option Addr) (m' c' : Nat) : Prop where
  bel : Below w.heap.size w wr
  lo : w.heap.size < hb
  hi : hb < wr.heap.size
  p0 : wr.cell? ⟨w.heap.size, 0, none⟩ = some (.int .i64 N)
  p1 : wr.cell? ⟨w.heap.size, 1, none⟩ = some (.slice A m c)
  h0 : wr.cell? ⟨hb, 0, none⟩ = some (.int .i64 N')
  h1 : wr.cell? ⟨hb, 1, none⟩ = some (.slice B' m' c')
  f0 : wr.frozen? ⟨hb, 0, none⟩ = false
  f1 : wr.frozen? ⟨hb, 1, none⟩ = false
  rd : Rd wr 2 B' m' (prs es')
section
variable {w wr w' : World} {N N' N2 : Int} {A B' B2 : Option Addr} {m c hb m' c' m2 c2 : Nat} {es' es2 : List (Int × Int)}
theorem PQ.later (h : PQ w wr N A m c hb N' es' B' m' c') (hb' : Below wr.heap.size wr w') : PQ w w' N A m c hb N' es' B' m' c' := by
  have kk := Keeps.of_below hb' (Nat.le_refl _)
  have hs := hb'.size
  have hi := h.hi
  exact ⟨h.bel.trans (hb'.mono h.bel.size), h.lo, by omega, kk _ _ h.p0, kk _ _ h.p1, kk _ _ h.h0, kk _ _ h.h1, by rw [hb'.frozen (by exact hi)]; exact h.f0, by rw [hb'.frozen (by exact hi)]; exact h.f1, h.rd.keep kk⟩
theorem PQ.put (h : PQ w wr N A m c hb N' es' B' m' c') (hr : Rd wr 2 B2 m2 (prs es2)) :
    PQ w ((wr.setCell ⟨hb, 0, none⟩ (.int .i64 N2)).setCell ⟨hb, 1, none⟩ (.slice B2 m2 c2)) N A m c hb N2 es2 B2 m2 c2 := by
  have hlo := h.lo
  have o : ∀ (a : Addr), a.block ≠ hb → ((wr.setCell ⟨hb, 0, none⟩ (.int .i64 N2)).setCell ⟨hb, 1, none⟩ (.slice B2 m2 c2)).cell? a = wr.cell? a := fun a ha => by
    rw [World.cell?_setCell_other _ _ _ _ (fun e => ha (by rw [← e])), World.cell?_setCell_other _ _ _ _ (fun e => ha (by rw [← e]))]
  obtain ⟨t0, t1⟩ := two_put (x := .int .i64 N2) (y := .slice B2 m2 c2) h.h0 h.h1
  refine ⟨(h.bel.setCell (by simp; omega) _).setCell (by simp; omega) _, h.lo, by simp; exact h.hi, by rw [o _ (by simp; omega)]; exact h.p0, by rw [o _ (by simp; omega)]; exact h.p1, t0, t1, by simp; exact h.f0, by simp; exact h.f1, ?_⟩
  refine Rd.far (Rd.far hr h.h1 (.inl rfl) _) (g := hb) (A := B') (n' := m') (c' := c') ?_ (.inr rfl) _
  rw [World.cell?_setCell_other _ _ _ _ (by simp)]; exact h.h1
end
set_option maxHeartbeats 8000000 in
theorem pseq_any (N : Int) (A S : Option Addr) (m c n cs : Nat) (es : List (Int × Int)) (st : List (Int × Int × Int)) (w : World) (hm : m ≤ 1000000) (hn : n ≤ 20) (he : Rd w 2 A m (prs es)) (hs : Rd w 3 S n (trs st)) :
    Calls Try.prog 29 #[.agg #[.int .i64 N, .slice A m c], .slice S n cs] w fun e w' => e = .returned (.bool (seqB N es (seqK st n))) ∧ Below w.heap.size w w' := by
  have HE := Lib.hid he
  have HS := Lib.hid hs
  have GMK : Hid (∀ B d w', Rd w' 2 B 1 (prs [(0, 1)]) → Calls Try.prog 31 #[.int .i64 2, .slice B 1 d] w' fun e w'' => Below w'.heap.size w' w'' ∧ ∃ B5 d5, e = .returned (.tuple #[.agg #[.int .i64 2, .slice B5 1 d5], .int .i64 0]) ∧ Rd w'' 2 B5 1 (prs [(0, 1)])) := Lib.hid fun B d w' h => (gmake_any 2 B 1 d _ w' (by omega) h).mono (fun e w'' hp => by
    rw [show mkE 2 [(0, 1)] = some [(0, 1)] from by decide] at hp
    obtain ⟨hb, B5, d5, he, ho⟩ := hp
    exact ⟨hb, B5, d5, he, ho.rd⟩)
  clear he hs
  go_enter Try.func29, Try.ntmps29
  go_wp2_with (first
    | (go_at_call 31; refine (GMK.out _ _ _ (rd_lit2_at (b := w.heap.size + 1) (by simp) [(0, 1)] _)).mono ?_; rintro e w1 ⟨hb, B5, d5, rfl, hr⟩; have B1 := Lib.hid hb; have R1 := Lib.hid hr; clear hb hr)
    | fail)
  have PQ0 : Hid (PQ w (w1.alloc (.cells #[.int .i64 2, .slice B5 1 d5] 24)) N A m c w1.heap.size 2 [(0, 1)] B5 1 d5) := Lib.hid (by
    have hz := B1.out.size
    simp at hz
    have bel0 : Below w.heap.size w ((w.alloc (.cells #[.int .i64 N, .slice A m c] 24)).alloc (.cells #[.int .i64 0, .int .i64 1] 42)) := ((Below.refl _ _).alloc (Nat.le_refl _) _).alloc (by simp) _
    have k0 : ((w.alloc (.cells #[.int .i64 N, .slice A m c] 24)).alloc (.cells #[.int .i64 0, .int .i64 1] 42)).cell? ⟨w.heap.size, 0, none⟩ = some (.int .i64 N) := by rw [World.cell?_alloc_lt _ _ _ (by simp)]; simp
    have k1 : ((w.alloc (.cells #[.int .i64 N, .slice A m c] 24)).alloc (.cells #[.int .i64 0, .int .i64 1] 42)).cell? ⟨w.heap.size, 1, none⟩ = some (.slice A m c) := by rw [World.cell?_alloc_lt _ _ _ (by simp)]; simp
    have kk := Keeps.of_below B1.out (Nat.le_refl _)
    exact ⟨(bel0.trans (B1.out.mono (by simp; omega))).alloc (by omega) _, by omega, by simp, Keeps.alloc _ _ _ _ (kk _ _ k0), Keeps.alloc _ _ _ _ (kk _ _ k1), by simp, by simp, by simp, by simp, R1.out.keep (Keeps.alloc _ _)⟩)
  clear B1 R1
  generalize hg1 : w1.heap.size = hb at PQ0 ⊢
  generalize w1.alloc (.cells #[.int .i64 2, .slice B5 1 d5] 24) = w2 at PQ0 ⊢
  clear hg1
  go_loopg [6, 17] n (fun g e i wr => ∃ (k : Nat) (v N' : Int) (es' : List (Int × Int)) (B' : Option Addr) (m' c' : Nat), k ≤ n ∧ g = n - k ∧ e = .int .i64 v ∧ i = .int .i64 k ∧ es'.length = m' ∧ m' ≤ 100 ∧ (v = 0 → seqK st k = some (N', es')) ∧ (v ≠ 0 → seqK st k = none) ∧ PQ w wr N A m c hb N' es' B' m' c')
  case atStart => exact ⟨0, 0, 2, [(0, 1)], B5, 1, d5, Nat.zero_le _, rfl, rfl, rfl, rfl, by omega, fun _ => rfl, fun h => absurd rfl h, PQ0.out⟩
  case round =>
    obtain ⟨k, v, N', es', B', m', c', hk, rfl, rfl, rfl, hl, hm1, hok, hno, hpq⟩ := hrel
    have HOK := Lib.hid hok
    have HNO := Lib.hid hno
    have HL := Lib.hid hl
    have HP := Lib.hid hpq
    have p0 := hpq.p0
    have p1 := hpq.p1
    have h0 := hpq.h0
    have h1 := hpq.h1
    have f0 := hpq.f0
    have f1 := hpq.f1
    have hlo := hpq.lo
    have hhi := hpq.hi
    have kE := Keeps.of_below hpq.bel (Nat.le_refl _)
    have RS := Lib.hid (HS.out.keep kE)
    have RE := Lib.hid (HE.out.keep kE)
    clear hok hno hl hpq kE
    by_cases hlt : k < n
    · obtain ⟨ad, rfl, c0, c1, c2⟩ := RS.out.trs_at hlt
      have STEP : Hid (v = 0 → seqK st (k + 1) = seqStep (N', es') (st.getD k (0, 0, 0))) := Lib.hid (fun h => by rw [seqK, HOK.out h]; rfl)
      generalize st.getD k (0, 0, 0) = t at c0 c1 c2 STEP
      obtain ⟨a, b, s⟩ := t
      simp only at c0 c1 c2
      by_cases hv : v = 0
      · subst hv
        have HPA : Hid (PQ w (wr.alloc (.cells #[.int .i64 a, .int .i64 b, .int .i64 s] 77)) N A m c hb N' es' B' m' c') := Lib.hid (HP.out.later ((Below.refl _ _).alloc (Nat.le_refl _) _))
        have ha0 := HPA.out.h0
        have ha1 := HPA.out.h1
        by_cases hz0 : (hennE N' es' a b s).1 = 0
        · obtain ⟨-, -, hen⟩ := henn_zero hz0
          generalize mkL (N' + 1).toNat (hennL N' es' a b s) = l at hen
          have NEXT : Hid (seqK st (k + 1) = some (N' + 1, l)) := Lib.hid (by rw [STEP.out rfl]; unfold seqStep; simp [hen])
          have inv2 := seqK_inv st (k + 1) _ NEXT.out
          have hn2 := inv2.n
          have hl2 := inv2.len
          simp only at hn2 hl2
          generalize hq : l.length = q at hl2
          have HQ := Lib.hid hq
          have hq100 : q ≤ 100 := by omega
          have CT : Hid (∀ w', Rd w' 2 B' m' (prs es') → Calls Try.prog 32 #[.agg #[.int .i64 N', .slice B' m' c'], .int .i64 a, .int .i64 b, .int .i64 s] w' fun e w'' => Below w'.heap.size w' w'' ∧ ∃ B5 d5, e = .returned (.tuple #[.agg #[.int .i64 (N' + 1), .slice B5 q d5], .int .i64 0]) ∧ Rd w'' 2 B5 q (prs l)) := Lib.hid (fun w' h => (ghenn_any N' B' m' c' es' a b s w' (by omega) h).mono (fun e w'' hp => by
            rw [hen] at hp
            obtain ⟨hb, h9 | ⟨-, B5, d5, he, hr⟩⟩ := hp
            · exact absurd rfl h9.1
            · simp only at he hr
              rw [hq] at he hr
              exact ⟨hb, B5, d5, he, hr⟩))
          clear hz0 hen hq hn2 hl2 inv2
          go_wp2_with (first
            | (go_at_call 32; refine (CT.out _ HPA.out.rd).mono ?_; rintro e w5 ⟨hb5, B6, d6, rfl, hr⟩; have R6 := Lib.hid hr; have HP6 := Lib.hid (HPA.out.later hb5); have h0 := HP6.out.h0; have h1 := HP6.out.h1; have f0 := HP6.out.f0; have f1 := HP6.out.f1; clear hb5 hr)
            | fail)
          go_roundg (n - (k + 1))
          case measure => omega
          case rel => exact ⟨k + 1, 0, N' + 1, l, B6, q, d6, by omega, rfl, rfl, by go_num, HQ.out, hq100, fun _ => NEXT.out, fun h => absurd rfl h, HP6.out.put R6.out⟩
        · obtain ⟨z, hz, hen⟩ : ∃ z : Int, z ≠ 0 ∧ hennE N' es' a b s = (z, []) := by
            cases h1 : hennBad1 N' es' a b
            · cases h2 : hennBad2 N' es' a b s
              · by_cases h3 : N' = 60
                · exact ⟨3, by decide, henn_60 h1 h2 h3⟩
                · rw [henn_ok h1 h2 h3] at hz0; exact absurd rfl hz0
              · exact ⟨1, by decide, henn_bad2 h2⟩
            · exact ⟨1, by decide, henn_bad1 h1⟩
          have NONE : Hid (seqK st (k + 1) = none) := Lib.hid (by rw [STEP.out rfl]; unfold seqStep; rw [if_neg hz0])
          have HZ := Lib.hid hz
          have CT : Hid (∀ w', Rd w' 2 B' m' (prs es') → Calls Try.prog 32 #[.agg #[.int .i64 N', .slice B' m' c'], .int .i64 a, .int .i64 b, .int .i64 s] w' fun e w'' => Below w'.heap.size w' w'' ∧ e = .returned (.tuple #[.agg #[.int .i64 0, .slice none 0 0], .int .i64 z])) := Lib.hid (fun w' h => (ghenn_any N' B' m' c' es' a b s w' (by omega) h).mono (fun e w'' hp => by
            rw [hen] at hp
            obtain ⟨hb, h9 | ⟨h9, -⟩⟩ := hp
            · exact ⟨hb, h9.2.2⟩
            · exact absurd h9 hz))
          clear hz0 hen hz
          go_wp2_with (first
            | (go_at_call 32; refine (CT.out _ HPA.out.rd).mono ?_; rintro e w5 ⟨hb5, rfl⟩; have HP6 := Lib.hid (HPA.out.later hb5); have h0 := HP6.out.h0; have h1 := HP6.out.h1; have f0 := HP6.out.f0; have f1 := HP6.out.f1; clear hb5)
            | fail)
          go_roundg (n - (k + 1))
          case measure => omega
          case rel => exact ⟨k + 1, z, 0, [], none, 0, 0, by omega, rfl, rfl, by go_num, rfl, by omega, fun h => absurd h HZ.out, fun _ => NONE.out, HP6.out.put (Rd.nil _ _ _)⟩
      · have dv : (v != 0) = true := by simpa using hv
        have FIN : Hid (seqB N es (seqK st n) = false) := Lib.hid (by rw [seqK_none (HNO.out hv) (by omega)]; rfl)
        have BL := Lib.hid HP.out.bel
        clear hv
        go_wp2_with fail
        go_ret
        exact ⟨ret_bool FIN.out.symm, BL.out.alloc (by omega) _⟩
    · obtain rfl : k = n := by omega
      by_cases hv : v = 0
      · subst hv
        have EQ : Hid (seqB N es (seqK st k) = (validB N es && (decide (N = N') && decide (es = es')))) := Lib.hid (by rw [HOK.out rfl]; rfl)
        cases h2 : validB N es
        · have HV := Lib.hid h2
          have FIN : Hid (seqB N es (seqK st k) = false) := Lib.hid (by rw [EQ.out, h2]; rfl)
          clear h2
          go_wp2_with (first
            | (go_at_call 60; refine (gvalid_b (b := false) N A m c es _ (by omega) RE.out HV.out).mono ?_; rintro e w5 ⟨rfl, hb5⟩; have BL := Lib.hid (HP.out.bel.trans (hb5.mono HP.out.bel.size)); clear hb5)
            | fail)
          go_ret
          exact ⟨ret_bool FIN.out.symm, BL.out⟩
        · have HV := Lib.hid h2
          clear h2
          cases h3 : (N == N')
          · have FIN : Hid (seqB N es (seqK st k) = false) := Lib.hid (by rw [EQ.out, decide_eq_false (by simpa using h3)]; simp)
            go_wp2_with (first
              | (go_at_call 60; refine (gvalid_b (b := true) N A m c es _ (by omega) RE.out HV.out).mono ?_; rintro e w5 ⟨rfl, hb5⟩; have HP5 := Lib.hid (HP.out.later hb5); have p0 := HP5.out.p0; have p1 := HP5.out.p1; have h0 := HP5.out.h0; have h1 := HP5.out.h1; clear hb5)
              | fail)
            go_ret
            exact ⟨ret_bool FIN.out.symm, HP5.out.bel⟩
          · have FIN : Hid (seqB N es (seqK st k) = decide (es = es')) := Lib.hid (by rw [EQ.out, HV.out, decide_eq_true (by simpa using h3)]; simp)
            go_wp2_with (first
              | (go_at_call 60; refine (gvalid_b (b := true) N A m c es _ (by omega) RE.out HV.out).mono ?_; rintro e w5 ⟨rfl, hb5⟩; have HP5 := Lib.hid (HP.out.later hb5); have RE5 := Lib.hid (RE.out.keep (Keeps.of_below hb5 (Nat.le_refl _))); have p0 := HP5.out.p0; have p1 := HP5.out.p1; have h0 := HP5.out.h0; have h1 := HP5.out.h1; clear hb5)
              | (go_at_call 76; refine (equalP_any A B' m c m' c' es es' _ (by omega) (by omega) RE5.out HP5.out.rd).mono ?_; rintro e w6 ⟨rfl, hb6⟩; have HP6 := Lib.hid (HP5.out.later hb6); clear hb6)
              | fail)
            go_ret
            exact ⟨ret_bool FIN.out.symm, HP6.out.bel⟩
      · have dv : (v == 0) = false := by simpa using hv
        have FIN : Hid (seqB N es (seqK st k) = false) := Lib.hid (by rw [HNO.out hv]; rfl)
        clear hv
        go_wp2_with fail
        go_ret
        exact ⟨ret_bool FIN.out.symm, HP.out.bel⟩
end Go.Proofs.Ytagcaljpgifppaa
