/-
  pebble.start, (*pebble.game).accept, pebble.play.
-/
import Derived.Test.YtbhkdodokdgijaaP4
import Derived.Test.YtbhkdodokdgijaaSpecU
namespace Go.Proofs.Ytbhkdodokdgijaa
set_option linter.unusedVariables false
set_option linter.unusedSimpArgs false
open Go.RowKit Go.Sort

attribute [local go_sem ↓] Go.wp_at_zero Go.wp_at_succ
theorem ownM_made {w : World} {base : Nat} (n : Nat) (hn : n ≤ maxLen) (hbase : base ≤ w.heap.size) : OwnM (w.alloc (.cells (madeCells #[.slice none 0 0] n) 27)) base (some ⟨w.heap.size, 0, none⟩) n n (List.replicate n (none, 0)) (List.replicate n []) := by
  have h := World.ownsRow_lit (base := base) (e := 27) (size := 1) w (madeCells #[.slice none 0 0] n) n hbase hn (by simp [madeCells])
  have e : (madeCells #[.slice none 0 0] n).toList = heads (List.replicate n (none, 0)) (List.replicate n []) := by
    apply List.ext_getElem
    · simp [madeCells, heads]
    · intro i h1 h2; simp [madeCells, heads, Nat.mod_one]
  rw [e] at h
  refine ⟨by simp, by simp, h, fun i hd l a b => ?_, fun i j hi hj _ a b => ?_⟩
  · have hi : i < n := by
      rcases Nat.lt_or_ge i n with h' | h'
      · exact h'
      · rw [List.getElem?_eq_none (by simpa using h')] at a; cases a
    rw [List.getElem?_replicate, if_pos hi] at a b
    obtain rfl := Option.some.inj a
    obtain rfl := Option.some.inj b
    exact Own.nil _ _ _ _
  · rw [List.getElem?_replicate] at a
    split at a
    · obtain rfl := Option.some.inj a
      exact .inl rfl
    · cases a
theorem gm_start {w : World} {base : Nat} (n : Nat) (hn : n ≤ maxLen) (hbase : base ≤ w.heap.size) :
    GM ((w.alloc (.cells (madeCells #[.slice none 0 0] n) 27)).alloc (.cells #[.slice (some ⟨w.heap.size, 0, none⟩) n n] 76)) base (w.heap.size + 1) w.heap.size n n (List.replicate n (none, 0)) (List.replicate n []) := by
  refine ⟨?_, by omega, (ownM_made n hn hbase).alloc _⟩
  have h := heap_alloc_new (w.alloc (.cells (madeCells #[.slice none 0 0] n) 27)) (.cells #[.slice (some ⟨w.heap.size, 0, none⟩) n n] 76)
  have e : (w.alloc (.cells (madeCells #[.slice none 0 0] n) 27)).heap.size = w.heap.size + 1 := by simp
  rw [e] at h
  exact h
set_option maxHeartbeats 1000000 in
theorem start_any (n : Nat) (w : World) (hn : n ≤ 60) :
    Calls Try.prog 38 #[.int .i64 n] w fun e w' => e = .returned (.pointer (some ⟨w.heap.size + 1, 0, none⟩)) ∧ w' = (w.alloc (.cells (madeCells #[.slice none 0 0] n) 27)).alloc (.cells #[.slice (some ⟨w.heap.size, 0, none⟩) n n] 76) := by
  have hmk := run_make_row' (P := Try.prog) 31 27 (.slice none 0 0) 24 Try.underlying31 info_ints rfl .i64 .i64 n (by omega) (by omega)
  go_enter Try.func38, Try.ntmps38
  go_wp2
  go_ret
  exact ⟨by simp, rfl⟩

def APost (w : World) (base b go n c : Nat) (hs : List (Option Addr × Nat)) (out : List (List Int)) (p q : Nat) (e : Ending) (w' : World) : Prop :=
  ∃ r out' hs', e = .returned (.bool r) ∧ GM w' base b go n c hs' out' ∧ GStep (fun _ => False) w w' go hs hs' ∧ Acc n out p q r out'
set_option maxRecDepth 100000 in
set_option maxHeartbeats 8000000 in
theorem accept_any (w : World) (base b go n c : Nat) (hs : List (Option Addr × Nat)) (out : List (List Int)) (p q : Nat) (hn : n ≤ 60) (hg : GM w base b go n c hs out) (hgs : GS n out) (hp : p < n) (hq : q < n) (hpq : p ≠ q) :
    Calls Try.prog 39 #[.pointer (some ⟨b, 0, none⟩), .int .i64 p, .int .i64 q] w (APost w base b go n c hs out p q) := by
  have HGA := Lib.hid (gather_any w base b go n c hs out p q hn hg hgs hp hq hpq)
  have HGS := Lib.hid hgs
  have p0 : (0 : Int) ≤ (p : Int) := by omega
  have p1 : (p : Int) < (n : Int) := by omega
  clear hg hgs
  go_enter Try.func39, Try.ntmps39
  go_upto_region 1 with fail
  go_cut [11] (fun t wx => ∃ (r : Bool) (out1 out2 : List (List Int)) (hs2 : List (Option Addr × Nat)), t = .bool (!r) ∧ GLoop n out p q out1 ∧ GLoop n out1 q p out2 ∧ GM wx base b go n c hs2 out2 ∧ GStep (fun _ => False) w wx go hs hs2 ∧ (r = true → rowOf out2 p = [] ∧ rowOf out2 q = []) ∧ (r = false → 1 ≤ (rowOf out2 p).length + (rowOf out2 q).length))
  case first =>
    go_wp2_with (first
      | (go_at_call 52; refine HGA.out.mono ?_; rintro e w5 ⟨out1, out2, hs2, l1, l2, rfl, hg2, hst2⟩; have R5 := Lib.hid (And.intro l1 (And.intro l2 (And.intro hg2 hst2))); clear l1 l2 hg2 hst2; generalize hlp : (rowOf out2 p).length = mp; generalize hlq : (rowOf out2 q).length = mq; have HLP := Lib.hid hlp; have HLQ := Lib.hid hlq; clear hlp hlq)
      | fail)
    go_meet
    obtain ⟨l1, l2, hg2, hst2⟩ := R5.out
    have hp2 := HLP.out
    have hq2 := HLQ.out
    refine ⟨decide (mp + mq = 0), out1, out2, hs2, ?_, l1, l2, hg2, hst2, fun h => ?_, fun h => ?_⟩
    · congr 1
      by_cases h : mp + mq = 0
      · rw [decide_eq_true h, decide_eq_false (by omega)]; rfl
      · rw [decide_eq_false h, decide_eq_true (by omega)]; rfl
    · have : mp + mq = 0 := by simpa using h
      exact ⟨List.eq_nil_of_length_eq_zero (by omega), List.eq_nil_of_length_eq_zero (by omega)⟩
    · have : ¬ mp + mq = 0 := by simpa using h
      omega
  case rest =>
    obtain ⟨r, out1, out2, hs2, rfl, l1, l2, hg2, hst2, hyes, hno⟩ := hcut
    cases r
    · go_wp2_with fail
      go_ret
      exact ⟨false, out2, hs2, rfl, hg2, hst2, out1, out2, l1, l2, .inr ⟨rfl, hno (by simp), rfl⟩⟩
    · obtain ⟨e1, e2⟩ := hyes rfl
      rename World => w6
      obtain ⟨⟨A6, d6⟩, hh6, ho6, cr6, or6⟩ := hg2.row_at hp
      simp only at cr6 or6
      have HL := Lib.hid (And.intro l1 (And.intro l2 (And.intro e1 e2)))
      rw [e1] at cr6 or6 ho6
      simp only [List.length_nil] at cr6 or6
      have HG6 := Lib.hid hg2
      have HST6 := Lib.hid hst2
      have HH6 := Lib.hid hh6
      have HO6 := Lib.hid ho6
      have cb6 := hg2.cell
      have fz6 : w6.frozen? ⟨go, p, none⟩ = false := hg2.om.outer.frozen p
      have cba : (w6.drew.alloc (.cells #[.int .i64 (q : Int)] 3)).cell? ⟨b, 0, none⟩ = some (.slice (some ⟨go, 0, none⟩) n c) := Keeps.alloc w6.drew _ _ _ cb6
      have cra : (w6.drew.alloc (.cells #[.int .i64 (q : Int)] 3)).cell? ⟨go, p, none⟩ = some (.slice A6 0 d6) := Keeps.alloc w6.drew _ _ _ cr6
      have cbb : (w6.alloc (.cells #[.int .i64 (q : Int)] 3)).cell? ⟨b, 0, none⟩ = some (.slice (some ⟨go, 0, none⟩) n c) := Keeps.alloc w6 _ _ _ cb6
      have crb : (w6.alloc (.cells #[.int .i64 (q : Int)] 3)).cell? ⟨go, p, none⟩ = some (.slice A6 0 d6) := Keeps.alloc w6 _ _ _ cr6
      have HGA6 : Hid (GM (w6.drew.alloc (.cells #[.int .i64 (q : Int)] 3)) base b go n c hs2 out2) := Lib.hid (hg2.later (((Below.refl _ _).drew).alloc (by simp) _))
      have ORA : Hid (Own (w6.drew.alloc (.cells #[.int .i64 (q : Int)] 3)) base 3 1 A6 0 d6 (ints [])) := Lib.hid (Own.alloc (w := w6.drew) or6 _)
      have HB6 : base ≤ w6.heap.size := by have := hg2.lt; have := hg2.lo; omega
      clear hg2 hst2 hyes hno l1 l2 e1 e2 hh6 ho6 or6
      go_upto_region 3 with fail
      go_region_law ((first
        | (refine step_app _ rfl (.tmp 23) (.tmp 25) 27 rfl base 3 (.int .i64 0) 1 8 Try.underlying27 info_int' rfl (by decide) A6 0 d6 (ints []) (by simp [Act.eval, Act.put]) ORA.out (some ⟨w6.heap.size, 0, none⟩) 1 1 (ints [(q : Int)]) (by simp [Act.eval, Act.put]) (rd_lit_at rfl [(q : Int)] _) (ints_one _) (by omega) (by unfold maxLen; omega) (by simp; omega) ?_; intro B7 c7 w7 ho7 hg7 hb7; obtain ⟨cb7, cr7, fz7⟩ := HGA6.out.push_facts ORA.out hg7 cra; have P7 := Lib.hid (HGA6.out.push HH6.out HO6.out rfl hg7 ho7 hb7); clear ho7 hg7 hb7)
        | fail))
      all_goals
       go_wp2_with fail
       go_ret
       obtain ⟨l1, l2, e1, e2⟩ := HL.out
       exact ⟨true, _, _, rfl, P7.out.1, HST6.out.trans ((GStep.of_below (((Below.refl _ _).drew).alloc (by simp) _)).trans (P7.out.2 _)), out1, out2, l1, l2, .inl ⟨rfl, e1, e2, rfl⟩⟩
end Go.Proofs.Ytbhkdodokdgijaa
