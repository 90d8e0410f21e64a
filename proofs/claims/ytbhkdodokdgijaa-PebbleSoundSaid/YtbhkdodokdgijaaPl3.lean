/-
  PebbleSound: the walk of the statement.
-/
import Derived.Test.YtbhkdodokdgijaaPl2
namespace Go.Proofs.Ytbhkdodokdgijaa
set_option linter.unusedVariables false
set_option linter.unusedSimpArgs false
open Go.RowKit Go.Sort
attribute [local go_sem ↓] Go.wp_at_zero Go.wp_at_succ

theorem cert_right {es : List (Int × Int)} {ls : List (List Int)} (h : certB es ls = true) {i : Nat} (hi : i < es.length) : rightB es i (ls.getD i []) = true := by
  unfold certB at h
  simp only [Bool.and_eq_true, decide_eq_true_eq, List.all_eq_true, List.mem_range] at h
  exact h.2 i (by omega)
theorem cert_span {es : List (Int × Int)} {ls : List (List Int)} (h : certB es ls = true) {V : List Int} (hV : 0 < spanI es V) : spanI es V + 3 ≤ 2 * (V.length : Int) := by
  unfold spanI at hV
  obtain ⟨e, he, hb⟩ := List.countP_pos_iff.1 (by omega : 0 < es.countP (inB V))
  obtain ⟨i, hi, rfl⟩ := List.getElem_of_mem he
  exact right_sound hi (cert_right h hi) V (by rw [List.getD_eq_getElem?_getD, List.getElem?_eq_getElem hi]; exact hb)
theorem cert_spa {n : Nat} {es : List (Int × Int)} {ls : List (List Int)} (hn : n ≤ 60) (hv : validB n es = true) (h : certB es ls = true) : SpA es := by
  intro S h2
  have hE : ∀ e ∈ es, 0 ≤ e.1 ∧ e.1 < e.2 ∧ e.2 < (60 : Nat) := fun e he => by
    have := ends_mem hv e he
    omega
  have e1 := spanI_ptsK (S := S) hE
  have e2 := ptsK_length 60 S
  by_cases h0 : 0 < spanI es (ptsK 60 S)
  · have := cert_span h h0
    omega
  · omega
theorem cert_rank {n : Nat} {es : List (Int × Int)} {ls : List (List Int)} (hn : n ≤ 60) (hv : validB n es = true) (h : certB es ls = true) : rankE es = es.length :=
  rank_spa (ok60_of hn (ok_of_valid hv)) (cert_spa hn hv h)
theorem cert_viol {n : Nat} {es : List (Int × Int)} {ls : List (List Int)} (hv : validB n es = true) (h : certB es ls = true) (ps : List Int) : violB n es ps = false := by
  rw [Bool.eq_false_iff]
  intro hb
  unfold violB at hb
  simp only [Bool.and_eq_true, decide_eq_true_eq] at hb
  obtain ⟨-, h2, h3⟩ := hb
  have hI : ((indE n es ps).length : Int) = spanI es ps := by
    unfold indE indK
    rw [hv, if_pos rfl, List.take_length, ← List.countP_eq_length_filter]
    rfl
  rw [hI] at h3
  have := cert_span h (V := ps) (by omega)
  omega
set_option maxHeartbeats 16000000 in
theorem law_psound (N : Int) (A B P : Option Addr) (m c nl cl k d : Nat) (es : List (Int × Int)) (ls : List (List Int)) (ps : List Int) (w : World) (hm : m ≤ maxLen) (hnl : nl ≤ maxLen) (hk : k ≤ maxLen) (he : Rd w 2 A m (prs es)) (hl : RdL w B nl ls) (hp : Rd w 1 P k (ints ps)) :
    Calls Try.prog 6 #[.agg #[.int .i64 N, .slice A m c], .slice B nl cl, .slice P k d] w fun e w' => e = .returned (.bool true) ∧ Below w.heap.size w w' := by
  have H0 := Lib.hid he
  have HE := Lib.hid he.prs_len
  have H1 := Lib.hid hl
  have H2 := Lib.hid hp
  have X0 : Hid (BX w N A m c (w.alloc (.cells #[.int .i64 N, .slice A m c] 24))) := Lib.hid BX.start
  unfold maxLen at hm hnl hk
  clear he hl hp
  by_cases h1 : (decide (N ≤ 8) && decide ((m : Int) ≤ 20)) = true
  · have D1 := Lib.hid h1
    have hm20 : m ≤ 20 := by simp at h1; omega
    have hN8 : N ≤ 8 := by simp at h1; omega
    clear h1
    cases hv : validB N es
    · have HV := Lib.hid hv
      clear hv
      go_enter Try.func6, Try.ntmps6
      go_wp2_with fail
      refine (awake_any _).mono ?_
      rintro e w1 ⟨rfl, hb⟩
      have X1 := Lib.hid (X0.out.next hb)
      obtain ⟨hz1, p0, p1⟩ := X1.out.facts
      clear hb
      go_wp2_with fail
      refine (few_b (b := true) N A m c _ D1.out).mono ?_
      rintro e w2 ⟨rfl, hb⟩
      have X2 := Lib.hid (X1.out.next hb)
      obtain ⟨hz2, p0, p1⟩ := X2.out.facts
      clear hb
      go_wp2_with fail
      refine (rvalid_b (b := false) N A m c es _ (by omega) (H0.out.keep X2.out.keeps) HV.out).mono ?_
      rintro e w3 ⟨rfl, hb⟩
      have X3 := Lib.hid (X2.out.next hb)
      obtain ⟨hz3, p0, p1⟩ := X3.out.facts
      clear hb
      go_wp2_with fail
      refine (awake_any _).mono ?_
      rintro e w4 ⟨rfl, hb⟩
      have X4 := Lib.hid (X3.out.next hb)
      clear hb
      go_wp2_with fail
      go_ret
      exact ⟨rfl, X4.out.below⟩
    · have HV := Lib.hid hv
      by_cases h30 : 30 < nl
      · have d30 : decide ((30 : Int) < (nl : Int)) = true := decide_eq_true (by omega)
        clear hv
        go_enter Try.func6, Try.ntmps6
        go_wp2_with fail
        refine (awake_any _).mono ?_
        rintro e w1 ⟨rfl, hb⟩
        have X1 := Lib.hid (X0.out.next hb)
        obtain ⟨hz1, p0, p1⟩ := X1.out.facts
        clear hb
        go_wp2_with fail
        refine (few_b (b := true) N A m c _ D1.out).mono ?_
        rintro e w2 ⟨rfl, hb⟩
        have X2 := Lib.hid (X1.out.next hb)
        obtain ⟨hz2, p0, p1⟩ := X2.out.facts
        clear hb
        go_wp2_with fail
        refine (rvalid_b (b := true) N A m c es _ (by omega) (H0.out.keep X2.out.keeps) HV.out).mono ?_
        rintro e w3 ⟨rfl, hb⟩
        have X3 := Lib.hid (X2.out.next hb)
        obtain ⟨hz3, p0, p1⟩ := X3.out.facts
        clear hb
        go_wp2_with fail
        refine (awake_any _).mono ?_
        rintro e w4 ⟨rfl, hb⟩
        have X4 := Lib.hid (X3.out.next hb)
        clear hb
        go_wp2_with fail
        go_ret
        exact ⟨rfl, X4.out.below⟩
      · have d30 : decide ((30 : Int) < (nl : Int)) = false := decide_eq_false (by omega)
        by_cases h10 : 10 < k
        · have d10 : decide ((10 : Int) < (k : Int)) = true := decide_eq_true (by omega)
          clear hv
          go_enter Try.func6, Try.ntmps6
          go_wp2_with fail
          refine (awake_any _).mono ?_
          rintro e w1 ⟨rfl, hb⟩
          have X1 := Lib.hid (X0.out.next hb)
          obtain ⟨hz1, p0, p1⟩ := X1.out.facts
          clear hb
          go_wp2_with fail
          refine (few_b (b := true) N A m c _ D1.out).mono ?_
          rintro e w2 ⟨rfl, hb⟩
          have X2 := Lib.hid (X1.out.next hb)
          obtain ⟨hz2, p0, p1⟩ := X2.out.facts
          clear hb
          go_wp2_with fail
          refine (rvalid_b (b := true) N A m c es _ (by omega) (H0.out.keep X2.out.keeps) HV.out).mono ?_
          rintro e w3 ⟨rfl, hb⟩
          have X3 := Lib.hid (X2.out.next hb)
          obtain ⟨hz3, p0, p1⟩ := X3.out.facts
          clear hb
          go_wp2_with fail
          refine (awake_any _).mono ?_
          rintro e w4 ⟨rfl, hb⟩
          have X4 := Lib.hid (X3.out.next hb)
          clear hb
          go_wp2_with fail
          go_ret
          exact ⟨rfl, X4.out.below⟩
        · have d10 : decide ((10 : Int) < (k : Int)) = false := decide_eq_false (by omega)
          obtain ⟨n, rfl, hn60⟩ := nat_of_valid hv
          have HOK : Hid (∀ e ∈ es, OkE n e) := Lib.hid (ok_of_valid hv)
          have CS : Hid (certB es ls = true → rankE es = es.length ∧ violB n es ps = false) := Lib.hid (fun h => ⟨cert_rank hn60 hv h, cert_viol hv h ps⟩)
          clear hv
          go_enter Try.func6, Try.ntmps6
          go_wp2_with fail
          refine (awake_any _).mono ?_
          rintro e w1 ⟨rfl, hb⟩
          have X1 := Lib.hid (X0.out.next hb)
          obtain ⟨hz1, p0, p1⟩ := X1.out.facts
          clear hb
          go_wp2_with fail
          refine (few_b (b := true) n A m c _ D1.out).mono ?_
          rintro e w2 ⟨rfl, hb⟩
          have X2 := Lib.hid (X1.out.next hb)
          obtain ⟨hz2, p0, p1⟩ := X2.out.facts
          clear hb
          go_wp2_with fail
          refine (rvalid_b (b := true) n A m c es _ (by omega) (H0.out.keep X2.out.keeps) HV.out).mono ?_
          rintro e w3 ⟨rfl, hb⟩
          have X3 := Lib.hid (X2.out.next hb)
          obtain ⟨hz3, p0, p1⟩ := X3.out.facts
          clear hb
          go_wp2_with fail
          go_loopg [8, 36] nl (fun g _ t wr => ∃ i : Nat, i ≤ nl ∧ g = nl - i ∧ t = .int .i64 i ∧ BX w n A m c wr)
          case atStart => exact ⟨0, by omega, rfl, rfl, X3.out⟩
          case round =>
            obtain ⟨i, hi, rfl, rfl, hx⟩ := hrel
            have X4 := Lib.hid hx
            obtain ⟨hz4, p0, p1⟩ := X4.out.facts
            have HL := Lib.hid (H1.out.keep X4.out.keeps)
            clear hx
            by_cases hlt : i < nl
            · obtain ⟨ad, B4, c4, rfl, ch, hrd⟩ := HL.out.at hlt
              generalize hq : (ls.getD i []).length = q at ch hrd
              clear hq hrd
              by_cases h40 : (40 : Int) < (q : Int)
              · have d40 : decide ((40 : Int) < (q : Int)) = true := decide_eq_true h40
                go_wp2_with fail
                go_ret
                exact ⟨rfl, X4.out.below⟩
              · have d40 : decide ((40 : Int) < (q : Int)) = false := decide_eq_false h40
                go_wp2_with fail
                go_roundg (nl - (i + 1))
                case measure => omega
                case rel => exact ⟨i + 1, by omega, rfl, by go_num, X4.out⟩
            · obtain rfl : i = nl := by omega
              rename World => w4
              cases hc : certB es ls
              · have CB := Lib.hid hc
                clear hc
                go_wp2_with fail
                refine (cert_b (b := false) n A B m c i cl es ls _ (by omega) (by omega) (by omega) (H0.out.keep X4.out.keeps) HL.out HOK.out CB.out).mono ?_
                rintro e w5 ⟨rfl, hb⟩
                have X5 := Lib.hid (X4.out.next hb)
                clear hb
                go_wp2_with fail
                go_ret
                exact ⟨rfl, X5.out.below⟩
              · obtain ⟨hkk, hvv⟩ := CS.out hc
                have CB := Lib.hid hc
                have HK := Lib.hid hkk
                have VV := Lib.hid hvv
                have PI : Hid (∀ w', Rd w' 2 A m (prs es) → Calls Try.prog 13 #[.agg #[.int .i64 (n : Int), .slice A m c]] w' fun e w'' => Below w'.heap.size w' w'' ∧ ∃ B d, e = .returned (.slice B m d)) := Lib.hid fun w' h => (pind_l (idxL es) m A m c es w' (by omega) h (by unfold indE'; rw [if_pos HV.out]) (by rw [idxL_len, hkk, HE.out])).mono (by rintro e w'' ⟨hb, B, d, rfl, -⟩; exact ⟨hb, B, d, rfl⟩)
                clear hc hkk hvv
                go_wp2_with fail
                refine (cert_b (b := true) n A B m c i cl es ls _ (by omega) (by omega) (by omega) (H0.out.keep X4.out.keeps) HL.out HOK.out CB.out).mono ?_
                rintro e w5 ⟨rfl, hb⟩
                have X5 := Lib.hid (X4.out.next hb)
                obtain ⟨hz5, p0, p1⟩ := X5.out.facts
                clear hb
                go_wp2_with fail
                refine (vio_none n A m c es _ (by omega) (H0.out.keep X5.out.keeps) (.inr HK.out)).mono ?_
                rintro e w6 ⟨hb, B6, c6, rfl⟩
                have X6 := Lib.hid (X5.out.next hb)
                obtain ⟨hz6, p0, p1⟩ := X6.out.facts
                have n0 := World.new_ne w6 _ p1
                clear hb
                go_wp2_with fail
                go_region_held3 (fun w' => w'.cell? ⟨w.heap.size, 0, none⟩ = some (.int .i64 (n : Int)) ∧ w'.cell? ⟨w.heap.size, 1, none⟩ = some (.slice A m c)) (go_keep)
                  ((first
                    | (go_at_call 25; refine (viol_b (b := false) n A P m c k d es ps _ (by omega) (by omega) (H0.out.keep X6.out.drew.keeps) (H2.out.keep X6.out.drew.keeps) VV.out).mono ?_; rintro e w7 ⟨rfl, hb⟩; have X7 : Hid (BX w n A m c w7) := Lib.hid (X6.out.drew.next hb); obtain ⟨hz7, p0, p1⟩ := X7.out.facts; have n0 := World.new_ne w7 _ p1; clear hb)
                    | (go_at_call 13; refine (PI.out _ (H0.out.keep X7.out.keeps)).mono ?_; rintro e w8 ⟨hb, B8, c8, rfl⟩; have X8 : Hid (BX w n A m c w8) := Lib.hid (X7.out.next hb); obtain ⟨hz8, p0, p1⟩ := X8.out.facts; have n0 := World.new_ne w8 _ p1; clear hb)
                    | fail))
                all_goals
                 go_wp2_with fail
                 go_ret
                 exact ⟨rfl, X8.out.below⟩
  · have D1 : Hid ((decide (N ≤ 8) && decide ((m : Int) ≤ 20)) = false) := Lib.hid (by simpa using h1)
    clear h1
    go_enter Try.func6, Try.ntmps6
    go_wp2_with fail
    refine (awake_any _).mono ?_
    rintro e w1 ⟨rfl, hb⟩
    have X1 := Lib.hid (X0.out.next hb)
    obtain ⟨hz1, p0, p1⟩ := X1.out.facts
    clear hb
    go_wp2_with fail
    refine (few_b (b := false) N A m c _ D1.out).mono ?_
    rintro e w2 ⟨rfl, hb⟩
    have X2 := Lib.hid (X1.out.next hb)
    clear hb
    go_wp2_with fail
    refine (awake_any _).mono ?_
    rintro e w3 ⟨rfl, hb⟩
    have X3 := Lib.hid (X2.out.next hb)
    clear hb
    go_wp2_with fail
    go_ret
    exact ⟨rfl, X3.out.below⟩
end Go.Proofs.Ytbhkdodokdgijaa
