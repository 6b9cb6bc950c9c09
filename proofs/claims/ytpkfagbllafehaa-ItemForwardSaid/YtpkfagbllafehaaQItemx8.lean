-- Written by a program of this work (a changed copy of a printer); Lean checks it.
import Derived.Test.YtpkfagbllafehaaQItemx0
import Derived.Test.YtpkfagbllafehaaQItemx1
import Derived.Test.YtpkfagbllafehaaQItemx2
import Derived.Test.YtpkfagbllafehaaQItemx3
import Derived.Test.YtpkfagbllafehaaQItemx5
import Derived.Test.YtpkfagbllafehaaQItemx6
import Derived.Test.YtpkfagbllafehaaQItemx7
import Derived.Test.YtpkfagbllafehaaQItemx8d
namespace Go.Proofs.Ytpkfagbllafehaa.QItem
open Go.RowKit Go.Proofs.YtpkfagbllafehaaW.PrintWords Go.Proofs.YtpkfagbllafehaaW.PrintLast Go.Proofs.YtpkfagbllafehaaW.PrintMore
attribute [local go_sem] max2_int min2_int max_two min_two max_three min_three max_four min_four   -- for this text's walks alone
set_option linter.unusedVariables false
set_option linter.unusedSimpArgs false
attribute [local go_sem high] eqA31 eqA53
set_option maxHeartbeats 8000000 in
set_option maxRecDepth 100000 in
theorem contralaw09_ItemForward.calls (k : Nat) (a0_0 : Int) (a0_1 : Int) (a0_2 : Int) (a0_3 : Int) (a0_4 : Int) (a0_5 : Int) (a0_6 : Int) (a0_7 : Int) (A1 : Option Addr) (c1 : Nat) (l1 : List (S93)) (w : World) (hr1 : Kd.C k93 w A1 l1.length l1) (hc1 : l1.length ≤ c1) (h : contralaw09_ItemForward.f k a0_0 a0_1 a0_2 a0_3 a0_4 a0_5 a0_6 a0_7 l1 = some true) :
  Calls Try.prog 8 #[.agg #[.int .i64 a0_0, .int .i64 a0_1, .int .i64 a0_2, .int .i64 a0_3, .int .i64 a0_4, .int .i64 a0_5, .int .i64 a0_6, .int .i64 a0_7], .slice A1 l1.length c1] w fun e w' => e = .returned (.bool true) ∧ Below w.heap.size w w' := by
 have hu53 := Try.underlying53
 have hu93 := Try.underlying93
 have hu31 := Try.underlying31
 have HR1 := Aside0.mk hr1
 have HC1 := Aside0.mk hc1
 clear hr1 hc1
 have HB := Aside0.mk (Below.refl w.heap.size w)
 have H : ((contralaw09_lives.f k).bind fun t294 => (if t294 = true then ((contraref09_Check.f k a0_0 a0_1 a0_2 a0_3 a0_4 a0_5 a0_6 a0_7).bind fun t295 => (if t295 = 0 then (contralaw09_ItemForward.j0 k l1 (decide ((l1.length : Int) > 60)) a0_0 a0_1 a0_2 a0_3 a0_4 a0_5 a0_6 a0_7) else (contralaw09_ItemForward.j0 k l1 true a0_0 a0_1 a0_2 a0_3 a0_4 a0_5 a0_6 a0_7))) else (some false))) = some true := h
 clear h
 replace H := Option.bind_eq_some_iff.mp H
 obtain ⟨t294, A30, H⟩ := H
 replace H : (if t294 = true then ((contraref09_Check.f k a0_0 a0_1 a0_2 a0_3 a0_4 a0_5 a0_6 a0_7).bind fun t295 => (if t295 = 0 then (contralaw09_ItemForward.j0 k l1 (decide ((l1.length : Int) > 60)) a0_0 a0_1 a0_2 a0_3 a0_4 a0_5 a0_6 a0_7) else (contralaw09_ItemForward.j0 k l1 true a0_0 a0_1 a0_2 a0_3 a0_4 a0_5 a0_6 a0_7))) else (some false)) = some true := H
 have A3 := Aside0.mk A30
 clear A30
 by_cases c4 : t294 = true
 ·subst c4
  have H1 : ((contraref09_Check.f k a0_0 a0_1 a0_2 a0_3 a0_4 a0_5 a0_6 a0_7).bind fun t295 => (if t295 = 0 then (contralaw09_ItemForward.j0 k l1 (decide ((l1.length : Int) > 60)) a0_0 a0_1 a0_2 a0_3 a0_4 a0_5 a0_6 a0_7) else (contralaw09_ItemForward.j0 k l1 true a0_0 a0_1 a0_2 a0_3 a0_4 a0_5 a0_6 a0_7))) = some true := by rw [if_pos rfl] at H; try exact H
  clear H
  have H := H1
  clear H1
  have HC5 := Aside0.mk H
  clear H
  go_enter Try.func8, Try.ntmps8
  go_upto_region 3 with (first | ((with_reducible refine gate_dst (N := 2) rfl ?_); (try (refine gate_guard (by rfl) ?_; dsimp only)); refine box_event ?hg (N := 2) ?hd (cs := #[.int .i64 a0_0, .int .i64 a0_1, .int .i64 a0_2, .int .i64 a0_3, .int .i64 a0_4, .int .i64 a0_5, .int .i64 a0_6, .int .i64 a0_7]) (t := 53) ?hr ?_; (case hd => rfl); (case hg => rfl); (case hr => first | (go_simp; done) | (go_simp; rfl)); intro gb293 hg w6 hbox hb; have n0_ := Aside0.mk (below_step (by repeat (first | (with_reducible first | exact HB.out | apply below_alloc | apply pw_below_drewN | apply below_drew1) | exact HB.out)) hb); have n1_ := Aside0.mk (hbox); have n2_ := Aside0.mk ((by rw [hg]; exact (below_size (by repeat (first | (with_reducible first | exact HB.out | apply below_alloc | apply pw_below_drewN | apply below_drew1) | exact HB.out))) : w.heap.size ≤ gb293)); have n3_ := Aside0.mk ((by rw [hg]; exact (below_size (by repeat (first | (with_reducible first | exact HB.out | apply below_alloc | apply pw_below_drewN | apply below_drew1) | exact HB.out))) : w.heap.size ≤ gb293)); clear HB; have HB := n0_; have BK293 := n1_; have GW293 := n2_; have GE293 := n3_; clear n0_ n1_ n2_ n3_; clear hb hbox hg) | ((with_reducible refine gate_callee (f := 44) rfl ?_); refine goesL_ (some 9) rfl rfl Try.func44 (by kernel_rfl) rfl #[] rfl (by (try simp only [List.map_toArray, List.map_cons, List.map_nil]); first | done | rfl | (simp only [List.length_drop, List.length_take]; rfl)) ?_; (with_reducible refine (contralaw09_lives.calls k   _ A3.out).mono ?_); rintro e w7 ⟨rfl, hb⟩; refine ⟨_, rfl, ?_⟩; have n0_ := Aside0.mk (blk_below (g := gb293) (o := .cells #[.int .i64 a0_0, .int .i64 a0_1, .int .i64 a0_2, .int .i64 a0_3, .int .i64 a0_4, .int .i64 a0_5, .int .i64 a0_6, .int .i64 a0_7] 53 (0, 0)) (by (with_reducible repeat (first | refine blk_drewN ?_ _ | refine blk_drew ?_ | refine blk_alloc ?_ _)); exact BK293.out) hb); have n1_ := Aside0.mk (below_step (by repeat (first | (with_reducible first | exact HB.out | apply below_alloc | apply pw_below_drewN | apply below_drew1 | refine below_set ?_ GE293.out) | exact HB.out)) hb); clear BK293; clear HB; have BK293 := n0_; have HB := n1_; clear n0_ n1_; (try clear hb); (try clear hb2); (try clear hk); (try clear hi)))
  (try simp only [Act.put, List.setIfInBounds_toArray, List.set_cons_zero, List.set_cons_succ])
  go_cut [18] (fun v18 wc => ∃ (kq : Nat) (x18_4 : Bool), v18 = .bool x18_4 ∧ Aside0 (contralaw09_ItemForward.j0 kq l1 x18_4 a0_0 a0_1 a0_2 a0_3 a0_4 a0_5 a0_6 a0_7 = some true) ∧ Aside0 (kq ≤ k) ∧ Aside0 (wc.heap[gb293]? = some (.cells #[.int .i64 a0_0, .int .i64 a0_1, .int .i64 a0_2, .int .i64 a0_3, .int .i64 a0_4, .int .i64 a0_5, .int .i64 a0_6, .int .i64 a0_7] 53 (0, 0))) ∧ Aside0 (Below w.heap.size w wc))
  case first =>
   have H := HC5.out
   clear HC5
   replace H := Option.bind_eq_some_iff.mp H
   obtain ⟨t295, A80, H⟩ := H
   replace H : (if t295 = 0 then (contralaw09_ItemForward.j0 k l1 (decide ((l1.length : Int) > 60)) a0_0 a0_1 a0_2 a0_3 a0_4 a0_5 a0_6 a0_7) else (contralaw09_ItemForward.j0 k l1 true a0_0 a0_1 a0_2 a0_3 a0_4 a0_5 a0_6 a0_7)) = some true := H
   have A8 := Aside0.mk A80
   clear A80
   by_cases c9 : t295 = 0
   ·rw [if_pos c9] at H
    have c9b0 : (t295 == 0) = true := beq_iff_eq.mpr c9
    have c9b1 : (t295 != 0) = false := bne_eq_false_iff_eq.mpr c9
    clear c9
    (first | rw [c9b0] | (simp only [i64_w, i32_w]; rw [c9b0]) | skip)
    have H' := Aside0.mk H
    clear H
    have hcz10_0 : w7.cell? ⟨gb293, 0, none⟩ = some (.int .i64 a0_0) := (blk_cell BK293.out 0).trans rfl
    have hcz10_1 : w7.cell? ⟨gb293, 1, none⟩ = some (.int .i64 a0_1) := (blk_cell BK293.out 1).trans rfl
    have hcz10_2 : w7.cell? ⟨gb293, 2, none⟩ = some (.int .i64 a0_2) := (blk_cell BK293.out 2).trans rfl
    have hcz10_3 : w7.cell? ⟨gb293, 3, none⟩ = some (.int .i64 a0_3) := (blk_cell BK293.out 3).trans rfl
    have hcz10_4 : w7.cell? ⟨gb293, 4, none⟩ = some (.int .i64 a0_4) := (blk_cell BK293.out 4).trans rfl
    have hcz10_5 : w7.cell? ⟨gb293, 5, none⟩ = some (.int .i64 a0_5) := (blk_cell BK293.out 5).trans rfl
    have hcz10_6 : w7.cell? ⟨gb293, 6, none⟩ = some (.int .i64 a0_6) := (blk_cell BK293.out 6).trans rfl
    have hcz10_7 : w7.cell? ⟨gb293, 7, none⟩ = some (.int .i64 a0_7) := (blk_cell BK293.out 7).trans rfl
    have hfz10_0 := blk_frozen BK293.out 0
    have hfz10_1 := blk_frozen BK293.out 1
    have hfz10_2 := blk_frozen BK293.out 2
    have hfz10_3 := blk_frozen BK293.out 3
    have hfz10_4 := blk_frozen BK293.out 4
    have hfz10_5 := blk_frozen BK293.out 5
    have hfz10_6 := blk_frozen BK293.out 6
    have hfz10_7 := blk_frozen BK293.out 7
    go_wp2_with (first | ((with_reducible refine gate_callee (f := 45) rfl ?_); refine goesL_ (some 12) rfl rfl Try.func45 (by kernel_rfl) rfl #[.agg #[.int .i64 a0_0, .int .i64 a0_1, .int .i64 a0_2, .int .i64 a0_3, .int .i64 a0_4, .int .i64 a0_5, .int .i64 a0_6, .int .i64 a0_7]] rfl (by (try simp only [List.map_toArray, List.map_cons, List.map_nil]); first | done | rfl | (simp only [List.length_drop, List.length_take]; rfl)) ?_; (with_reducible refine (contraref09_Check.calls k a0_0 a0_1 a0_2 a0_3 a0_4 a0_5 a0_6 a0_7 t295 _ A8.out).mono ?_); rintro e w11 ⟨rfl, hb⟩; refine ⟨_, rfl, ?_⟩; have n0_ := Aside0.mk (blk_below (g := gb293) (o := .cells #[.int .i64 a0_0, .int .i64 a0_1, .int .i64 a0_2, .int .i64 a0_3, .int .i64 a0_4, .int .i64 a0_5, .int .i64 a0_6, .int .i64 a0_7] 53 (0, 0)) (by (with_reducible repeat (first | refine blk_drewN ?_ _ | refine blk_drew ?_ | refine blk_alloc ?_ _)); exact BK293.out) hb); have n1_ := Aside0.mk (below_step (by repeat (first | (with_reducible first | exact HB.out | apply below_alloc | apply pw_below_drewN | apply below_drew1 | refine below_set ?_ GE293.out) | exact HB.out)) hb); clear BK293; clear HB; have BK293 := n0_; have HB := n1_; clear n0_ n1_; (try clear hb); (try clear hb2); (try clear hk); (try clear hi)))
    go_meet
    case rel => exact ⟨_, (decide ((l1.length : Int) > 60)), (by first | rfl | (simp; done) | (simp [*]; done)), H', ⟨by first | omega | exact Nat.le_refl _⟩, ⟨by (with_reducible repeat (first | refine blk_drewN ?_ _ | refine blk_drew ?_ | refine blk_alloc ?_ _)); exact BK293.out⟩, ⟨by repeat (first | (with_reducible first | exact HB.out | apply below_alloc | apply pw_below_drewN | apply below_drew1 | refine below_set ?_ GE293.out) | exact HB.out)⟩⟩
   rw [if_neg c9] at H
   have c9b0 : (t295 == 0) = false := beq_eq_false_iff_ne.mpr c9
   have c9b1 : (t295 != 0) = true := bne_iff_ne.mpr c9
   clear c9
   (first | rw [c9b0] | (simp only [i64_w, i32_w]; rw [c9b0]) | skip)
   have H' := Aside0.mk H
   clear H
   have hcz12_0 : w7.cell? ⟨gb293, 0, none⟩ = some (.int .i64 a0_0) := (blk_cell BK293.out 0).trans rfl
   have hcz12_1 : w7.cell? ⟨gb293, 1, none⟩ = some (.int .i64 a0_1) := (blk_cell BK293.out 1).trans rfl
   have hcz12_2 : w7.cell? ⟨gb293, 2, none⟩ = some (.int .i64 a0_2) := (blk_cell BK293.out 2).trans rfl
   have hcz12_3 : w7.cell? ⟨gb293, 3, none⟩ = some (.int .i64 a0_3) := (blk_cell BK293.out 3).trans rfl
   have hcz12_4 : w7.cell? ⟨gb293, 4, none⟩ = some (.int .i64 a0_4) := (blk_cell BK293.out 4).trans rfl
   have hcz12_5 : w7.cell? ⟨gb293, 5, none⟩ = some (.int .i64 a0_5) := (blk_cell BK293.out 5).trans rfl
   have hcz12_6 : w7.cell? ⟨gb293, 6, none⟩ = some (.int .i64 a0_6) := (blk_cell BK293.out 6).trans rfl
   have hcz12_7 : w7.cell? ⟨gb293, 7, none⟩ = some (.int .i64 a0_7) := (blk_cell BK293.out 7).trans rfl
   have hfz12_0 := blk_frozen BK293.out 0
   have hfz12_1 := blk_frozen BK293.out 1
   have hfz12_2 := blk_frozen BK293.out 2
   have hfz12_3 := blk_frozen BK293.out 3
   have hfz12_4 := blk_frozen BK293.out 4
   have hfz12_5 := blk_frozen BK293.out 5
   have hfz12_6 := blk_frozen BK293.out 6
   have hfz12_7 := blk_frozen BK293.out 7
   go_wp2_with (first | ((with_reducible refine gate_callee (f := 45) rfl ?_); refine goesL_ (some 12) rfl rfl Try.func45 (by kernel_rfl) rfl #[.agg #[.int .i64 a0_0, .int .i64 a0_1, .int .i64 a0_2, .int .i64 a0_3, .int .i64 a0_4, .int .i64 a0_5, .int .i64 a0_6, .int .i64 a0_7]] rfl (by (try simp only [List.map_toArray, List.map_cons, List.map_nil]); first | done | rfl | (simp only [List.length_drop, List.length_take]; rfl)) ?_; (with_reducible refine (contraref09_Check.calls k a0_0 a0_1 a0_2 a0_3 a0_4 a0_5 a0_6 a0_7 t295 _ A8.out).mono ?_); rintro e w13 ⟨rfl, hb⟩; refine ⟨_, rfl, ?_⟩; have n0_ := Aside0.mk (blk_below (g := gb293) (o := .cells #[.int .i64 a0_0, .int .i64 a0_1, .int .i64 a0_2, .int .i64 a0_3, .int .i64 a0_4, .int .i64 a0_5, .int .i64 a0_6, .int .i64 a0_7] 53 (0, 0)) (by (with_reducible repeat (first | refine blk_drewN ?_ _ | refine blk_drew ?_ | refine blk_alloc ?_ _)); exact BK293.out) hb); have n1_ := Aside0.mk (below_step (by repeat (first | (with_reducible first | exact HB.out | apply below_alloc | apply pw_below_drewN | apply below_drew1 | refine below_set ?_ GE293.out) | exact HB.out)) hb); clear BK293; clear HB; have BK293 := n0_; have HB := n1_; clear n0_ n1_; (try clear hb); (try clear hb2); (try clear hk); (try clear hi)))
   go_meet
   case rel => exact ⟨_, (true), (by first | rfl | (simp; done) | (simp [*]; done)), H', ⟨by first | omega | exact Nat.le_refl _⟩, ⟨by (with_reducible repeat (first | refine blk_drewN ?_ _ | refine blk_drew ?_ | refine blk_alloc ?_ _)); exact BK293.out⟩, ⟨by repeat (first | (with_reducible first | exact HB.out | apply below_alloc | apply pw_below_drewN | apply below_drew1 | refine below_set ?_ GE293.out) | exact HB.out)⟩⟩
  case rest =>
   clear HC5
   try clear c1; try clear p2; try clear c4; try clear c8; try clear c9; try clear c9b0; try clear c9b1; try clear hcz10_0; try clear hcz10_1; try clear hcz10_2; try clear hcz10_3; try clear hcz10_4; try clear hcz10_5; try clear hcz10_6; try clear hcz10_7; try clear hcz12_0; try clear hcz12_1; try clear hcz12_2; try clear hcz12_3; try clear hcz12_4; try clear hcz12_5; try clear hcz12_6; try clear hcz12_7; try clear hfz10_0; try clear hfz10_1; try clear hfz10_2; try clear hfz10_3; try clear hfz10_4; try clear hfz10_5; try clear hfz10_6; try clear hfz10_7; try clear hfz12_0; try clear hfz12_1; try clear hfz12_2; try clear hfz12_3; try clear hfz12_4; try clear hfz12_5; try clear hfz12_6; try clear hfz12_7
   obtain ⟨kq, x18_4, rfl, HA, HJ4, BK293, HB⟩ := hcut
   cases kq with
   | zero => exact absurd HA.out (by simp [contralaw09_ItemForward.j0])
   | succ kj4 =>
    have H := HA.out
    clear HA
    simp only [contralaw09_ItemForward.j0] at H
    by_cases c14 : x18_4 = true
    ·subst c14
     have H1 : (some true) = some true := by rw [if_pos rfl] at H; try exact H
     clear H
     have H := H1
     clear H1
     have HT := Option.some.inj H
     go_wp2
     go_ret
     exact ⟨by first | rfl | (simp [errW_none, errW_some] <;> rfl) | (simp [*, errW_none, errW_some] <;> rfl), by repeat (first | (with_reducible first | exact HB.out | apply below_alloc | apply pw_below_drewN | apply below_drew1 | refine below_set ?_ GE293.out) | exact HB.out)⟩
    replace c14 := Bool.eq_false_iff.mpr c14
    subst c14
    have H1 : (contralaw09_ItemForward.l0 kj4 l1 (l1.length : Int) 0 a0_0 a0_1 a0_2 a0_3 a0_4 a0_5 a0_6 a0_7) = some true := by rw [if_neg (show ¬ (false = true) by decide)] at H; try exact H
    clear H
    have H := H1
    clear H1
    have H' := Aside0.mk H
    clear H
    go_wp2
    go_loopg [21] kj4 (fun kq v21 w' => ∃ (x21_2 : Int) (x294000_2 : Int) (x294001_2 : Int) (x294002_2 : Int) (x294003_2 : Int) (x294004_2 : Int) (x294005_2 : Int) (x294006_2 : Int) (x294007_2 : Int), v21 = .int .i64 x21_2 ∧ Aside0 (contralaw09_ItemForward.l0 kq l1 (l1.length : Int) x21_2 x294000_2 x294001_2 x294002_2 x294003_2 x294004_2 x294005_2 x294006_2 x294007_2 = some true) ∧ Aside0 (kq ≤ kj4) ∧ Aside0 (w'.heap[gb293]? = some (.cells #[.int .i64 x294000_2, .int .i64 x294001_2, .int .i64 x294002_2, .int .i64 x294003_2, .int .i64 x294004_2, .int .i64 x294005_2, .int .i64 x294006_2, .int .i64 x294007_2] 53 (0, 0))) ∧ Aside0 (Below w.heap.size w w'))
    case atStart => exact ⟨(0), (a0_0), (a0_1), (a0_2), (a0_3), (a0_4), (a0_5), (a0_6), (a0_7), (by first | rfl | (simp; done) | (simp [*]; done)), H', ⟨Nat.le_refl _⟩, ⟨by (with_reducible repeat (first | refine blk_drewN ?_ _ | refine blk_drew ?_ | refine blk_alloc ?_ _)); exact BK293.out⟩, ⟨by repeat (first | (with_reducible first | exact HB.out | apply below_alloc | apply pw_below_drewN | apply below_drew1 | refine below_set ?_ GE293.out) | exact HB.out)⟩⟩
    case round =>
     clear H'
     try clear c1; try clear p2; try clear c4; try clear c8; try clear c9; try clear c9b0; try clear c9b1; try clear c14; try clear hcz10_0; try clear hcz10_1; try clear hcz10_2; try clear hcz10_3; try clear hcz10_4; try clear hcz10_5; try clear hcz10_6; try clear hcz10_7; try clear hcz12_0; try clear hcz12_1; try clear hcz12_2; try clear hcz12_3; try clear hcz12_4; try clear hcz12_5; try clear hcz12_6; try clear hcz12_7; try clear hfz10_0; try clear hfz10_1; try clear hfz10_2; try clear hfz10_3; try clear hfz10_4; try clear hfz10_5; try clear hfz10_6; try clear hfz10_7; try clear hfz12_0; try clear hfz12_1; try clear hfz12_2; try clear hfz12_3; try clear hfz12_4; try clear hfz12_5; try clear hfz12_6; try clear hfz12_7; try clear p2
     obtain ⟨x21_2, x294000_2, x294001_2, x294002_2, x294003_2, x294004_2, x294005_2, x294006_2, x294007_2, rfl, HA, HK2, BK293, HB⟩ := hrel
     cases gk with
     | zero => exact absurd HA.out (by simp [contralaw09_ItemForward.l0])
     | succ k2 =>
      have H := HA.out
      clear HA
      simp only [contralaw09_ItemForward.l0] at H
      by_cases c15 : x21_2 < (l1.length : Int)
      ·rw [if_pos c15] at H
       have c15b0 : decide (x21_2 < (l1.length : Int)) = true := decide_eq_true c15
       clear c15
       by_cases c16 : 0 ≤ x21_2
       case neg => rw [if_neg c16] at H; exact absurd H (by simp)
       rw [if_pos c16] at H
       have c16b0 : decide (0 ≤ x21_2) = true := decide_eq_true c16
       clear c16
       by_cases c17 : x21_2 < (l1.length : Int)
       case neg => rw [if_neg c17] at H; exact absurd H (by simp)
       rw [if_pos c17] at H
       have c17b0 : decide (x21_2 < (l1.length : Int)) = true := decide_eq_true c17
       clear c17
       replace H := Option.bind_eq_some_iff.mp H
       obtain ⟨⟨t298, t299, t300, t301, t302, t303, t304, t305, t306⟩, A180, H⟩ := H
       replace H : ((item_Rank.f k2 t298 t299 t300 t301 t302 t303 t304 t305).bind fun t308 => ((item_Rank.f k2 x294000_2 x294001_2 x294002_2 x294003_2 x294004_2 x294005_2 x294006_2 x294007_2).bind fun t309 => (if t308 < t309 then (contralaw09_ItemForward.j2 k2 l1 (l1.length : Int) x21_2 true t298 t299 t300 t301 t302 t303 t304 t305) else (if (!(t298 == x294000_2) || (!(t299 == x294001_2))) = true then (contralaw09_ItemForward.j2 k2 l1 (l1.length : Int) x21_2 true t298 t299 t300 t301 t302 t303 t304 t305) else (if t300 = x294002_2 then (if t301 = x294003_2 then (if x294006_2 ≥ 3 then (if t302 = x294004_2 then ((item_Over.f x294000_2 x294001_2 x294002_2 x294003_2 x294004_2 x294005_2 x294006_2 x294007_2).bind fun t310 => (if t310 = true then (if ((!(t298 == x294000_2) || (!(t299 == x294001_2))) || (!(t300 == x294002_2) || (!(t301 == x294003_2) || (!(t302 == x294004_2) || (!(t303 == x294005_2) || (!(t304 == x294006_2) || (!(t305 == x294007_2)))))))) = true then (contralaw09_ItemForward.j2 k2 l1 (l1.length : Int) x21_2 true t298 t299 t300 t301 t302 t303 t304 t305) else (if t306 = 0 then (contralaw09_ItemForward.j2 k2 l1 (l1.length : Int) x21_2 false t298 t299 t300 t301 t302 t303 t304 t305) else (contralaw09_ItemForward.j2 k2 l1 (l1.length : Int) x21_2 ((!(t298 == x294000_2) || (!(t299 == x294001_2))) || (!(t300 == x294002_2) || (!(t301 == x294003_2) || (!(t302 == x294004_2) || (!(t303 == x294005_2) || (!(t304 == x294006_2) || (!(t305 == x294007_2)))))))) t298 t299 t300 t301 t302 t303 t304 t305))) else (if t306 = 0 then (contralaw09_ItemForward.j2 k2 l1 (l1.length : Int) x21_2 false t298 t299 t300 t301 t302 t303 t304 t305) else (contralaw09_ItemForward.j2 k2 l1 (l1.length : Int) x21_2 ((!(t298 == x294000_2) || (!(t299 == x294001_2))) || (!(t300 == x294002_2) || (!(t301 == x294003_2) || (!(t302 == x294004_2) || (!(t303 == x294005_2) || (!(t304 == x294006_2) || (!(t305 == x294007_2)))))))) t298 t299 t300 t301 t302 t303 t304 t305)))) else (contralaw09_ItemForward.j2 k2 l1 (l1.length : Int) x21_2 true t298 t299 t300 t301 t302 t303 t304 t305)) else ((item_Over.f x294000_2 x294001_2 x294002_2 x294003_2 x294004_2 x294005_2 x294006_2 x294007_2).bind fun t311 => (if t311 = true then (if ((!(t298 == x294000_2) || (!(t299 == x294001_2))) || (!(t300 == x294002_2) || (!(t301 == x294003_2) || (!(t302 == x294004_2) || (!(t303 == x294005_2) || (!(t304 == x294006_2) || (!(t305 == x294007_2)))))))) = true then (contralaw09_ItemForward.j2 k2 l1 (l1.length : Int) x21_2 true t298 t299 t300 t301 t302 t303 t304 t305) else (if t306 = 0 then (contralaw09_ItemForward.j2 k2 l1 (l1.length : Int) x21_2 false t298 t299 t300 t301 t302 t303 t304 t305) else (contralaw09_ItemForward.j2 k2 l1 (l1.length : Int) x21_2 ((!(t298 == x294000_2) || (!(t299 == x294001_2))) || (!(t300 == x294002_2) || (!(t301 == x294003_2) || (!(t302 == x294004_2) || (!(t303 == x294005_2) || (!(t304 == x294006_2) || (!(t305 == x294007_2)))))))) t298 t299 t300 t301 t302 t303 t304 t305))) else (if t306 = 0 then (contralaw09_ItemForward.j2 k2 l1 (l1.length : Int) x21_2 false t298 t299 t300 t301 t302 t303 t304 t305) else (contralaw09_ItemForward.j2 k2 l1 (l1.length : Int) x21_2 ((!(t298 == x294000_2) || (!(t299 == x294001_2))) || (!(t300 == x294002_2) || (!(t301 == x294003_2) || (!(t302 == x294004_2) || (!(t303 == x294005_2) || (!(t304 == x294006_2) || (!(t305 == x294007_2)))))))) t298 t299 t300 t301 t302 t303 t304 t305))))) else (contralaw09_ItemForward.j2 k2 l1 (l1.length : Int) x21_2 true t298 t299 t300 t301 t302 t303 t304 t305)) else (contralaw09_ItemForward.j2 k2 l1 (l1.length : Int) x21_2 true t298 t299 t300 t301 t302 t303 t304 t305)))))) = some true := H
       have A18 := Aside0.mk A180
       clear A180
       have HC19 := Aside0.mk H
       clear H
       have p296 : 0 ≤ (x21_2 : Int) := of_decide_eq_true (by first | (with_reducible assumption) | assumption)
       have q296 : x21_2 < (l1.length : Int) := of_decide_eq_true (by first | (with_reducible assumption) | assumption)
       obtain ⟨ad296, e296, hx296_0, hx296_1⟩ := at_T93 HR1.out x21_2 p296 q296
       cases e296
       replace hx296_0 := (HB.out.cell (World.block_lt_of_cell? w _ hx296_0)).trans hx296_0
       replace hx296_1 := (HB.out.cell (World.block_lt_of_cell? w _ hx296_1)).trans hx296_1
       replace p296 := eq_true p296
       replace q296 := eq_true q296
       go_upto_region 9 with (first | ((with_reducible refine gate_dst (N := 6) rfl ?_); (try (refine gate_guard (by rfl) ?_; dsimp only)); refine box_event ?hg (N := 6) ?hd (cs := #[.int .i64 0, .int .i64 0]) (t := 93) ?hr ?_; (case hd => rfl); (case hg => rfl); (case hr => first | (go_simp; done) | (go_simp; rfl)); intro gb297 hg w20 hbox hb; have n0_ := Aside0.mk (blk_below (g := gb293) (o := .cells #[.int .i64 x294000_2, .int .i64 x294001_2, .int .i64 x294002_2, .int .i64 x294003_2, .int .i64 x294004_2, .int .i64 x294005_2, .int .i64 x294006_2, .int .i64 x294007_2] 53 (0, 0)) (by (with_reducible repeat (first | refine blk_drewN ?_ _ | refine blk_drew ?_ | refine blk_alloc ?_ _)); exact BK293.out) hb); have n1_ := Aside0.mk (below_step (by repeat (first | (with_reducible first | exact HB.out | apply below_alloc | apply pw_below_drewN | apply below_drew1 | refine below_set ?_ GE293.out) | exact HB.out)) hb); have n2_ := Aside0.mk (hbox); have n3_ := Aside0.mk ((by rw [hg]; exact (below_size (by repeat (first | (with_reducible first | exact HB.out | apply below_alloc | apply pw_below_drewN | apply below_drew1 | refine below_set ?_ GE293.out) | exact HB.out))) : w.heap.size ≤ gb297)); have n4_ := Aside0.mk ((by rw [hg]; exact (below_size (by repeat (first | (with_reducible first | exact HB.out | apply below_alloc | apply pw_below_drewN | apply below_drew1 | refine below_set ?_ GE293.out) | exact HB.out))) : w.heap.size ≤ gb297)); have n5_ := Aside0.mk ((by rw [hg]; exact Nat.ne_of_lt (blk_lt (g := gb293) (o := .cells #[.int .i64 x294000_2, .int .i64 x294001_2, .int .i64 x294002_2, .int .i64 x294003_2, .int .i64 x294004_2, .int .i64 x294005_2, .int .i64 x294006_2, .int .i64 x294007_2] 53 (0, 0)) (by (with_reducible repeat (first | refine blk_drewN ?_ _ | refine blk_drew ?_ | refine blk_alloc ?_ _)); exact BK293.out)) : gb293 ≠ gb297)); have n6_ := Aside0.mk ((by rw [hg]; exact Nat.ne_of_gt (blk_lt (g := gb293) (o := .cells #[.int .i64 x294000_2, .int .i64 x294001_2, .int .i64 x294002_2, .int .i64 x294003_2, .int .i64 x294004_2, .int .i64 x294005_2, .int .i64 x294006_2, .int .i64 x294007_2] 53 (0, 0)) (by (with_reducible repeat (first | refine blk_drewN ?_ _ | refine blk_drew ?_ | refine blk_alloc ?_ _)); exact BK293.out)) : gb297 ≠ gb293)); clear BK293; clear HB; have BK293 := n0_; have HB := n1_; have BK297 := n2_; have GW297 := n3_; have GE297 := n4_; have NB293_297 := n5_; have NB297_293 := n6_; clear n0_ n1_ n2_ n3_ n4_ n5_ n6_; clear hb hbox hg; have hnb21 := NB297_293.out; have hnc21 := NB293_297.out; have hcz22_0 : w20.cell? ⟨gb297, 0, none⟩ = some (.int .i64 0) := (blk_cell BK297.out 0).trans rfl; have hcz22_1 : w20.cell? ⟨gb297, 1, none⟩ = some (.int .i64 0) := (blk_cell BK297.out 1).trans rfl; have hfz22_0 := blk_frozen BK297.out 0; have hfz22_1 := blk_frozen BK297.out 1; have hcz23_0 : w20.cell? ⟨gb293, 0, none⟩ = some (.int .i64 x294000_2) := (blk_cell BK293.out 0).trans rfl; have hcz23_1 : w20.cell? ⟨gb293, 1, none⟩ = some (.int .i64 x294001_2) := (blk_cell BK293.out 1).trans rfl; have hcz23_2 : w20.cell? ⟨gb293, 2, none⟩ = some (.int .i64 x294002_2) := (blk_cell BK293.out 2).trans rfl; have hcz23_3 : w20.cell? ⟨gb293, 3, none⟩ = some (.int .i64 x294003_2) := (blk_cell BK293.out 3).trans rfl; have hcz23_4 : w20.cell? ⟨gb293, 4, none⟩ = some (.int .i64 x294004_2) := (blk_cell BK293.out 4).trans rfl; have hcz23_5 : w20.cell? ⟨gb293, 5, none⟩ = some (.int .i64 x294005_2) := (blk_cell BK293.out 5).trans rfl; have hcz23_6 : w20.cell? ⟨gb293, 6, none⟩ = some (.int .i64 x294006_2) := (blk_cell BK293.out 6).trans rfl; have hcz23_7 : w20.cell? ⟨gb293, 7, none⟩ = some (.int .i64 x294007_2) := (blk_cell BK293.out 7).trans rfl; have hfz23_0 := blk_frozen BK293.out 0; have hfz23_1 := blk_frozen BK293.out 1; have hfz23_2 := blk_frozen BK293.out 2; have hfz23_3 := blk_frozen BK293.out 3; have hfz23_4 := blk_frozen BK293.out 4; have hfz23_5 := blk_frozen BK293.out 5; have hfz23_6 := blk_frozen BK293.out 6; have hfz23_7 := blk_frozen BK293.out 7) | ((with_reducible refine gate_callee (f := 46) rfl ?_); refine goesL_ (some 31) rfl rfl Try.func46 (by kernel_rfl) rfl #[.agg #[.int .i64 x294000_2, .int .i64 x294001_2, .int .i64 x294002_2, .int .i64 x294003_2, .int .i64 x294004_2, .int .i64 x294005_2, .int .i64 x294006_2, .int .i64 x294007_2], .int .i64 ((rd_T93 l1 x21_2).f0), .int .i64 ((rd_T93 l1 x21_2).f1)] rfl (by (try simp only [List.map_toArray, List.map_cons, List.map_nil]); first | done | rfl | (simp only [List.length_drop, List.length_take]; rfl)) ?_; (with_reducible refine (contralaw09_act.calls k2 x294000_2 x294001_2 x294002_2 x294003_2 x294004_2 x294005_2 x294006_2 x294007_2 ((rd_T93 l1 x21_2).f0) ((rd_T93 l1 x21_2).f1) t298 t299 t300 t301 t302 t303 t304 t305 t306 _ A18.out).mono ?_); rintro e w24 ⟨rfl, hb⟩; refine ⟨_, rfl, ?_⟩; have n0_ := Aside0.mk (blk_below (g := gb293) (o := .cells #[.int .i64 x294000_2, .int .i64 x294001_2, .int .i64 x294002_2, .int .i64 x294003_2, .int .i64 x294004_2, .int .i64 x294005_2, .int .i64 x294006_2, .int .i64 x294007_2] 53 (0, 0)) (by (with_reducible repeat (first | refine blk_drewN ?_ _ | refine blk_drew ?_ | refine blk_alloc ?_ _)); refine blk_far ?_ NB293_297.out _; (with_reducible repeat (first | refine blk_drewN ?_ _ | refine blk_drew ?_ | refine blk_alloc ?_ _)); refine blk_far ?_ NB293_297.out _; (with_reducible repeat (first | refine blk_drewN ?_ _ | refine blk_drew ?_ | refine blk_alloc ?_ _)); exact BK293.out) hb); have n1_ := Aside0.mk (blk_below (g := gb297) (o := .cells #[.int .i64 ((rd_T93 l1 x21_2).f0), .int .i64 ((rd_T93 l1 x21_2).f1)] 93 (0, 0)) (by (with_reducible repeat (first | refine blk_drewN ?_ _ | refine blk_drew ?_ | refine blk_alloc ?_ _)); refine blk_put (cs := #[.int .i64 ((rd_T93 l1 x21_2).f0), .int .i64 0]) ?_ 1 _ rfl; (with_reducible repeat (first | refine blk_drewN ?_ _ | refine blk_drew ?_ | refine blk_alloc ?_ _)); refine blk_put (cs := #[.int .i64 0, .int .i64 0]) ?_ 0 _ rfl; (with_reducible repeat (first | refine blk_drewN ?_ _ | refine blk_drew ?_ | refine blk_alloc ?_ _)); exact BK297.out) hb); have n2_ := Aside0.mk (below_step (by repeat (first | (with_reducible first | exact HB.out | apply below_alloc | apply pw_below_drewN | apply below_drew1 | refine below_set ?_ GE293.out | refine below_set ?_ GE297.out) | exact HB.out)) hb); clear BK293; clear BK297; clear HB; have BK293 := n0_; have BK297 := n1_; have HB := n2_; clear n0_ n1_ n2_; (try clear hb); (try clear hb2); (try clear hk); (try clear hi)) | ((with_reducible refine gate_dst (N := 7) rfl ?_); (try (refine gate_guard (by rfl) ?_; dsimp only)); refine box_event ?hg (N := 7) ?hd (cs := #[.int .i64 0, .int .i64 0, .int .i64 0, .int .i64 0, .int .i64 0, .int .i64 0, .int .i64 0, .int .i64 0]) (t := 53) ?hr ?_; (case hd => rfl); (case hg => rfl); (case hr => first | (go_simp; done) | (go_simp; rfl)); intro gb307 hg w25 hbox hb; have n0_ := Aside0.mk (blk_below (g := gb293) (o := .cells #[.int .i64 x294000_2, .int .i64 x294001_2, .int .i64 x294002_2, .int .i64 x294003_2, .int .i64 x294004_2, .int .i64 x294005_2, .int .i64 x294006_2, .int .i64 x294007_2] 53 (0, 0)) (by (with_reducible repeat (first | refine blk_drewN ?_ _ | refine blk_drew ?_ | refine blk_alloc ?_ _)); exact BK293.out) hb); have n1_ := Aside0.mk (blk_below (g := gb297) (o := .cells #[.int .i64 ((rd_T93 l1 x21_2).f0), .int .i64 ((rd_T93 l1 x21_2).f1)] 93 (0, 0)) (by (with_reducible repeat (first | refine blk_drewN ?_ _ | refine blk_drew ?_ | refine blk_alloc ?_ _)); exact BK297.out) hb); have n2_ := Aside0.mk (below_step (by repeat (first | (with_reducible first | exact HB.out | apply below_alloc | apply pw_below_drewN | apply below_drew1 | refine below_set ?_ GE293.out | refine below_set ?_ GE297.out) | exact HB.out)) hb); have n3_ := Aside0.mk (hbox); have n4_ := Aside0.mk ((by rw [hg]; exact (below_size (by repeat (first | (with_reducible first | exact HB.out | apply below_alloc | apply pw_below_drewN | apply below_drew1 | refine below_set ?_ GE293.out | refine below_set ?_ GE297.out) | exact HB.out))) : w.heap.size ≤ gb307)); have n5_ := Aside0.mk ((by rw [hg]; exact (below_size (by repeat (first | (with_reducible first | exact HB.out | apply below_alloc | apply pw_below_drewN | apply below_drew1 | refine below_set ?_ GE293.out | refine below_set ?_ GE297.out) | exact HB.out))) : w.heap.size ≤ gb307)); have n6_ := Aside0.mk ((by rw [hg]; exact Nat.ne_of_lt (blk_lt (g := gb293) (o := .cells #[.int .i64 x294000_2, .int .i64 x294001_2, .int .i64 x294002_2, .int .i64 x294003_2, .int .i64 x294004_2, .int .i64 x294005_2, .int .i64 x294006_2, .int .i64 x294007_2] 53 (0, 0)) (by (with_reducible repeat (first | refine blk_drewN ?_ _ | refine blk_drew ?_ | refine blk_alloc ?_ _)); exact BK293.out)) : gb293 ≠ gb307)); have n7_ := Aside0.mk ((by rw [hg]; exact Nat.ne_of_gt (blk_lt (g := gb293) (o := .cells #[.int .i64 x294000_2, .int .i64 x294001_2, .int .i64 x294002_2, .int .i64 x294003_2, .int .i64 x294004_2, .int .i64 x294005_2, .int .i64 x294006_2, .int .i64 x294007_2] 53 (0, 0)) (by (with_reducible repeat (first | refine blk_drewN ?_ _ | refine blk_drew ?_ | refine blk_alloc ?_ _)); exact BK293.out)) : gb307 ≠ gb293)); have n8_ := Aside0.mk ((by rw [hg]; exact Nat.ne_of_lt (blk_lt (g := gb297) (o := .cells #[.int .i64 ((rd_T93 l1 x21_2).f0), .int .i64 ((rd_T93 l1 x21_2).f1)] 93 (0, 0)) (by (with_reducible repeat (first | refine blk_drewN ?_ _ | refine blk_drew ?_ | refine blk_alloc ?_ _)); exact BK297.out)) : gb297 ≠ gb307)); have n9_ := Aside0.mk ((by rw [hg]; exact Nat.ne_of_gt (blk_lt (g := gb297) (o := .cells #[.int .i64 ((rd_T93 l1 x21_2).f0), .int .i64 ((rd_T93 l1 x21_2).f1)] 93 (0, 0)) (by (with_reducible repeat (first | refine blk_drewN ?_ _ | refine blk_drew ?_ | refine blk_alloc ?_ _)); exact BK297.out)) : gb307 ≠ gb297)); clear BK293; clear BK297; clear HB; have BK293 := n0_; have BK297 := n1_; have HB := n2_; have BK307 := n3_; have GW307 := n4_; have GE307 := n5_; have NB293_307 := n6_; have NB307_293 := n7_; have NB297_307 := n8_; have NB307_297 := n9_; clear n0_ n1_ n2_ n3_ n4_ n5_ n6_ n7_ n8_ n9_; clear hb hbox hg; have hnb26 := NB307_293.out; have hnc26 := NB293_307.out; have hnb27 := NB307_297.out; have hnc27 := NB297_307.out; have hcz28_0 : w25.cell? ⟨gb307, 0, none⟩ = some (.int .i64 0) := (blk_cell BK307.out 0).trans rfl; have hcz28_1 : w25.cell? ⟨gb307, 1, none⟩ = some (.int .i64 0) := (blk_cell BK307.out 1).trans rfl; have hcz28_2 : w25.cell? ⟨gb307, 2, none⟩ = some (.int .i64 0) := (blk_cell BK307.out 2).trans rfl; have hcz28_3 : w25.cell? ⟨gb307, 3, none⟩ = some (.int .i64 0) := (blk_cell BK307.out 3).trans rfl; have hcz28_4 : w25.cell? ⟨gb307, 4, none⟩ = some (.int .i64 0) := (blk_cell BK307.out 4).trans rfl; have hcz28_5 : w25.cell? ⟨gb307, 5, none⟩ = some (.int .i64 0) := (blk_cell BK307.out 5).trans rfl; have hcz28_6 : w25.cell? ⟨gb307, 6, none⟩ = some (.int .i64 0) := (blk_cell BK307.out 6).trans rfl; have hcz28_7 : w25.cell? ⟨gb307, 7, none⟩ = some (.int .i64 0) := (blk_cell BK307.out 7).trans rfl; have hfz28_0 := blk_frozen BK307.out 0; have hfz28_1 := blk_frozen BK307.out 1; have hfz28_2 := blk_frozen BK307.out 2; have hfz28_3 := blk_frozen BK307.out 3; have hfz28_4 := blk_frozen BK307.out 4; have hfz28_5 := blk_frozen BK307.out 5; have hfz28_6 := blk_frozen BK307.out 6; have hfz28_7 := blk_frozen BK307.out 7))
       (try simp only [Act.put, List.setIfInBounds_toArray, List.set_cons_zero, List.set_cons_succ])
       go_cut [89] (fun v89 wc => ∃ (kq : Nat) (x89_18 : Bool), v89 = .bool x89_18 ∧ Aside0 (contralaw09_ItemForward.j2 kq l1 (l1.length : Int) x21_2 x89_18 t298 t299 t300 t301 t302 t303 t304 t305 = some true) ∧ Aside0 (kq ≤ k2) ∧ Aside0 (wc.heap[gb293]? = some (.cells #[.int .i64 x294000_2, .int .i64 x294001_2, .int .i64 x294002_2, .int .i64 x294003_2, .int .i64 x294004_2, .int .i64 x294005_2, .int .i64 x294006_2, .int .i64 x294007_2] 53 (0, 0))) ∧ Aside0 (wc.heap[gb297]? = some (.cells #[.int .i64 ((rd_T93 l1 x21_2).f0), .int .i64 ((rd_T93 l1 x21_2).f1)] 93 (0, 0))) ∧ Aside0 (wc.heap[gb307]? = some (.cells #[.int .i64 t298, .int .i64 t299, .int .i64 t300, .int .i64 t301, .int .i64 t302, .int .i64 t303, .int .i64 t304, .int .i64 t305] 53 (0, 0))) ∧ Aside0 (Below w.heap.size w wc))
       case first =>
        have H := HC19.out
        clear HC19
        replace H := Option.bind_eq_some_iff.mp H
        obtain ⟨t308, A290, H⟩ := H
        replace H : ((item_Rank.f k2 x294000_2 x294001_2 x294002_2 x294003_2 x294004_2 x294005_2 x294006_2 x294007_2).bind fun t309 => (if t308 < t309 then (contralaw09_ItemForward.j2 k2 l1 (l1.length : Int) x21_2 true t298 t299 t300 t301 t302 t303 t304 t305) else (if (!(t298 == x294000_2) || (!(t299 == x294001_2))) = true then (contralaw09_ItemForward.j2 k2 l1 (l1.length : Int) x21_2 true t298 t299 t300 t301 t302 t303 t304 t305) else (if t300 = x294002_2 then (if t301 = x294003_2 then (if x294006_2 ≥ 3 then (if t302 = x294004_2 then ((item_Over.f x294000_2 x294001_2 x294002_2 x294003_2 x294004_2 x294005_2 x294006_2 x294007_2).bind fun t310 => (if t310 = true then (if ((!(t298 == x294000_2) || (!(t299 == x294001_2))) || (!(t300 == x294002_2) || (!(t301 == x294003_2) || (!(t302 == x294004_2) || (!(t303 == x294005_2) || (!(t304 == x294006_2) || (!(t305 == x294007_2)))))))) = true then (contralaw09_ItemForward.j2 k2 l1 (l1.length : Int) x21_2 true t298 t299 t300 t301 t302 t303 t304 t305) else (if t306 = 0 then (contralaw09_ItemForward.j2 k2 l1 (l1.length : Int) x21_2 false t298 t299 t300 t301 t302 t303 t304 t305) else (contralaw09_ItemForward.j2 k2 l1 (l1.length : Int) x21_2 ((!(t298 == x294000_2) || (!(t299 == x294001_2))) || (!(t300 == x294002_2) || (!(t301 == x294003_2) || (!(t302 == x294004_2) || (!(t303 == x294005_2) || (!(t304 == x294006_2) || (!(t305 == x294007_2)))))))) t298 t299 t300 t301 t302 t303 t304 t305))) else (if t306 = 0 then (contralaw09_ItemForward.j2 k2 l1 (l1.length : Int) x21_2 false t298 t299 t300 t301 t302 t303 t304 t305) else (contralaw09_ItemForward.j2 k2 l1 (l1.length : Int) x21_2 ((!(t298 == x294000_2) || (!(t299 == x294001_2))) || (!(t300 == x294002_2) || (!(t301 == x294003_2) || (!(t302 == x294004_2) || (!(t303 == x294005_2) || (!(t304 == x294006_2) || (!(t305 == x294007_2)))))))) t298 t299 t300 t301 t302 t303 t304 t305)))) else (contralaw09_ItemForward.j2 k2 l1 (l1.length : Int) x21_2 true t298 t299 t300 t301 t302 t303 t304 t305)) else ((item_Over.f x294000_2 x294001_2 x294002_2 x294003_2 x294004_2 x294005_2 x294006_2 x294007_2).bind fun t311 => (if t311 = true then (if ((!(t298 == x294000_2) || (!(t299 == x294001_2))) || (!(t300 == x294002_2) || (!(t301 == x294003_2) || (!(t302 == x294004_2) || (!(t303 == x294005_2) || (!(t304 == x294006_2) || (!(t305 == x294007_2)))))))) = true then (contralaw09_ItemForward.j2 k2 l1 (l1.length : Int) x21_2 true t298 t299 t300 t301 t302 t303 t304 t305) else (if t306 = 0 then (contralaw09_ItemForward.j2 k2 l1 (l1.length : Int) x21_2 false t298 t299 t300 t301 t302 t303 t304 t305) else (contralaw09_ItemForward.j2 k2 l1 (l1.length : Int) x21_2 ((!(t298 == x294000_2) || (!(t299 == x294001_2))) || (!(t300 == x294002_2) || (!(t301 == x294003_2) || (!(t302 == x294004_2) || (!(t303 == x294005_2) || (!(t304 == x294006_2) || (!(t305 == x294007_2)))))))) t298 t299 t300 t301 t302 t303 t304 t305))) else (if t306 = 0 then (contralaw09_ItemForward.j2 k2 l1 (l1.length : Int) x21_2 false t298 t299 t300 t301 t302 t303 t304 t305) else (contralaw09_ItemForward.j2 k2 l1 (l1.length : Int) x21_2 ((!(t298 == x294000_2) || (!(t299 == x294001_2))) || (!(t300 == x294002_2) || (!(t301 == x294003_2) || (!(t302 == x294004_2) || (!(t303 == x294005_2) || (!(t304 == x294006_2) || (!(t305 == x294007_2)))))))) t298 t299 t300 t301 t302 t303 t304 t305))))) else (contralaw09_ItemForward.j2 k2 l1 (l1.length : Int) x21_2 true t298 t299 t300 t301 t302 t303 t304 t305)) else (contralaw09_ItemForward.j2 k2 l1 (l1.length : Int) x21_2 true t298 t299 t300 t301 t302 t303 t304 t305))))) = some true := H
        have A29 := Aside0.mk A290
        clear A290
        replace H := Option.bind_eq_some_iff.mp H
        obtain ⟨t309, A300, H⟩ := H
        replace H : (if t308 < t309 then (contralaw09_ItemForward.j2 k2 l1 (l1.length : Int) x21_2 true t298 t299 t300 t301 t302 t303 t304 t305) else (if (!(t298 == x294000_2) || (!(t299 == x294001_2))) = true then (contralaw09_ItemForward.j2 k2 l1 (l1.length : Int) x21_2 true t298 t299 t300 t301 t302 t303 t304 t305) else (if t300 = x294002_2 then (if t301 = x294003_2 then (if x294006_2 ≥ 3 then (if t302 = x294004_2 then ((item_Over.f x294000_2 x294001_2 x294002_2 x294003_2 x294004_2 x294005_2 x294006_2 x294007_2).bind fun t310 => (if t310 = true then (if ((!(t298 == x294000_2) || (!(t299 == x294001_2))) || (!(t300 == x294002_2) || (!(t301 == x294003_2) || (!(t302 == x294004_2) || (!(t303 == x294005_2) || (!(t304 == x294006_2) || (!(t305 == x294007_2)))))))) = true then (contralaw09_ItemForward.j2 k2 l1 (l1.length : Int) x21_2 true t298 t299 t300 t301 t302 t303 t304 t305) else (if t306 = 0 then (contralaw09_ItemForward.j2 k2 l1 (l1.length : Int) x21_2 false t298 t299 t300 t301 t302 t303 t304 t305) else (contralaw09_ItemForward.j2 k2 l1 (l1.length : Int) x21_2 ((!(t298 == x294000_2) || (!(t299 == x294001_2))) || (!(t300 == x294002_2) || (!(t301 == x294003_2) || (!(t302 == x294004_2) || (!(t303 == x294005_2) || (!(t304 == x294006_2) || (!(t305 == x294007_2)))))))) t298 t299 t300 t301 t302 t303 t304 t305))) else (if t306 = 0 then (contralaw09_ItemForward.j2 k2 l1 (l1.length : Int) x21_2 false t298 t299 t300 t301 t302 t303 t304 t305) else (contralaw09_ItemForward.j2 k2 l1 (l1.length : Int) x21_2 ((!(t298 == x294000_2) || (!(t299 == x294001_2))) || (!(t300 == x294002_2) || (!(t301 == x294003_2) || (!(t302 == x294004_2) || (!(t303 == x294005_2) || (!(t304 == x294006_2) || (!(t305 == x294007_2)))))))) t298 t299 t300 t301 t302 t303 t304 t305)))) else (contralaw09_ItemForward.j2 k2 l1 (l1.length : Int) x21_2 true t298 t299 t300 t301 t302 t303 t304 t305)) else ((item_Over.f x294000_2 x294001_2 x294002_2 x294003_2 x294004_2 x294005_2 x294006_2 x294007_2).bind fun t311 => (if t311 = true then (if ((!(t298 == x294000_2) || (!(t299 == x294001_2))) || (!(t300 == x294002_2) || (!(t301 == x294003_2) || (!(t302 == x294004_2) || (!(t303 == x294005_2) || (!(t304 == x294006_2) || (!(t305 == x294007_2)))))))) = true then (contralaw09_ItemForward.j2 k2 l1 (l1.length : Int) x21_2 true t298 t299 t300 t301 t302 t303 t304 t305) else (if t306 = 0 then (contralaw09_ItemForward.j2 k2 l1 (l1.length : Int) x21_2 false t298 t299 t300 t301 t302 t303 t304 t305) else (contralaw09_ItemForward.j2 k2 l1 (l1.length : Int) x21_2 ((!(t298 == x294000_2) || (!(t299 == x294001_2))) || (!(t300 == x294002_2) || (!(t301 == x294003_2) || (!(t302 == x294004_2) || (!(t303 == x294005_2) || (!(t304 == x294006_2) || (!(t305 == x294007_2)))))))) t298 t299 t300 t301 t302 t303 t304 t305))) else (if t306 = 0 then (contralaw09_ItemForward.j2 k2 l1 (l1.length : Int) x21_2 false t298 t299 t300 t301 t302 t303 t304 t305) else (contralaw09_ItemForward.j2 k2 l1 (l1.length : Int) x21_2 ((!(t298 == x294000_2) || (!(t299 == x294001_2))) || (!(t300 == x294002_2) || (!(t301 == x294003_2) || (!(t302 == x294004_2) || (!(t303 == x294005_2) || (!(t304 == x294006_2) || (!(t305 == x294007_2)))))))) t298 t299 t300 t301 t302 t303 t304 t305))))) else (contralaw09_ItemForward.j2 k2 l1 (l1.length : Int) x21_2 true t298 t299 t300 t301 t302 t303 t304 t305)) else (contralaw09_ItemForward.j2 k2 l1 (l1.length : Int) x21_2 true t298 t299 t300 t301 t302 t303 t304 t305)))) = some true := H
        have A30 := Aside0.mk A300
        clear A300
        by_cases c31 : t308 < t309
        case pos => rw [if_pos c31] at H; exact absurd H (by cases k2 <;> simp [contralaw09_ItemForward.j2])
        rw [if_neg c31] at H
        have c31b0 : decide (t308 < t309) = false := decide_eq_false c31
        clear c31
        (first | rw [c31b0] | (simp only [i64_w, i32_w]; rw [c31b0]) | skip)
        by_cases c32 : (!(t298 == x294000_2) || (!(t299 == x294001_2))) = true
        case pos => rw [if_pos c32] at H; exact absurd H (by cases k2 <;> simp [contralaw09_ItemForward.j2])
        rw [if_neg c32] at H
        have c32e0 : (t298 == x294000_2) = true := by cases hh : (t298 == x294000_2) with | true => rfl | false => exact absurd (by simp [hh]) c32
        have c32e1 : (t299 == x294001_2) = true := by cases hh : (t299 == x294001_2) with | true => rfl | false => exact absurd (by simp [hh]) c32
        have c32b0 : (!(t298 == x294000_2) || (!(t299 == x294001_2))) = false := by simpa using c32
        clear c32
        by_cases c33 : t300 = x294002_2
        case neg => rw [if_neg c33] at H; exact absurd H (by cases k2 <;> simp [contralaw09_ItemForward.j2])
        rw [if_pos c33] at H
        have c33b0 : (t300 == x294002_2) = true := beq_iff_eq.mpr c33
        have c33b1 : (t300 != x294002_2) = false := bne_eq_false_iff_eq.mpr c33
        clear c33
        by_cases c34 : t301 = x294003_2
        case neg => rw [if_neg c34] at H; exact absurd H (by cases k2 <;> simp [contralaw09_ItemForward.j2])
        rw [if_pos c34] at H
        have c34b0 : (t301 == x294003_2) = true := beq_iff_eq.mpr c34
        have c34b1 : (t301 != x294003_2) = false := bne_eq_false_iff_eq.mpr c34
        clear c34
        by_cases c35 : x294006_2 ≥ 3
        ·rw [if_pos c35] at H
         have c35b0 : decide (3 ≤ x294006_2) = true := decide_eq_true c35
         clear c35
         by_cases c36 : t302 = x294004_2
         case neg => rw [if_neg c36] at H; exact absurd H (by cases k2 <;> simp [contralaw09_ItemForward.j2])
         rw [if_pos c36] at H
         have c36b0 : (t302 == x294004_2) = true := beq_iff_eq.mpr c36
         have c36b1 : (t302 != x294004_2) = false := bne_eq_false_iff_eq.mpr c36
         clear c36
         replace H := Option.bind_eq_some_iff.mp H
         obtain ⟨t310, A370, H⟩ := H
         replace H : (if t310 = true then (if ((!(t298 == x294000_2) || (!(t299 == x294001_2))) || (!(t300 == x294002_2) || (!(t301 == x294003_2) || (!(t302 == x294004_2) || (!(t303 == x294005_2) || (!(t304 == x294006_2) || (!(t305 == x294007_2)))))))) = true then (contralaw09_ItemForward.j2 k2 l1 (l1.length : Int) x21_2 true t298 t299 t300 t301 t302 t303 t304 t305) else (if t306 = 0 then (contralaw09_ItemForward.j2 k2 l1 (l1.length : Int) x21_2 false t298 t299 t300 t301 t302 t303 t304 t305) else (contralaw09_ItemForward.j2 k2 l1 (l1.length : Int) x21_2 ((!(t298 == x294000_2) || (!(t299 == x294001_2))) || (!(t300 == x294002_2) || (!(t301 == x294003_2) || (!(t302 == x294004_2) || (!(t303 == x294005_2) || (!(t304 == x294006_2) || (!(t305 == x294007_2)))))))) t298 t299 t300 t301 t302 t303 t304 t305))) else (if t306 = 0 then (contralaw09_ItemForward.j2 k2 l1 (l1.length : Int) x21_2 false t298 t299 t300 t301 t302 t303 t304 t305) else (contralaw09_ItemForward.j2 k2 l1 (l1.length : Int) x21_2 ((!(t298 == x294000_2) || (!(t299 == x294001_2))) || (!(t300 == x294002_2) || (!(t301 == x294003_2) || (!(t302 == x294004_2) || (!(t303 == x294005_2) || (!(t304 == x294006_2) || (!(t305 == x294007_2)))))))) t298 t299 t300 t301 t302 t303 t304 t305))) = some true := H
         have A37 := Aside0.mk A370
         clear A370
         by_cases c38 : t310 = true
         ·subst c38
          have H1 : (if ((!(t298 == x294000_2) || (!(t299 == x294001_2))) || (!(t300 == x294002_2) || (!(t301 == x294003_2) || (!(t302 == x294004_2) || (!(t303 == x294005_2) || (!(t304 == x294006_2) || (!(t305 == x294007_2)))))))) = true then (contralaw09_ItemForward.j2 k2 l1 (l1.length : Int) x21_2 true t298 t299 t300 t301 t302 t303 t304 t305) else (if t306 = 0 then (contralaw09_ItemForward.j2 k2 l1 (l1.length : Int) x21_2 false t298 t299 t300 t301 t302 t303 t304 t305) else (contralaw09_ItemForward.j2 k2 l1 (l1.length : Int) x21_2 ((!(t298 == x294000_2) || (!(t299 == x294001_2))) || (!(t300 == x294002_2) || (!(t301 == x294003_2) || (!(t302 == x294004_2) || (!(t303 == x294005_2) || (!(t304 == x294006_2) || (!(t305 == x294007_2)))))))) t298 t299 t300 t301 t302 t303 t304 t305))) = some true := by rw [if_pos rfl] at H; try exact H
          clear H
          have H := H1
          clear H1
          by_cases c39 : ((!(t298 == x294000_2) || (!(t299 == x294001_2))) || (!(t300 == x294002_2) || (!(t301 == x294003_2) || (!(t302 == x294004_2) || (!(t303 == x294005_2) || (!(t304 == x294006_2) || (!(t305 == x294007_2)))))))) = true
          case pos => rw [if_pos c39] at H; exact absurd H (by cases k2 <;> simp [contralaw09_ItemForward.j2])
          rw [if_neg c39] at H
          have c39e0 : (t298 == x294000_2) = true := by cases hh : (t298 == x294000_2) with | true => rfl | false => exact absurd (by simp [hh]) c39
          have c39e1 : (t299 == x294001_2) = true := by cases hh : (t299 == x294001_2) with | true => rfl | false => exact absurd (by simp [hh]) c39
          have c39e2 : (t300 == x294002_2) = true := by cases hh : (t300 == x294002_2) with | true => rfl | false => exact absurd (by simp [hh]) c39
          have c39e3 : (t301 == x294003_2) = true := by cases hh : (t301 == x294003_2) with | true => rfl | false => exact absurd (by simp [hh]) c39
          have c39e4 : (t302 == x294004_2) = true := by cases hh : (t302 == x294004_2) with | true => rfl | false => exact absurd (by simp [hh]) c39
          have c39e5 : (t303 == x294005_2) = true := by cases hh : (t303 == x294005_2) with | true => rfl | false => exact absurd (by simp [hh]) c39
          have c39e6 : (t304 == x294006_2) = true := by cases hh : (t304 == x294006_2) with | true => rfl | false => exact absurd (by simp [hh]) c39
          have c39e7 : (t305 == x294007_2) = true := by cases hh : (t305 == x294007_2) with | true => rfl | false => exact absurd (by simp [hh]) c39
          have c39b0 : ((!(t298 == x294000_2) || (!(t299 == x294001_2))) || (!(t300 == x294002_2) || (!(t301 == x294003_2) || (!(t302 == x294004_2) || (!(t303 == x294005_2) || (!(t304 == x294006_2) || (!(t305 == x294007_2)))))))) = false := by simpa using c39
          clear c39
          by_cases c40 : t306 = 0
          ·rw [if_pos c40] at H
           have c40b0 : (t306 == 0) = true := beq_iff_eq.mpr c40
           have c40b1 : (t306 != 0) = false := bne_eq_false_iff_eq.mpr c40
           clear c40
           have H' := Aside0.mk H
           clear H
           try go_wp2
           have n0_ : Aside0 (((((((((w25.setCell ⟨gb307, 0, none⟩ (.int .i64 t298)).setCell ⟨gb307, 1, none⟩ (.int .i64 t299)).setCell ⟨gb307, 2, none⟩ (.int .i64 t300)).setCell ⟨gb307, 3, none⟩ (.int .i64 t301)).setCell ⟨gb307, 4, none⟩ (.int .i64 t302)).setCell ⟨gb307, 5, none⟩ (.int .i64 t303)).setCell ⟨gb307, 6, none⟩ (.int .i64 t304)).setCell ⟨gb307, 7, none⟩ (.int .i64 t305)).heap[gb293]? = some (.cells #[.int .i64 x294000_2, .int .i64 x294001_2, .int .i64 x294002_2, .int .i64 x294003_2, .int .i64 x294004_2, .int .i64 x294005_2, .int .i64 x294006_2, .int .i64 x294007_2] 53 (0, 0))) := ⟨by (with_reducible repeat (first | refine blk_drewN ?_ _ | refine blk_drew ?_ | refine blk_alloc ?_ _)); refine blk_far ?_ NB293_307.out _; (with_reducible repeat (first | refine blk_drewN ?_ _ | refine blk_drew ?_ | refine blk_alloc ?_ _)); refine blk_far ?_ NB293_307.out _; (with_reducible repeat (first | refine blk_drewN ?_ _ | refine blk_drew ?_ | refine blk_alloc ?_ _)); refine blk_far ?_ NB293_307.out _; (with_reducible repeat (first | refine blk_drewN ?_ _ | refine blk_drew ?_ | refine blk_alloc ?_ _)); refine blk_far ?_ NB293_307.out _; (with_reducible repeat (first | refine blk_drewN ?_ _ | refine blk_drew ?_ | refine blk_alloc ?_ _)); refine blk_far ?_ NB293_307.out _; (with_reducible repeat (first | refine blk_drewN ?_ _ | refine blk_drew ?_ | refine blk_alloc ?_ _)); refine blk_far ?_ NB293_307.out _; (with_reducible repeat (first | refine blk_drewN ?_ _ | refine blk_drew ?_ | refine blk_alloc ?_ _)); refine blk_far ?_ NB293_307.out _; (with_reducible repeat (first | refine blk_drewN ?_ _ | refine blk_drew ?_ | refine blk_alloc ?_ _)); refine blk_far ?_ NB293_307.out _; (with_reducible repeat (first | refine blk_drewN ?_ _ | refine blk_drew ?_ | refine blk_alloc ?_ _)); exact BK293.out⟩
           have n1_ : Aside0 (((((((((w25.setCell ⟨gb307, 0, none⟩ (.int .i64 t298)).setCell ⟨gb307, 1, none⟩ (.int .i64 t299)).setCell ⟨gb307, 2, none⟩ (.int .i64 t300)).setCell ⟨gb307, 3, none⟩ (.int .i64 t301)).setCell ⟨gb307, 4, none⟩ (.int .i64 t302)).setCell ⟨gb307, 5, none⟩ (.int .i64 t303)).setCell ⟨gb307, 6, none⟩ (.int .i64 t304)).setCell ⟨gb307, 7, none⟩ (.int .i64 t305)).heap[gb297]? = some (.cells #[.int .i64 ((rd_T93 l1 x21_2).f0), .int .i64 ((rd_T93 l1 x21_2).f1)] 93 (0, 0))) := ⟨by (with_reducible repeat (first | refine blk_drewN ?_ _ | refine blk_drew ?_ | refine blk_alloc ?_ _)); refine blk_far ?_ NB297_307.out _; (with_reducible repeat (first | refine blk_drewN ?_ _ | refine blk_drew ?_ | refine blk_alloc ?_ _)); refine blk_far ?_ NB297_307.out _; (with_reducible repeat (first | refine blk_drewN ?_ _ | refine blk_drew ?_ | refine blk_alloc ?_ _)); refine blk_far ?_ NB297_307.out _; (with_reducible repeat (first | refine blk_drewN ?_ _ | refine blk_drew ?_ | refine blk_alloc ?_ _)); refine blk_far ?_ NB297_307.out _; (with_reducible repeat (first | refine blk_drewN ?_ _ | refine blk_drew ?_ | refine blk_alloc ?_ _)); refine blk_far ?_ NB297_307.out _; (with_reducible repeat (first | refine blk_drewN ?_ _ | refine blk_drew ?_ | refine blk_alloc ?_ _)); refine blk_far ?_ NB297_307.out _; (with_reducible repeat (first | refine blk_drewN ?_ _ | refine blk_drew ?_ | refine blk_alloc ?_ _)); refine blk_far ?_ NB297_307.out _; (with_reducible repeat (first | refine blk_drewN ?_ _ | refine blk_drew ?_ | refine blk_alloc ?_ _)); refine blk_far ?_ NB297_307.out _; (with_reducible repeat (first | refine blk_drewN ?_ _ | refine blk_drew ?_ | refine blk_alloc ?_ _)); exact BK297.out⟩
           have n2_ : Aside0 (((((((((w25.setCell ⟨gb307, 0, none⟩ (.int .i64 t298)).setCell ⟨gb307, 1, none⟩ (.int .i64 t299)).setCell ⟨gb307, 2, none⟩ (.int .i64 t300)).setCell ⟨gb307, 3, none⟩ (.int .i64 t301)).setCell ⟨gb307, 4, none⟩ (.int .i64 t302)).setCell ⟨gb307, 5, none⟩ (.int .i64 t303)).setCell ⟨gb307, 6, none⟩ (.int .i64 t304)).setCell ⟨gb307, 7, none⟩ (.int .i64 t305)).heap[gb307]? = some (.cells #[.int .i64 t298, .int .i64 t299, .int .i64 t300, .int .i64 t301, .int .i64 t302, .int .i64 t303, .int .i64 t304, .int .i64 t305] 53 (0, 0))) := ⟨by (with_reducible repeat (first | refine blk_drewN ?_ _ | refine blk_drew ?_ | refine blk_alloc ?_ _)); refine blk_put (cs := #[.int .i64 t298, .int .i64 t299, .int .i64 t300, .int .i64 t301, .int .i64 t302, .int .i64 t303, .int .i64 t304, .int .i64 0]) ?_ 7 _ rfl; (with_reducible repeat (first | refine blk_drewN ?_ _ | refine blk_drew ?_ | refine blk_alloc ?_ _)); refine blk_put (cs := #[.int .i64 t298, .int .i64 t299, .int .i64 t300, .int .i64 t301, .int .i64 t302, .int .i64 t303, .int .i64 0, .int .i64 0]) ?_ 6 _ rfl; (with_reducible repeat (first | refine blk_drewN ?_ _ | refine blk_drew ?_ | refine blk_alloc ?_ _)); refine blk_put (cs := #[.int .i64 t298, .int .i64 t299, .int .i64 t300, .int .i64 t301, .int .i64 t302, .int .i64 0, .int .i64 0, .int .i64 0]) ?_ 5 _ rfl; (with_reducible repeat (first | refine blk_drewN ?_ _ | refine blk_drew ?_ | refine blk_alloc ?_ _)); refine blk_put (cs := #[.int .i64 t298, .int .i64 t299, .int .i64 t300, .int .i64 t301, .int .i64 0, .int .i64 0, .int .i64 0, .int .i64 0]) ?_ 4 _ rfl; (with_reducible repeat (first | refine blk_drewN ?_ _ | refine blk_drew ?_ | refine blk_alloc ?_ _)); refine blk_put (cs := #[.int .i64 t298, .int .i64 t299, .int .i64 t300, .int .i64 0, .int .i64 0, .int .i64 0, .int .i64 0, .int .i64 0]) ?_ 3 _ rfl; (with_reducible repeat (first | refine blk_drewN ?_ _ | refine blk_drew ?_ | refine blk_alloc ?_ _)); refine blk_put (cs := #[.int .i64 t298, .int .i64 t299, .int .i64 0, .int .i64 0, .int .i64 0, .int .i64 0, .int .i64 0, .int .i64 0]) ?_ 2 _ rfl; (with_reducible repeat (first | refine blk_drewN ?_ _ | refine blk_drew ?_ | refine blk_alloc ?_ _)); refine blk_put (cs := #[.int .i64 t298, .int .i64 0, .int .i64 0, .int .i64 0, .int .i64 0, .int .i64 0, .int .i64 0, .int .i64 0]) ?_ 1 _ rfl; (with_reducible repeat (first | refine blk_drewN ?_ _ | refine blk_drew ?_ | refine blk_alloc ?_ _)); refine blk_put (cs := #[.int .i64 0, .int .i64 0, .int .i64 0, .int .i64 0, .int .i64 0, .int .i64 0, .int .i64 0, .int .i64 0]) ?_ 0 _ rfl; (with_reducible repeat (first | refine blk_drewN ?_ _ | refine blk_drew ?_ | refine blk_alloc ?_ _)); exact BK307.out⟩
           have n3_ : Aside0 (Below w.heap.size w ((((((((w25.setCell ⟨gb307, 0, none⟩ (.int .i64 t298)).setCell ⟨gb307, 1, none⟩ (.int .i64 t299)).setCell ⟨gb307, 2, none⟩ (.int .i64 t300)).setCell ⟨gb307, 3, none⟩ (.int .i64 t301)).setCell ⟨gb307, 4, none⟩ (.int .i64 t302)).setCell ⟨gb307, 5, none⟩ (.int .i64 t303)).setCell ⟨gb307, 6, none⟩ (.int .i64 t304)).setCell ⟨gb307, 7, none⟩ (.int .i64 t305))) := ⟨by repeat (first | (with_reducible first | exact HB.out | apply below_alloc | apply pw_below_drewN | apply below_drew1 | refine below_set ?_ GE293.out | refine below_set ?_ GE297.out | refine below_set ?_ GE307.out) | exact HB.out)⟩
           (try clear BK293)
           (try clear BK297)
           (try clear BK307)
           (try clear HB)
           generalize ((((((((w25.setCell ⟨gb307, 0, none⟩ (.int .i64 t298)).setCell ⟨gb307, 1, none⟩ (.int .i64 t299)).setCell ⟨gb307, 2, none⟩ (.int .i64 t300)).setCell ⟨gb307, 3, none⟩ (.int .i64 t301)).setCell ⟨gb307, 4, none⟩ (.int .i64 t302)).setCell ⟨gb307, 5, none⟩ (.int .i64 t303)).setCell ⟨gb307, 6, none⟩ (.int .i64 t304)).setCell ⟨gb307, 7, none⟩ (.int .i64 t305)) = w41 at n0_ n1_ n2_ n3_ ⊢
           have BK293 := n0_
           have BK297 := n1_
           have BK307 := n2_
           have HB := n3_
           clear n0_ n1_ n2_ n3_
           have n0_ := Aside0.mk (blk_drew BK293.out)
           have n1_ := Aside0.mk (blk_drew BK297.out)
           have n2_ := Aside0.mk (blk_drew BK307.out)
           have n3_ := Aside0.mk (below_drew1 HB.out)
           clear BK293
           clear BK297
           clear BK307
           clear HB
           have BK293 := n0_
           have BK297 := n1_
           have BK307 := n2_
           have HB := n3_
           clear n0_ n1_ n2_ n3_
           refine start_ (n := 56) (S := fun w' => w'.cell? ⟨gb307, 0, none⟩ = some (.int .i64 t298) ∧ w'.cell? ⟨gb307, 1, none⟩ = some (.int .i64 t299) ∧ w'.cell? ⟨gb307, 2, none⟩ = some (.int .i64 t300) ∧ w'.cell? ⟨gb307, 3, none⟩ = some (.int .i64 t301) ∧ w'.cell? ⟨gb307, 4, none⟩ = some (.int .i64 t302) ∧ w'.cell? ⟨gb307, 5, none⟩ = some (.int .i64 t303) ∧ w'.cell? ⟨gb307, 6, none⟩ = some (.int .i64 t304) ∧ w'.cell? ⟨gb307, 7, none⟩ = some (.int .i64 t305) ∧ w'.cell? ⟨gb293, 0, none⟩ = some (.int .i64 x294000_2) ∧ w'.cell? ⟨gb293, 1, none⟩ = some (.int .i64 x294001_2) ∧ w'.cell? ⟨gb293, 2, none⟩ = some (.int .i64 x294002_2) ∧ w'.cell? ⟨gb293, 3, none⟩ = some (.int .i64 x294003_2) ∧ w'.cell? ⟨gb293, 4, none⟩ = some (.int .i64 x294004_2) ∧ w'.cell? ⟨gb293, 5, none⟩ = some (.int .i64 x294005_2) ∧ w'.cell? ⟨gb293, 6, none⟩ = some (.int .i64 x294006_2) ∧ w'.cell? ⟨gb293, 7, none⟩ = some (.int .i64 x294007_2)) (ds := []) q0 (by kernel_rfl) rfl rfl ⟨(blk_cell BK307.out 0).trans rfl, (blk_cell BK307.out 1).trans rfl, (blk_cell BK307.out 2).trans rfl, (blk_cell BK307.out 3).trans rfl, (blk_cell BK307.out 4).trans rfl, (blk_cell BK307.out 5).trans rfl, (blk_cell BK307.out 6).trans rfl, (blk_cell BK307.out 7).trans rfl, (blk_cell BK293.out 0).trans rfl, (blk_cell BK293.out 1).trans rfl, (blk_cell BK293.out 2).trans rfl, (blk_cell BK293.out 3).trans rfl, (blk_cell BK293.out 4).trans rfl, (blk_cell BK293.out 5).trans rfl, (blk_cell BK293.out 6).trans rfl, (blk_cell BK293.out 7).trans rfl⟩ (fun hHeld => ?_); refine with_tabW contralaw09_ItemForward.tab9 contralaw09_ItemForward.bits9 (fun HT_ HW_ => ?_)
           generalize w41.drew = w42 at BK293 BK297 BK307 HB hHeld ⊢
           refine take_ (i := 0) (N := some 34) (v := ?_) (a' := ?_) q1 rfl rfl (take_ofW HT_.out HW_.out (by kernel_rfl)) (fun _ _ _ h => h) (Or.inl ⟨by rfl, ?_⟩) hHeld ?_ ?_
           rotate_left; ·rintro w' ⟨s0, s1, s2, s3, s4, s5, s6, s7, s8, s9, s10, s11, s12, s13, s14, s15⟩; go_simp; with_reducible rfl
           rotate_left; ·simp only [Act.put, z1, z2, z3, z4, z5]; rfl
           refine take_ (i := 2) (N := some 36) (v := ?_) (a' := ?_) q2 rfl rfl (take_ofW HT_.out HW_.out (by kernel_rfl)) (fun _ _ _ h => h) (Or.inl ⟨by rfl, ?_⟩) hHeld ?_ ?_
           rotate_left; ·rintro w' ⟨s0, s1, s2, s3, s4, s5, s6, s7, s8, s9, s10, s11, s12, s13, s14, s15⟩; go_simp; with_reducible rfl
           rotate_left; ·simp only [Act.put, z1, z2, z3, z4, z5]; rfl
           refine one_ (i := 1) (N := some 35) q3 rfl rfl (one_of HT_.out (by kernel_rfl)) (by decide) (fun K hK => ?_)
           refine goes_ Try.func47 (by kernel_rfl) rfl #[.agg #[.int .i64 t298, .int .i64 t299, .int .i64 t300, .int .i64 t301, .int .i64 t302, .int .i64 t303, .int .i64 t304, .int .i64 t305]] (by rfl) rfl rfl (by (try simp only [List.map_toArray, List.map_cons, List.map_nil]); first | done | rfl | (simp only [List.length_drop, List.length_take]; rfl)) ?_
           with_reducible refine (item_Rank.calls k2 t298 t299 t300 t301 t302 t303 t304 t305 t308 _ A29.out).mono ?_
           rintro e w43 ⟨rfl, hb⟩
           refine ⟨_, rfl, ?_⟩
           have n0_ := Aside0.mk (blk_below (g := gb293) (o := .cells #[.int .i64 x294000_2, .int .i64 x294001_2, .int .i64 x294002_2, .int .i64 x294003_2, .int .i64 x294004_2, .int .i64 x294005_2, .int .i64 x294006_2, .int .i64 x294007_2] 53 (0, 0)) (by (with_reducible repeat (first | refine blk_drewN ?_ _ | refine blk_drew ?_ | refine blk_alloc ?_ _)); exact BK293.out) hb)
           have n1_ := Aside0.mk (blk_below (g := gb297) (o := .cells #[.int .i64 ((rd_T93 l1 x21_2).f0), .int .i64 ((rd_T93 l1 x21_2).f1)] 93 (0, 0)) (by (with_reducible repeat (first | refine blk_drewN ?_ _ | refine blk_drew ?_ | refine blk_alloc ?_ _)); exact BK297.out) hb)
           have n2_ := Aside0.mk (blk_below (g := gb307) (o := .cells #[.int .i64 t298, .int .i64 t299, .int .i64 t300, .int .i64 t301, .int .i64 t302, .int .i64 t303, .int .i64 t304, .int .i64 t305] 53 (0, 0)) (by (with_reducible repeat (first | refine blk_drewN ?_ _ | refine blk_drew ?_ | refine blk_alloc ?_ _)); exact BK307.out) hb)
           have n3_ := Aside0.mk (below_step (by repeat (first | (with_reducible first | exact HB.out | apply below_alloc | apply pw_below_drewN | apply below_drew1 | refine below_set ?_ GE293.out | refine below_set ?_ GE297.out | refine below_set ?_ GE307.out) | exact HB.out)) hb)
           clear BK293
           clear BK297
           clear BK307
           clear HB
           have BK293 := n0_
           have BK297 := n1_
           have BK307 := n2_
           have HB := n3_
           clear n0_ n1_ n2_ n3_
           (try clear hb)
           (try clear hb2)
           (try clear hk)
           (try clear hi)
           refine hK.out _ _ ⟨(blk_cell BK307.out 0).trans rfl, (blk_cell BK307.out 1).trans rfl, (blk_cell BK307.out 2).trans rfl, (blk_cell BK307.out 3).trans rfl, (blk_cell BK307.out 4).trans rfl, (blk_cell BK307.out 5).trans rfl, (blk_cell BK307.out 6).trans rfl, (blk_cell BK307.out 7).trans rfl, (blk_cell BK293.out 0).trans rfl, (blk_cell BK293.out 1).trans rfl, (blk_cell BK293.out 2).trans rfl, (blk_cell BK293.out 3).trans rfl, (blk_cell BK293.out 4).trans rfl, (blk_cell BK293.out 5).trans rfl, (blk_cell BK293.out 6).trans rfl, (blk_cell BK293.out 7).trans rfl⟩ (fun hHeld => ?_)
           clear hK K
           refine norm_ (a' := ?_) ?_ ?_
           rotate_left
           ·show Act.put _ (some 35) _ = _
            simp only [Act.put, z1, z2, z3, z4, z5]
            rfl
           refine one_ (i := 3) (N := some 37) q4 rfl rfl (one_of HT_.out (by kernel_rfl)) (by decide) (fun K hK => ?_)
           refine goes_ Try.func47 (by kernel_rfl) rfl #[.agg #[.int .i64 x294000_2, .int .i64 x294001_2, .int .i64 x294002_2, .int .i64 x294003_2, .int .i64 x294004_2, .int .i64 x294005_2, .int .i64 x294006_2, .int .i64 x294007_2]] (by rfl) rfl rfl (by (try simp only [List.map_toArray, List.map_cons, List.map_nil]); first | done | rfl | (simp only [List.length_drop, List.length_take]; rfl)) ?_
           with_reducible refine (item_Rank.calls k2 x294000_2 x294001_2 x294002_2 x294003_2 x294004_2 x294005_2 x294006_2 x294007_2 t309 _ A30.out).mono ?_
           rintro e w44 ⟨rfl, hb⟩
           refine ⟨_, rfl, ?_⟩
           have n0_ := Aside0.mk (blk_below (g := gb293) (o := .cells #[.int .i64 x294000_2, .int .i64 x294001_2, .int .i64 x294002_2, .int .i64 x294003_2, .int .i64 x294004_2, .int .i64 x294005_2, .int .i64 x294006_2, .int .i64 x294007_2] 53 (0, 0)) (by (with_reducible repeat (first | refine blk_drewN ?_ _ | refine blk_drew ?_ | refine blk_alloc ?_ _)); exact BK293.out) hb)
           have n1_ := Aside0.mk (blk_below (g := gb297) (o := .cells #[.int .i64 ((rd_T93 l1 x21_2).f0), .int .i64 ((rd_T93 l1 x21_2).f1)] 93 (0, 0)) (by (with_reducible repeat (first | refine blk_drewN ?_ _ | refine blk_drew ?_ | refine blk_alloc ?_ _)); exact BK297.out) hb)
           have n2_ := Aside0.mk (blk_below (g := gb307) (o := .cells #[.int .i64 t298, .int .i64 t299, .int .i64 t300, .int .i64 t301, .int .i64 t302, .int .i64 t303, .int .i64 t304, .int .i64 t305] 53 (0, 0)) (by (with_reducible repeat (first | refine blk_drewN ?_ _ | refine blk_drew ?_ | refine blk_alloc ?_ _)); exact BK307.out) hb)
           have n3_ := Aside0.mk (below_step (by repeat (first | (with_reducible first | exact HB.out | apply below_alloc | apply pw_below_drewN | apply below_drew1 | refine below_set ?_ GE293.out | refine below_set ?_ GE297.out | refine below_set ?_ GE307.out) | exact HB.out)) hb)
           clear BK293
           clear BK297
           clear BK307
           clear HB
           have BK293 := n0_
           have BK297 := n1_
           have BK307 := n2_
           have HB := n3_
           clear n0_ n1_ n2_ n3_
           (try clear hb)
           (try clear hb2)
           (try clear hk)
           (try clear hi)
           refine hK.out _ _ ⟨(blk_cell BK307.out 0).trans rfl, (blk_cell BK307.out 1).trans rfl, (blk_cell BK307.out 2).trans rfl, (blk_cell BK307.out 3).trans rfl, (blk_cell BK307.out 4).trans rfl, (blk_cell BK307.out 5).trans rfl, (blk_cell BK307.out 6).trans rfl, (blk_cell BK307.out 7).trans rfl, (blk_cell BK293.out 0).trans rfl, (blk_cell BK293.out 1).trans rfl, (blk_cell BK293.out 2).trans rfl, (blk_cell BK293.out 3).trans rfl, (blk_cell BK293.out 4).trans rfl, (blk_cell BK293.out 5).trans rfl, (blk_cell BK293.out 6).trans rfl, (blk_cell BK293.out 7).trans rfl⟩ (fun hHeld => ?_)
           clear hK K
           refine norm_ (a' := ?_) ?_ ?_
           rotate_left
           ·show Act.put _ (some 37) _ = _
            simp only [Act.put, z1, z2, z3, z4, z5]
            rfl
           refine pure_ (i := 4) (N := some 38) (v := ?_) (a' := ?_) q5 rfl rfl (any_of HT_.out (by kernel_rfl)) (fun _ _ _ h => h) (Or.inl ⟨by rfl, ?_⟩) ?_ ?_
           rotate_left; ·intro w'; go_simp; with_reducible rfl
           rotate_left; ·simp only [Act.put, z1, z2, z3, z4, z5]; rfl
           refine pure_ (i := 5) (N := some 39) (v := ?_) (a' := ?_) q6 rfl rfl (any_of HT_.out (by kernel_rfl)) (fun _ _ _ h => h) (Or.inl ⟨by rfl, ?_⟩) ?_ ?_
           rotate_left; ·intro w'; go_simp; with_reducible rfl
           rotate_left; ·simp only [Act.put, z1, z2, z3, z4, z5]; rfl
           refine pure_ (i := 6) (N := some 40) (v := ?_) (a' := ?_) q7 rfl rfl (any_of HT_.out (by kernel_rfl)) (fun _ _ _ h => h) (Or.inl ⟨by rfl, ?_⟩) ?_ ?_
           rotate_left; ·intro w'; go_simp; with_reducible rfl
           rotate_left; ·simp only [Act.put, z1, z2, z3, z4, z5]; rfl
           refine pure_ (i := 8) (N := some 42) (v := ?_) (a' := ?_) q8 rfl rfl (any_of HT_.out (by kernel_rfl)) (fun _ _ _ h => h) (Or.inl ⟨by rfl, ?_⟩) ?_ ?_
           rotate_left; ·intro w'; go_simp; with_reducible rfl
           rotate_left; ·simp only [Act.put, z1, z2, z3, z4, z5]; rfl
           refine take_ (i := 7) (N := some 41) (v := ?_) (a' := ?_) q9 rfl rfl (take_ofW HT_.out HW_.out (by kernel_rfl)) (fun _ _ _ h => h) (Or.inl ⟨by rfl, ?_⟩) hHeld ?_ ?_
           rotate_left; ·rintro w' ⟨s0, s1, s2, s3, s4, s5, s6, s7, s8, s9, s10, s11, s12, s13, s14, s15⟩; go_simp; with_reducible rfl
           rotate_left; ·simp only [Act.put, z1, z2, z3, z4, z5]; rfl
           refine take_ (i := 9) (N := some 43) (v := ?_) (a' := ?_) q10 rfl rfl (take_ofW HT_.out HW_.out (by kernel_rfl)) (fun _ _ _ h => h) (Or.inl ⟨by rfl, ?_⟩) hHeld ?_ ?_
           rotate_left; ·rintro w' ⟨s0, s1, s2, s3, s4, s5, s6, s7, s8, s9, s10, s11, s12, s13, s14, s15⟩; go_simp; with_reducible rfl
           rotate_left; ·simp only [Act.put, z1, z2, z3, z4, z5]; rfl
           refine pure_ (i := 10) (N := some 44) (v := ?_) (a' := ?_) q11 rfl rfl (any_of HT_.out (by kernel_rfl)) (fun _ _ _ h => h) (Or.inl ⟨by rfl, ?_⟩) ?_ ?_
           rotate_left; ·intro w'; go_simp; with_reducible rfl
           rotate_left; ·simp only [Act.put, z1, z2, z3, z4, z5]; rfl
           refine pure_ (i := 11) (N := some 45) (v := ?_) (a' := ?_) q12 rfl rfl (any_of HT_.out (by kernel_rfl)) (fun _ _ _ h => h) (Or.inl ⟨by rfl, ?_⟩) ?_ ?_
           rotate_left; ·intro w'; go_simp; with_reducible rfl
           rotate_left; ·simp only [Act.put, z1, z2, z3, z4, z5]; rfl
           refine pure_ (i := 12) (N := some 46) (v := ?_) (a' := ?_) q13 rfl rfl (any_of HT_.out (by kernel_rfl)) (fun _ _ _ h => h) (Or.inl ⟨by rfl, ?_⟩) ?_ ?_
           rotate_left; ·intro w'; go_simp; with_reducible rfl
           rotate_left; ·simp only [Act.put, z1, z2, z3, z4, z5]; rfl
           refine pure_ (i := 13) (N := some 47) (v := ?_) (a' := ?_) q14 rfl rfl (any_of HT_.out (by kernel_rfl)) (fun _ _ _ h => h) (Or.inl ⟨by rfl, ?_⟩) ?_ ?_
           rotate_left; ·intro w'; go_simp; with_reducible rfl
           rotate_left; ·simp only [Act.put, z1, z2, z3, z4, z5]; rfl
           refine pure_ (i := 15) (N := some 49) (v := ?_) (a' := ?_) q15 rfl rfl (any_of HT_.out (by kernel_rfl)) (fun _ _ _ h => h) (Or.inl ⟨by rfl, ?_⟩) ?_ ?_
           rotate_left; ·intro w'; go_simp; with_reducible rfl
           rotate_left; ·simp only [Act.put, z1, z2, z3, z4, z5]; rfl
           refine take_ (i := 14) (N := some 48) (v := ?_) (a' := ?_) q16 rfl rfl (take_ofW HT_.out HW_.out (by kernel_rfl)) (fun _ _ _ h => h) (Or.inl ⟨by rfl, ?_⟩) hHeld ?_ ?_
           rotate_left; ·rintro w' ⟨s0, s1, s2, s3, s4, s5, s6, s7, s8, s9, s10, s11, s12, s13, s14, s15⟩; go_simp; with_reducible rfl
           rotate_left; ·simp only [Act.put, z1, z2, z3, z4, z5]; rfl
           refine take_ (i := 16) (N := some 50) (v := ?_) (a' := ?_) q17 rfl rfl (take_ofW HT_.out HW_.out (by kernel_rfl)) (fun _ _ _ h => h) (Or.inl ⟨by rfl, ?_⟩) hHeld ?_ ?_
           rotate_left; ·rintro w' ⟨s0, s1, s2, s3, s4, s5, s6, s7, s8, s9, s10, s11, s12, s13, s14, s15⟩; go_simp; with_reducible rfl
           rotate_left; ·simp only [Act.put, z1, z2, z3, z4, z5]; rfl
           refine pure_ (i := 17) (N := some 51) (v := ?_) (a' := ?_) q18 rfl rfl (any_of HT_.out (by kernel_rfl)) (fun _ _ _ h => h) (Or.inl ⟨by rfl, ?_⟩) ?_ ?_
           rotate_left; ·intro w'; go_simp; with_reducible rfl
           rotate_left; ·simp only [Act.put, z1, z2, z3, z4, z5]; rfl
           refine pure_ (i := 18) (N := some 52) (v := ?_) (a' := ?_) q19 rfl rfl (any_of HT_.out (by kernel_rfl)) (fun _ _ _ h => h) (Or.inl ⟨by rfl, ?_⟩) ?_ ?_
           rotate_left; ·intro w'; go_simp; with_reducible rfl
           rotate_left; ·simp only [Act.put, z1, z2, z3, z4, z5]; rfl
           refine pure_ (i := 19) (N := some 53) (v := ?_) (a' := ?_) q20 rfl rfl (any_of HT_.out (by kernel_rfl)) (fun _ _ _ h => h) (Or.inl ⟨by rfl, ?_⟩) ?_ ?_
           rotate_left; ·intro w'; go_simp; with_reducible rfl
           rotate_left; ·simp only [Act.put, z1, z2, z3, z4, z5]; rfl
           refine pure_ (i := 20) (N := some 54) (v := ?_) (a' := ?_) q21 rfl rfl (any_of HT_.out (by kernel_rfl)) (fun _ _ _ h => h) (Or.inl ⟨by rfl, ?_⟩) ?_ ?_
           rotate_left; ·intro w'; go_simp; with_reducible rfl
           rotate_left; ·simp only [Act.put, z1, z2, z3, z4, z5]; rfl
           refine pure_ (i := 22) (N := some 56) (v := ?_) (a' := ?_) q22 rfl rfl (any_of HT_.out (by kernel_rfl)) (fun _ _ _ h => h) (Or.inl ⟨by rfl, ?_⟩) ?_ ?_
           rotate_left; ·intro w'; go_simp; with_reducible rfl
           rotate_left; ·simp only [Act.put, z1, z2, z3, z4, z5]; rfl
           refine take_ (i := 21) (N := some 55) (v := ?_) (a' := ?_) q23 rfl rfl (take_ofW HT_.out HW_.out (by kernel_rfl)) (fun _ _ _ h => h) (Or.inl ⟨by rfl, ?_⟩) hHeld ?_ ?_
           rotate_left; ·rintro w' ⟨s0, s1, s2, s3, s4, s5, s6, s7, s8, s9, s10, s11, s12, s13, s14, s15⟩; go_simp; with_reducible rfl
           rotate_left; ·simp only [Act.put, z1, z2, z3, z4, z5]; rfl
           refine take_ (i := 23) (N := some 57) (v := ?_) (a' := ?_) q24 rfl rfl (take_ofW HT_.out HW_.out (by kernel_rfl)) (fun _ _ _ h => h) (Or.inl ⟨by rfl, ?_⟩) hHeld ?_ ?_
           rotate_left; ·rintro w' ⟨s0, s1, s2, s3, s4, s5, s6, s7, s8, s9, s10, s11, s12, s13, s14, s15⟩; go_simp; with_reducible rfl
           rotate_left; ·simp only [Act.put, z1, z2, z3, z4, z5]; rfl
           refine pure_ (i := 24) (N := some 58) (v := ?_) (a' := ?_) q25 rfl rfl (any_of HT_.out (by kernel_rfl)) (fun _ _ _ h => h) (Or.inl ⟨by rfl, ?_⟩) ?_ ?_
           rotate_left; ·intro w'; go_simp; with_reducible rfl
           rotate_left; ·simp only [Act.put, z1, z2, z3, z4, z5]; rfl
           refine pure_ (i := 25) (N := some 59) (v := ?_) (a' := ?_) q26 rfl rfl (any_of HT_.out (by kernel_rfl)) (fun _ _ _ h => h) (Or.inl ⟨by rfl, ?_⟩) ?_ ?_
           rotate_left; ·intro w'; go_simp; with_reducible rfl
           rotate_left; ·simp only [Act.put, z1, z2, z3, z4, z5]; rfl
           refine pure_ (i := 26) (N := some 60) (v := ?_) (a' := ?_) q27 rfl rfl (any_of HT_.out (by kernel_rfl)) (fun _ _ _ h => h) (Or.inl ⟨by rfl, ?_⟩) ?_ ?_
           rotate_left; ·intro w'; go_simp; with_reducible rfl
           rotate_left; ·simp only [Act.put, z1, z2, z3, z4, z5]; rfl
           refine pure_ (i := 27) (N := some 61) (v := ?_) (a' := ?_) q28 rfl rfl (any_of HT_.out (by kernel_rfl)) (fun _ _ _ h => h) (Or.inl ⟨by rfl, ?_⟩) ?_ ?_
           rotate_left; ·intro w'; go_simp; with_reducible rfl
           rotate_left; ·simp only [Act.put, z1, z2, z3, z4, z5]; rfl
           refine take_ (i := 28) (N := some 62) (v := ?_) (a' := ?_) q29 rfl rfl (take_ofW HT_.out HW_.out (by kernel_rfl)) (fun _ _ _ h => h) (Or.inl ⟨by rfl, ?_⟩) hHeld ?_ ?_
           rotate_left; ·rintro w' ⟨s0, s1, s2, s3, s4, s5, s6, s7, s8, s9, s10, s11, s12, s13, s14, s15⟩; go_simp; with_reducible rfl
           rotate_left; ·simp only [Act.put, z1, z2, z3, z4, z5]; rfl
           refine pure_ (i := 29) (N := some 63) (v := ?_) (a' := ?_) q30 rfl rfl (any_of HT_.out (by kernel_rfl)) (fun _ _ _ h => h) (Or.inl ⟨by rfl, ?_⟩) ?_ ?_
           rotate_left; ·intro w'; go_simp; with_reducible rfl
           rotate_left; ·simp only [Act.put, z1, z2, z3, z4, z5]; rfl
           refine pure_ (i := 30) (N := some 64) (v := ?_) (a' := ?_) q31 rfl rfl (any_of HT_.out (by kernel_rfl)) (fun _ _ _ h => h) (Or.inl ⟨by rfl, ?_⟩) ?_ ?_
           rotate_left; ·intro w'; go_simp; with_reducible rfl
           rotate_left; ·simp only [Act.put, z1, z2, z3, z4, z5]; rfl
           refine pure_ (i := 31) (N := some 65) (v := ?_) (a' := ?_) q32 rfl rfl (any_of HT_.out (by kernel_rfl)) (fun _ _ _ h => h) (Or.inl ⟨by rfl, ?_⟩) ?_ ?_
           rotate_left; ·intro w'; go_simp; with_reducible rfl
           rotate_left; ·simp only [Act.put, z1, z2, z3, z4, z5]; rfl
           refine pure_ (i := 33) (N := some 67) (v := ?_) (a' := ?_) q33 rfl rfl (any_of HT_.out (by kernel_rfl)) (fun _ _ _ h => h) (Or.inl ⟨by rfl, ?_⟩) ?_ ?_
           rotate_left; ·intro w'; go_simp; with_reducible rfl
           rotate_left; ·simp only [Act.put, z1, z2, z3, z4, z5]; rfl
           refine take_ (i := 32) (N := some 66) (v := ?_) (a' := ?_) q34 rfl rfl (take_ofW HT_.out HW_.out (by kernel_rfl)) (fun _ _ _ h => h) (Or.inl ⟨by rfl, ?_⟩) hHeld ?_ ?_
           rotate_left; ·rintro w' ⟨s0, s1, s2, s3, s4, s5, s6, s7, s8, s9, s10, s11, s12, s13, s14, s15⟩; go_simp; with_reducible rfl
           rotate_left; ·simp only [Act.put, z1, z2, z3, z4, z5]; rfl
           refine take_ (i := 34) (N := some 68) (v := ?_) (a' := ?_) q35 rfl rfl (take_ofW HT_.out HW_.out (by kernel_rfl)) (fun _ _ _ h => h) (Or.inl ⟨by rfl, ?_⟩) hHeld ?_ ?_
           rotate_left; ·rintro w' ⟨s0, s1, s2, s3, s4, s5, s6, s7, s8, s9, s10, s11, s12, s13, s14, s15⟩; go_simp; with_reducible rfl
           rotate_left; ·simp only [Act.put, z1, z2, z3, z4, z5]; rfl
           refine pure_ (i := 35) (N := some 69) (v := ?_) (a' := ?_) q36 rfl rfl (any_of HT_.out (by kernel_rfl)) (fun _ _ _ h => h) (Or.inl ⟨by rfl, ?_⟩) ?_ ?_
           rotate_left; ·intro w'; go_simp; with_reducible rfl
           rotate_left; ·simp only [Act.put, z1, z2, z3, z4, z5]; rfl
           refine pure_ (i := 36) (N := some 70) (v := ?_) (a' := ?_) q37 rfl rfl (any_of HT_.out (by kernel_rfl)) (fun _ _ _ h => h) (Or.inl ⟨by rfl, ?_⟩) ?_ ?_
           rotate_left; ·intro w'; go_simp; with_reducible rfl
           rotate_left; ·simp only [Act.put, z1, z2, z3, z4, z5]; rfl
           refine pure_ (i := 37) (N := some 71) (v := ?_) (a' := ?_) q38 rfl rfl (any_of HT_.out (by kernel_rfl)) (fun _ _ _ h => h) (Or.inl ⟨by rfl, ?_⟩) ?_ ?_
           rotate_left; ·intro w'; go_simp; with_reducible rfl
           rotate_left; ·simp only [Act.put, z1, z2, z3, z4, z5]; rfl
           refine pure_ (i := 38) (N := some 72) (v := ?_) (a' := ?_) q39 rfl rfl (any_of HT_.out (by kernel_rfl)) (fun _ _ _ h => h) (Or.inl ⟨by rfl, ?_⟩) ?_ ?_
           rotate_left; ·intro w'; go_simp; with_reducible rfl
           rotate_left; ·simp only [Act.put, z1, z2, z3, z4, z5]; rfl
           refine take_ (i := 39) (N := some 73) (v := ?_) (a' := ?_) q40 rfl rfl (take_ofW HT_.out HW_.out (by kernel_rfl)) (fun _ _ _ h => h) (Or.inl ⟨by rfl, ?_⟩) hHeld ?_ ?_
           rotate_left; ·rintro w' ⟨s0, s1, s2, s3, s4, s5, s6, s7, s8, s9, s10, s11, s12, s13, s14, s15⟩; go_simp; with_reducible rfl
           rotate_left; ·simp only [Act.put, z1, z2, z3, z4, z5]; rfl
           refine one_ (i := 40) (N := some 74) q41 rfl rfl (one_of HT_.out (by kernel_rfl)) (by decide) (fun K hK => ?_)
           refine goes_ Try.func32 (by kernel_rfl) rfl #[.agg #[.int .i64 x294000_2, .int .i64 x294001_2, .int .i64 x294002_2, .int .i64 x294003_2, .int .i64 x294004_2, .int .i64 x294005_2, .int .i64 x294006_2, .int .i64 x294007_2]] (by rfl) rfl rfl (by (try simp only [List.map_toArray, List.map_cons, List.map_nil]); first | done | rfl | (simp only [List.length_drop, List.length_take]; rfl)) ?_
           with_reducible refine (item_Over.calls x294000_2 x294001_2 x294002_2 x294003_2 x294004_2 x294005_2 x294006_2 x294007_2 true _ A37.out).mono ?_
           rintro e w45 ⟨rfl, hb⟩
           refine ⟨_, rfl, ?_⟩
           have n0_ := Aside0.mk (blk_below (g := gb293) (o := .cells #[.int .i64 x294000_2, .int .i64 x294001_2, .int .i64 x294002_2, .int .i64 x294003_2, .int .i64 x294004_2, .int .i64 x294005_2, .int .i64 x294006_2, .int .i64 x294007_2] 53 (0, 0)) (by (with_reducible repeat (first | refine blk_drewN ?_ _ | refine blk_drew ?_ | refine blk_alloc ?_ _)); exact BK293.out) hb)
           have n1_ := Aside0.mk (blk_below (g := gb297) (o := .cells #[.int .i64 ((rd_T93 l1 x21_2).f0), .int .i64 ((rd_T93 l1 x21_2).f1)] 93 (0, 0)) (by (with_reducible repeat (first | refine blk_drewN ?_ _ | refine blk_drew ?_ | refine blk_alloc ?_ _)); exact BK297.out) hb)
           have n2_ := Aside0.mk (blk_below (g := gb307) (o := .cells #[.int .i64 t298, .int .i64 t299, .int .i64 t300, .int .i64 t301, .int .i64 t302, .int .i64 t303, .int .i64 t304, .int .i64 t305] 53 (0, 0)) (by (with_reducible repeat (first | refine blk_drewN ?_ _ | refine blk_drew ?_ | refine blk_alloc ?_ _)); exact BK307.out) hb)
           have n3_ := Aside0.mk (below_step (by repeat (first | (with_reducible first | exact HB.out | apply below_alloc | apply pw_below_drewN | apply below_drew1 | refine below_set ?_ GE293.out | refine below_set ?_ GE297.out | refine below_set ?_ GE307.out) | exact HB.out)) hb)
           clear BK293
           clear BK297
           clear BK307
           clear HB
           have BK293 := n0_
           have BK297 := n1_
           have BK307 := n2_
           have HB := n3_
           clear n0_ n1_ n2_ n3_
           (try clear hb)
           (try clear hb2)
           (try clear hk)
           (try clear hi)
           refine hK.out _ _ ⟨(blk_cell BK307.out 0).trans rfl, (blk_cell BK307.out 1).trans rfl, (blk_cell BK307.out 2).trans rfl, (blk_cell BK307.out 3).trans rfl, (blk_cell BK307.out 4).trans rfl, (blk_cell BK307.out 5).trans rfl, (blk_cell BK307.out 6).trans rfl, (blk_cell BK307.out 7).trans rfl, (blk_cell BK293.out 0).trans rfl, (blk_cell BK293.out 1).trans rfl, (blk_cell BK293.out 2).trans rfl, (blk_cell BK293.out 3).trans rfl, (blk_cell BK293.out 4).trans rfl, (blk_cell BK293.out 5).trans rfl, (blk_cell BK293.out 6).trans rfl, (blk_cell BK293.out 7).trans rfl⟩ (fun hHeld => ?_)
           clear hK K
           refine norm_ (a' := ?_) ?_ ?_
           rotate_left
           ·show Act.put _ (some 74) _ = _
            simp only [Act.put, z1, z2, z3, z4, z5]
            rfl
           refine pure_ (i := 41) (N := some 75) (v := ?_) (a' := ?_) q42 rfl rfl (any_of HT_.out (by kernel_rfl)) (fun _ _ _ h => h) (Or.inl ⟨by rfl, ?_⟩) ?_ ?_
           rotate_left; ·intro w'; go_simp; with_reducible rfl
           rotate_left; ·simp only [Act.put, z1, z2, z3, z4, z5]; rfl
           refine take_ (i := 42) (N := some 76) (v := ?_) (a' := ?_) q43 rfl rfl (take_ofW HT_.out HW_.out (by kernel_rfl)) (fun _ _ _ h => h) (Or.inl ⟨by rfl, ?_⟩) hHeld ?_ ?_
           rotate_left; ·rintro w' ⟨s0, s1, s2, s3, s4, s5, s6, s7, s8, s9, s10, s11, s12, s13, s14, s15⟩; go_simp; with_reducible rfl
           rotate_left; ·simp only [Act.put, z1, z2, z3, z4, z5]; rfl
           refine take_ (i := 43) (N := some 77) (v := ?_) (a' := ?_) q44 rfl rfl (take_ofW HT_.out HW_.out (by kernel_rfl)) (fun _ _ _ h => h) (Or.inl ⟨by rfl, ?_⟩) hHeld ?_ ?_
           rotate_left; ·rintro w' ⟨s0, s1, s2, s3, s4, s5, s6, s7, s8, s9, s10, s11, s12, s13, s14, s15⟩; go_simp; with_reducible rfl
           rotate_left; ·simp only [Act.put, z1, z2, z3, z4, z5]; rfl
           refine pure_ (i := 44) (N := some 78) (v := ?_) (a' := ?_) q45 rfl rfl (any_of HT_.out (by kernel_rfl)) (fun _ _ _ h => h) (Or.inl ⟨by rfl, ?_⟩) ?_ ?_
           rotate_left; ·intro w'; go_simp; with_reducible rfl
           rotate_left; ·simp only [Act.put, z1, z2, z3, z4, z5]; rfl
           refine pure_ (i := 45) (N := some 79) (v := ?_) (a' := ?_) q46 rfl rfl (any_of HT_.out (by kernel_rfl)) (fun _ _ _ h => h) (Or.inl ⟨by rfl, ?_⟩) ?_ ?_
           rotate_left; ·intro w'; go_simp; with_reducible rfl
           rotate_left; ·simp only [Act.put, z1, z2, z3, z4, z5]; rfl
           refine pure_ (i := 46) (N := some 80) (v := ?_) (a' := ?_) q47 rfl rfl (any_of HT_.out (by kernel_rfl)) (fun _ _ _ h => h) (Or.inl ⟨by rfl, ?_⟩) ?_ ?_
           rotate_left; ·intro w'; go_simp; with_reducible rfl
           rotate_left; ·simp only [Act.put, z1, z2, z3, z4, z5]; rfl
           refine pure_ (i := 47) (N := some 81) (v := ?_) (a' := ?_) q48 rfl rfl (any_of HT_.out (by kernel_rfl)) (fun _ _ _ h => h) (Or.inl ⟨by rfl, ?_⟩) ?_ ?_
           rotate_left; ·intro w'; go_simp; with_reducible rfl
           rotate_left; ·simp only [Act.put, z1, z2, z3, z4, z5]; rfl
           refine pure_ (i := 48) (N := some 82) (v := ?_) (a' := ?_) q49 rfl rfl (any_of HT_.out (by kernel_rfl)) (fun _ _ _ h => h) (Or.inl ⟨by rfl, ?_⟩) ?_ ?_
           rotate_left; ·intro w'; go_simp; with_reducible rfl
           rotate_left; ·simp only [Act.put, z1, z2, z3, z4, z5]; rfl
           refine pure_ (i := 49) (N := some 83) (v := ?_) (a' := ?_) q50 rfl rfl (any_of HT_.out (by kernel_rfl)) (fun _ _ _ h => h) (Or.inl ⟨by rfl, ?_⟩) ?_ ?_
           rotate_left; ·intro w'; go_simp; with_reducible rfl
           rotate_left; ·simp only [Act.put, z1, z2, z3, z4, z5]; rfl
           refine pure_ (i := 50) (N := some 84) (v := ?_) (a' := ?_) q51 rfl rfl (any_of HT_.out (by kernel_rfl)) (fun _ _ _ h => h) (Or.inl ⟨by rfl, ?_⟩) ?_ ?_
           rotate_left; ·intro w'; go_simp; with_reducible rfl
           rotate_left; ·simp only [Act.put, z1, z2, z3, z4, z5]; rfl
           refine pure_ (i := 51) (N := some 85) (v := undef) (a' := ?_) q52 rfl rfl (any_of HT_.out (by kernel_rfl)) (fun _ _ _ h => h) (Or.inr ⟨by rfl, rfl⟩) ?_ ?_
           rotate_left; ·simp only [Act.put, z1, z2, z3, z4, z5]; rfl
           refine pure_ (i := 52) (N := some 86) (v := undef) (a' := ?_) q53 rfl rfl (any_of HT_.out (by kernel_rfl)) (fun _ _ _ h => h) (Or.inr ⟨by rfl, rfl⟩) ?_ ?_
           rotate_left; ·simp only [Act.put, z1, z2, z3, z4, z5]; rfl
           refine pure_ (i := 53) (N := some 87) (v := undef) (a' := ?_) q54 rfl rfl (any_of HT_.out (by kernel_rfl)) (fun _ _ _ h => h) (Or.inr ⟨by rfl, rfl⟩) ?_ ?_
           rotate_left; ·simp only [Act.put, z1, z2, z3, z4, z5]; rfl
           refine pure_ (i := 54) (N := some 88) (v := ?_) (a' := ?_) q55 rfl rfl (any_of HT_.out (by kernel_rfl)) (fun _ _ _ h => h) (Or.inl ⟨by rfl, ?_⟩) ?_ ?_
           rotate_left; ·intro w'; go_simp; with_reducible rfl
           rotate_left; ·simp only [Act.put, z1, z2, z3, z4, z5]; rfl
           refine pure_ (i := 55) (N := some 89) (v := ?_) (a' := ?_) q56 rfl rfl (any_of HT_.out (by kernel_rfl)) (fun _ _ _ h => h) (Or.inl ⟨by rfl, ?_⟩) ?_ ?_
           rotate_left; ·intro w'; go_simp; with_reducible rfl
           rotate_left; ·simp only [Act.put, z1, z2, z3, z4, z5]; rfl
           refine done_ (done_of HT_.out (by kernel_rfl)) ?_
           try go_wp2
           go_meet
           case rel => exact ⟨_, (false), (by first | rfl | (simp; done) | (simp [*]; done)), H', ⟨by have := HJ4.out; have := HK2.out; first | omega | exact Nat.le_refl _⟩, ⟨by (with_reducible repeat (first | refine blk_drewN ?_ _ | refine blk_drew ?_ | refine blk_alloc ?_ _)); exact BK293.out⟩, ⟨by (with_reducible repeat (first | refine blk_drewN ?_ _ | refine blk_drew ?_ | refine blk_alloc ?_ _)); exact BK297.out⟩, ⟨by (with_reducible repeat (first | refine blk_drewN ?_ _ | refine blk_drew ?_ | refine blk_alloc ?_ _)); exact BK307.out⟩, ⟨by repeat (first | (with_reducible first | exact HB.out | apply below_alloc | apply pw_below_drewN | apply below_drew1 | refine below_set ?_ GE293.out | refine below_set ?_ GE297.out | refine below_set ?_ GE307.out) | exact HB.out)⟩⟩
          rw [if_neg c40] at H
          have c40b0 : (t306 == 0) = false := beq_eq_false_iff_ne.mpr c40
          have c40b1 : (t306 != 0) = true := bne_iff_ne.mpr c40
          clear c40
          have H' := Aside0.mk H
          clear H
          try go_wp2
          have n0_ : Aside0 (((((((((w25.setCell ⟨gb307, 0, none⟩ (.int .i64 t298)).setCell ⟨gb307, 1, none⟩ (.int .i64 t299)).setCell ⟨gb307, 2, none⟩ (.int .i64 t300)).setCell ⟨gb307, 3, none⟩ (.int .i64 t301)).setCell ⟨gb307, 4, none⟩ (.int .i64 t302)).setCell ⟨gb307, 5, none⟩ (.int .i64 t303)).setCell ⟨gb307, 6, none⟩ (.int .i64 t304)).setCell ⟨gb307, 7, none⟩ (.int .i64 t305)).heap[gb293]? = some (.cells #[.int .i64 x294000_2, .int .i64 x294001_2, .int .i64 x294002_2, .int .i64 x294003_2, .int .i64 x294004_2, .int .i64 x294005_2, .int .i64 x294006_2, .int .i64 x294007_2] 53 (0, 0))) := ⟨by (with_reducible repeat (first | refine blk_drewN ?_ _ | refine blk_drew ?_ | refine blk_alloc ?_ _)); refine blk_far ?_ NB293_307.out _; (with_reducible repeat (first | refine blk_drewN ?_ _ | refine blk_drew ?_ | refine blk_alloc ?_ _)); refine blk_far ?_ NB293_307.out _; (with_reducible repeat (first | refine blk_drewN ?_ _ | refine blk_drew ?_ | refine blk_alloc ?_ _)); refine blk_far ?_ NB293_307.out _; (with_reducible repeat (first | refine blk_drewN ?_ _ | refine blk_drew ?_ | refine blk_alloc ?_ _)); refine blk_far ?_ NB293_307.out _; (with_reducible repeat (first | refine blk_drewN ?_ _ | refine blk_drew ?_ | refine blk_alloc ?_ _)); refine blk_far ?_ NB293_307.out _; (with_reducible repeat (first | refine blk_drewN ?_ _ | refine blk_drew ?_ | refine blk_alloc ?_ _)); refine blk_far ?_ NB293_307.out _; (with_reducible repeat (first | refine blk_drewN ?_ _ | refine blk_drew ?_ | refine blk_alloc ?_ _)); refine blk_far ?_ NB293_307.out _; (with_reducible repeat (first | refine blk_drewN ?_ _ | refine blk_drew ?_ | refine blk_alloc ?_ _)); refine blk_far ?_ NB293_307.out _; (with_reducible repeat (first | refine blk_drewN ?_ _ | refine blk_drew ?_ | refine blk_alloc ?_ _)); exact BK293.out⟩
          have n1_ : Aside0 (((((((((w25.setCell ⟨gb307, 0, none⟩ (.int .i64 t298)).setCell ⟨gb307, 1, none⟩ (.int .i64 t299)).setCell ⟨gb307, 2, none⟩ (.int .i64 t300)).setCell ⟨gb307, 3, none⟩ (.int .i64 t301)).setCell ⟨gb307, 4, none⟩ (.int .i64 t302)).setCell ⟨gb307, 5, none⟩ (.int .i64 t303)).setCell ⟨gb307, 6, none⟩ (.int .i64 t304)).setCell ⟨gb307, 7, none⟩ (.int .i64 t305)).heap[gb297]? = some (.cells #[.int .i64 ((rd_T93 l1 x21_2).f0), .int .i64 ((rd_T93 l1 x21_2).f1)] 93 (0, 0))) := ⟨by (with_reducible repeat (first | refine blk_drewN ?_ _ | refine blk_drew ?_ | refine blk_alloc ?_ _)); refine blk_far ?_ NB297_307.out _; (with_reducible repeat (first | refine blk_drewN ?_ _ | refine blk_drew ?_ | refine blk_alloc ?_ _)); refine blk_far ?_ NB297_307.out _; (with_reducible repeat (first | refine blk_drewN ?_ _ | refine blk_drew ?_ | refine blk_alloc ?_ _)); refine blk_far ?_ NB297_307.out _; (with_reducible repeat (first | refine blk_drewN ?_ _ | refine blk_drew ?_ | refine blk_alloc ?_ _)); refine blk_far ?_ NB297_307.out _; (with_reducible repeat (first | refine blk_drewN ?_ _ | refine blk_drew ?_ | refine blk_alloc ?_ _)); refine blk_far ?_ NB297_307.out _; (with_reducible repeat (first | refine blk_drewN ?_ _ | refine blk_drew ?_ | refine blk_alloc ?_ _)); refine blk_far ?_ NB297_307.out _; (with_reducible repeat (first | refine blk_drewN ?_ _ | refine blk_drew ?_ | refine blk_alloc ?_ _)); refine blk_far ?_ NB297_307.out _; (with_reducible repeat (first | refine blk_drewN ?_ _ | refine blk_drew ?_ | refine blk_alloc ?_ _)); refine blk_far ?_ NB297_307.out _; (with_reducible repeat (first | refine blk_drewN ?_ _ | refine blk_drew ?_ | refine blk_alloc ?_ _)); exact BK297.out⟩
          have n2_ : Aside0 (((((((((w25.setCell ⟨gb307, 0, none⟩ (.int .i64 t298)).setCell ⟨gb307, 1, none⟩ (.int .i64 t299)).setCell ⟨gb307, 2, none⟩ (.int .i64 t300)).setCell ⟨gb307, 3, none⟩ (.int .i64 t301)).setCell ⟨gb307, 4, none⟩ (.int .i64 t302)).setCell ⟨gb307, 5, none⟩ (.int .i64 t303)).setCell ⟨gb307, 6, none⟩ (.int .i64 t304)).setCell ⟨gb307, 7, none⟩ (.int .i64 t305)).heap[gb307]? = some (.cells #[.int .i64 t298, .int .i64 t299, .int .i64 t300, .int .i64 t301, .int .i64 t302, .int .i64 t303, .int .i64 t304, .int .i64 t305] 53 (0, 0))) := ⟨by (with_reducible repeat (first | refine blk_drewN ?_ _ | refine blk_drew ?_ | refine blk_alloc ?_ _)); refine blk_put (cs := #[.int .i64 t298, .int .i64 t299, .int .i64 t300, .int .i64 t301, .int .i64 t302, .int .i64 t303, .int .i64 t304, .int .i64 0]) ?_ 7 _ rfl; (with_reducible repeat (first | refine blk_drewN ?_ _ | refine blk_drew ?_ | refine blk_alloc ?_ _)); refine blk_put (cs := #[.int .i64 t298, .int .i64 t299, .int .i64 t300, .int .i64 t301, .int .i64 t302, .int .i64 t303, .int .i64 0, .int .i64 0]) ?_ 6 _ rfl; (with_reducible repeat (first | refine blk_drewN ?_ _ | refine blk_drew ?_ | refine blk_alloc ?_ _)); refine blk_put (cs := #[.int .i64 t298, .int .i64 t299, .int .i64 t300, .int .i64 t301, .int .i64 t302, .int .i64 0, .int .i64 0, .int .i64 0]) ?_ 5 _ rfl; (with_reducible repeat (first | refine blk_drewN ?_ _ | refine blk_drew ?_ | refine blk_alloc ?_ _)); refine blk_put (cs := #[.int .i64 t298, .int .i64 t299, .int .i64 t300, .int .i64 t301, .int .i64 0, .int .i64 0, .int .i64 0, .int .i64 0]) ?_ 4 _ rfl; (with_reducible repeat (first | refine blk_drewN ?_ _ | refine blk_drew ?_ | refine blk_alloc ?_ _)); refine blk_put (cs := #[.int .i64 t298, .int .i64 t299, .int .i64 t300, .int .i64 0, .int .i64 0, .int .i64 0, .int .i64 0, .int .i64 0]) ?_ 3 _ rfl; (with_reducible repeat (first | refine blk_drewN ?_ _ | refine blk_drew ?_ | refine blk_alloc ?_ _)); refine blk_put (cs := #[.int .i64 t298, .int .i64 t299, .int .i64 0, .int .i64 0, .int .i64 0, .int .i64 0, .int .i64 0, .int .i64 0]) ?_ 2 _ rfl; (with_reducible repeat (first | refine blk_drewN ?_ _ | refine blk_drew ?_ | refine blk_alloc ?_ _)); refine blk_put (cs := #[.int .i64 t298, .int .i64 0, .int .i64 0, .int .i64 0, .int .i64 0, .int .i64 0, .int .i64 0, .int .i64 0]) ?_ 1 _ rfl; (with_reducible repeat (first | refine blk_drewN ?_ _ | refine blk_drew ?_ | refine blk_alloc ?_ _)); refine blk_put (cs := #[.int .i64 0, .int .i64 0, .int .i64 0, .int .i64 0, .int .i64 0, .int .i64 0, .int .i64 0, .int .i64 0]) ?_ 0 _ rfl; (with_reducible repeat (first | refine blk_drewN ?_ _ | refine blk_drew ?_ | refine blk_alloc ?_ _)); exact BK307.out⟩
          have n3_ : Aside0 (Below w.heap.size w ((((((((w25.setCell ⟨gb307, 0, none⟩ (.int .i64 t298)).setCell ⟨gb307, 1, none⟩ (.int .i64 t299)).setCell ⟨gb307, 2, none⟩ (.int .i64 t300)).setCell ⟨gb307, 3, none⟩ (.int .i64 t301)).setCell ⟨gb307, 4, none⟩ (.int .i64 t302)).setCell ⟨gb307, 5, none⟩ (.int .i64 t303)).setCell ⟨gb307, 6, none⟩ (.int .i64 t304)).setCell ⟨gb307, 7, none⟩ (.int .i64 t305))) := ⟨by repeat (first | (with_reducible first | exact HB.out | apply below_alloc | apply pw_below_drewN | apply below_drew1 | refine below_set ?_ GE293.out | refine below_set ?_ GE297.out | refine below_set ?_ GE307.out) | exact HB.out)⟩
          (try clear BK293)
          (try clear BK297)
          (try clear BK307)
          (try clear HB)
          generalize ((((((((w25.setCell ⟨gb307, 0, none⟩ (.int .i64 t298)).setCell ⟨gb307, 1, none⟩ (.int .i64 t299)).setCell ⟨gb307, 2, none⟩ (.int .i64 t300)).setCell ⟨gb307, 3, none⟩ (.int .i64 t301)).setCell ⟨gb307, 4, none⟩ (.int .i64 t302)).setCell ⟨gb307, 5, none⟩ (.int .i64 t303)).setCell ⟨gb307, 6, none⟩ (.int .i64 t304)).setCell ⟨gb307, 7, none⟩ (.int .i64 t305)) = w46 at n0_ n1_ n2_ n3_ ⊢
          have BK293 := n0_
          have BK297 := n1_
          have BK307 := n2_
          have HB := n3_
          clear n0_ n1_ n2_ n3_
          have n0_ := Aside0.mk (blk_drew BK293.out)
          have n1_ := Aside0.mk (blk_drew BK297.out)
          have n2_ := Aside0.mk (blk_drew BK307.out)
          have n3_ := Aside0.mk (below_drew1 HB.out)
          clear BK293
          clear BK297
          clear BK307
          clear HB
          have BK293 := n0_
          have BK297 := n1_
          have BK307 := n2_
          have HB := n3_
          clear n0_ n1_ n2_ n3_
          refine start_ (n := 56) (S := fun w' => w'.cell? ⟨gb307, 0, none⟩ = some (.int .i64 t298) ∧ w'.cell? ⟨gb307, 1, none⟩ = some (.int .i64 t299) ∧ w'.cell? ⟨gb307, 2, none⟩ = some (.int .i64 t300) ∧ w'.cell? ⟨gb307, 3, none⟩ = some (.int .i64 t301) ∧ w'.cell? ⟨gb307, 4, none⟩ = some (.int .i64 t302) ∧ w'.cell? ⟨gb307, 5, none⟩ = some (.int .i64 t303) ∧ w'.cell? ⟨gb307, 6, none⟩ = some (.int .i64 t304) ∧ w'.cell? ⟨gb307, 7, none⟩ = some (.int .i64 t305) ∧ w'.cell? ⟨gb293, 0, none⟩ = some (.int .i64 x294000_2) ∧ w'.cell? ⟨gb293, 1, none⟩ = some (.int .i64 x294001_2) ∧ w'.cell? ⟨gb293, 2, none⟩ = some (.int .i64 x294002_2) ∧ w'.cell? ⟨gb293, 3, none⟩ = some (.int .i64 x294003_2) ∧ w'.cell? ⟨gb293, 4, none⟩ = some (.int .i64 x294004_2) ∧ w'.cell? ⟨gb293, 5, none⟩ = some (.int .i64 x294005_2) ∧ w'.cell? ⟨gb293, 6, none⟩ = some (.int .i64 x294006_2) ∧ w'.cell? ⟨gb293, 7, none⟩ = some (.int .i64 x294007_2)) (ds := []) q0 (by kernel_rfl) rfl rfl ⟨(blk_cell BK307.out 0).trans rfl, (blk_cell BK307.out 1).trans rfl, (blk_cell BK307.out 2).trans rfl, (blk_cell BK307.out 3).trans rfl, (blk_cell BK307.out 4).trans rfl, (blk_cell BK307.out 5).trans rfl, (blk_cell BK307.out 6).trans rfl, (blk_cell BK307.out 7).trans rfl, (blk_cell BK293.out 0).trans rfl, (blk_cell BK293.out 1).trans rfl, (blk_cell BK293.out 2).trans rfl, (blk_cell BK293.out 3).trans rfl, (blk_cell BK293.out 4).trans rfl, (blk_cell BK293.out 5).trans rfl, (blk_cell BK293.out 6).trans rfl, (blk_cell BK293.out 7).trans rfl⟩ (fun hHeld => ?_); refine with_tabW contralaw09_ItemForward.tab9 contralaw09_ItemForward.bits9 (fun HT_ HW_ => ?_)
          generalize w46.drew = w47 at BK293 BK297 BK307 HB hHeld ⊢
          refine take_ (i := 0) (N := some 34) (v := ?_) (a' := ?_) q1 rfl rfl (take_ofW HT_.out HW_.out (by kernel_rfl)) (fun _ _ _ h => h) (Or.inl ⟨by rfl, ?_⟩) hHeld ?_ ?_
          rotate_left; ·rintro w' ⟨s0, s1, s2, s3, s4, s5, s6, s7, s8, s9, s10, s11, s12, s13, s14, s15⟩; go_simp; with_reducible rfl
          rotate_left; ·simp only [Act.put, z1, z2, z3, z4, z5]; rfl
          refine take_ (i := 2) (N := some 36) (v := ?_) (a' := ?_) q2 rfl rfl (take_ofW HT_.out HW_.out (by kernel_rfl)) (fun _ _ _ h => h) (Or.inl ⟨by rfl, ?_⟩) hHeld ?_ ?_
          rotate_left; ·rintro w' ⟨s0, s1, s2, s3, s4, s5, s6, s7, s8, s9, s10, s11, s12, s13, s14, s15⟩; go_simp; with_reducible rfl
          rotate_left; ·simp only [Act.put, z1, z2, z3, z4, z5]; rfl
          refine one_ (i := 1) (N := some 35) q3 rfl rfl (one_of HT_.out (by kernel_rfl)) (by decide) (fun K hK => ?_)
          refine goes_ Try.func47 (by kernel_rfl) rfl #[.agg #[.int .i64 t298, .int .i64 t299, .int .i64 t300, .int .i64 t301, .int .i64 t302, .int .i64 t303, .int .i64 t304, .int .i64 t305]] (by rfl) rfl rfl (by (try simp only [List.map_toArray, List.map_cons, List.map_nil]); first | done | rfl | (simp only [List.length_drop, List.length_take]; rfl)) ?_
          with_reducible refine (item_Rank.calls k2 t298 t299 t300 t301 t302 t303 t304 t305 t308 _ A29.out).mono ?_
          rintro e w48 ⟨rfl, hb⟩
          refine ⟨_, rfl, ?_⟩
          have n0_ := Aside0.mk (blk_below (g := gb293) (o := .cells #[.int .i64 x294000_2, .int .i64 x294001_2, .int .i64 x294002_2, .int .i64 x294003_2, .int .i64 x294004_2, .int .i64 x294005_2, .int .i64 x294006_2, .int .i64 x294007_2] 53 (0, 0)) (by (with_reducible repeat (first | refine blk_drewN ?_ _ | refine blk_drew ?_ | refine blk_alloc ?_ _)); exact BK293.out) hb)
          have n1_ := Aside0.mk (blk_below (g := gb297) (o := .cells #[.int .i64 ((rd_T93 l1 x21_2).f0), .int .i64 ((rd_T93 l1 x21_2).f1)] 93 (0, 0)) (by (with_reducible repeat (first | refine blk_drewN ?_ _ | refine blk_drew ?_ | refine blk_alloc ?_ _)); exact BK297.out) hb)
          have n2_ := Aside0.mk (blk_below (g := gb307) (o := .cells #[.int .i64 t298, .int .i64 t299, .int .i64 t300, .int .i64 t301, .int .i64 t302, .int .i64 t303, .int .i64 t304, .int .i64 t305] 53 (0, 0)) (by (with_reducible repeat (first | refine blk_drewN ?_ _ | refine blk_drew ?_ | refine blk_alloc ?_ _)); exact BK307.out) hb)
          have n3_ := Aside0.mk (below_step (by repeat (first | (with_reducible first | exact HB.out | apply below_alloc | apply pw_below_drewN | apply below_drew1 | refine below_set ?_ GE293.out | refine below_set ?_ GE297.out | refine below_set ?_ GE307.out) | exact HB.out)) hb)
          clear BK293
          clear BK297
          clear BK307
          clear HB
          have BK293 := n0_
          have BK297 := n1_
          have BK307 := n2_
          have HB := n3_
          clear n0_ n1_ n2_ n3_
          (try clear hb)
          (try clear hb2)
          (try clear hk)
          (try clear hi)
          refine hK.out _ _ ⟨(blk_cell BK307.out 0).trans rfl, (blk_cell BK307.out 1).trans rfl, (blk_cell BK307.out 2).trans rfl, (blk_cell BK307.out 3).trans rfl, (blk_cell BK307.out 4).trans rfl, (blk_cell BK307.out 5).trans rfl, (blk_cell BK307.out 6).trans rfl, (blk_cell BK307.out 7).trans rfl, (blk_cell BK293.out 0).trans rfl, (blk_cell BK293.out 1).trans rfl, (blk_cell BK293.out 2).trans rfl, (blk_cell BK293.out 3).trans rfl, (blk_cell BK293.out 4).trans rfl, (blk_cell BK293.out 5).trans rfl, (blk_cell BK293.out 6).trans rfl, (blk_cell BK293.out 7).trans rfl⟩ (fun hHeld => ?_)
          clear hK K
          refine norm_ (a' := ?_) ?_ ?_
          rotate_left
          ·show Act.put _ (some 35) _ = _
           simp only [Act.put, z1, z2, z3, z4, z5]
           rfl
          refine one_ (i := 3) (N := some 37) q4 rfl rfl (one_of HT_.out (by kernel_rfl)) (by decide) (fun K hK => ?_)
          refine goes_ Try.func47 (by kernel_rfl) rfl #[.agg #[.int .i64 x294000_2, .int .i64 x294001_2, .int .i64 x294002_2, .int .i64 x294003_2, .int .i64 x294004_2, .int .i64 x294005_2, .int .i64 x294006_2, .int .i64 x294007_2]] (by rfl) rfl rfl (by (try simp only [List.map_toArray, List.map_cons, List.map_nil]); first | done | rfl | (simp only [List.length_drop, List.length_take]; rfl)) ?_
          with_reducible refine (item_Rank.calls k2 x294000_2 x294001_2 x294002_2 x294003_2 x294004_2 x294005_2 x294006_2 x294007_2 t309 _ A30.out).mono ?_
          rintro e w49 ⟨rfl, hb⟩
          refine ⟨_, rfl, ?_⟩
          have n0_ := Aside0.mk (blk_below (g := gb293) (o := .cells #[.int .i64 x294000_2, .int .i64 x294001_2, .int .i64 x294002_2, .int .i64 x294003_2, .int .i64 x294004_2, .int .i64 x294005_2, .int .i64 x294006_2, .int .i64 x294007_2] 53 (0, 0)) (by (with_reducible repeat (first | refine blk_drewN ?_ _ | refine blk_drew ?_ | refine blk_alloc ?_ _)); exact BK293.out) hb)
          have n1_ := Aside0.mk (blk_below (g := gb297) (o := .cells #[.int .i64 ((rd_T93 l1 x21_2).f0), .int .i64 ((rd_T93 l1 x21_2).f1)] 93 (0, 0)) (by (with_reducible repeat (first | refine blk_drewN ?_ _ | refine blk_drew ?_ | refine blk_alloc ?_ _)); exact BK297.out) hb)
          have n2_ := Aside0.mk (blk_below (g := gb307) (o := .cells #[.int .i64 t298, .int .i64 t299, .int .i64 t300, .int .i64 t301, .int .i64 t302, .int .i64 t303, .int .i64 t304, .int .i64 t305] 53 (0, 0)) (by (with_reducible repeat (first | refine blk_drewN ?_ _ | refine blk_drew ?_ | refine blk_alloc ?_ _)); exact BK307.out) hb)
          have n3_ := Aside0.mk (below_step (by repeat (first | (with_reducible first | exact HB.out | apply below_alloc | apply pw_below_drewN | apply below_drew1 | refine below_set ?_ GE293.out | refine below_set ?_ GE297.out | refine below_set ?_ GE307.out) | exact HB.out)) hb)
          clear BK293
          clear BK297
          clear BK307
          clear HB
          have BK293 := n0_
          have BK297 := n1_
          have BK307 := n2_
          have HB := n3_
          clear n0_ n1_ n2_ n3_
          (try clear hb)
          (try clear hb2)
          (try clear hk)
          (try clear hi)
          refine hK.out _ _ ⟨(blk_cell BK307.out 0).trans rfl, (blk_cell BK307.out 1).trans rfl, (blk_cell BK307.out 2).trans rfl, (blk_cell BK307.out 3).trans rfl, (blk_cell BK307.out 4).trans rfl, (blk_cell BK307.out 5).trans rfl, (blk_cell BK307.out 6).trans rfl, (blk_cell BK307.out 7).trans rfl, (blk_cell BK293.out 0).trans rfl, (blk_cell BK293.out 1).trans rfl, (blk_cell BK293.out 2).trans rfl, (blk_cell BK293.out 3).trans rfl, (blk_cell BK293.out 4).trans rfl, (blk_cell BK293.out 5).trans rfl, (blk_cell BK293.out 6).trans rfl, (blk_cell BK293.out 7).trans rfl⟩ (fun hHeld => ?_)
          clear hK K
          refine norm_ (a' := ?_) ?_ ?_
          rotate_left
          ·show Act.put _ (some 37) _ = _
           simp only [Act.put, z1, z2, z3, z4, z5]
           rfl
          refine pure_ (i := 4) (N := some 38) (v := ?_) (a' := ?_) q5 rfl rfl (any_of HT_.out (by kernel_rfl)) (fun _ _ _ h => h) (Or.inl ⟨by rfl, ?_⟩) ?_ ?_
          rotate_left; ·intro w'; go_simp; with_reducible rfl
          rotate_left; ·simp only [Act.put, z1, z2, z3, z4, z5]; rfl
          refine pure_ (i := 5) (N := some 39) (v := ?_) (a' := ?_) q6 rfl rfl (any_of HT_.out (by kernel_rfl)) (fun _ _ _ h => h) (Or.inl ⟨by rfl, ?_⟩) ?_ ?_
          rotate_left; ·intro w'; go_simp; with_reducible rfl
          rotate_left; ·simp only [Act.put, z1, z2, z3, z4, z5]; rfl
          refine pure_ (i := 6) (N := some 40) (v := ?_) (a' := ?_) q7 rfl rfl (any_of HT_.out (by kernel_rfl)) (fun _ _ _ h => h) (Or.inl ⟨by rfl, ?_⟩) ?_ ?_
          rotate_left; ·intro w'; go_simp; with_reducible rfl
          rotate_left; ·simp only [Act.put, z1, z2, z3, z4, z5]; rfl
          refine pure_ (i := 8) (N := some 42) (v := ?_) (a' := ?_) q8 rfl rfl (any_of HT_.out (by kernel_rfl)) (fun _ _ _ h => h) (Or.inl ⟨by rfl, ?_⟩) ?_ ?_
          rotate_left; ·intro w'; go_simp; with_reducible rfl
          rotate_left; ·simp only [Act.put, z1, z2, z3, z4, z5]; rfl
          refine take_ (i := 7) (N := some 41) (v := ?_) (a' := ?_) q9 rfl rfl (take_ofW HT_.out HW_.out (by kernel_rfl)) (fun _ _ _ h => h) (Or.inl ⟨by rfl, ?_⟩) hHeld ?_ ?_
          rotate_left; ·rintro w' ⟨s0, s1, s2, s3, s4, s5, s6, s7, s8, s9, s10, s11, s12, s13, s14, s15⟩; go_simp; with_reducible rfl
          rotate_left; ·simp only [Act.put, z1, z2, z3, z4, z5]; rfl
          refine take_ (i := 9) (N := some 43) (v := ?_) (a' := ?_) q10 rfl rfl (take_ofW HT_.out HW_.out (by kernel_rfl)) (fun _ _ _ h => h) (Or.inl ⟨by rfl, ?_⟩) hHeld ?_ ?_
          rotate_left; ·rintro w' ⟨s0, s1, s2, s3, s4, s5, s6, s7, s8, s9, s10, s11, s12, s13, s14, s15⟩; go_simp; with_reducible rfl
          rotate_left; ·simp only [Act.put, z1, z2, z3, z4, z5]; rfl
          refine pure_ (i := 10) (N := some 44) (v := ?_) (a' := ?_) q11 rfl rfl (any_of HT_.out (by kernel_rfl)) (fun _ _ _ h => h) (Or.inl ⟨by rfl, ?_⟩) ?_ ?_
          rotate_left; ·intro w'; go_simp; with_reducible rfl
          rotate_left; ·simp only [Act.put, z1, z2, z3, z4, z5]; rfl
          refine pure_ (i := 11) (N := some 45) (v := ?_) (a' := ?_) q12 rfl rfl (any_of HT_.out (by kernel_rfl)) (fun _ _ _ h => h) (Or.inl ⟨by rfl, ?_⟩) ?_ ?_
          rotate_left; ·intro w'; go_simp; with_reducible rfl
          rotate_left; ·simp only [Act.put, z1, z2, z3, z4, z5]; rfl
          refine pure_ (i := 12) (N := some 46) (v := ?_) (a' := ?_) q13 rfl rfl (any_of HT_.out (by kernel_rfl)) (fun _ _ _ h => h) (Or.inl ⟨by rfl, ?_⟩) ?_ ?_
          rotate_left; ·intro w'; go_simp; with_reducible rfl
          rotate_left; ·simp only [Act.put, z1, z2, z3, z4, z5]; rfl
          refine pure_ (i := 13) (N := some 47) (v := ?_) (a' := ?_) q14 rfl rfl (any_of HT_.out (by kernel_rfl)) (fun _ _ _ h => h) (Or.inl ⟨by rfl, ?_⟩) ?_ ?_
          rotate_left; ·intro w'; go_simp; with_reducible rfl
          rotate_left; ·simp only [Act.put, z1, z2, z3, z4, z5]; rfl
          refine pure_ (i := 15) (N := some 49) (v := ?_) (a' := ?_) q15 rfl rfl (any_of HT_.out (by kernel_rfl)) (fun _ _ _ h => h) (Or.inl ⟨by rfl, ?_⟩) ?_ ?_
          rotate_left; ·intro w'; go_simp; with_reducible rfl
          rotate_left; ·simp only [Act.put, z1, z2, z3, z4, z5]; rfl
          refine take_ (i := 14) (N := some 48) (v := ?_) (a' := ?_) q16 rfl rfl (take_ofW HT_.out HW_.out (by kernel_rfl)) (fun _ _ _ h => h) (Or.inl ⟨by rfl, ?_⟩) hHeld ?_ ?_
          rotate_left; ·rintro w' ⟨s0, s1, s2, s3, s4, s5, s6, s7, s8, s9, s10, s11, s12, s13, s14, s15⟩; go_simp; with_reducible rfl
          rotate_left; ·simp only [Act.put, z1, z2, z3, z4, z5]; rfl
          refine take_ (i := 16) (N := some 50) (v := ?_) (a' := ?_) q17 rfl rfl (take_ofW HT_.out HW_.out (by kernel_rfl)) (fun _ _ _ h => h) (Or.inl ⟨by rfl, ?_⟩) hHeld ?_ ?_
          rotate_left; ·rintro w' ⟨s0, s1, s2, s3, s4, s5, s6, s7, s8, s9, s10, s11, s12, s13, s14, s15⟩; go_simp; with_reducible rfl
          rotate_left; ·simp only [Act.put, z1, z2, z3, z4, z5]; rfl
          refine pure_ (i := 17) (N := some 51) (v := ?_) (a' := ?_) q18 rfl rfl (any_of HT_.out (by kernel_rfl)) (fun _ _ _ h => h) (Or.inl ⟨by rfl, ?_⟩) ?_ ?_
          rotate_left; ·intro w'; go_simp; with_reducible rfl
          rotate_left; ·simp only [Act.put, z1, z2, z3, z4, z5]; rfl
          refine pure_ (i := 18) (N := some 52) (v := ?_) (a' := ?_) q19 rfl rfl (any_of HT_.out (by kernel_rfl)) (fun _ _ _ h => h) (Or.inl ⟨by rfl, ?_⟩) ?_ ?_
          rotate_left; ·intro w'; go_simp; with_reducible rfl
          rotate_left; ·simp only [Act.put, z1, z2, z3, z4, z5]; rfl
          refine pure_ (i := 19) (N := some 53) (v := ?_) (a' := ?_) q20 rfl rfl (any_of HT_.out (by kernel_rfl)) (fun _ _ _ h => h) (Or.inl ⟨by rfl, ?_⟩) ?_ ?_
          rotate_left; ·intro w'; go_simp; with_reducible rfl
          rotate_left; ·simp only [Act.put, z1, z2, z3, z4, z5]; rfl
          refine pure_ (i := 20) (N := some 54) (v := ?_) (a' := ?_) q21 rfl rfl (any_of HT_.out (by kernel_rfl)) (fun _ _ _ h => h) (Or.inl ⟨by rfl, ?_⟩) ?_ ?_
          rotate_left; ·intro w'; go_simp; with_reducible rfl
          rotate_left; ·simp only [Act.put, z1, z2, z3, z4, z5]; rfl
          refine pure_ (i := 22) (N := some 56) (v := ?_) (a' := ?_) q22 rfl rfl (any_of HT_.out (by kernel_rfl)) (fun _ _ _ h => h) (Or.inl ⟨by rfl, ?_⟩) ?_ ?_
          rotate_left; ·intro w'; go_simp; with_reducible rfl
          rotate_left; ·simp only [Act.put, z1, z2, z3, z4, z5]; rfl
          refine take_ (i := 21) (N := some 55) (v := ?_) (a' := ?_) q23 rfl rfl (take_ofW HT_.out HW_.out (by kernel_rfl)) (fun _ _ _ h => h) (Or.inl ⟨by rfl, ?_⟩) hHeld ?_ ?_
          rotate_left; ·rintro w' ⟨s0, s1, s2, s3, s4, s5, s6, s7, s8, s9, s10, s11, s12, s13, s14, s15⟩; go_simp; with_reducible rfl
          rotate_left; ·simp only [Act.put, z1, z2, z3, z4, z5]; rfl
          refine take_ (i := 23) (N := some 57) (v := ?_) (a' := ?_) q24 rfl rfl (take_ofW HT_.out HW_.out (by kernel_rfl)) (fun _ _ _ h => h) (Or.inl ⟨by rfl, ?_⟩) hHeld ?_ ?_
          rotate_left; ·rintro w' ⟨s0, s1, s2, s3, s4, s5, s6, s7, s8, s9, s10, s11, s12, s13, s14, s15⟩; go_simp; with_reducible rfl
          rotate_left; ·simp only [Act.put, z1, z2, z3, z4, z5]; rfl
          refine pure_ (i := 24) (N := some 58) (v := ?_) (a' := ?_) q25 rfl rfl (any_of HT_.out (by kernel_rfl)) (fun _ _ _ h => h) (Or.inl ⟨by rfl, ?_⟩) ?_ ?_
          rotate_left; ·intro w'; go_simp; with_reducible rfl
          rotate_left; ·simp only [Act.put, z1, z2, z3, z4, z5]; rfl
          refine pure_ (i := 25) (N := some 59) (v := ?_) (a' := ?_) q26 rfl rfl (any_of HT_.out (by kernel_rfl)) (fun _ _ _ h => h) (Or.inl ⟨by rfl, ?_⟩) ?_ ?_
          rotate_left; ·intro w'; go_simp; with_reducible rfl
          rotate_left; ·simp only [Act.put, z1, z2, z3, z4, z5]; rfl
          refine pure_ (i := 26) (N := some 60) (v := ?_) (a' := ?_) q27 rfl rfl (any_of HT_.out (by kernel_rfl)) (fun _ _ _ h => h) (Or.inl ⟨by rfl, ?_⟩) ?_ ?_
          rotate_left; ·intro w'; go_simp; with_reducible rfl
          rotate_left; ·simp only [Act.put, z1, z2, z3, z4, z5]; rfl
          refine pure_ (i := 27) (N := some 61) (v := ?_) (a' := ?_) q28 rfl rfl (any_of HT_.out (by kernel_rfl)) (fun _ _ _ h => h) (Or.inl ⟨by rfl, ?_⟩) ?_ ?_
          rotate_left; ·intro w'; go_simp; with_reducible rfl
          rotate_left; ·simp only [Act.put, z1, z2, z3, z4, z5]; rfl
          refine take_ (i := 28) (N := some 62) (v := ?_) (a' := ?_) q29 rfl rfl (take_ofW HT_.out HW_.out (by kernel_rfl)) (fun _ _ _ h => h) (Or.inl ⟨by rfl, ?_⟩) hHeld ?_ ?_
          rotate_left; ·rintro w' ⟨s0, s1, s2, s3, s4, s5, s6, s7, s8, s9, s10, s11, s12, s13, s14, s15⟩; go_simp; with_reducible rfl
          rotate_left; ·simp only [Act.put, z1, z2, z3, z4, z5]; rfl
          refine pure_ (i := 29) (N := some 63) (v := ?_) (a' := ?_) q30 rfl rfl (any_of HT_.out (by kernel_rfl)) (fun _ _ _ h => h) (Or.inl ⟨by rfl, ?_⟩) ?_ ?_
          rotate_left; ·intro w'; go_simp; with_reducible rfl
          rotate_left; ·simp only [Act.put, z1, z2, z3, z4, z5]; rfl
          refine pure_ (i := 30) (N := some 64) (v := ?_) (a' := ?_) q31 rfl rfl (any_of HT_.out (by kernel_rfl)) (fun _ _ _ h => h) (Or.inl ⟨by rfl, ?_⟩) ?_ ?_
          rotate_left; ·intro w'; go_simp; with_reducible rfl
          rotate_left; ·simp only [Act.put, z1, z2, z3, z4, z5]; rfl
          refine pure_ (i := 31) (N := some 65) (v := ?_) (a' := ?_) q32 rfl rfl (any_of HT_.out (by kernel_rfl)) (fun _ _ _ h => h) (Or.inl ⟨by rfl, ?_⟩) ?_ ?_
          rotate_left; ·intro w'; go_simp; with_reducible rfl
          rotate_left; ·simp only [Act.put, z1, z2, z3, z4, z5]; rfl
          refine pure_ (i := 33) (N := some 67) (v := ?_) (a' := ?_) q33 rfl rfl (any_of HT_.out (by kernel_rfl)) (fun _ _ _ h => h) (Or.inl ⟨by rfl, ?_⟩) ?_ ?_
          rotate_left; ·intro w'; go_simp; with_reducible rfl
          rotate_left; ·simp only [Act.put, z1, z2, z3, z4, z5]; rfl
          refine take_ (i := 32) (N := some 66) (v := ?_) (a' := ?_) q34 rfl rfl (take_ofW HT_.out HW_.out (by kernel_rfl)) (fun _ _ _ h => h) (Or.inl ⟨by rfl, ?_⟩) hHeld ?_ ?_
          rotate_left; ·rintro w' ⟨s0, s1, s2, s3, s4, s5, s6, s7, s8, s9, s10, s11, s12, s13, s14, s15⟩; go_simp; with_reducible rfl
          rotate_left; ·simp only [Act.put, z1, z2, z3, z4, z5]; rfl
          refine take_ (i := 34) (N := some 68) (v := ?_) (a' := ?_) q35 rfl rfl (take_ofW HT_.out HW_.out (by kernel_rfl)) (fun _ _ _ h => h) (Or.inl ⟨by rfl, ?_⟩) hHeld ?_ ?_
          rotate_left; ·rintro w' ⟨s0, s1, s2, s3, s4, s5, s6, s7, s8, s9, s10, s11, s12, s13, s14, s15⟩; go_simp; with_reducible rfl
          rotate_left; ·simp only [Act.put, z1, z2, z3, z4, z5]; rfl
          refine pure_ (i := 35) (N := some 69) (v := ?_) (a' := ?_) q36 rfl rfl (any_of HT_.out (by kernel_rfl)) (fun _ _ _ h => h) (Or.inl ⟨by rfl, ?_⟩) ?_ ?_
          rotate_left; ·intro w'; go_simp; with_reducible rfl
          rotate_left; ·simp only [Act.put, z1, z2, z3, z4, z5]; rfl
          refine pure_ (i := 36) (N := some 70) (v := ?_) (a' := ?_) q37 rfl rfl (any_of HT_.out (by kernel_rfl)) (fun _ _ _ h => h) (Or.inl ⟨by rfl, ?_⟩) ?_ ?_
          rotate_left; ·intro w'; go_simp; with_reducible rfl
          rotate_left; ·simp only [Act.put, z1, z2, z3, z4, z5]; rfl
          refine pure_ (i := 37) (N := some 71) (v := ?_) (a' := ?_) q38 rfl rfl (any_of HT_.out (by kernel_rfl)) (fun _ _ _ h => h) (Or.inl ⟨by rfl, ?_⟩) ?_ ?_
          rotate_left; ·intro w'; go_simp; with_reducible rfl
          rotate_left; ·simp only [Act.put, z1, z2, z3, z4, z5]; rfl
          refine pure_ (i := 38) (N := some 72) (v := ?_) (a' := ?_) q39 rfl rfl (any_of HT_.out (by kernel_rfl)) (fun _ _ _ h => h) (Or.inl ⟨by rfl, ?_⟩) ?_ ?_
          rotate_left; ·intro w'; go_simp; with_reducible rfl
          rotate_left; ·simp only [Act.put, z1, z2, z3, z4, z5]; rfl
          refine take_ (i := 39) (N := some 73) (v := ?_) (a' := ?_) q40 rfl rfl (take_ofW HT_.out HW_.out (by kernel_rfl)) (fun _ _ _ h => h) (Or.inl ⟨by rfl, ?_⟩) hHeld ?_ ?_
          rotate_left; ·rintro w' ⟨s0, s1, s2, s3, s4, s5, s6, s7, s8, s9, s10, s11, s12, s13, s14, s15⟩; go_simp; with_reducible rfl
          rotate_left; ·simp only [Act.put, z1, z2, z3, z4, z5]; rfl
          refine one_ (i := 40) (N := some 74) q41 rfl rfl (one_of HT_.out (by kernel_rfl)) (by decide) (fun K hK => ?_)
          refine goes_ Try.func32 (by kernel_rfl) rfl #[.agg #[.int .i64 x294000_2, .int .i64 x294001_2, .int .i64 x294002_2, .int .i64 x294003_2, .int .i64 x294004_2, .int .i64 x294005_2, .int .i64 x294006_2, .int .i64 x294007_2]] (by rfl) rfl rfl (by (try simp only [List.map_toArray, List.map_cons, List.map_nil]); first | done | rfl | (simp only [List.length_drop, List.length_take]; rfl)) ?_
          with_reducible refine (item_Over.calls x294000_2 x294001_2 x294002_2 x294003_2 x294004_2 x294005_2 x294006_2 x294007_2 true _ A37.out).mono ?_
          rintro e w50 ⟨rfl, hb⟩
          refine ⟨_, rfl, ?_⟩
          have n0_ := Aside0.mk (blk_below (g := gb293) (o := .cells #[.int .i64 x294000_2, .int .i64 x294001_2, .int .i64 x294002_2, .int .i64 x294003_2, .int .i64 x294004_2, .int .i64 x294005_2, .int .i64 x294006_2, .int .i64 x294007_2] 53 (0, 0)) (by (with_reducible repeat (first | refine blk_drewN ?_ _ | refine blk_drew ?_ | refine blk_alloc ?_ _)); exact BK293.out) hb)
          have n1_ := Aside0.mk (blk_below (g := gb297) (o := .cells #[.int .i64 ((rd_T93 l1 x21_2).f0), .int .i64 ((rd_T93 l1 x21_2).f1)] 93 (0, 0)) (by (with_reducible repeat (first | refine blk_drewN ?_ _ | refine blk_drew ?_ | refine blk_alloc ?_ _)); exact BK297.out) hb)
          have n2_ := Aside0.mk (blk_below (g := gb307) (o := .cells #[.int .i64 t298, .int .i64 t299, .int .i64 t300, .int .i64 t301, .int .i64 t302, .int .i64 t303, .int .i64 t304, .int .i64 t305] 53 (0, 0)) (by (with_reducible repeat (first | refine blk_drewN ?_ _ | refine blk_drew ?_ | refine blk_alloc ?_ _)); exact BK307.out) hb)
          have n3_ := Aside0.mk (below_step (by repeat (first | (with_reducible first | exact HB.out | apply below_alloc | apply pw_below_drewN | apply below_drew1 | refine below_set ?_ GE293.out | refine below_set ?_ GE297.out | refine below_set ?_ GE307.out) | exact HB.out)) hb)
          clear BK293
          clear BK297
          clear BK307
          clear HB
          have BK293 := n0_
          have BK297 := n1_
          have BK307 := n2_
          have HB := n3_
          clear n0_ n1_ n2_ n3_
          (try clear hb)
          (try clear hb2)
          (try clear hk)
          (try clear hi)
          refine hK.out _ _ ⟨(blk_cell BK307.out 0).trans rfl, (blk_cell BK307.out 1).trans rfl, (blk_cell BK307.out 2).trans rfl, (blk_cell BK307.out 3).trans rfl, (blk_cell BK307.out 4).trans rfl, (blk_cell BK307.out 5).trans rfl, (blk_cell BK307.out 6).trans rfl, (blk_cell BK307.out 7).trans rfl, (blk_cell BK293.out 0).trans rfl, (blk_cell BK293.out 1).trans rfl, (blk_cell BK293.out 2).trans rfl, (blk_cell BK293.out 3).trans rfl, (blk_cell BK293.out 4).trans rfl, (blk_cell BK293.out 5).trans rfl, (blk_cell BK293.out 6).trans rfl, (blk_cell BK293.out 7).trans rfl⟩ (fun hHeld => ?_)
          clear hK K
          refine norm_ (a' := ?_) ?_ ?_
          rotate_left
          ·show Act.put _ (some 74) _ = _
           simp only [Act.put, z1, z2, z3, z4, z5]
           rfl
          refine pure_ (i := 41) (N := some 75) (v := ?_) (a' := ?_) q42 rfl rfl (any_of HT_.out (by kernel_rfl)) (fun _ _ _ h => h) (Or.inl ⟨by rfl, ?_⟩) ?_ ?_
          rotate_left; ·intro w'; go_simp; with_reducible rfl
          rotate_left; ·simp only [Act.put, z1, z2, z3, z4, z5]; rfl
          refine take_ (i := 42) (N := some 76) (v := ?_) (a' := ?_) q43 rfl rfl (take_ofW HT_.out HW_.out (by kernel_rfl)) (fun _ _ _ h => h) (Or.inl ⟨by rfl, ?_⟩) hHeld ?_ ?_
          rotate_left; ·rintro w' ⟨s0, s1, s2, s3, s4, s5, s6, s7, s8, s9, s10, s11, s12, s13, s14, s15⟩; go_simp; with_reducible rfl
          rotate_left; ·simp only [Act.put, z1, z2, z3, z4, z5]; rfl
          refine take_ (i := 43) (N := some 77) (v := ?_) (a' := ?_) q44 rfl rfl (take_ofW HT_.out HW_.out (by kernel_rfl)) (fun _ _ _ h => h) (Or.inl ⟨by rfl, ?_⟩) hHeld ?_ ?_
          rotate_left; ·rintro w' ⟨s0, s1, s2, s3, s4, s5, s6, s7, s8, s9, s10, s11, s12, s13, s14, s15⟩; go_simp; with_reducible rfl
          rotate_left; ·simp only [Act.put, z1, z2, z3, z4, z5]; rfl
          refine pure_ (i := 44) (N := some 78) (v := ?_) (a' := ?_) q45 rfl rfl (any_of HT_.out (by kernel_rfl)) (fun _ _ _ h => h) (Or.inl ⟨by rfl, ?_⟩) ?_ ?_
          rotate_left; ·intro w'; go_simp; with_reducible rfl
          rotate_left; ·simp only [Act.put, z1, z2, z3, z4, z5]; rfl
          refine pure_ (i := 45) (N := some 79) (v := ?_) (a' := ?_) q46 rfl rfl (any_of HT_.out (by kernel_rfl)) (fun _ _ _ h => h) (Or.inl ⟨by rfl, ?_⟩) ?_ ?_
          rotate_left; ·intro w'; go_simp; with_reducible rfl
          rotate_left; ·simp only [Act.put, z1, z2, z3, z4, z5]; rfl
          refine pure_ (i := 46) (N := some 80) (v := ?_) (a' := ?_) q47 rfl rfl (any_of HT_.out (by kernel_rfl)) (fun _ _ _ h => h) (Or.inl ⟨by rfl, ?_⟩) ?_ ?_
          rotate_left; ·intro w'; go_simp; with_reducible rfl
          rotate_left; ·simp only [Act.put, z1, z2, z3, z4, z5]; rfl
          refine pure_ (i := 47) (N := some 81) (v := ?_) (a' := ?_) q48 rfl rfl (any_of HT_.out (by kernel_rfl)) (fun _ _ _ h => h) (Or.inl ⟨by rfl, ?_⟩) ?_ ?_
          rotate_left; ·intro w'; go_simp; with_reducible rfl
          rotate_left; ·simp only [Act.put, z1, z2, z3, z4, z5]; rfl
          refine pure_ (i := 48) (N := some 82) (v := ?_) (a' := ?_) q49 rfl rfl (any_of HT_.out (by kernel_rfl)) (fun _ _ _ h => h) (Or.inl ⟨by rfl, ?_⟩) ?_ ?_
          rotate_left; ·intro w'; go_simp; with_reducible rfl
          rotate_left; ·simp only [Act.put, z1, z2, z3, z4, z5]; rfl
          refine pure_ (i := 49) (N := some 83) (v := ?_) (a' := ?_) q50 rfl rfl (any_of HT_.out (by kernel_rfl)) (fun _ _ _ h => h) (Or.inl ⟨by rfl, ?_⟩) ?_ ?_
          rotate_left; ·intro w'; go_simp; with_reducible rfl
          rotate_left; ·simp only [Act.put, z1, z2, z3, z4, z5]; rfl
          refine pure_ (i := 50) (N := some 84) (v := ?_) (a' := ?_) q51 rfl rfl (any_of HT_.out (by kernel_rfl)) (fun _ _ _ h => h) (Or.inl ⟨by rfl, ?_⟩) ?_ ?_
          rotate_left; ·intro w'; go_simp; with_reducible rfl
          rotate_left; ·simp only [Act.put, z1, z2, z3, z4, z5]; rfl
          refine take_ (i := 51) (N := some 85) (v := ?_) (a' := ?_) q52 rfl rfl (take_ofW HT_.out HW_.out (by kernel_rfl)) (fun _ _ _ h => h) (Or.inl ⟨by rfl, ?_⟩) hHeld ?_ ?_
          rotate_left; ·rintro w' ⟨s0, s1, s2, s3, s4, s5, s6, s7, s8, s9, s10, s11, s12, s13, s14, s15⟩; go_simp; with_reducible rfl
          rotate_left; ·simp only [Act.put, z1, z2, z3, z4, z5]; rfl
          refine take_ (i := 52) (N := some 86) (v := ?_) (a' := ?_) q53 rfl rfl (take_ofW HT_.out HW_.out (by kernel_rfl)) (fun _ _ _ h => h) (Or.inl ⟨by rfl, ?_⟩) hHeld ?_ ?_
          rotate_left; ·rintro w' ⟨s0, s1, s2, s3, s4, s5, s6, s7, s8, s9, s10, s11, s12, s13, s14, s15⟩; go_simp; with_reducible rfl
          rotate_left; ·simp only [Act.put, z1, z2, z3, z4, z5]; rfl
          refine pure_ (i := 53) (N := some 87) (v := ?_) (a' := ?_) q54 rfl rfl (any_of HT_.out (by kernel_rfl)) (fun _ _ _ h => h) (Or.inl ⟨by rfl, ?_⟩) ?_ ?_
          rotate_left; ·intro w'; go_simp; with_reducible rfl
          rotate_left; ·simp only [Act.put, z1, z2, z3, z4, z5]; rfl
          refine pure_ (i := 54) (N := some 88) (v := ?_) (a' := ?_) q55 rfl rfl (any_of HT_.out (by kernel_rfl)) (fun _ _ _ h => h) (Or.inl ⟨by rfl, ?_⟩) ?_ ?_
          rotate_left; ·intro w'; go_simp; with_reducible rfl
          rotate_left; ·simp only [Act.put, z1, z2, z3, z4, z5]; rfl
          refine pure_ (i := 55) (N := some 89) (v := ?_) (a' := ?_) q56 rfl rfl (any_of HT_.out (by kernel_rfl)) (fun _ _ _ h => h) (Or.inl ⟨by rfl, ?_⟩) ?_ ?_
          rotate_left; ·intro w'; go_simp; with_reducible rfl
          rotate_left; ·simp only [Act.put, z1, z2, z3, z4, z5]; rfl
          refine done_ (done_of HT_.out (by kernel_rfl)) ?_
          try go_wp2
          go_meet
          case rel => exact ⟨_, (((!(t298 == x294000_2) || (!(t299 == x294001_2))) || (!(t300 == x294002_2) || (!(t301 == x294003_2) || (!(t302 == x294004_2) || (!(t303 == x294005_2) || (!(t304 == x294006_2) || (!(t305 == x294007_2))))))))), (by first | rfl | (simp; done) | (simp [*]; done)), H', ⟨by have := HJ4.out; have := HK2.out; first | omega | exact Nat.le_refl _⟩, ⟨by (with_reducible repeat (first | refine blk_drewN ?_ _ | refine blk_drew ?_ | refine blk_alloc ?_ _)); exact BK293.out⟩, ⟨by (with_reducible repeat (first | refine blk_drewN ?_ _ | refine blk_drew ?_ | refine blk_alloc ?_ _)); exact BK297.out⟩, ⟨by (with_reducible repeat (first | refine blk_drewN ?_ _ | refine blk_drew ?_ | refine blk_alloc ?_ _)); exact BK307.out⟩, ⟨by repeat (first | (with_reducible first | exact HB.out | apply below_alloc | apply pw_below_drewN | apply below_drew1 | refine below_set ?_ GE293.out | refine below_set ?_ GE297.out | refine below_set ?_ GE307.out) | exact HB.out)⟩⟩
         replace c38 := Bool.eq_false_iff.mpr c38
         subst c38
         have H1 : (if t306 = 0 then (contralaw09_ItemForward.j2 k2 l1 (l1.length : Int) x21_2 false t298 t299 t300 t301 t302 t303 t304 t305) else (contralaw09_ItemForward.j2 k2 l1 (l1.length : Int) x21_2 ((!(t298 == x294000_2) || (!(t299 == x294001_2))) || (!(t300 == x294002_2) || (!(t301 == x294003_2) || (!(t302 == x294004_2) || (!(t303 == x294005_2) || (!(t304 == x294006_2) || (!(t305 == x294007_2)))))))) t298 t299 t300 t301 t302 t303 t304 t305)) = some true := by rw [if_neg (show ¬ (false = true) by decide)] at H; try exact H
         clear H
         have H := H1
         clear H1
         by_cases c51 : t306 = 0
         ·rw [if_pos c51] at H
          have c51b0 : (t306 == 0) = true := beq_iff_eq.mpr c51
          have c51b1 : (t306 != 0) = false := bne_eq_false_iff_eq.mpr c51
          clear c51
          have H' := Aside0.mk H
          clear H
          try go_wp2
          have n0_ : Aside0 (((((((((w25.setCell ⟨gb307, 0, none⟩ (.int .i64 t298)).setCell ⟨gb307, 1, none⟩ (.int .i64 t299)).setCell ⟨gb307, 2, none⟩ (.int .i64 t300)).setCell ⟨gb307, 3, none⟩ (.int .i64 t301)).setCell ⟨gb307, 4, none⟩ (.int .i64 t302)).setCell ⟨gb307, 5, none⟩ (.int .i64 t303)).setCell ⟨gb307, 6, none⟩ (.int .i64 t304)).setCell ⟨gb307, 7, none⟩ (.int .i64 t305)).heap[gb293]? = some (.cells #[.int .i64 x294000_2, .int .i64 x294001_2, .int .i64 x294002_2, .int .i64 x294003_2, .int .i64 x294004_2, .int .i64 x294005_2, .int .i64 x294006_2, .int .i64 x294007_2] 53 (0, 0))) := ⟨by (with_reducible repeat (first | refine blk_drewN ?_ _ | refine blk_drew ?_ | refine blk_alloc ?_ _)); refine blk_far ?_ NB293_307.out _; (with_reducible repeat (first | refine blk_drewN ?_ _ | refine blk_drew ?_ | refine blk_alloc ?_ _)); refine blk_far ?_ NB293_307.out _; (with_reducible repeat (first | refine blk_drewN ?_ _ | refine blk_drew ?_ | refine blk_alloc ?_ _)); refine blk_far ?_ NB293_307.out _; (with_reducible repeat (first | refine blk_drewN ?_ _ | refine blk_drew ?_ | refine blk_alloc ?_ _)); refine blk_far ?_ NB293_307.out _; (with_reducible repeat (first | refine blk_drewN ?_ _ | refine blk_drew ?_ | refine blk_alloc ?_ _)); refine blk_far ?_ NB293_307.out _; (with_reducible repeat (first | refine blk_drewN ?_ _ | refine blk_drew ?_ | refine blk_alloc ?_ _)); refine blk_far ?_ NB293_307.out _; (with_reducible repeat (first | refine blk_drewN ?_ _ | refine blk_drew ?_ | refine blk_alloc ?_ _)); refine blk_far ?_ NB293_307.out _; (with_reducible repeat (first | refine blk_drewN ?_ _ | refine blk_drew ?_ | refine blk_alloc ?_ _)); refine blk_far ?_ NB293_307.out _; (with_reducible repeat (first | refine blk_drewN ?_ _ | refine blk_drew ?_ | refine blk_alloc ?_ _)); exact BK293.out⟩
          have n1_ : Aside0 (((((((((w25.setCell ⟨gb307, 0, none⟩ (.int .i64 t298)).setCell ⟨gb307, 1, none⟩ (.int .i64 t299)).setCell ⟨gb307, 2, none⟩ (.int .i64 t300)).setCell ⟨gb307, 3, none⟩ (.int .i64 t301)).setCell ⟨gb307, 4, none⟩ (.int .i64 t302)).setCell ⟨gb307, 5, none⟩ (.int .i64 t303)).setCell ⟨gb307, 6, none⟩ (.int .i64 t304)).setCell ⟨gb307, 7, none⟩ (.int .i64 t305)).heap[gb297]? = some (.cells #[.int .i64 ((rd_T93 l1 x21_2).f0), .int .i64 ((rd_T93 l1 x21_2).f1)] 93 (0, 0))) := ⟨by (with_reducible repeat (first | refine blk_drewN ?_ _ | refine blk_drew ?_ | refine blk_alloc ?_ _)); refine blk_far ?_ NB297_307.out _; (with_reducible repeat (first | refine blk_drewN ?_ _ | refine blk_drew ?_ | refine blk_alloc ?_ _)); refine blk_far ?_ NB297_307.out _; (with_reducible repeat (first | refine blk_drewN ?_ _ | refine blk_drew ?_ | refine blk_alloc ?_ _)); refine blk_far ?_ NB297_307.out _; (with_reducible repeat (first | refine blk_drewN ?_ _ | refine blk_drew ?_ | refine blk_alloc ?_ _)); refine blk_far ?_ NB297_307.out _; (with_reducible repeat (first | refine blk_drewN ?_ _ | refine blk_drew ?_ | refine blk_alloc ?_ _)); refine blk_far ?_ NB297_307.out _; (with_reducible repeat (first | refine blk_drewN ?_ _ | refine blk_drew ?_ | refine blk_alloc ?_ _)); refine blk_far ?_ NB297_307.out _; (with_reducible repeat (first | refine blk_drewN ?_ _ | refine blk_drew ?_ | refine blk_alloc ?_ _)); refine blk_far ?_ NB297_307.out _; (with_reducible repeat (first | refine blk_drewN ?_ _ | refine blk_drew ?_ | refine blk_alloc ?_ _)); refine blk_far ?_ NB297_307.out _; (with_reducible repeat (first | refine blk_drewN ?_ _ | refine blk_drew ?_ | refine blk_alloc ?_ _)); exact BK297.out⟩
          have n2_ : Aside0 (((((((((w25.setCell ⟨gb307, 0, none⟩ (.int .i64 t298)).setCell ⟨gb307, 1, none⟩ (.int .i64 t299)).setCell ⟨gb307, 2, none⟩ (.int .i64 t300)).setCell ⟨gb307, 3, none⟩ (.int .i64 t301)).setCell ⟨gb307, 4, none⟩ (.int .i64 t302)).setCell ⟨gb307, 5, none⟩ (.int .i64 t303)).setCell ⟨gb307, 6, none⟩ (.int .i64 t304)).setCell ⟨gb307, 7, none⟩ (.int .i64 t305)).heap[gb307]? = some (.cells #[.int .i64 t298, .int .i64 t299, .int .i64 t300, .int .i64 t301, .int .i64 t302, .int .i64 t303, .int .i64 t304, .int .i64 t305] 53 (0, 0))) := ⟨by (with_reducible repeat (first | refine blk_drewN ?_ _ | refine blk_drew ?_ | refine blk_alloc ?_ _)); refine blk_put (cs := #[.int .i64 t298, .int .i64 t299, .int .i64 t300, .int .i64 t301, .int .i64 t302, .int .i64 t303, .int .i64 t304, .int .i64 0]) ?_ 7 _ rfl; (with_reducible repeat (first | refine blk_drewN ?_ _ | refine blk_drew ?_ | refine blk_alloc ?_ _)); refine blk_put (cs := #[.int .i64 t298, .int .i64 t299, .int .i64 t300, .int .i64 t301, .int .i64 t302, .int .i64 t303, .int .i64 0, .int .i64 0]) ?_ 6 _ rfl; (with_reducible repeat (first | refine blk_drewN ?_ _ | refine blk_drew ?_ | refine blk_alloc ?_ _)); refine blk_put (cs := #[.int .i64 t298, .int .i64 t299, .int .i64 t300, .int .i64 t301, .int .i64 t302, .int .i64 0, .int .i64 0, .int .i64 0]) ?_ 5 _ rfl; (with_reducible repeat (first | refine blk_drewN ?_ _ | refine blk_drew ?_ | refine blk_alloc ?_ _)); refine blk_put (cs := #[.int .i64 t298, .int .i64 t299, .int .i64 t300, .int .i64 t301, .int .i64 0, .int .i64 0, .int .i64 0, .int .i64 0]) ?_ 4 _ rfl; (with_reducible repeat (first | refine blk_drewN ?_ _ | refine blk_drew ?_ | refine blk_alloc ?_ _)); refine blk_put (cs := #[.int .i64 t298, .int .i64 t299, .int .i64 t300, .int .i64 0, .int .i64 0, .int .i64 0, .int .i64 0, .int .i64 0]) ?_ 3 _ rfl; (with_reducible repeat (first | refine blk_drewN ?_ _ | refine blk_drew ?_ | refine blk_alloc ?_ _)); refine blk_put (cs := #[.int .i64 t298, .int .i64 t299, .int .i64 0, .int .i64 0, .int .i64 0, .int .i64 0, .int .i64 0, .int .i64 0]) ?_ 2 _ rfl; (with_reducible repeat (first | refine blk_drewN ?_ _ | refine blk_drew ?_ | refine blk_alloc ?_ _)); refine blk_put (cs := #[.int .i64 t298, .int .i64 0, .int .i64 0, .int .i64 0, .int .i64 0, .int .i64 0, .int .i64 0, .int .i64 0]) ?_ 1 _ rfl; (with_reducible repeat (first | refine blk_drewN ?_ _ | refine blk_drew ?_ | refine blk_alloc ?_ _)); refine blk_put (cs := #[.int .i64 0, .int .i64 0, .int .i64 0, .int .i64 0, .int .i64 0, .int .i64 0, .int .i64 0, .int .i64 0]) ?_ 0 _ rfl; (with_reducible repeat (first | refine blk_drewN ?_ _ | refine blk_drew ?_ | refine blk_alloc ?_ _)); exact BK307.out⟩
          have n3_ : Aside0 (Below w.heap.size w ((((((((w25.setCell ⟨gb307, 0, none⟩ (.int .i64 t298)).setCell ⟨gb307, 1, none⟩ (.int .i64 t299)).setCell ⟨gb307, 2, none⟩ (.int .i64 t300)).setCell ⟨gb307, 3, none⟩ (.int .i64 t301)).setCell ⟨gb307, 4, none⟩ (.int .i64 t302)).setCell ⟨gb307, 5, none⟩ (.int .i64 t303)).setCell ⟨gb307, 6, none⟩ (.int .i64 t304)).setCell ⟨gb307, 7, none⟩ (.int .i64 t305))) := ⟨by repeat (first | (with_reducible first | exact HB.out | apply below_alloc | apply pw_below_drewN | apply below_drew1 | refine below_set ?_ GE293.out | refine below_set ?_ GE297.out | refine below_set ?_ GE307.out) | exact HB.out)⟩
          (try clear BK293)
          (try clear BK297)
          (try clear BK307)
          (try clear HB)
          generalize ((((((((w25.setCell ⟨gb307, 0, none⟩ (.int .i64 t298)).setCell ⟨gb307, 1, none⟩ (.int .i64 t299)).setCell ⟨gb307, 2, none⟩ (.int .i64 t300)).setCell ⟨gb307, 3, none⟩ (.int .i64 t301)).setCell ⟨gb307, 4, none⟩ (.int .i64 t302)).setCell ⟨gb307, 5, none⟩ (.int .i64 t303)).setCell ⟨gb307, 6, none⟩ (.int .i64 t304)).setCell ⟨gb307, 7, none⟩ (.int .i64 t305)) = w52 at n0_ n1_ n2_ n3_ ⊢
          have BK293 := n0_
          have BK297 := n1_
          have BK307 := n2_
          have HB := n3_
          clear n0_ n1_ n2_ n3_
          have n0_ := Aside0.mk (blk_drew BK293.out)
          have n1_ := Aside0.mk (blk_drew BK297.out)
          have n2_ := Aside0.mk (blk_drew BK307.out)
          have n3_ := Aside0.mk (below_drew1 HB.out)
          clear BK293
          clear BK297
          clear BK307
          clear HB
          have BK293 := n0_
          have BK297 := n1_
          have BK307 := n2_
          have HB := n3_
          clear n0_ n1_ n2_ n3_
          refine start_ (n := 56) (S := fun w' => w'.cell? ⟨gb307, 0, none⟩ = some (.int .i64 t298) ∧ w'.cell? ⟨gb307, 1, none⟩ = some (.int .i64 t299) ∧ w'.cell? ⟨gb307, 2, none⟩ = some (.int .i64 t300) ∧ w'.cell? ⟨gb307, 3, none⟩ = some (.int .i64 t301) ∧ w'.cell? ⟨gb307, 4, none⟩ = some (.int .i64 t302) ∧ w'.cell? ⟨gb307, 5, none⟩ = some (.int .i64 t303) ∧ w'.cell? ⟨gb307, 6, none⟩ = some (.int .i64 t304) ∧ w'.cell? ⟨gb307, 7, none⟩ = some (.int .i64 t305) ∧ w'.cell? ⟨gb293, 0, none⟩ = some (.int .i64 x294000_2) ∧ w'.cell? ⟨gb293, 1, none⟩ = some (.int .i64 x294001_2) ∧ w'.cell? ⟨gb293, 2, none⟩ = some (.int .i64 x294002_2) ∧ w'.cell? ⟨gb293, 3, none⟩ = some (.int .i64 x294003_2) ∧ w'.cell? ⟨gb293, 4, none⟩ = some (.int .i64 x294004_2) ∧ w'.cell? ⟨gb293, 5, none⟩ = some (.int .i64 x294005_2) ∧ w'.cell? ⟨gb293, 6, none⟩ = some (.int .i64 x294006_2) ∧ w'.cell? ⟨gb293, 7, none⟩ = some (.int .i64 x294007_2)) (ds := []) q0 (by kernel_rfl) rfl rfl ⟨(blk_cell BK307.out 0).trans rfl, (blk_cell BK307.out 1).trans rfl, (blk_cell BK307.out 2).trans rfl, (blk_cell BK307.out 3).trans rfl, (blk_cell BK307.out 4).trans rfl, (blk_cell BK307.out 5).trans rfl, (blk_cell BK307.out 6).trans rfl, (blk_cell BK307.out 7).trans rfl, (blk_cell BK293.out 0).trans rfl, (blk_cell BK293.out 1).trans rfl, (blk_cell BK293.out 2).trans rfl, (blk_cell BK293.out 3).trans rfl, (blk_cell BK293.out 4).trans rfl, (blk_cell BK293.out 5).trans rfl, (blk_cell BK293.out 6).trans rfl, (blk_cell BK293.out 7).trans rfl⟩ (fun hHeld => ?_); refine with_tabW contralaw09_ItemForward.tab9 contralaw09_ItemForward.bits9 (fun HT_ HW_ => ?_)
          generalize w52.drew = w53 at BK293 BK297 BK307 HB hHeld ⊢
          refine take_ (i := 0) (N := some 34) (v := ?_) (a' := ?_) q1 rfl rfl (take_ofW HT_.out HW_.out (by kernel_rfl)) (fun _ _ _ h => h) (Or.inl ⟨by rfl, ?_⟩) hHeld ?_ ?_
          rotate_left; ·rintro w' ⟨s0, s1, s2, s3, s4, s5, s6, s7, s8, s9, s10, s11, s12, s13, s14, s15⟩; go_simp; with_reducible rfl
          rotate_left; ·simp only [Act.put, z1, z2, z3, z4, z5]; rfl
          refine take_ (i := 2) (N := some 36) (v := ?_) (a' := ?_) q2 rfl rfl (take_ofW HT_.out HW_.out (by kernel_rfl)) (fun _ _ _ h => h) (Or.inl ⟨by rfl, ?_⟩) hHeld ?_ ?_
          rotate_left; ·rintro w' ⟨s0, s1, s2, s3, s4, s5, s6, s7, s8, s9, s10, s11, s12, s13, s14, s15⟩; go_simp; with_reducible rfl
          rotate_left; ·simp only [Act.put, z1, z2, z3, z4, z5]; rfl
          refine one_ (i := 1) (N := some 35) q3 rfl rfl (one_of HT_.out (by kernel_rfl)) (by decide) (fun K hK => ?_)
          refine goes_ Try.func47 (by kernel_rfl) rfl #[.agg #[.int .i64 t298, .int .i64 t299, .int .i64 t300, .int .i64 t301, .int .i64 t302, .int .i64 t303, .int .i64 t304, .int .i64 t305]] (by rfl) rfl rfl (by (try simp only [List.map_toArray, List.map_cons, List.map_nil]); first | done | rfl | (simp only [List.length_drop, List.length_take]; rfl)) ?_
          with_reducible refine (item_Rank.calls k2 t298 t299 t300 t301 t302 t303 t304 t305 t308 _ A29.out).mono ?_
          rintro e w54 ⟨rfl, hb⟩
          refine ⟨_, rfl, ?_⟩
          have n0_ := Aside0.mk (blk_below (g := gb293) (o := .cells #[.int .i64 x294000_2, .int .i64 x294001_2, .int .i64 x294002_2, .int .i64 x294003_2, .int .i64 x294004_2, .int .i64 x294005_2, .int .i64 x294006_2, .int .i64 x294007_2] 53 (0, 0)) (by (with_reducible repeat (first | refine blk_drewN ?_ _ | refine blk_drew ?_ | refine blk_alloc ?_ _)); exact BK293.out) hb)
          have n1_ := Aside0.mk (blk_below (g := gb297) (o := .cells #[.int .i64 ((rd_T93 l1 x21_2).f0), .int .i64 ((rd_T93 l1 x21_2).f1)] 93 (0, 0)) (by (with_reducible repeat (first | refine blk_drewN ?_ _ | refine blk_drew ?_ | refine blk_alloc ?_ _)); exact BK297.out) hb)
          have n2_ := Aside0.mk (blk_below (g := gb307) (o := .cells #[.int .i64 t298, .int .i64 t299, .int .i64 t300, .int .i64 t301, .int .i64 t302, .int .i64 t303, .int .i64 t304, .int .i64 t305] 53 (0, 0)) (by (with_reducible repeat (first | refine blk_drewN ?_ _ | refine blk_drew ?_ | refine blk_alloc ?_ _)); exact BK307.out) hb)
          have n3_ := Aside0.mk (below_step (by repeat (first | (with_reducible first | exact HB.out | apply below_alloc | apply pw_below_drewN | apply below_drew1 | refine below_set ?_ GE293.out | refine below_set ?_ GE297.out | refine below_set ?_ GE307.out) | exact HB.out)) hb)
          clear BK293
          clear BK297
          clear BK307
          clear HB
          have BK293 := n0_
          have BK297 := n1_
          have BK307 := n2_
          have HB := n3_
          clear n0_ n1_ n2_ n3_
          (try clear hb)
          (try clear hb2)
          (try clear hk)
          (try clear hi)
          refine hK.out _ _ ⟨(blk_cell BK307.out 0).trans rfl, (blk_cell BK307.out 1).trans rfl, (blk_cell BK307.out 2).trans rfl, (blk_cell BK307.out 3).trans rfl, (blk_cell BK307.out 4).trans rfl, (blk_cell BK307.out 5).trans rfl, (blk_cell BK307.out 6).trans rfl, (blk_cell BK307.out 7).trans rfl, (blk_cell BK293.out 0).trans rfl, (blk_cell BK293.out 1).trans rfl, (blk_cell BK293.out 2).trans rfl, (blk_cell BK293.out 3).trans rfl, (blk_cell BK293.out 4).trans rfl, (blk_cell BK293.out 5).trans rfl, (blk_cell BK293.out 6).trans rfl, (blk_cell BK293.out 7).trans rfl⟩ (fun hHeld => ?_)
          clear hK K
          refine norm_ (a' := ?_) ?_ ?_
          rotate_left
          ·show Act.put _ (some 35) _ = _
           simp only [Act.put, z1, z2, z3, z4, z5]
           rfl
          refine one_ (i := 3) (N := some 37) q4 rfl rfl (one_of HT_.out (by kernel_rfl)) (by decide) (fun K hK => ?_)
          refine goes_ Try.func47 (by kernel_rfl) rfl #[.agg #[.int .i64 x294000_2, .int .i64 x294001_2, .int .i64 x294002_2, .int .i64 x294003_2, .int .i64 x294004_2, .int .i64 x294005_2, .int .i64 x294006_2, .int .i64 x294007_2]] (by rfl) rfl rfl (by (try simp only [List.map_toArray, List.map_cons, List.map_nil]); first | done | rfl | (simp only [List.length_drop, List.length_take]; rfl)) ?_
          with_reducible refine (item_Rank.calls k2 x294000_2 x294001_2 x294002_2 x294003_2 x294004_2 x294005_2 x294006_2 x294007_2 t309 _ A30.out).mono ?_
          rintro e w55 ⟨rfl, hb⟩
          refine ⟨_, rfl, ?_⟩
          have n0_ := Aside0.mk (blk_below (g := gb293) (o := .cells #[.int .i64 x294000_2, .int .i64 x294001_2, .int .i64 x294002_2, .int .i64 x294003_2, .int .i64 x294004_2, .int .i64 x294005_2, .int .i64 x294006_2, .int .i64 x294007_2] 53 (0, 0)) (by (with_reducible repeat (first | refine blk_drewN ?_ _ | refine blk_drew ?_ | refine blk_alloc ?_ _)); exact BK293.out) hb)
          have n1_ := Aside0.mk (blk_below (g := gb297) (o := .cells #[.int .i64 ((rd_T93 l1 x21_2).f0), .int .i64 ((rd_T93 l1 x21_2).f1)] 93 (0, 0)) (by (with_reducible repeat (first | refine blk_drewN ?_ _ | refine blk_drew ?_ | refine blk_alloc ?_ _)); exact BK297.out) hb)
          have n2_ := Aside0.mk (blk_below (g := gb307) (o := .cells #[.int .i64 t298, .int .i64 t299, .int .i64 t300, .int .i64 t301, .int .i64 t302, .int .i64 t303, .int .i64 t304, .int .i64 t305] 53 (0, 0)) (by (with_reducible repeat (first | refine blk_drewN ?_ _ | refine blk_drew ?_ | refine blk_alloc ?_ _)); exact BK307.out) hb)
          have n3_ := Aside0.mk (below_step (by repeat (first | (with_reducible first | exact HB.out | apply below_alloc | apply pw_below_drewN | apply below_drew1 | refine below_set ?_ GE293.out | refine below_set ?_ GE297.out | refine below_set ?_ GE307.out) | exact HB.out)) hb)
          clear BK293
          clear BK297
          clear BK307
          clear HB
          have BK293 := n0_
          have BK297 := n1_
          have BK307 := n2_
          have HB := n3_
          clear n0_ n1_ n2_ n3_
          (try clear hb)
          (try clear hb2)
          (try clear hk)
          (try clear hi)
          refine hK.out _ _ ⟨(blk_cell BK307.out 0).trans rfl, (blk_cell BK307.out 1).trans rfl, (blk_cell BK307.out 2).trans rfl, (blk_cell BK307.out 3).trans rfl, (blk_cell BK307.out 4).trans rfl, (blk_cell BK307.out 5).trans rfl, (blk_cell BK307.out 6).trans rfl, (blk_cell BK307.out 7).trans rfl, (blk_cell BK293.out 0).trans rfl, (blk_cell BK293.out 1).trans rfl, (blk_cell BK293.out 2).trans rfl, (blk_cell BK293.out 3).trans rfl, (blk_cell BK293.out 4).trans rfl, (blk_cell BK293.out 5).trans rfl, (blk_cell BK293.out 6).trans rfl, (blk_cell BK293.out 7).trans rfl⟩ (fun hHeld => ?_)
          clear hK K
          refine norm_ (a' := ?_) ?_ ?_
          rotate_left
          ·show Act.put _ (some 37) _ = _
           simp only [Act.put, z1, z2, z3, z4, z5]
           rfl
          refine pure_ (i := 4) (N := some 38) (v := ?_) (a' := ?_) q5 rfl rfl (any_of HT_.out (by kernel_rfl)) (fun _ _ _ h => h) (Or.inl ⟨by rfl, ?_⟩) ?_ ?_
          rotate_left; ·intro w'; go_simp; with_reducible rfl
          rotate_left; ·simp only [Act.put, z1, z2, z3, z4, z5]; rfl
          refine pure_ (i := 5) (N := some 39) (v := ?_) (a' := ?_) q6 rfl rfl (any_of HT_.out (by kernel_rfl)) (fun _ _ _ h => h) (Or.inl ⟨by rfl, ?_⟩) ?_ ?_
          rotate_left; ·intro w'; go_simp; with_reducible rfl
          rotate_left; ·simp only [Act.put, z1, z2, z3, z4, z5]; rfl
          refine pure_ (i := 6) (N := some 40) (v := ?_) (a' := ?_) q7 rfl rfl (any_of HT_.out (by kernel_rfl)) (fun _ _ _ h => h) (Or.inl ⟨by rfl, ?_⟩) ?_ ?_
          rotate_left; ·intro w'; go_simp; with_reducible rfl
          rotate_left; ·simp only [Act.put, z1, z2, z3, z4, z5]; rfl
          refine pure_ (i := 8) (N := some 42) (v := ?_) (a' := ?_) q8 rfl rfl (any_of HT_.out (by kernel_rfl)) (fun _ _ _ h => h) (Or.inl ⟨by rfl, ?_⟩) ?_ ?_
          rotate_left; ·intro w'; go_simp; with_reducible rfl
          rotate_left; ·simp only [Act.put, z1, z2, z3, z4, z5]; rfl
          refine take_ (i := 7) (N := some 41) (v := ?_) (a' := ?_) q9 rfl rfl (take_ofW HT_.out HW_.out (by kernel_rfl)) (fun _ _ _ h => h) (Or.inl ⟨by rfl, ?_⟩) hHeld ?_ ?_
          rotate_left; ·rintro w' ⟨s0, s1, s2, s3, s4, s5, s6, s7, s8, s9, s10, s11, s12, s13, s14, s15⟩; go_simp; with_reducible rfl
          rotate_left; ·simp only [Act.put, z1, z2, z3, z4, z5]; rfl
          refine take_ (i := 9) (N := some 43) (v := ?_) (a' := ?_) q10 rfl rfl (take_ofW HT_.out HW_.out (by kernel_rfl)) (fun _ _ _ h => h) (Or.inl ⟨by rfl, ?_⟩) hHeld ?_ ?_
          rotate_left; ·rintro w' ⟨s0, s1, s2, s3, s4, s5, s6, s7, s8, s9, s10, s11, s12, s13, s14, s15⟩; go_simp; with_reducible rfl
          rotate_left; ·simp only [Act.put, z1, z2, z3, z4, z5]; rfl
          refine pure_ (i := 10) (N := some 44) (v := ?_) (a' := ?_) q11 rfl rfl (any_of HT_.out (by kernel_rfl)) (fun _ _ _ h => h) (Or.inl ⟨by rfl, ?_⟩) ?_ ?_
          rotate_left; ·intro w'; go_simp; with_reducible rfl
          rotate_left; ·simp only [Act.put, z1, z2, z3, z4, z5]; rfl
          refine pure_ (i := 11) (N := some 45) (v := ?_) (a' := ?_) q12 rfl rfl (any_of HT_.out (by kernel_rfl)) (fun _ _ _ h => h) (Or.inl ⟨by rfl, ?_⟩) ?_ ?_
          rotate_left; ·intro w'; go_simp; with_reducible rfl
          rotate_left; ·simp only [Act.put, z1, z2, z3, z4, z5]; rfl
          refine pure_ (i := 12) (N := some 46) (v := ?_) (a' := ?_) q13 rfl rfl (any_of HT_.out (by kernel_rfl)) (fun _ _ _ h => h) (Or.inl ⟨by rfl, ?_⟩) ?_ ?_
          rotate_left; ·intro w'; go_simp; with_reducible rfl
          rotate_left; ·simp only [Act.put, z1, z2, z3, z4, z5]; rfl
          refine pure_ (i := 13) (N := some 47) (v := ?_) (a' := ?_) q14 rfl rfl (any_of HT_.out (by kernel_rfl)) (fun _ _ _ h => h) (Or.inl ⟨by rfl, ?_⟩) ?_ ?_
          rotate_left; ·intro w'; go_simp; with_reducible rfl
          rotate_left; ·simp only [Act.put, z1, z2, z3, z4, z5]; rfl
          refine pure_ (i := 15) (N := some 49) (v := ?_) (a' := ?_) q15 rfl rfl (any_of HT_.out (by kernel_rfl)) (fun _ _ _ h => h) (Or.inl ⟨by rfl, ?_⟩) ?_ ?_
          rotate_left; ·intro w'; go_simp; with_reducible rfl
          rotate_left; ·simp only [Act.put, z1, z2, z3, z4, z5]; rfl
          refine take_ (i := 14) (N := some 48) (v := ?_) (a' := ?_) q16 rfl rfl (take_ofW HT_.out HW_.out (by kernel_rfl)) (fun _ _ _ h => h) (Or.inl ⟨by rfl, ?_⟩) hHeld ?_ ?_
          rotate_left; ·rintro w' ⟨s0, s1, s2, s3, s4, s5, s6, s7, s8, s9, s10, s11, s12, s13, s14, s15⟩; go_simp; with_reducible rfl
          rotate_left; ·simp only [Act.put, z1, z2, z3, z4, z5]; rfl
          refine take_ (i := 16) (N := some 50) (v := ?_) (a' := ?_) q17 rfl rfl (take_ofW HT_.out HW_.out (by kernel_rfl)) (fun _ _ _ h => h) (Or.inl ⟨by rfl, ?_⟩) hHeld ?_ ?_
          rotate_left; ·rintro w' ⟨s0, s1, s2, s3, s4, s5, s6, s7, s8, s9, s10, s11, s12, s13, s14, s15⟩; go_simp; with_reducible rfl
          rotate_left; ·simp only [Act.put, z1, z2, z3, z4, z5]; rfl
          refine pure_ (i := 17) (N := some 51) (v := ?_) (a' := ?_) q18 rfl rfl (any_of HT_.out (by kernel_rfl)) (fun _ _ _ h => h) (Or.inl ⟨by rfl, ?_⟩) ?_ ?_
          rotate_left; ·intro w'; go_simp; with_reducible rfl
          rotate_left; ·simp only [Act.put, z1, z2, z3, z4, z5]; rfl
          refine pure_ (i := 18) (N := some 52) (v := ?_) (a' := ?_) q19 rfl rfl (any_of HT_.out (by kernel_rfl)) (fun _ _ _ h => h) (Or.inl ⟨by rfl, ?_⟩) ?_ ?_
          rotate_left; ·intro w'; go_simp; with_reducible rfl
          rotate_left; ·simp only [Act.put, z1, z2, z3, z4, z5]; rfl
          refine pure_ (i := 19) (N := some 53) (v := ?_) (a' := ?_) q20 rfl rfl (any_of HT_.out (by kernel_rfl)) (fun _ _ _ h => h) (Or.inl ⟨by rfl, ?_⟩) ?_ ?_
          rotate_left; ·intro w'; go_simp; with_reducible rfl
          rotate_left; ·simp only [Act.put, z1, z2, z3, z4, z5]; rfl
          refine pure_ (i := 20) (N := some 54) (v := ?_) (a' := ?_) q21 rfl rfl (any_of HT_.out (by kernel_rfl)) (fun _ _ _ h => h) (Or.inl ⟨by rfl, ?_⟩) ?_ ?_
          rotate_left; ·intro w'; go_simp; with_reducible rfl
          rotate_left; ·simp only [Act.put, z1, z2, z3, z4, z5]; rfl
          refine pure_ (i := 22) (N := some 56) (v := ?_) (a' := ?_) q22 rfl rfl (any_of HT_.out (by kernel_rfl)) (fun _ _ _ h => h) (Or.inl ⟨by rfl, ?_⟩) ?_ ?_
          rotate_left; ·intro w'; go_simp; with_reducible rfl
          rotate_left; ·simp only [Act.put, z1, z2, z3, z4, z5]; rfl
          refine take_ (i := 21) (N := some 55) (v := ?_) (a' := ?_) q23 rfl rfl (take_ofW HT_.out HW_.out (by kernel_rfl)) (fun _ _ _ h => h) (Or.inl ⟨by rfl, ?_⟩) hHeld ?_ ?_
          rotate_left; ·rintro w' ⟨s0, s1, s2, s3, s4, s5, s6, s7, s8, s9, s10, s11, s12, s13, s14, s15⟩; go_simp; with_reducible rfl
          rotate_left; ·simp only [Act.put, z1, z2, z3, z4, z5]; rfl
          refine take_ (i := 23) (N := some 57) (v := ?_) (a' := ?_) q24 rfl rfl (take_ofW HT_.out HW_.out (by kernel_rfl)) (fun _ _ _ h => h) (Or.inl ⟨by rfl, ?_⟩) hHeld ?_ ?_
          rotate_left; ·rintro w' ⟨s0, s1, s2, s3, s4, s5, s6, s7, s8, s9, s10, s11, s12, s13, s14, s15⟩; go_simp; with_reducible rfl
          rotate_left; ·simp only [Act.put, z1, z2, z3, z4, z5]; rfl
          refine pure_ (i := 24) (N := some 58) (v := ?_) (a' := ?_) q25 rfl rfl (any_of HT_.out (by kernel_rfl)) (fun _ _ _ h => h) (Or.inl ⟨by rfl, ?_⟩) ?_ ?_
          rotate_left; ·intro w'; go_simp; with_reducible rfl
          rotate_left; ·simp only [Act.put, z1, z2, z3, z4, z5]; rfl
          refine pure_ (i := 25) (N := some 59) (v := ?_) (a' := ?_) q26 rfl rfl (any_of HT_.out (by kernel_rfl)) (fun _ _ _ h => h) (Or.inl ⟨by rfl, ?_⟩) ?_ ?_
          rotate_left; ·intro w'; go_simp; with_reducible rfl
          rotate_left; ·simp only [Act.put, z1, z2, z3, z4, z5]; rfl
          refine pure_ (i := 26) (N := some 60) (v := ?_) (a' := ?_) q27 rfl rfl (any_of HT_.out (by kernel_rfl)) (fun _ _ _ h => h) (Or.inl ⟨by rfl, ?_⟩) ?_ ?_
          rotate_left; ·intro w'; go_simp; with_reducible rfl
          rotate_left; ·simp only [Act.put, z1, z2, z3, z4, z5]; rfl
          refine pure_ (i := 27) (N := some 61) (v := ?_) (a' := ?_) q28 rfl rfl (any_of HT_.out (by kernel_rfl)) (fun _ _ _ h => h) (Or.inl ⟨by rfl, ?_⟩) ?_ ?_
          rotate_left; ·intro w'; go_simp; with_reducible rfl
          rotate_left; ·simp only [Act.put, z1, z2, z3, z4, z5]; rfl
          refine take_ (i := 28) (N := some 62) (v := ?_) (a' := ?_) q29 rfl rfl (take_ofW HT_.out HW_.out (by kernel_rfl)) (fun _ _ _ h => h) (Or.inl ⟨by rfl, ?_⟩) hHeld ?_ ?_
          rotate_left; ·rintro w' ⟨s0, s1, s2, s3, s4, s5, s6, s7, s8, s9, s10, s11, s12, s13, s14, s15⟩; go_simp; with_reducible rfl
          rotate_left; ·simp only [Act.put, z1, z2, z3, z4, z5]; rfl
          refine pure_ (i := 29) (N := some 63) (v := ?_) (a' := ?_) q30 rfl rfl (any_of HT_.out (by kernel_rfl)) (fun _ _ _ h => h) (Or.inl ⟨by rfl, ?_⟩) ?_ ?_
          rotate_left; ·intro w'; go_simp; with_reducible rfl
          rotate_left; ·simp only [Act.put, z1, z2, z3, z4, z5]; rfl
          refine pure_ (i := 30) (N := some 64) (v := ?_) (a' := ?_) q31 rfl rfl (any_of HT_.out (by kernel_rfl)) (fun _ _ _ h => h) (Or.inl ⟨by rfl, ?_⟩) ?_ ?_
          rotate_left; ·intro w'; go_simp; with_reducible rfl
          rotate_left; ·simp only [Act.put, z1, z2, z3, z4, z5]; rfl
          refine pure_ (i := 31) (N := some 65) (v := ?_) (a' := ?_) q32 rfl rfl (any_of HT_.out (by kernel_rfl)) (fun _ _ _ h => h) (Or.inl ⟨by rfl, ?_⟩) ?_ ?_
          rotate_left; ·intro w'; go_simp; with_reducible rfl
          rotate_left; ·simp only [Act.put, z1, z2, z3, z4, z5]; rfl
          refine pure_ (i := 33) (N := some 67) (v := ?_) (a' := ?_) q33 rfl rfl (any_of HT_.out (by kernel_rfl)) (fun _ _ _ h => h) (Or.inl ⟨by rfl, ?_⟩) ?_ ?_
          rotate_left; ·intro w'; go_simp; with_reducible rfl
          rotate_left; ·simp only [Act.put, z1, z2, z3, z4, z5]; rfl
          refine take_ (i := 32) (N := some 66) (v := ?_) (a' := ?_) q34 rfl rfl (take_ofW HT_.out HW_.out (by kernel_rfl)) (fun _ _ _ h => h) (Or.inl ⟨by rfl, ?_⟩) hHeld ?_ ?_
          rotate_left; ·rintro w' ⟨s0, s1, s2, s3, s4, s5, s6, s7, s8, s9, s10, s11, s12, s13, s14, s15⟩; go_simp; with_reducible rfl
          rotate_left; ·simp only [Act.put, z1, z2, z3, z4, z5]; rfl
          refine take_ (i := 34) (N := some 68) (v := ?_) (a' := ?_) q35 rfl rfl (take_ofW HT_.out HW_.out (by kernel_rfl)) (fun _ _ _ h => h) (Or.inl ⟨by rfl, ?_⟩) hHeld ?_ ?_
          rotate_left; ·rintro w' ⟨s0, s1, s2, s3, s4, s5, s6, s7, s8, s9, s10, s11, s12, s13, s14, s15⟩; go_simp; with_reducible rfl
          rotate_left; ·simp only [Act.put, z1, z2, z3, z4, z5]; rfl
          refine pure_ (i := 35) (N := some 69) (v := ?_) (a' := ?_) q36 rfl rfl (any_of HT_.out (by kernel_rfl)) (fun _ _ _ h => h) (Or.inl ⟨by rfl, ?_⟩) ?_ ?_
          rotate_left; ·intro w'; go_simp; with_reducible rfl
          rotate_left; ·simp only [Act.put, z1, z2, z3, z4, z5]; rfl
          refine pure_ (i := 36) (N := some 70) (v := ?_) (a' := ?_) q37 rfl rfl (any_of HT_.out (by kernel_rfl)) (fun _ _ _ h => h) (Or.inl ⟨by rfl, ?_⟩) ?_ ?_
          rotate_left; ·intro w'; go_simp; with_reducible rfl
          rotate_left; ·simp only [Act.put, z1, z2, z3, z4, z5]; rfl
          refine pure_ (i := 37) (N := some 71) (v := ?_) (a' := ?_) q38 rfl rfl (any_of HT_.out (by kernel_rfl)) (fun _ _ _ h => h) (Or.inl ⟨by rfl, ?_⟩) ?_ ?_
          rotate_left; ·intro w'; go_simp; with_reducible rfl
          rotate_left; ·simp only [Act.put, z1, z2, z3, z4, z5]; rfl
          refine pure_ (i := 38) (N := some 72) (v := ?_) (a' := ?_) q39 rfl rfl (any_of HT_.out (by kernel_rfl)) (fun _ _ _ h => h) (Or.inl ⟨by rfl, ?_⟩) ?_ ?_
          rotate_left; ·intro w'; go_simp; with_reducible rfl
          rotate_left; ·simp only [Act.put, z1, z2, z3, z4, z5]; rfl
          refine take_ (i := 39) (N := some 73) (v := ?_) (a' := ?_) q40 rfl rfl (take_ofW HT_.out HW_.out (by kernel_rfl)) (fun _ _ _ h => h) (Or.inl ⟨by rfl, ?_⟩) hHeld ?_ ?_
          rotate_left; ·rintro w' ⟨s0, s1, s2, s3, s4, s5, s6, s7, s8, s9, s10, s11, s12, s13, s14, s15⟩; go_simp; with_reducible rfl
          rotate_left; ·simp only [Act.put, z1, z2, z3, z4, z5]; rfl
          refine one_ (i := 40) (N := some 74) q41 rfl rfl (one_of HT_.out (by kernel_rfl)) (by decide) (fun K hK => ?_)
          refine goes_ Try.func32 (by kernel_rfl) rfl #[.agg #[.int .i64 x294000_2, .int .i64 x294001_2, .int .i64 x294002_2, .int .i64 x294003_2, .int .i64 x294004_2, .int .i64 x294005_2, .int .i64 x294006_2, .int .i64 x294007_2]] (by rfl) rfl rfl (by (try simp only [List.map_toArray, List.map_cons, List.map_nil]); first | done | rfl | (simp only [List.length_drop, List.length_take]; rfl)) ?_
          with_reducible refine (item_Over.calls x294000_2 x294001_2 x294002_2 x294003_2 x294004_2 x294005_2 x294006_2 x294007_2 false _ A37.out).mono ?_
          rintro e w56 ⟨rfl, hb⟩
          refine ⟨_, rfl, ?_⟩
          have n0_ := Aside0.mk (blk_below (g := gb293) (o := .cells #[.int .i64 x294000_2, .int .i64 x294001_2, .int .i64 x294002_2, .int .i64 x294003_2, .int .i64 x294004_2, .int .i64 x294005_2, .int .i64 x294006_2, .int .i64 x294007_2] 53 (0, 0)) (by (with_reducible repeat (first | refine blk_drewN ?_ _ | refine blk_drew ?_ | refine blk_alloc ?_ _)); exact BK293.out) hb)
          have n1_ := Aside0.mk (blk_below (g := gb297) (o := .cells #[.int .i64 ((rd_T93 l1 x21_2).f0), .int .i64 ((rd_T93 l1 x21_2).f1)] 93 (0, 0)) (by (with_reducible repeat (first | refine blk_drewN ?_ _ | refine blk_drew ?_ | refine blk_alloc ?_ _)); exact BK297.out) hb)
          have n2_ := Aside0.mk (blk_below (g := gb307) (o := .cells #[.int .i64 t298, .int .i64 t299, .int .i64 t300, .int .i64 t301, .int .i64 t302, .int .i64 t303, .int .i64 t304, .int .i64 t305] 53 (0, 0)) (by (with_reducible repeat (first | refine blk_drewN ?_ _ | refine blk_drew ?_ | refine blk_alloc ?_ _)); exact BK307.out) hb)
          have n3_ := Aside0.mk (below_step (by repeat (first | (with_reducible first | exact HB.out | apply below_alloc | apply pw_below_drewN | apply below_drew1 | refine below_set ?_ GE293.out | refine below_set ?_ GE297.out | refine below_set ?_ GE307.out) | exact HB.out)) hb)
          clear BK293
          clear BK297
          clear BK307
          clear HB
          have BK293 := n0_
          have BK297 := n1_
          have BK307 := n2_
          have HB := n3_
          clear n0_ n1_ n2_ n3_
          (try clear hb)
          (try clear hb2)
          (try clear hk)
          (try clear hi)
          refine hK.out _ _ ⟨(blk_cell BK307.out 0).trans rfl, (blk_cell BK307.out 1).trans rfl, (blk_cell BK307.out 2).trans rfl, (blk_cell BK307.out 3).trans rfl, (blk_cell BK307.out 4).trans rfl, (blk_cell BK307.out 5).trans rfl, (blk_cell BK307.out 6).trans rfl, (blk_cell BK307.out 7).trans rfl, (blk_cell BK293.out 0).trans rfl, (blk_cell BK293.out 1).trans rfl, (blk_cell BK293.out 2).trans rfl, (blk_cell BK293.out 3).trans rfl, (blk_cell BK293.out 4).trans rfl, (blk_cell BK293.out 5).trans rfl, (blk_cell BK293.out 6).trans rfl, (blk_cell BK293.out 7).trans rfl⟩ (fun hHeld => ?_)
          clear hK K
          refine norm_ (a' := ?_) ?_ ?_
          rotate_left
          ·show Act.put _ (some 74) _ = _
           simp only [Act.put, z1, z2, z3, z4, z5]
           rfl
          refine pure_ (i := 41) (N := some 75) (v := ?_) (a' := ?_) q42 rfl rfl (any_of HT_.out (by kernel_rfl)) (fun _ _ _ h => h) (Or.inl ⟨by rfl, ?_⟩) ?_ ?_
          rotate_left; ·intro w'; go_simp; with_reducible rfl
          rotate_left; ·simp only [Act.put, z1, z2, z3, z4, z5]; rfl
          refine pure_ (i := 42) (N := some 76) (v := undef) (a' := ?_) q43 rfl rfl (any_of HT_.out (by kernel_rfl)) (fun _ _ _ h => h) (Or.inr ⟨by rfl, rfl⟩) ?_ ?_
          rotate_left; ·simp only [Act.put, z1, z2, z3, z4, z5]; rfl
          refine pure_ (i := 43) (N := some 77) (v := undef) (a' := ?_) q44 rfl rfl (any_of HT_.out (by kernel_rfl)) (fun _ _ _ h => h) (Or.inr ⟨by rfl, rfl⟩) ?_ ?_
          rotate_left; ·simp only [Act.put, z1, z2, z3, z4, z5]; rfl
          refine pure_ (i := 44) (N := some 78) (v := undef) (a' := ?_) q45 rfl rfl (any_of HT_.out (by kernel_rfl)) (fun _ _ _ h => h) (Or.inr ⟨by rfl, rfl⟩) ?_ ?_
          rotate_left; ·simp only [Act.put, z1, z2, z3, z4, z5]; rfl
          refine pure_ (i := 45) (N := some 79) (v := ?_) (a' := ?_) q46 rfl rfl (any_of HT_.out (by kernel_rfl)) (fun _ _ _ h => h) (Or.inl ⟨by rfl, ?_⟩) ?_ ?_
          rotate_left; ·intro w'; go_simp; with_reducible rfl
          rotate_left; ·simp only [Act.put, z1, z2, z3, z4, z5]; rfl
          refine pure_ (i := 46) (N := some 80) (v := ?_) (a' := ?_) q47 rfl rfl (any_of HT_.out (by kernel_rfl)) (fun _ _ _ h => h) (Or.inl ⟨by rfl, ?_⟩) ?_ ?_
          rotate_left; ·intro w'; go_simp; with_reducible rfl
          rotate_left; ·simp only [Act.put, z1, z2, z3, z4, z5]; rfl
          refine pure_ (i := 47) (N := some 81) (v := ?_) (a' := ?_) q48 rfl rfl (any_of HT_.out (by kernel_rfl)) (fun _ _ _ h => h) (Or.inl ⟨by rfl, ?_⟩) ?_ ?_
          rotate_left; ·intro w'; go_simp; with_reducible rfl
          rotate_left; ·simp only [Act.put, z1, z2, z3, z4, z5]; rfl
          refine pure_ (i := 48) (N := some 82) (v := ?_) (a' := ?_) q49 rfl rfl (any_of HT_.out (by kernel_rfl)) (fun _ _ _ h => h) (Or.inl ⟨by rfl, ?_⟩) ?_ ?_
          rotate_left; ·intro w'; go_simp; with_reducible rfl
          rotate_left; ·simp only [Act.put, z1, z2, z3, z4, z5]; rfl
          refine pure_ (i := 49) (N := some 83) (v := ?_) (a' := ?_) q50 rfl rfl (any_of HT_.out (by kernel_rfl)) (fun _ _ _ h => h) (Or.inl ⟨by rfl, ?_⟩) ?_ ?_
          rotate_left; ·intro w'; go_simp; with_reducible rfl
          rotate_left; ·simp only [Act.put, z1, z2, z3, z4, z5]; rfl
          refine pure_ (i := 50) (N := some 84) (v := ?_) (a' := ?_) q51 rfl rfl (any_of HT_.out (by kernel_rfl)) (fun _ _ _ h => h) (Or.inl ⟨by rfl, ?_⟩) ?_ ?_
          rotate_left; ·intro w'; go_simp; with_reducible rfl
          rotate_left; ·simp only [Act.put, z1, z2, z3, z4, z5]; rfl
          refine pure_ (i := 51) (N := some 85) (v := undef) (a' := ?_) q52 rfl rfl (any_of HT_.out (by kernel_rfl)) (fun _ _ _ h => h) (Or.inr ⟨by rfl, rfl⟩) ?_ ?_
          rotate_left; ·simp only [Act.put, z1, z2, z3, z4, z5]; rfl
          refine pure_ (i := 52) (N := some 86) (v := undef) (a' := ?_) q53 rfl rfl (any_of HT_.out (by kernel_rfl)) (fun _ _ _ h => h) (Or.inr ⟨by rfl, rfl⟩) ?_ ?_
          rotate_left; ·simp only [Act.put, z1, z2, z3, z4, z5]; rfl
          refine pure_ (i := 53) (N := some 87) (v := undef) (a' := ?_) q54 rfl rfl (any_of HT_.out (by kernel_rfl)) (fun _ _ _ h => h) (Or.inr ⟨by rfl, rfl⟩) ?_ ?_
          rotate_left; ·simp only [Act.put, z1, z2, z3, z4, z5]; rfl
          refine pure_ (i := 54) (N := some 88) (v := ?_) (a' := ?_) q55 rfl rfl (any_of HT_.out (by kernel_rfl)) (fun _ _ _ h => h) (Or.inl ⟨by rfl, ?_⟩) ?_ ?_
          rotate_left; ·intro w'; go_simp; with_reducible rfl
          rotate_left; ·simp only [Act.put, z1, z2, z3, z4, z5]; rfl
          refine pure_ (i := 55) (N := some 89) (v := ?_) (a' := ?_) q56 rfl rfl (any_of HT_.out (by kernel_rfl)) (fun _ _ _ h => h) (Or.inl ⟨by rfl, ?_⟩) ?_ ?_
          rotate_left; ·intro w'; go_simp; with_reducible rfl
          rotate_left; ·simp only [Act.put, z1, z2, z3, z4, z5]; rfl
          refine done_ (done_of HT_.out (by kernel_rfl)) ?_
          try go_wp2
          go_meet
          case rel => exact ⟨_, (false), (by first | rfl | (simp; done) | (simp [*]; done)), H', ⟨by have := HJ4.out; have := HK2.out; first | omega | exact Nat.le_refl _⟩, ⟨by (with_reducible repeat (first | refine blk_drewN ?_ _ | refine blk_drew ?_ | refine blk_alloc ?_ _)); exact BK293.out⟩, ⟨by (with_reducible repeat (first | refine blk_drewN ?_ _ | refine blk_drew ?_ | refine blk_alloc ?_ _)); exact BK297.out⟩, ⟨by (with_reducible repeat (first | refine blk_drewN ?_ _ | refine blk_drew ?_ | refine blk_alloc ?_ _)); exact BK307.out⟩, ⟨by repeat (first | (with_reducible first | exact HB.out | apply below_alloc | apply pw_below_drewN | apply below_drew1 | refine below_set ?_ GE293.out | refine below_set ?_ GE297.out | refine below_set ?_ GE307.out) | exact HB.out)⟩⟩
         rw [if_neg c51] at H
         have c51b0 : (t306 == 0) = false := beq_eq_false_iff_ne.mpr c51
         have c51b1 : (t306 != 0) = true := bne_iff_ne.mpr c51
         clear c51
         have H' := Aside0.mk H
         clear H
         try go_wp2
         have n0_ : Aside0 (((((((((w25.setCell ⟨gb307, 0, none⟩ (.int .i64 t298)).setCell ⟨gb307, 1, none⟩ (.int .i64 t299)).setCell ⟨gb307, 2, none⟩ (.int .i64 t300)).setCell ⟨gb307, 3, none⟩ (.int .i64 t301)).setCell ⟨gb307, 4, none⟩ (.int .i64 t302)).setCell ⟨gb307, 5, none⟩ (.int .i64 t303)).setCell ⟨gb307, 6, none⟩ (.int .i64 t304)).setCell ⟨gb307, 7, none⟩ (.int .i64 t305)).heap[gb293]? = some (.cells #[.int .i64 x294000_2, .int .i64 x294001_2, .int .i64 x294002_2, .int .i64 x294003_2, .int .i64 x294004_2, .int .i64 x294005_2, .int .i64 x294006_2, .int .i64 x294007_2] 53 (0, 0))) := ⟨by (with_reducible repeat (first | refine blk_drewN ?_ _ | refine blk_drew ?_ | refine blk_alloc ?_ _)); refine blk_far ?_ NB293_307.out _; (with_reducible repeat (first | refine blk_drewN ?_ _ | refine blk_drew ?_ | refine blk_alloc ?_ _)); refine blk_far ?_ NB293_307.out _; (with_reducible repeat (first | refine blk_drewN ?_ _ | refine blk_drew ?_ | refine blk_alloc ?_ _)); refine blk_far ?_ NB293_307.out _; (with_reducible repeat (first | refine blk_drewN ?_ _ | refine blk_drew ?_ | refine blk_alloc ?_ _)); refine blk_far ?_ NB293_307.out _; (with_reducible repeat (first | refine blk_drewN ?_ _ | refine blk_drew ?_ | refine blk_alloc ?_ _)); refine blk_far ?_ NB293_307.out _; (with_reducible repeat (first | refine blk_drewN ?_ _ | refine blk_drew ?_ | refine blk_alloc ?_ _)); refine blk_far ?_ NB293_307.out _; (with_reducible repeat (first | refine blk_drewN ?_ _ | refine blk_drew ?_ | refine blk_alloc ?_ _)); refine blk_far ?_ NB293_307.out _; (with_reducible repeat (first | refine blk_drewN ?_ _ | refine blk_drew ?_ | refine blk_alloc ?_ _)); refine blk_far ?_ NB293_307.out _; (with_reducible repeat (first | refine blk_drewN ?_ _ | refine blk_drew ?_ | refine blk_alloc ?_ _)); exact BK293.out⟩
         have n1_ : Aside0 (((((((((w25.setCell ⟨gb307, 0, none⟩ (.int .i64 t298)).setCell ⟨gb307, 1, none⟩ (.int .i64 t299)).setCell ⟨gb307, 2, none⟩ (.int .i64 t300)).setCell ⟨gb307, 3, none⟩ (.int .i64 t301)).setCell ⟨gb307, 4, none⟩ (.int .i64 t302)).setCell ⟨gb307, 5, none⟩ (.int .i64 t303)).setCell ⟨gb307, 6, none⟩ (.int .i64 t304)).setCell ⟨gb307, 7, none⟩ (.int .i64 t305)).heap[gb297]? = some (.cells #[.int .i64 ((rd_T93 l1 x21_2).f0), .int .i64 ((rd_T93 l1 x21_2).f1)] 93 (0, 0))) := ⟨by (with_reducible repeat (first | refine blk_drewN ?_ _ | refine blk_drew ?_ | refine blk_alloc ?_ _)); refine blk_far ?_ NB297_307.out _; (with_reducible repeat (first | refine blk_drewN ?_ _ | refine blk_drew ?_ | refine blk_alloc ?_ _)); refine blk_far ?_ NB297_307.out _; (with_reducible repeat (first | refine blk_drewN ?_ _ | refine blk_drew ?_ | refine blk_alloc ?_ _)); refine blk_far ?_ NB297_307.out _; (with_reducible repeat (first | refine blk_drewN ?_ _ | refine blk_drew ?_ | refine blk_alloc ?_ _)); refine blk_far ?_ NB297_307.out _; (with_reducible repeat (first | refine blk_drewN ?_ _ | refine blk_drew ?_ | refine blk_alloc ?_ _)); refine blk_far ?_ NB297_307.out _; (with_reducible repeat (first | refine blk_drewN ?_ _ | refine blk_drew ?_ | refine blk_alloc ?_ _)); refine blk_far ?_ NB297_307.out _; (with_reducible repeat (first | refine blk_drewN ?_ _ | refine blk_drew ?_ | refine blk_alloc ?_ _)); refine blk_far ?_ NB297_307.out _; (with_reducible repeat (first | refine blk_drewN ?_ _ | refine blk_drew ?_ | refine blk_alloc ?_ _)); refine blk_far ?_ NB297_307.out _; (with_reducible repeat (first | refine blk_drewN ?_ _ | refine blk_drew ?_ | refine blk_alloc ?_ _)); exact BK297.out⟩
         have n2_ : Aside0 (((((((((w25.setCell ⟨gb307, 0, none⟩ (.int .i64 t298)).setCell ⟨gb307, 1, none⟩ (.int .i64 t299)).setCell ⟨gb307, 2, none⟩ (.int .i64 t300)).setCell ⟨gb307, 3, none⟩ (.int .i64 t301)).setCell ⟨gb307, 4, none⟩ (.int .i64 t302)).setCell ⟨gb307, 5, none⟩ (.int .i64 t303)).setCell ⟨gb307, 6, none⟩ (.int .i64 t304)).setCell ⟨gb307, 7, none⟩ (.int .i64 t305)).heap[gb307]? = some (.cells #[.int .i64 t298, .int .i64 t299, .int .i64 t300, .int .i64 t301, .int .i64 t302, .int .i64 t303, .int .i64 t304, .int .i64 t305] 53 (0, 0))) := ⟨by (with_reducible repeat (first | refine blk_drewN ?_ _ | refine blk_drew ?_ | refine blk_alloc ?_ _)); refine blk_put (cs := #[.int .i64 t298, .int .i64 t299, .int .i64 t300, .int .i64 t301, .int .i64 t302, .int .i64 t303, .int .i64 t304, .int .i64 0]) ?_ 7 _ rfl; (with_reducible repeat (first | refine blk_drewN ?_ _ | refine blk_drew ?_ | refine blk_alloc ?_ _)); refine blk_put (cs := #[.int .i64 t298, .int .i64 t299, .int .i64 t300, .int .i64 t301, .int .i64 t302, .int .i64 t303, .int .i64 0, .int .i64 0]) ?_ 6 _ rfl; (with_reducible repeat (first | refine blk_drewN ?_ _ | refine blk_drew ?_ | refine blk_alloc ?_ _)); refine blk_put (cs := #[.int .i64 t298, .int .i64 t299, .int .i64 t300, .int .i64 t301, .int .i64 t302, .int .i64 0, .int .i64 0, .int .i64 0]) ?_ 5 _ rfl; (with_reducible repeat (first | refine blk_drewN ?_ _ | refine blk_drew ?_ | refine blk_alloc ?_ _)); refine blk_put (cs := #[.int .i64 t298, .int .i64 t299, .int .i64 t300, .int .i64 t301, .int .i64 0, .int .i64 0, .int .i64 0, .int .i64 0]) ?_ 4 _ rfl; (with_reducible repeat (first | refine blk_drewN ?_ _ | refine blk_drew ?_ | refine blk_alloc ?_ _)); refine blk_put (cs := #[.int .i64 t298, .int .i64 t299, .int .i64 t300, .int .i64 0, .int .i64 0, .int .i64 0, .int .i64 0, .int .i64 0]) ?_ 3 _ rfl; (with_reducible repeat (first | refine blk_drewN ?_ _ | refine blk_drew ?_ | refine blk_alloc ?_ _)); refine blk_put (cs := #[.int .i64 t298, .int .i64 t299, .int .i64 0, .int .i64 0, .int .i64 0, .int .i64 0, .int .i64 0, .int .i64 0]) ?_ 2 _ rfl; (with_reducible repeat (first | refine blk_drewN ?_ _ | refine blk_drew ?_ | refine blk_alloc ?_ _)); refine blk_put (cs := #[.int .i64 t298, .int .i64 0, .int .i64 0, .int .i64 0, .int .i64 0, .int .i64 0, .int .i64 0, .int .i64 0]) ?_ 1 _ rfl; (with_reducible repeat (first | refine blk_drewN ?_ _ | refine blk_drew ?_ | refine blk_alloc ?_ _)); refine blk_put (cs := #[.int .i64 0, .int .i64 0, .int .i64 0, .int .i64 0, .int .i64 0, .int .i64 0, .int .i64 0, .int .i64 0]) ?_ 0 _ rfl; (with_reducible repeat (first | refine blk_drewN ?_ _ | refine blk_drew ?_ | refine blk_alloc ?_ _)); exact BK307.out⟩
         have n3_ : Aside0 (Below w.heap.size w ((((((((w25.setCell ⟨gb307, 0, none⟩ (.int .i64 t298)).setCell ⟨gb307, 1, none⟩ (.int .i64 t299)).setCell ⟨gb307, 2, none⟩ (.int .i64 t300)).setCell ⟨gb307, 3, none⟩ (.int .i64 t301)).setCell ⟨gb307, 4, none⟩ (.int .i64 t302)).setCell ⟨gb307, 5, none⟩ (.int .i64 t303)).setCell ⟨gb307, 6, none⟩ (.int .i64 t304)).setCell ⟨gb307, 7, none⟩ (.int .i64 t305))) := ⟨by repeat (first | (with_reducible first | exact HB.out | apply below_alloc | apply pw_below_drewN | apply below_drew1 | refine below_set ?_ GE293.out | refine below_set ?_ GE297.out | refine below_set ?_ GE307.out) | exact HB.out)⟩
         (try clear BK293)
         (try clear BK297)
         (try clear BK307)
         (try clear HB)
         generalize ((((((((w25.setCell ⟨gb307, 0, none⟩ (.int .i64 t298)).setCell ⟨gb307, 1, none⟩ (.int .i64 t299)).setCell ⟨gb307, 2, none⟩ (.int .i64 t300)).setCell ⟨gb307, 3, none⟩ (.int .i64 t301)).setCell ⟨gb307, 4, none⟩ (.int .i64 t302)).setCell ⟨gb307, 5, none⟩ (.int .i64 t303)).setCell ⟨gb307, 6, none⟩ (.int .i64 t304)).setCell ⟨gb307, 7, none⟩ (.int .i64 t305)) = w57 at n0_ n1_ n2_ n3_ ⊢
         have BK293 := n0_
         have BK297 := n1_
         have BK307 := n2_
         have HB := n3_
         clear n0_ n1_ n2_ n3_
         have n0_ := Aside0.mk (blk_drew BK293.out)
         have n1_ := Aside0.mk (blk_drew BK297.out)
         have n2_ := Aside0.mk (blk_drew BK307.out)
         have n3_ := Aside0.mk (below_drew1 HB.out)
         clear BK293
         clear BK297
         clear BK307
         clear HB
         have BK293 := n0_
         have BK297 := n1_
         have BK307 := n2_
         have HB := n3_
         clear n0_ n1_ n2_ n3_
         refine start_ (n := 56) (S := fun w' => w'.cell? ⟨gb307, 0, none⟩ = some (.int .i64 t298) ∧ w'.cell? ⟨gb307, 1, none⟩ = some (.int .i64 t299) ∧ w'.cell? ⟨gb307, 2, none⟩ = some (.int .i64 t300) ∧ w'.cell? ⟨gb307, 3, none⟩ = some (.int .i64 t301) ∧ w'.cell? ⟨gb307, 4, none⟩ = some (.int .i64 t302) ∧ w'.cell? ⟨gb307, 5, none⟩ = some (.int .i64 t303) ∧ w'.cell? ⟨gb307, 6, none⟩ = some (.int .i64 t304) ∧ w'.cell? ⟨gb307, 7, none⟩ = some (.int .i64 t305) ∧ w'.cell? ⟨gb293, 0, none⟩ = some (.int .i64 x294000_2) ∧ w'.cell? ⟨gb293, 1, none⟩ = some (.int .i64 x294001_2) ∧ w'.cell? ⟨gb293, 2, none⟩ = some (.int .i64 x294002_2) ∧ w'.cell? ⟨gb293, 3, none⟩ = some (.int .i64 x294003_2) ∧ w'.cell? ⟨gb293, 4, none⟩ = some (.int .i64 x294004_2) ∧ w'.cell? ⟨gb293, 5, none⟩ = some (.int .i64 x294005_2) ∧ w'.cell? ⟨gb293, 6, none⟩ = some (.int .i64 x294006_2) ∧ w'.cell? ⟨gb293, 7, none⟩ = some (.int .i64 x294007_2)) (ds := []) q0 (by kernel_rfl) rfl rfl ⟨(blk_cell BK307.out 0).trans rfl, (blk_cell BK307.out 1).trans rfl, (blk_cell BK307.out 2).trans rfl, (blk_cell BK307.out 3).trans rfl, (blk_cell BK307.out 4).trans rfl, (blk_cell BK307.out 5).trans rfl, (blk_cell BK307.out 6).trans rfl, (blk_cell BK307.out 7).trans rfl, (blk_cell BK293.out 0).trans rfl, (blk_cell BK293.out 1).trans rfl, (blk_cell BK293.out 2).trans rfl, (blk_cell BK293.out 3).trans rfl, (blk_cell BK293.out 4).trans rfl, (blk_cell BK293.out 5).trans rfl, (blk_cell BK293.out 6).trans rfl, (blk_cell BK293.out 7).trans rfl⟩ (fun hHeld => ?_); refine with_tabW contralaw09_ItemForward.tab9 contralaw09_ItemForward.bits9 (fun HT_ HW_ => ?_)
         generalize w57.drew = w58 at BK293 BK297 BK307 HB hHeld ⊢
         refine take_ (i := 0) (N := some 34) (v := ?_) (a' := ?_) q1 rfl rfl (take_ofW HT_.out HW_.out (by kernel_rfl)) (fun _ _ _ h => h) (Or.inl ⟨by rfl, ?_⟩) hHeld ?_ ?_
         rotate_left; ·rintro w' ⟨s0, s1, s2, s3, s4, s5, s6, s7, s8, s9, s10, s11, s12, s13, s14, s15⟩; go_simp; with_reducible rfl
         rotate_left; ·simp only [Act.put, z1, z2, z3, z4, z5]; rfl
         refine take_ (i := 2) (N := some 36) (v := ?_) (a' := ?_) q2 rfl rfl (take_ofW HT_.out HW_.out (by kernel_rfl)) (fun _ _ _ h => h) (Or.inl ⟨by rfl, ?_⟩) hHeld ?_ ?_
         rotate_left; ·rintro w' ⟨s0, s1, s2, s3, s4, s5, s6, s7, s8, s9, s10, s11, s12, s13, s14, s15⟩; go_simp; with_reducible rfl
         rotate_left; ·simp only [Act.put, z1, z2, z3, z4, z5]; rfl
         refine one_ (i := 1) (N := some 35) q3 rfl rfl (one_of HT_.out (by kernel_rfl)) (by decide) (fun K hK => ?_)
         refine goes_ Try.func47 (by kernel_rfl) rfl #[.agg #[.int .i64 t298, .int .i64 t299, .int .i64 t300, .int .i64 t301, .int .i64 t302, .int .i64 t303, .int .i64 t304, .int .i64 t305]] (by rfl) rfl rfl (by (try simp only [List.map_toArray, List.map_cons, List.map_nil]); first | done | rfl | (simp only [List.length_drop, List.length_take]; rfl)) ?_
         with_reducible refine (item_Rank.calls k2 t298 t299 t300 t301 t302 t303 t304 t305 t308 _ A29.out).mono ?_
         rintro e w59 ⟨rfl, hb⟩
         refine ⟨_, rfl, ?_⟩
         have n0_ := Aside0.mk (blk_below (g := gb293) (o := .cells #[.int .i64 x294000_2, .int .i64 x294001_2, .int .i64 x294002_2, .int .i64 x294003_2, .int .i64 x294004_2, .int .i64 x294005_2, .int .i64 x294006_2, .int .i64 x294007_2] 53 (0, 0)) (by (with_reducible repeat (first | refine blk_drewN ?_ _ | refine blk_drew ?_ | refine blk_alloc ?_ _)); exact BK293.out) hb)
         have n1_ := Aside0.mk (blk_below (g := gb297) (o := .cells #[.int .i64 ((rd_T93 l1 x21_2).f0), .int .i64 ((rd_T93 l1 x21_2).f1)] 93 (0, 0)) (by (with_reducible repeat (first | refine blk_drewN ?_ _ | refine blk_drew ?_ | refine blk_alloc ?_ _)); exact BK297.out) hb)
         have n2_ := Aside0.mk (blk_below (g := gb307) (o := .cells #[.int .i64 t298, .int .i64 t299, .int .i64 t300, .int .i64 t301, .int .i64 t302, .int .i64 t303, .int .i64 t304, .int .i64 t305] 53 (0, 0)) (by (with_reducible repeat (first | refine blk_drewN ?_ _ | refine blk_drew ?_ | refine blk_alloc ?_ _)); exact BK307.out) hb)
         have n3_ := Aside0.mk (below_step (by repeat (first | (with_reducible first | exact HB.out | apply below_alloc | apply pw_below_drewN | apply below_drew1 | refine below_set ?_ GE293.out | refine below_set ?_ GE297.out | refine below_set ?_ GE307.out) | exact HB.out)) hb)
         clear BK293
         clear BK297
         clear BK307
         clear HB
         have BK293 := n0_
         have BK297 := n1_
         have BK307 := n2_
         have HB := n3_
         clear n0_ n1_ n2_ n3_
         (try clear hb)
         (try clear hb2)
         (try clear hk)
         (try clear hi)
         refine hK.out _ _ ⟨(blk_cell BK307.out 0).trans rfl, (blk_cell BK307.out 1).trans rfl, (blk_cell BK307.out 2).trans rfl, (blk_cell BK307.out 3).trans rfl, (blk_cell BK307.out 4).trans rfl, (blk_cell BK307.out 5).trans rfl, (blk_cell BK307.out 6).trans rfl, (blk_cell BK307.out 7).trans rfl, (blk_cell BK293.out 0).trans rfl, (blk_cell BK293.out 1).trans rfl, (blk_cell BK293.out 2).trans rfl, (blk_cell BK293.out 3).trans rfl, (blk_cell BK293.out 4).trans rfl, (blk_cell BK293.out 5).trans rfl, (blk_cell BK293.out 6).trans rfl, (blk_cell BK293.out 7).trans rfl⟩ (fun hHeld => ?_)
         clear hK K
         refine norm_ (a' := ?_) ?_ ?_
         rotate_left
         ·show Act.put _ (some 35) _ = _
          simp only [Act.put, z1, z2, z3, z4, z5]
          rfl
         refine one_ (i := 3) (N := some 37) q4 rfl rfl (one_of HT_.out (by kernel_rfl)) (by decide) (fun K hK => ?_)
         refine goes_ Try.func47 (by kernel_rfl) rfl #[.agg #[.int .i64 x294000_2, .int .i64 x294001_2, .int .i64 x294002_2, .int .i64 x294003_2, .int .i64 x294004_2, .int .i64 x294005_2, .int .i64 x294006_2, .int .i64 x294007_2]] (by rfl) rfl rfl (by (try simp only [List.map_toArray, List.map_cons, List.map_nil]); first | done | rfl | (simp only [List.length_drop, List.length_take]; rfl)) ?_
         with_reducible refine (item_Rank.calls k2 x294000_2 x294001_2 x294002_2 x294003_2 x294004_2 x294005_2 x294006_2 x294007_2 t309 _ A30.out).mono ?_
         rintro e w60 ⟨rfl, hb⟩
         refine ⟨_, rfl, ?_⟩
         have n0_ := Aside0.mk (blk_below (g := gb293) (o := .cells #[.int .i64 x294000_2, .int .i64 x294001_2, .int .i64 x294002_2, .int .i64 x294003_2, .int .i64 x294004_2, .int .i64 x294005_2, .int .i64 x294006_2, .int .i64 x294007_2] 53 (0, 0)) (by (with_reducible repeat (first | refine blk_drewN ?_ _ | refine blk_drew ?_ | refine blk_alloc ?_ _)); exact BK293.out) hb)
         have n1_ := Aside0.mk (blk_below (g := gb297) (o := .cells #[.int .i64 ((rd_T93 l1 x21_2).f0), .int .i64 ((rd_T93 l1 x21_2).f1)] 93 (0, 0)) (by (with_reducible repeat (first | refine blk_drewN ?_ _ | refine blk_drew ?_ | refine blk_alloc ?_ _)); exact BK297.out) hb)
         have n2_ := Aside0.mk (blk_below (g := gb307) (o := .cells #[.int .i64 t298, .int .i64 t299, .int .i64 t300, .int .i64 t301, .int .i64 t302, .int .i64 t303, .int .i64 t304, .int .i64 t305] 53 (0, 0)) (by (with_reducible repeat (first | refine blk_drewN ?_ _ | refine blk_drew ?_ | refine blk_alloc ?_ _)); exact BK307.out) hb)
         have n3_ := Aside0.mk (below_step (by repeat (first | (with_reducible first | exact HB.out | apply below_alloc | apply pw_below_drewN | apply below_drew1 | refine below_set ?_ GE293.out | refine below_set ?_ GE297.out | refine below_set ?_ GE307.out) | exact HB.out)) hb)
         clear BK293
         clear BK297
         clear BK307
         clear HB
         have BK293 := n0_
         have BK297 := n1_
         have BK307 := n2_
         have HB := n3_
         clear n0_ n1_ n2_ n3_
         (try clear hb)
         (try clear hb2)
         (try clear hk)
         (try clear hi)
         refine hK.out _ _ ⟨(blk_cell BK307.out 0).trans rfl, (blk_cell BK307.out 1).trans rfl, (blk_cell BK307.out 2).trans rfl, (blk_cell BK307.out 3).trans rfl, (blk_cell BK307.out 4).trans rfl, (blk_cell BK307.out 5).trans rfl, (blk_cell BK307.out 6).trans rfl, (blk_cell BK307.out 7).trans rfl, (blk_cell BK293.out 0).trans rfl, (blk_cell BK293.out 1).trans rfl, (blk_cell BK293.out 2).trans rfl, (blk_cell BK293.out 3).trans rfl, (blk_cell BK293.out 4).trans rfl, (blk_cell BK293.out 5).trans rfl, (blk_cell BK293.out 6).trans rfl, (blk_cell BK293.out 7).trans rfl⟩ (fun hHeld => ?_)
         clear hK K
         refine norm_ (a' := ?_) ?_ ?_
         rotate_left
         ·show Act.put _ (some 37) _ = _
          simp only [Act.put, z1, z2, z3, z4, z5]
          rfl
         refine pure_ (i := 4) (N := some 38) (v := ?_) (a' := ?_) q5 rfl rfl (any_of HT_.out (by kernel_rfl)) (fun _ _ _ h => h) (Or.inl ⟨by rfl, ?_⟩) ?_ ?_
         rotate_left; ·intro w'; go_simp; with_reducible rfl
         rotate_left; ·simp only [Act.put, z1, z2, z3, z4, z5]; rfl
         refine pure_ (i := 5) (N := some 39) (v := ?_) (a' := ?_) q6 rfl rfl (any_of HT_.out (by kernel_rfl)) (fun _ _ _ h => h) (Or.inl ⟨by rfl, ?_⟩) ?_ ?_
         rotate_left; ·intro w'; go_simp; with_reducible rfl
         rotate_left; ·simp only [Act.put, z1, z2, z3, z4, z5]; rfl
         refine pure_ (i := 6) (N := some 40) (v := ?_) (a' := ?_) q7 rfl rfl (any_of HT_.out (by kernel_rfl)) (fun _ _ _ h => h) (Or.inl ⟨by rfl, ?_⟩) ?_ ?_
         rotate_left; ·intro w'; go_simp; with_reducible rfl
         rotate_left; ·simp only [Act.put, z1, z2, z3, z4, z5]; rfl
         refine pure_ (i := 8) (N := some 42) (v := ?_) (a' := ?_) q8 rfl rfl (any_of HT_.out (by kernel_rfl)) (fun _ _ _ h => h) (Or.inl ⟨by rfl, ?_⟩) ?_ ?_
         rotate_left; ·intro w'; go_simp; with_reducible rfl
         rotate_left; ·simp only [Act.put, z1, z2, z3, z4, z5]; rfl
         refine take_ (i := 7) (N := some 41) (v := ?_) (a' := ?_) q9 rfl rfl (take_ofW HT_.out HW_.out (by kernel_rfl)) (fun _ _ _ h => h) (Or.inl ⟨by rfl, ?_⟩) hHeld ?_ ?_
         rotate_left; ·rintro w' ⟨s0, s1, s2, s3, s4, s5, s6, s7, s8, s9, s10, s11, s12, s13, s14, s15⟩; go_simp; with_reducible rfl
         rotate_left; ·simp only [Act.put, z1, z2, z3, z4, z5]; rfl
         refine take_ (i := 9) (N := some 43) (v := ?_) (a' := ?_) q10 rfl rfl (take_ofW HT_.out HW_.out (by kernel_rfl)) (fun _ _ _ h => h) (Or.inl ⟨by rfl, ?_⟩) hHeld ?_ ?_
         rotate_left; ·rintro w' ⟨s0, s1, s2, s3, s4, s5, s6, s7, s8, s9, s10, s11, s12, s13, s14, s15⟩; go_simp; with_reducible rfl
         rotate_left; ·simp only [Act.put, z1, z2, z3, z4, z5]; rfl
         refine pure_ (i := 10) (N := some 44) (v := ?_) (a' := ?_) q11 rfl rfl (any_of HT_.out (by kernel_rfl)) (fun _ _ _ h => h) (Or.inl ⟨by rfl, ?_⟩) ?_ ?_
         rotate_left; ·intro w'; go_simp; with_reducible rfl
         rotate_left; ·simp only [Act.put, z1, z2, z3, z4, z5]; rfl
         refine pure_ (i := 11) (N := some 45) (v := ?_) (a' := ?_) q12 rfl rfl (any_of HT_.out (by kernel_rfl)) (fun _ _ _ h => h) (Or.inl ⟨by rfl, ?_⟩) ?_ ?_
         rotate_left; ·intro w'; go_simp; with_reducible rfl
         rotate_left; ·simp only [Act.put, z1, z2, z3, z4, z5]; rfl
         refine pure_ (i := 12) (N := some 46) (v := ?_) (a' := ?_) q13 rfl rfl (any_of HT_.out (by kernel_rfl)) (fun _ _ _ h => h) (Or.inl ⟨by rfl, ?_⟩) ?_ ?_
         rotate_left; ·intro w'; go_simp; with_reducible rfl
         rotate_left; ·simp only [Act.put, z1, z2, z3, z4, z5]; rfl
         refine pure_ (i := 13) (N := some 47) (v := ?_) (a' := ?_) q14 rfl rfl (any_of HT_.out (by kernel_rfl)) (fun _ _ _ h => h) (Or.inl ⟨by rfl, ?_⟩) ?_ ?_
         rotate_left; ·intro w'; go_simp; with_reducible rfl
         rotate_left; ·simp only [Act.put, z1, z2, z3, z4, z5]; rfl
         refine pure_ (i := 15) (N := some 49) (v := ?_) (a' := ?_) q15 rfl rfl (any_of HT_.out (by kernel_rfl)) (fun _ _ _ h => h) (Or.inl ⟨by rfl, ?_⟩) ?_ ?_
         rotate_left; ·intro w'; go_simp; with_reducible rfl
         rotate_left; ·simp only [Act.put, z1, z2, z3, z4, z5]; rfl
         refine take_ (i := 14) (N := some 48) (v := ?_) (a' := ?_) q16 rfl rfl (take_ofW HT_.out HW_.out (by kernel_rfl)) (fun _ _ _ h => h) (Or.inl ⟨by rfl, ?_⟩) hHeld ?_ ?_
         rotate_left; ·rintro w' ⟨s0, s1, s2, s3, s4, s5, s6, s7, s8, s9, s10, s11, s12, s13, s14, s15⟩; go_simp; with_reducible rfl
         rotate_left; ·simp only [Act.put, z1, z2, z3, z4, z5]; rfl
         refine take_ (i := 16) (N := some 50) (v := ?_) (a' := ?_) q17 rfl rfl (take_ofW HT_.out HW_.out (by kernel_rfl)) (fun _ _ _ h => h) (Or.inl ⟨by rfl, ?_⟩) hHeld ?_ ?_
         rotate_left; ·rintro w' ⟨s0, s1, s2, s3, s4, s5, s6, s7, s8, s9, s10, s11, s12, s13, s14, s15⟩; go_simp; with_reducible rfl
         rotate_left; ·simp only [Act.put, z1, z2, z3, z4, z5]; rfl
         refine pure_ (i := 17) (N := some 51) (v := ?_) (a' := ?_) q18 rfl rfl (any_of HT_.out (by kernel_rfl)) (fun _ _ _ h => h) (Or.inl ⟨by rfl, ?_⟩) ?_ ?_
         rotate_left; ·intro w'; go_simp; with_reducible rfl
         rotate_left; ·simp only [Act.put, z1, z2, z3, z4, z5]; rfl
         refine pure_ (i := 18) (N := some 52) (v := ?_) (a' := ?_) q19 rfl rfl (any_of HT_.out (by kernel_rfl)) (fun _ _ _ h => h) (Or.inl ⟨by rfl, ?_⟩) ?_ ?_
         rotate_left; ·intro w'; go_simp; with_reducible rfl
         rotate_left; ·simp only [Act.put, z1, z2, z3, z4, z5]; rfl
         refine pure_ (i := 19) (N := some 53) (v := ?_) (a' := ?_) q20 rfl rfl (any_of HT_.out (by kernel_rfl)) (fun _ _ _ h => h) (Or.inl ⟨by rfl, ?_⟩) ?_ ?_
         rotate_left; ·intro w'; go_simp; with_reducible rfl
         rotate_left; ·simp only [Act.put, z1, z2, z3, z4, z5]; rfl
         refine pure_ (i := 20) (N := some 54) (v := ?_) (a' := ?_) q21 rfl rfl (any_of HT_.out (by kernel_rfl)) (fun _ _ _ h => h) (Or.inl ⟨by rfl, ?_⟩) ?_ ?_
         rotate_left; ·intro w'; go_simp; with_reducible rfl
         rotate_left; ·simp only [Act.put, z1, z2, z3, z4, z5]; rfl
         refine pure_ (i := 22) (N := some 56) (v := ?_) (a' := ?_) q22 rfl rfl (any_of HT_.out (by kernel_rfl)) (fun _ _ _ h => h) (Or.inl ⟨by rfl, ?_⟩) ?_ ?_
         rotate_left; ·intro w'; go_simp; with_reducible rfl
         rotate_left; ·simp only [Act.put, z1, z2, z3, z4, z5]; rfl
         refine take_ (i := 21) (N := some 55) (v := ?_) (a' := ?_) q23 rfl rfl (take_ofW HT_.out HW_.out (by kernel_rfl)) (fun _ _ _ h => h) (Or.inl ⟨by rfl, ?_⟩) hHeld ?_ ?_
         rotate_left; ·rintro w' ⟨s0, s1, s2, s3, s4, s5, s6, s7, s8, s9, s10, s11, s12, s13, s14, s15⟩; go_simp; with_reducible rfl
         rotate_left; ·simp only [Act.put, z1, z2, z3, z4, z5]; rfl
         refine take_ (i := 23) (N := some 57) (v := ?_) (a' := ?_) q24 rfl rfl (take_ofW HT_.out HW_.out (by kernel_rfl)) (fun _ _ _ h => h) (Or.inl ⟨by rfl, ?_⟩) hHeld ?_ ?_
         rotate_left; ·rintro w' ⟨s0, s1, s2, s3, s4, s5, s6, s7, s8, s9, s10, s11, s12, s13, s14, s15⟩; go_simp; with_reducible rfl
         rotate_left; ·simp only [Act.put, z1, z2, z3, z4, z5]; rfl
         refine pure_ (i := 24) (N := some 58) (v := ?_) (a' := ?_) q25 rfl rfl (any_of HT_.out (by kernel_rfl)) (fun _ _ _ h => h) (Or.inl ⟨by rfl, ?_⟩) ?_ ?_
         rotate_left; ·intro w'; go_simp; with_reducible rfl
         rotate_left; ·simp only [Act.put, z1, z2, z3, z4, z5]; rfl
         refine pure_ (i := 25) (N := some 59) (v := ?_) (a' := ?_) q26 rfl rfl (any_of HT_.out (by kernel_rfl)) (fun _ _ _ h => h) (Or.inl ⟨by rfl, ?_⟩) ?_ ?_
         rotate_left; ·intro w'; go_simp; with_reducible rfl
         rotate_left; ·simp only [Act.put, z1, z2, z3, z4, z5]; rfl
         refine pure_ (i := 26) (N := some 60) (v := ?_) (a' := ?_) q27 rfl rfl (any_of HT_.out (by kernel_rfl)) (fun _ _ _ h => h) (Or.inl ⟨by rfl, ?_⟩) ?_ ?_
         rotate_left; ·intro w'; go_simp; with_reducible rfl
         rotate_left; ·simp only [Act.put, z1, z2, z3, z4, z5]; rfl
         refine pure_ (i := 27) (N := some 61) (v := ?_) (a' := ?_) q28 rfl rfl (any_of HT_.out (by kernel_rfl)) (fun _ _ _ h => h) (Or.inl ⟨by rfl, ?_⟩) ?_ ?_
         rotate_left; ·intro w'; go_simp; with_reducible rfl
         rotate_left; ·simp only [Act.put, z1, z2, z3, z4, z5]; rfl
         refine take_ (i := 28) (N := some 62) (v := ?_) (a' := ?_) q29 rfl rfl (take_ofW HT_.out HW_.out (by kernel_rfl)) (fun _ _ _ h => h) (Or.inl ⟨by rfl, ?_⟩) hHeld ?_ ?_
         rotate_left; ·rintro w' ⟨s0, s1, s2, s3, s4, s5, s6, s7, s8, s9, s10, s11, s12, s13, s14, s15⟩; go_simp; with_reducible rfl
         rotate_left; ·simp only [Act.put, z1, z2, z3, z4, z5]; rfl
         refine pure_ (i := 29) (N := some 63) (v := ?_) (a' := ?_) q30 rfl rfl (any_of HT_.out (by kernel_rfl)) (fun _ _ _ h => h) (Or.inl ⟨by rfl, ?_⟩) ?_ ?_
         rotate_left; ·intro w'; go_simp; with_reducible rfl
         rotate_left; ·simp only [Act.put, z1, z2, z3, z4, z5]; rfl
         refine pure_ (i := 30) (N := some 64) (v := ?_) (a' := ?_) q31 rfl rfl (any_of HT_.out (by kernel_rfl)) (fun _ _ _ h => h) (Or.inl ⟨by rfl, ?_⟩) ?_ ?_
         rotate_left; ·intro w'; go_simp; with_reducible rfl
         rotate_left; ·simp only [Act.put, z1, z2, z3, z4, z5]; rfl
         refine pure_ (i := 31) (N := some 65) (v := ?_) (a' := ?_) q32 rfl rfl (any_of HT_.out (by kernel_rfl)) (fun _ _ _ h => h) (Or.inl ⟨by rfl, ?_⟩) ?_ ?_
         rotate_left; ·intro w'; go_simp; with_reducible rfl
         rotate_left; ·simp only [Act.put, z1, z2, z3, z4, z5]; rfl
         refine pure_ (i := 33) (N := some 67) (v := ?_) (a' := ?_) q33 rfl rfl (any_of HT_.out (by kernel_rfl)) (fun _ _ _ h => h) (Or.inl ⟨by rfl, ?_⟩) ?_ ?_
         rotate_left; ·intro w'; go_simp; with_reducible rfl
         rotate_left; ·simp only [Act.put, z1, z2, z3, z4, z5]; rfl
         refine take_ (i := 32) (N := some 66) (v := ?_) (a' := ?_) q34 rfl rfl (take_ofW HT_.out HW_.out (by kernel_rfl)) (fun _ _ _ h => h) (Or.inl ⟨by rfl, ?_⟩) hHeld ?_ ?_
         rotate_left; ·rintro w' ⟨s0, s1, s2, s3, s4, s5, s6, s7, s8, s9, s10, s11, s12, s13, s14, s15⟩; go_simp; with_reducible rfl
         rotate_left; ·simp only [Act.put, z1, z2, z3, z4, z5]; rfl
         refine take_ (i := 34) (N := some 68) (v := ?_) (a' := ?_) q35 rfl rfl (take_ofW HT_.out HW_.out (by kernel_rfl)) (fun _ _ _ h => h) (Or.inl ⟨by rfl, ?_⟩) hHeld ?_ ?_
         rotate_left; ·rintro w' ⟨s0, s1, s2, s3, s4, s5, s6, s7, s8, s9, s10, s11, s12, s13, s14, s15⟩; go_simp; with_reducible rfl
         rotate_left; ·simp only [Act.put, z1, z2, z3, z4, z5]; rfl
         refine pure_ (i := 35) (N := some 69) (v := ?_) (a' := ?_) q36 rfl rfl (any_of HT_.out (by kernel_rfl)) (fun _ _ _ h => h) (Or.inl ⟨by rfl, ?_⟩) ?_ ?_
         rotate_left; ·intro w'; go_simp; with_reducible rfl
         rotate_left; ·simp only [Act.put, z1, z2, z3, z4, z5]; rfl
         refine pure_ (i := 36) (N := some 70) (v := ?_) (a' := ?_) q37 rfl rfl (any_of HT_.out (by kernel_rfl)) (fun _ _ _ h => h) (Or.inl ⟨by rfl, ?_⟩) ?_ ?_
         rotate_left; ·intro w'; go_simp; with_reducible rfl
         rotate_left; ·simp only [Act.put, z1, z2, z3, z4, z5]; rfl
         refine pure_ (i := 37) (N := some 71) (v := ?_) (a' := ?_) q38 rfl rfl (any_of HT_.out (by kernel_rfl)) (fun _ _ _ h => h) (Or.inl ⟨by rfl, ?_⟩) ?_ ?_
         rotate_left; ·intro w'; go_simp; with_reducible rfl
         rotate_left; ·simp only [Act.put, z1, z2, z3, z4, z5]; rfl
         refine pure_ (i := 38) (N := some 72) (v := ?_) (a' := ?_) q39 rfl rfl (any_of HT_.out (by kernel_rfl)) (fun _ _ _ h => h) (Or.inl ⟨by rfl, ?_⟩) ?_ ?_
         rotate_left; ·intro w'; go_simp; with_reducible rfl
         rotate_left; ·simp only [Act.put, z1, z2, z3, z4, z5]; rfl
         refine take_ (i := 39) (N := some 73) (v := ?_) (a' := ?_) q40 rfl rfl (take_ofW HT_.out HW_.out (by kernel_rfl)) (fun _ _ _ h => h) (Or.inl ⟨by rfl, ?_⟩) hHeld ?_ ?_
         rotate_left; ·rintro w' ⟨s0, s1, s2, s3, s4, s5, s6, s7, s8, s9, s10, s11, s12, s13, s14, s15⟩; go_simp; with_reducible rfl
         rotate_left; ·simp only [Act.put, z1, z2, z3, z4, z5]; rfl
         refine one_ (i := 40) (N := some 74) q41 rfl rfl (one_of HT_.out (by kernel_rfl)) (by decide) (fun K hK => ?_)
         refine goes_ Try.func32 (by kernel_rfl) rfl #[.agg #[.int .i64 x294000_2, .int .i64 x294001_2, .int .i64 x294002_2, .int .i64 x294003_2, .int .i64 x294004_2, .int .i64 x294005_2, .int .i64 x294006_2, .int .i64 x294007_2]] (by rfl) rfl rfl (by (try simp only [List.map_toArray, List.map_cons, List.map_nil]); first | done | rfl | (simp only [List.length_drop, List.length_take]; rfl)) ?_
         with_reducible refine (item_Over.calls x294000_2 x294001_2 x294002_2 x294003_2 x294004_2 x294005_2 x294006_2 x294007_2 false _ A37.out).mono ?_
         rintro e w61 ⟨rfl, hb⟩
         refine ⟨_, rfl, ?_⟩
         have n0_ := Aside0.mk (blk_below (g := gb293) (o := .cells #[.int .i64 x294000_2, .int .i64 x294001_2, .int .i64 x294002_2, .int .i64 x294003_2, .int .i64 x294004_2, .int .i64 x294005_2, .int .i64 x294006_2, .int .i64 x294007_2] 53 (0, 0)) (by (with_reducible repeat (first | refine blk_drewN ?_ _ | refine blk_drew ?_ | refine blk_alloc ?_ _)); exact BK293.out) hb)
         have n1_ := Aside0.mk (blk_below (g := gb297) (o := .cells #[.int .i64 ((rd_T93 l1 x21_2).f0), .int .i64 ((rd_T93 l1 x21_2).f1)] 93 (0, 0)) (by (with_reducible repeat (first | refine blk_drewN ?_ _ | refine blk_drew ?_ | refine blk_alloc ?_ _)); exact BK297.out) hb)
         have n2_ := Aside0.mk (blk_below (g := gb307) (o := .cells #[.int .i64 t298, .int .i64 t299, .int .i64 t300, .int .i64 t301, .int .i64 t302, .int .i64 t303, .int .i64 t304, .int .i64 t305] 53 (0, 0)) (by (with_reducible repeat (first | refine blk_drewN ?_ _ | refine blk_drew ?_ | refine blk_alloc ?_ _)); exact BK307.out) hb)
         have n3_ := Aside0.mk (below_step (by repeat (first | (with_reducible first | exact HB.out | apply below_alloc | apply pw_below_drewN | apply below_drew1 | refine below_set ?_ GE293.out | refine below_set ?_ GE297.out | refine below_set ?_ GE307.out) | exact HB.out)) hb)
         clear BK293
         clear BK297
         clear BK307
         clear HB
         have BK293 := n0_
         have BK297 := n1_
         have BK307 := n2_
         have HB := n3_
         clear n0_ n1_ n2_ n3_
         (try clear hb)
         (try clear hb2)
         (try clear hk)
         (try clear hi)
         refine hK.out _ _ ⟨(blk_cell BK307.out 0).trans rfl, (blk_cell BK307.out 1).trans rfl, (blk_cell BK307.out 2).trans rfl, (blk_cell BK307.out 3).trans rfl, (blk_cell BK307.out 4).trans rfl, (blk_cell BK307.out 5).trans rfl, (blk_cell BK307.out 6).trans rfl, (blk_cell BK307.out 7).trans rfl, (blk_cell BK293.out 0).trans rfl, (blk_cell BK293.out 1).trans rfl, (blk_cell BK293.out 2).trans rfl, (blk_cell BK293.out 3).trans rfl, (blk_cell BK293.out 4).trans rfl, (blk_cell BK293.out 5).trans rfl, (blk_cell BK293.out 6).trans rfl, (blk_cell BK293.out 7).trans rfl⟩ (fun hHeld => ?_)
         clear hK K
         refine norm_ (a' := ?_) ?_ ?_
         rotate_left
         ·show Act.put _ (some 74) _ = _
          simp only [Act.put, z1, z2, z3, z4, z5]
          rfl
         refine pure_ (i := 41) (N := some 75) (v := ?_) (a' := ?_) q42 rfl rfl (any_of HT_.out (by kernel_rfl)) (fun _ _ _ h => h) (Or.inl ⟨by rfl, ?_⟩) ?_ ?_
         rotate_left; ·intro w'; go_simp; with_reducible rfl
         rotate_left; ·simp only [Act.put, z1, z2, z3, z4, z5]; rfl
         refine pure_ (i := 42) (N := some 76) (v := undef) (a' := ?_) q43 rfl rfl (any_of HT_.out (by kernel_rfl)) (fun _ _ _ h => h) (Or.inr ⟨by rfl, rfl⟩) ?_ ?_
         rotate_left; ·simp only [Act.put, z1, z2, z3, z4, z5]; rfl
         refine pure_ (i := 43) (N := some 77) (v := undef) (a' := ?_) q44 rfl rfl (any_of HT_.out (by kernel_rfl)) (fun _ _ _ h => h) (Or.inr ⟨by rfl, rfl⟩) ?_ ?_
         rotate_left; ·simp only [Act.put, z1, z2, z3, z4, z5]; rfl
         refine pure_ (i := 44) (N := some 78) (v := undef) (a' := ?_) q45 rfl rfl (any_of HT_.out (by kernel_rfl)) (fun _ _ _ h => h) (Or.inr ⟨by rfl, rfl⟩) ?_ ?_
         rotate_left; ·simp only [Act.put, z1, z2, z3, z4, z5]; rfl
         refine pure_ (i := 45) (N := some 79) (v := ?_) (a' := ?_) q46 rfl rfl (any_of HT_.out (by kernel_rfl)) (fun _ _ _ h => h) (Or.inl ⟨by rfl, ?_⟩) ?_ ?_
         rotate_left; ·intro w'; go_simp; with_reducible rfl
         rotate_left; ·simp only [Act.put, z1, z2, z3, z4, z5]; rfl
         refine pure_ (i := 46) (N := some 80) (v := ?_) (a' := ?_) q47 rfl rfl (any_of HT_.out (by kernel_rfl)) (fun _ _ _ h => h) (Or.inl ⟨by rfl, ?_⟩) ?_ ?_
         rotate_left; ·intro w'; go_simp; with_reducible rfl
         rotate_left; ·simp only [Act.put, z1, z2, z3, z4, z5]; rfl
         refine pure_ (i := 47) (N := some 81) (v := ?_) (a' := ?_) q48 rfl rfl (any_of HT_.out (by kernel_rfl)) (fun _ _ _ h => h) (Or.inl ⟨by rfl, ?_⟩) ?_ ?_
         rotate_left; ·intro w'; go_simp; with_reducible rfl
         rotate_left; ·simp only [Act.put, z1, z2, z3, z4, z5]; rfl
         refine pure_ (i := 48) (N := some 82) (v := ?_) (a' := ?_) q49 rfl rfl (any_of HT_.out (by kernel_rfl)) (fun _ _ _ h => h) (Or.inl ⟨by rfl, ?_⟩) ?_ ?_
         rotate_left; ·intro w'; go_simp; with_reducible rfl
         rotate_left; ·simp only [Act.put, z1, z2, z3, z4, z5]; rfl
         refine pure_ (i := 49) (N := some 83) (v := ?_) (a' := ?_) q50 rfl rfl (any_of HT_.out (by kernel_rfl)) (fun _ _ _ h => h) (Or.inl ⟨by rfl, ?_⟩) ?_ ?_
         rotate_left; ·intro w'; go_simp; with_reducible rfl
         rotate_left; ·simp only [Act.put, z1, z2, z3, z4, z5]; rfl
         refine pure_ (i := 50) (N := some 84) (v := ?_) (a' := ?_) q51 rfl rfl (any_of HT_.out (by kernel_rfl)) (fun _ _ _ h => h) (Or.inl ⟨by rfl, ?_⟩) ?_ ?_
         rotate_left; ·intro w'; go_simp; with_reducible rfl
         rotate_left; ·simp only [Act.put, z1, z2, z3, z4, z5]; rfl
         refine take_ (i := 51) (N := some 85) (v := ?_) (a' := ?_) q52 rfl rfl (take_ofW HT_.out HW_.out (by kernel_rfl)) (fun _ _ _ h => h) (Or.inl ⟨by rfl, ?_⟩) hHeld ?_ ?_
         rotate_left; ·rintro w' ⟨s0, s1, s2, s3, s4, s5, s6, s7, s8, s9, s10, s11, s12, s13, s14, s15⟩; go_simp; with_reducible rfl
         rotate_left; ·simp only [Act.put, z1, z2, z3, z4, z5]; rfl
         refine take_ (i := 52) (N := some 86) (v := ?_) (a' := ?_) q53 rfl rfl (take_ofW HT_.out HW_.out (by kernel_rfl)) (fun _ _ _ h => h) (Or.inl ⟨by rfl, ?_⟩) hHeld ?_ ?_
         rotate_left; ·rintro w' ⟨s0, s1, s2, s3, s4, s5, s6, s7, s8, s9, s10, s11, s12, s13, s14, s15⟩; go_simp; with_reducible rfl
         rotate_left; ·simp only [Act.put, z1, z2, z3, z4, z5]; rfl
         refine pure_ (i := 53) (N := some 87) (v := ?_) (a' := ?_) q54 rfl rfl (any_of HT_.out (by kernel_rfl)) (fun _ _ _ h => h) (Or.inl ⟨by rfl, ?_⟩) ?_ ?_
         rotate_left; ·intro w'; go_simp; with_reducible rfl
         rotate_left; ·simp only [Act.put, z1, z2, z3, z4, z5]; rfl
         refine pure_ (i := 54) (N := some 88) (v := ?_) (a' := ?_) q55 rfl rfl (any_of HT_.out (by kernel_rfl)) (fun _ _ _ h => h) (Or.inl ⟨by rfl, ?_⟩) ?_ ?_
         rotate_left; ·intro w'; go_simp; with_reducible rfl
         rotate_left; ·simp only [Act.put, z1, z2, z3, z4, z5]; rfl
         refine pure_ (i := 55) (N := some 89) (v := ?_) (a' := ?_) q56 rfl rfl (any_of HT_.out (by kernel_rfl)) (fun _ _ _ h => h) (Or.inl ⟨by rfl, ?_⟩) ?_ ?_
         rotate_left; ·intro w'; go_simp; with_reducible rfl
         rotate_left; ·simp only [Act.put, z1, z2, z3, z4, z5]; rfl
         refine done_ (done_of HT_.out (by kernel_rfl)) ?_
         try go_wp2
         go_meet
         case rel => exact ⟨_, (((!(t298 == x294000_2) || (!(t299 == x294001_2))) || (!(t300 == x294002_2) || (!(t301 == x294003_2) || (!(t302 == x294004_2) || (!(t303 == x294005_2) || (!(t304 == x294006_2) || (!(t305 == x294007_2))))))))), (by first | rfl | (simp; done) | (simp [*]; done)), H', ⟨by have := HJ4.out; have := HK2.out; first | omega | exact Nat.le_refl _⟩, ⟨by (with_reducible repeat (first | refine blk_drewN ?_ _ | refine blk_drew ?_ | refine blk_alloc ?_ _)); exact BK293.out⟩, ⟨by (with_reducible repeat (first | refine blk_drewN ?_ _ | refine blk_drew ?_ | refine blk_alloc ?_ _)); exact BK297.out⟩, ⟨by (with_reducible repeat (first | refine blk_drewN ?_ _ | refine blk_drew ?_ | refine blk_alloc ?_ _)); exact BK307.out⟩, ⟨by repeat (first | (with_reducible first | exact HB.out | apply below_alloc | apply pw_below_drewN | apply below_drew1 | refine below_set ?_ GE293.out | refine below_set ?_ GE297.out | refine below_set ?_ GE307.out) | exact HB.out)⟩⟩
        rw [if_neg c35] at H
        have c35b0 : decide (3 ≤ x294006_2) = false := decide_eq_false c35
        clear c35
        replace H := Option.bind_eq_some_iff.mp H
        obtain ⟨t311, A620, H⟩ := H
        replace H : (if t311 = true then (if ((!(t298 == x294000_2) || (!(t299 == x294001_2))) || (!(t300 == x294002_2) || (!(t301 == x294003_2) || (!(t302 == x294004_2) || (!(t303 == x294005_2) || (!(t304 == x294006_2) || (!(t305 == x294007_2)))))))) = true then (contralaw09_ItemForward.j2 k2 l1 (l1.length : Int) x21_2 true t298 t299 t300 t301 t302 t303 t304 t305) else (if t306 = 0 then (contralaw09_ItemForward.j2 k2 l1 (l1.length : Int) x21_2 false t298 t299 t300 t301 t302 t303 t304 t305) else (contralaw09_ItemForward.j2 k2 l1 (l1.length : Int) x21_2 ((!(t298 == x294000_2) || (!(t299 == x294001_2))) || (!(t300 == x294002_2) || (!(t301 == x294003_2) || (!(t302 == x294004_2) || (!(t303 == x294005_2) || (!(t304 == x294006_2) || (!(t305 == x294007_2)))))))) t298 t299 t300 t301 t302 t303 t304 t305))) else (if t306 = 0 then (contralaw09_ItemForward.j2 k2 l1 (l1.length : Int) x21_2 false t298 t299 t300 t301 t302 t303 t304 t305) else (contralaw09_ItemForward.j2 k2 l1 (l1.length : Int) x21_2 ((!(t298 == x294000_2) || (!(t299 == x294001_2))) || (!(t300 == x294002_2) || (!(t301 == x294003_2) || (!(t302 == x294004_2) || (!(t303 == x294005_2) || (!(t304 == x294006_2) || (!(t305 == x294007_2)))))))) t298 t299 t300 t301 t302 t303 t304 t305))) = some true := H
        have A62 := Aside0.mk A620
        clear A620
        by_cases c63 : t311 = true
        ·exfalso; subst c63; have h_ := A62.out; have g_ := of_decide_eq_false c35b0; simp only [item_Over.f] at h_; split at h_ <;> simp at h_ <;> omega
        replace c63 := Bool.eq_false_iff.mpr c63
        subst c63
        have H1 : (if t306 = 0 then (contralaw09_ItemForward.j2 k2 l1 (l1.length : Int) x21_2 false t298 t299 t300 t301 t302 t303 t304 t305) else (contralaw09_ItemForward.j2 k2 l1 (l1.length : Int) x21_2 ((!(t298 == x294000_2) || (!(t299 == x294001_2))) || (!(t300 == x294002_2) || (!(t301 == x294003_2) || (!(t302 == x294004_2) || (!(t303 == x294005_2) || (!(t304 == x294006_2) || (!(t305 == x294007_2)))))))) t298 t299 t300 t301 t302 t303 t304 t305)) = some true := by rw [if_neg (show ¬ (false = true) by decide)] at H; try exact H
        clear H
        have H := H1
        clear H1
        by_cases c64 : t306 = 0
        ·rw [if_pos c64] at H
         have c64b0 : (t306 == 0) = true := beq_iff_eq.mpr c64
         have c64b1 : (t306 != 0) = false := bne_eq_false_iff_eq.mpr c64
         clear c64
         have H' := Aside0.mk H
         clear H
         try go_wp2
         have n0_ : Aside0 (((((((((w25.setCell ⟨gb307, 0, none⟩ (.int .i64 t298)).setCell ⟨gb307, 1, none⟩ (.int .i64 t299)).setCell ⟨gb307, 2, none⟩ (.int .i64 t300)).setCell ⟨gb307, 3, none⟩ (.int .i64 t301)).setCell ⟨gb307, 4, none⟩ (.int .i64 t302)).setCell ⟨gb307, 5, none⟩ (.int .i64 t303)).setCell ⟨gb307, 6, none⟩ (.int .i64 t304)).setCell ⟨gb307, 7, none⟩ (.int .i64 t305)).heap[gb293]? = some (.cells #[.int .i64 x294000_2, .int .i64 x294001_2, .int .i64 x294002_2, .int .i64 x294003_2, .int .i64 x294004_2, .int .i64 x294005_2, .int .i64 x294006_2, .int .i64 x294007_2] 53 (0, 0))) := ⟨by (with_reducible repeat (first | refine blk_drewN ?_ _ | refine blk_drew ?_ | refine blk_alloc ?_ _)); refine blk_far ?_ NB293_307.out _; (with_reducible repeat (first | refine blk_drewN ?_ _ | refine blk_drew ?_ | refine blk_alloc ?_ _)); refine blk_far ?_ NB293_307.out _; (with_reducible repeat (first | refine blk_drewN ?_ _ | refine blk_drew ?_ | refine blk_alloc ?_ _)); refine blk_far ?_ NB293_307.out _; (with_reducible repeat (first | refine blk_drewN ?_ _ | refine blk_drew ?_ | refine blk_alloc ?_ _)); refine blk_far ?_ NB293_307.out _; (with_reducible repeat (first | refine blk_drewN ?_ _ | refine blk_drew ?_ | refine blk_alloc ?_ _)); refine blk_far ?_ NB293_307.out _; (with_reducible repeat (first | refine blk_drewN ?_ _ | refine blk_drew ?_ | refine blk_alloc ?_ _)); refine blk_far ?_ NB293_307.out _; (with_reducible repeat (first | refine blk_drewN ?_ _ | refine blk_drew ?_ | refine blk_alloc ?_ _)); refine blk_far ?_ NB293_307.out _; (with_reducible repeat (first | refine blk_drewN ?_ _ | refine blk_drew ?_ | refine blk_alloc ?_ _)); refine blk_far ?_ NB293_307.out _; (with_reducible repeat (first | refine blk_drewN ?_ _ | refine blk_drew ?_ | refine blk_alloc ?_ _)); exact BK293.out⟩
         have n1_ : Aside0 (((((((((w25.setCell ⟨gb307, 0, none⟩ (.int .i64 t298)).setCell ⟨gb307, 1, none⟩ (.int .i64 t299)).setCell ⟨gb307, 2, none⟩ (.int .i64 t300)).setCell ⟨gb307, 3, none⟩ (.int .i64 t301)).setCell ⟨gb307, 4, none⟩ (.int .i64 t302)).setCell ⟨gb307, 5, none⟩ (.int .i64 t303)).setCell ⟨gb307, 6, none⟩ (.int .i64 t304)).setCell ⟨gb307, 7, none⟩ (.int .i64 t305)).heap[gb297]? = some (.cells #[.int .i64 ((rd_T93 l1 x21_2).f0), .int .i64 ((rd_T93 l1 x21_2).f1)] 93 (0, 0))) := ⟨by (with_reducible repeat (first | refine blk_drewN ?_ _ | refine blk_drew ?_ | refine blk_alloc ?_ _)); refine blk_far ?_ NB297_307.out _; (with_reducible repeat (first | refine blk_drewN ?_ _ | refine blk_drew ?_ | refine blk_alloc ?_ _)); refine blk_far ?_ NB297_307.out _; (with_reducible repeat (first | refine blk_drewN ?_ _ | refine blk_drew ?_ | refine blk_alloc ?_ _)); refine blk_far ?_ NB297_307.out _; (with_reducible repeat (first | refine blk_drewN ?_ _ | refine blk_drew ?_ | refine blk_alloc ?_ _)); refine blk_far ?_ NB297_307.out _; (with_reducible repeat (first | refine blk_drewN ?_ _ | refine blk_drew ?_ | refine blk_alloc ?_ _)); refine blk_far ?_ NB297_307.out _; (with_reducible repeat (first | refine blk_drewN ?_ _ | refine blk_drew ?_ | refine blk_alloc ?_ _)); refine blk_far ?_ NB297_307.out _; (with_reducible repeat (first | refine blk_drewN ?_ _ | refine blk_drew ?_ | refine blk_alloc ?_ _)); refine blk_far ?_ NB297_307.out _; (with_reducible repeat (first | refine blk_drewN ?_ _ | refine blk_drew ?_ | refine blk_alloc ?_ _)); refine blk_far ?_ NB297_307.out _; (with_reducible repeat (first | refine blk_drewN ?_ _ | refine blk_drew ?_ | refine blk_alloc ?_ _)); exact BK297.out⟩
         have n2_ : Aside0 (((((((((w25.setCell ⟨gb307, 0, none⟩ (.int .i64 t298)).setCell ⟨gb307, 1, none⟩ (.int .i64 t299)).setCell ⟨gb307, 2, none⟩ (.int .i64 t300)).setCell ⟨gb307, 3, none⟩ (.int .i64 t301)).setCell ⟨gb307, 4, none⟩ (.int .i64 t302)).setCell ⟨gb307, 5, none⟩ (.int .i64 t303)).setCell ⟨gb307, 6, none⟩ (.int .i64 t304)).setCell ⟨gb307, 7, none⟩ (.int .i64 t305)).heap[gb307]? = some (.cells #[.int .i64 t298, .int .i64 t299, .int .i64 t300, .int .i64 t301, .int .i64 t302, .int .i64 t303, .int .i64 t304, .int .i64 t305] 53 (0, 0))) := ⟨by (with_reducible repeat (first | refine blk_drewN ?_ _ | refine blk_drew ?_ | refine blk_alloc ?_ _)); refine blk_put (cs := #[.int .i64 t298, .int .i64 t299, .int .i64 t300, .int .i64 t301, .int .i64 t302, .int .i64 t303, .int .i64 t304, .int .i64 0]) ?_ 7 _ rfl; (with_reducible repeat (first | refine blk_drewN ?_ _ | refine blk_drew ?_ | refine blk_alloc ?_ _)); refine blk_put (cs := #[.int .i64 t298, .int .i64 t299, .int .i64 t300, .int .i64 t301, .int .i64 t302, .int .i64 t303, .int .i64 0, .int .i64 0]) ?_ 6 _ rfl; (with_reducible repeat (first | refine blk_drewN ?_ _ | refine blk_drew ?_ | refine blk_alloc ?_ _)); refine blk_put (cs := #[.int .i64 t298, .int .i64 t299, .int .i64 t300, .int .i64 t301, .int .i64 t302, .int .i64 0, .int .i64 0, .int .i64 0]) ?_ 5 _ rfl; (with_reducible repeat (first | refine blk_drewN ?_ _ | refine blk_drew ?_ | refine blk_alloc ?_ _)); refine blk_put (cs := #[.int .i64 t298, .int .i64 t299, .int .i64 t300, .int .i64 t301, .int .i64 0, .int .i64 0, .int .i64 0, .int .i64 0]) ?_ 4 _ rfl; (with_reducible repeat (first | refine blk_drewN ?_ _ | refine blk_drew ?_ | refine blk_alloc ?_ _)); refine blk_put (cs := #[.int .i64 t298, .int .i64 t299, .int .i64 t300, .int .i64 0, .int .i64 0, .int .i64 0, .int .i64 0, .int .i64 0]) ?_ 3 _ rfl; (with_reducible repeat (first | refine blk_drewN ?_ _ | refine blk_drew ?_ | refine blk_alloc ?_ _)); refine blk_put (cs := #[.int .i64 t298, .int .i64 t299, .int .i64 0, .int .i64 0, .int .i64 0, .int .i64 0, .int .i64 0, .int .i64 0]) ?_ 2 _ rfl; (with_reducible repeat (first | refine blk_drewN ?_ _ | refine blk_drew ?_ | refine blk_alloc ?_ _)); refine blk_put (cs := #[.int .i64 t298, .int .i64 0, .int .i64 0, .int .i64 0, .int .i64 0, .int .i64 0, .int .i64 0, .int .i64 0]) ?_ 1 _ rfl; (with_reducible repeat (first | refine blk_drewN ?_ _ | refine blk_drew ?_ | refine blk_alloc ?_ _)); refine blk_put (cs := #[.int .i64 0, .int .i64 0, .int .i64 0, .int .i64 0, .int .i64 0, .int .i64 0, .int .i64 0, .int .i64 0]) ?_ 0 _ rfl; (with_reducible repeat (first | refine blk_drewN ?_ _ | refine blk_drew ?_ | refine blk_alloc ?_ _)); exact BK307.out⟩
         have n3_ : Aside0 (Below w.heap.size w ((((((((w25.setCell ⟨gb307, 0, none⟩ (.int .i64 t298)).setCell ⟨gb307, 1, none⟩ (.int .i64 t299)).setCell ⟨gb307, 2, none⟩ (.int .i64 t300)).setCell ⟨gb307, 3, none⟩ (.int .i64 t301)).setCell ⟨gb307, 4, none⟩ (.int .i64 t302)).setCell ⟨gb307, 5, none⟩ (.int .i64 t303)).setCell ⟨gb307, 6, none⟩ (.int .i64 t304)).setCell ⟨gb307, 7, none⟩ (.int .i64 t305))) := ⟨by repeat (first | (with_reducible first | exact HB.out | apply below_alloc | apply pw_below_drewN | apply below_drew1 | refine below_set ?_ GE293.out | refine below_set ?_ GE297.out | refine below_set ?_ GE307.out) | exact HB.out)⟩
         (try clear BK293)
         (try clear BK297)
         (try clear BK307)
         (try clear HB)
         generalize ((((((((w25.setCell ⟨gb307, 0, none⟩ (.int .i64 t298)).setCell ⟨gb307, 1, none⟩ (.int .i64 t299)).setCell ⟨gb307, 2, none⟩ (.int .i64 t300)).setCell ⟨gb307, 3, none⟩ (.int .i64 t301)).setCell ⟨gb307, 4, none⟩ (.int .i64 t302)).setCell ⟨gb307, 5, none⟩ (.int .i64 t303)).setCell ⟨gb307, 6, none⟩ (.int .i64 t304)).setCell ⟨gb307, 7, none⟩ (.int .i64 t305)) = w65 at n0_ n1_ n2_ n3_ ⊢
         have BK293 := n0_
         have BK297 := n1_
         have BK307 := n2_
         have HB := n3_
         clear n0_ n1_ n2_ n3_
         have n0_ := Aside0.mk (blk_drew BK293.out)
         have n1_ := Aside0.mk (blk_drew BK297.out)
         have n2_ := Aside0.mk (blk_drew BK307.out)
         have n3_ := Aside0.mk (below_drew1 HB.out)
         clear BK293
         clear BK297
         clear BK307
         clear HB
         have BK293 := n0_
         have BK297 := n1_
         have BK307 := n2_
         have HB := n3_
         clear n0_ n1_ n2_ n3_
         refine start_ (n := 56) (S := fun w' => w'.cell? ⟨gb307, 0, none⟩ = some (.int .i64 t298) ∧ w'.cell? ⟨gb307, 1, none⟩ = some (.int .i64 t299) ∧ w'.cell? ⟨gb307, 2, none⟩ = some (.int .i64 t300) ∧ w'.cell? ⟨gb307, 3, none⟩ = some (.int .i64 t301) ∧ w'.cell? ⟨gb307, 4, none⟩ = some (.int .i64 t302) ∧ w'.cell? ⟨gb307, 5, none⟩ = some (.int .i64 t303) ∧ w'.cell? ⟨gb307, 6, none⟩ = some (.int .i64 t304) ∧ w'.cell? ⟨gb307, 7, none⟩ = some (.int .i64 t305) ∧ w'.cell? ⟨gb293, 0, none⟩ = some (.int .i64 x294000_2) ∧ w'.cell? ⟨gb293, 1, none⟩ = some (.int .i64 x294001_2) ∧ w'.cell? ⟨gb293, 2, none⟩ = some (.int .i64 x294002_2) ∧ w'.cell? ⟨gb293, 3, none⟩ = some (.int .i64 x294003_2) ∧ w'.cell? ⟨gb293, 4, none⟩ = some (.int .i64 x294004_2) ∧ w'.cell? ⟨gb293, 5, none⟩ = some (.int .i64 x294005_2) ∧ w'.cell? ⟨gb293, 6, none⟩ = some (.int .i64 x294006_2) ∧ w'.cell? ⟨gb293, 7, none⟩ = some (.int .i64 x294007_2)) (ds := []) q0 (by kernel_rfl) rfl rfl ⟨(blk_cell BK307.out 0).trans rfl, (blk_cell BK307.out 1).trans rfl, (blk_cell BK307.out 2).trans rfl, (blk_cell BK307.out 3).trans rfl, (blk_cell BK307.out 4).trans rfl, (blk_cell BK307.out 5).trans rfl, (blk_cell BK307.out 6).trans rfl, (blk_cell BK307.out 7).trans rfl, (blk_cell BK293.out 0).trans rfl, (blk_cell BK293.out 1).trans rfl, (blk_cell BK293.out 2).trans rfl, (blk_cell BK293.out 3).trans rfl, (blk_cell BK293.out 4).trans rfl, (blk_cell BK293.out 5).trans rfl, (blk_cell BK293.out 6).trans rfl, (blk_cell BK293.out 7).trans rfl⟩ (fun hHeld => ?_); refine with_tabW contralaw09_ItemForward.tab9 contralaw09_ItemForward.bits9 (fun HT_ HW_ => ?_)
         generalize w65.drew = w66 at BK293 BK297 BK307 HB hHeld ⊢
         refine take_ (i := 0) (N := some 34) (v := ?_) (a' := ?_) q1 rfl rfl (take_ofW HT_.out HW_.out (by kernel_rfl)) (fun _ _ _ h => h) (Or.inl ⟨by rfl, ?_⟩) hHeld ?_ ?_
         rotate_left; ·rintro w' ⟨s0, s1, s2, s3, s4, s5, s6, s7, s8, s9, s10, s11, s12, s13, s14, s15⟩; go_simp; with_reducible rfl
         rotate_left; ·simp only [Act.put, z1, z2, z3, z4, z5]; rfl
         refine take_ (i := 2) (N := some 36) (v := ?_) (a' := ?_) q2 rfl rfl (take_ofW HT_.out HW_.out (by kernel_rfl)) (fun _ _ _ h => h) (Or.inl ⟨by rfl, ?_⟩) hHeld ?_ ?_
         rotate_left; ·rintro w' ⟨s0, s1, s2, s3, s4, s5, s6, s7, s8, s9, s10, s11, s12, s13, s14, s15⟩; go_simp; with_reducible rfl
         rotate_left; ·simp only [Act.put, z1, z2, z3, z4, z5]; rfl
         refine one_ (i := 1) (N := some 35) q3 rfl rfl (one_of HT_.out (by kernel_rfl)) (by decide) (fun K hK => ?_)
         refine goes_ Try.func47 (by kernel_rfl) rfl #[.agg #[.int .i64 t298, .int .i64 t299, .int .i64 t300, .int .i64 t301, .int .i64 t302, .int .i64 t303, .int .i64 t304, .int .i64 t305]] (by rfl) rfl rfl (by (try simp only [List.map_toArray, List.map_cons, List.map_nil]); first | done | rfl | (simp only [List.length_drop, List.length_take]; rfl)) ?_
         with_reducible refine (item_Rank.calls k2 t298 t299 t300 t301 t302 t303 t304 t305 t308 _ A29.out).mono ?_
         rintro e w67 ⟨rfl, hb⟩
         refine ⟨_, rfl, ?_⟩
         have n0_ := Aside0.mk (blk_below (g := gb293) (o := .cells #[.int .i64 x294000_2, .int .i64 x294001_2, .int .i64 x294002_2, .int .i64 x294003_2, .int .i64 x294004_2, .int .i64 x294005_2, .int .i64 x294006_2, .int .i64 x294007_2] 53 (0, 0)) (by (with_reducible repeat (first | refine blk_drewN ?_ _ | refine blk_drew ?_ | refine blk_alloc ?_ _)); exact BK293.out) hb)
         have n1_ := Aside0.mk (blk_below (g := gb297) (o := .cells #[.int .i64 ((rd_T93 l1 x21_2).f0), .int .i64 ((rd_T93 l1 x21_2).f1)] 93 (0, 0)) (by (with_reducible repeat (first | refine blk_drewN ?_ _ | refine blk_drew ?_ | refine blk_alloc ?_ _)); exact BK297.out) hb)
         have n2_ := Aside0.mk (blk_below (g := gb307) (o := .cells #[.int .i64 t298, .int .i64 t299, .int .i64 t300, .int .i64 t301, .int .i64 t302, .int .i64 t303, .int .i64 t304, .int .i64 t305] 53 (0, 0)) (by (with_reducible repeat (first | refine blk_drewN ?_ _ | refine blk_drew ?_ | refine blk_alloc ?_ _)); exact BK307.out) hb)
         have n3_ := Aside0.mk (below_step (by repeat (first | (with_reducible first | exact HB.out | apply below_alloc | apply pw_below_drewN | apply below_drew1 | refine below_set ?_ GE293.out | refine below_set ?_ GE297.out | refine below_set ?_ GE307.out) | exact HB.out)) hb)
         clear BK293
         clear BK297
         clear BK307
         clear HB
         have BK293 := n0_
         have BK297 := n1_
         have BK307 := n2_
         have HB := n3_
         clear n0_ n1_ n2_ n3_
         (try clear hb)
         (try clear hb2)
         (try clear hk)
         (try clear hi)
         refine hK.out _ _ ⟨(blk_cell BK307.out 0).trans rfl, (blk_cell BK307.out 1).trans rfl, (blk_cell BK307.out 2).trans rfl, (blk_cell BK307.out 3).trans rfl, (blk_cell BK307.out 4).trans rfl, (blk_cell BK307.out 5).trans rfl, (blk_cell BK307.out 6).trans rfl, (blk_cell BK307.out 7).trans rfl, (blk_cell BK293.out 0).trans rfl, (blk_cell BK293.out 1).trans rfl, (blk_cell BK293.out 2).trans rfl, (blk_cell BK293.out 3).trans rfl, (blk_cell BK293.out 4).trans rfl, (blk_cell BK293.out 5).trans rfl, (blk_cell BK293.out 6).trans rfl, (blk_cell BK293.out 7).trans rfl⟩ (fun hHeld => ?_)
         clear hK K
         refine norm_ (a' := ?_) ?_ ?_
         rotate_left
         ·show Act.put _ (some 35) _ = _
          simp only [Act.put, z1, z2, z3, z4, z5]
          rfl
         refine one_ (i := 3) (N := some 37) q4 rfl rfl (one_of HT_.out (by kernel_rfl)) (by decide) (fun K hK => ?_)
         refine goes_ Try.func47 (by kernel_rfl) rfl #[.agg #[.int .i64 x294000_2, .int .i64 x294001_2, .int .i64 x294002_2, .int .i64 x294003_2, .int .i64 x294004_2, .int .i64 x294005_2, .int .i64 x294006_2, .int .i64 x294007_2]] (by rfl) rfl rfl (by (try simp only [List.map_toArray, List.map_cons, List.map_nil]); first | done | rfl | (simp only [List.length_drop, List.length_take]; rfl)) ?_
         with_reducible refine (item_Rank.calls k2 x294000_2 x294001_2 x294002_2 x294003_2 x294004_2 x294005_2 x294006_2 x294007_2 t309 _ A30.out).mono ?_
         rintro e w68 ⟨rfl, hb⟩
         refine ⟨_, rfl, ?_⟩
         have n0_ := Aside0.mk (blk_below (g := gb293) (o := .cells #[.int .i64 x294000_2, .int .i64 x294001_2, .int .i64 x294002_2, .int .i64 x294003_2, .int .i64 x294004_2, .int .i64 x294005_2, .int .i64 x294006_2, .int .i64 x294007_2] 53 (0, 0)) (by (with_reducible repeat (first | refine blk_drewN ?_ _ | refine blk_drew ?_ | refine blk_alloc ?_ _)); exact BK293.out) hb)
         have n1_ := Aside0.mk (blk_below (g := gb297) (o := .cells #[.int .i64 ((rd_T93 l1 x21_2).f0), .int .i64 ((rd_T93 l1 x21_2).f1)] 93 (0, 0)) (by (with_reducible repeat (first | refine blk_drewN ?_ _ | refine blk_drew ?_ | refine blk_alloc ?_ _)); exact BK297.out) hb)
         have n2_ := Aside0.mk (blk_below (g := gb307) (o := .cells #[.int .i64 t298, .int .i64 t299, .int .i64 t300, .int .i64 t301, .int .i64 t302, .int .i64 t303, .int .i64 t304, .int .i64 t305] 53 (0, 0)) (by (with_reducible repeat (first | refine blk_drewN ?_ _ | refine blk_drew ?_ | refine blk_alloc ?_ _)); exact BK307.out) hb)
         have n3_ := Aside0.mk (below_step (by repeat (first | (with_reducible first | exact HB.out | apply below_alloc | apply pw_below_drewN | apply below_drew1 | refine below_set ?_ GE293.out | refine below_set ?_ GE297.out | refine below_set ?_ GE307.out) | exact HB.out)) hb)
         clear BK293
         clear BK297
         clear BK307
         clear HB
         have BK293 := n0_
         have BK297 := n1_
         have BK307 := n2_
         have HB := n3_
         clear n0_ n1_ n2_ n3_
         (try clear hb)
         (try clear hb2)
         (try clear hk)
         (try clear hi)
         refine hK.out _ _ ⟨(blk_cell BK307.out 0).trans rfl, (blk_cell BK307.out 1).trans rfl, (blk_cell BK307.out 2).trans rfl, (blk_cell BK307.out 3).trans rfl, (blk_cell BK307.out 4).trans rfl, (blk_cell BK307.out 5).trans rfl, (blk_cell BK307.out 6).trans rfl, (blk_cell BK307.out 7).trans rfl, (blk_cell BK293.out 0).trans rfl, (blk_cell BK293.out 1).trans rfl, (blk_cell BK293.out 2).trans rfl, (blk_cell BK293.out 3).trans rfl, (blk_cell BK293.out 4).trans rfl, (blk_cell BK293.out 5).trans rfl, (blk_cell BK293.out 6).trans rfl, (blk_cell BK293.out 7).trans rfl⟩ (fun hHeld => ?_)
         clear hK K
         refine norm_ (a' := ?_) ?_ ?_
         rotate_left
         ·show Act.put _ (some 37) _ = _
          simp only [Act.put, z1, z2, z3, z4, z5]
          rfl
         refine pure_ (i := 4) (N := some 38) (v := ?_) (a' := ?_) q5 rfl rfl (any_of HT_.out (by kernel_rfl)) (fun _ _ _ h => h) (Or.inl ⟨by rfl, ?_⟩) ?_ ?_
         rotate_left; ·intro w'; go_simp; with_reducible rfl
         rotate_left; ·simp only [Act.put, z1, z2, z3, z4, z5]; rfl
         refine pure_ (i := 5) (N := some 39) (v := ?_) (a' := ?_) q6 rfl rfl (any_of HT_.out (by kernel_rfl)) (fun _ _ _ h => h) (Or.inl ⟨by rfl, ?_⟩) ?_ ?_
         rotate_left; ·intro w'; go_simp; with_reducible rfl
         rotate_left; ·simp only [Act.put, z1, z2, z3, z4, z5]; rfl
         refine pure_ (i := 6) (N := some 40) (v := ?_) (a' := ?_) q7 rfl rfl (any_of HT_.out (by kernel_rfl)) (fun _ _ _ h => h) (Or.inl ⟨by rfl, ?_⟩) ?_ ?_
         rotate_left; ·intro w'; go_simp; with_reducible rfl
         rotate_left; ·simp only [Act.put, z1, z2, z3, z4, z5]; rfl
         refine pure_ (i := 8) (N := some 42) (v := ?_) (a' := ?_) q8 rfl rfl (any_of HT_.out (by kernel_rfl)) (fun _ _ _ h => h) (Or.inl ⟨by rfl, ?_⟩) ?_ ?_
         rotate_left; ·intro w'; go_simp; with_reducible rfl
         rotate_left; ·simp only [Act.put, z1, z2, z3, z4, z5]; rfl
         refine take_ (i := 7) (N := some 41) (v := ?_) (a' := ?_) q9 rfl rfl (take_ofW HT_.out HW_.out (by kernel_rfl)) (fun _ _ _ h => h) (Or.inl ⟨by rfl, ?_⟩) hHeld ?_ ?_
         rotate_left; ·rintro w' ⟨s0, s1, s2, s3, s4, s5, s6, s7, s8, s9, s10, s11, s12, s13, s14, s15⟩; go_simp; with_reducible rfl
         rotate_left; ·simp only [Act.put, z1, z2, z3, z4, z5]; rfl
         refine take_ (i := 9) (N := some 43) (v := ?_) (a' := ?_) q10 rfl rfl (take_ofW HT_.out HW_.out (by kernel_rfl)) (fun _ _ _ h => h) (Or.inl ⟨by rfl, ?_⟩) hHeld ?_ ?_
         rotate_left; ·rintro w' ⟨s0, s1, s2, s3, s4, s5, s6, s7, s8, s9, s10, s11, s12, s13, s14, s15⟩; go_simp; with_reducible rfl
         rotate_left; ·simp only [Act.put, z1, z2, z3, z4, z5]; rfl
         refine pure_ (i := 10) (N := some 44) (v := ?_) (a' := ?_) q11 rfl rfl (any_of HT_.out (by kernel_rfl)) (fun _ _ _ h => h) (Or.inl ⟨by rfl, ?_⟩) ?_ ?_
         rotate_left; ·intro w'; go_simp; with_reducible rfl
         rotate_left; ·simp only [Act.put, z1, z2, z3, z4, z5]; rfl
         refine pure_ (i := 11) (N := some 45) (v := ?_) (a' := ?_) q12 rfl rfl (any_of HT_.out (by kernel_rfl)) (fun _ _ _ h => h) (Or.inl ⟨by rfl, ?_⟩) ?_ ?_
         rotate_left; ·intro w'; go_simp; with_reducible rfl
         rotate_left; ·simp only [Act.put, z1, z2, z3, z4, z5]; rfl
         refine pure_ (i := 12) (N := some 46) (v := ?_) (a' := ?_) q13 rfl rfl (any_of HT_.out (by kernel_rfl)) (fun _ _ _ h => h) (Or.inl ⟨by rfl, ?_⟩) ?_ ?_
         rotate_left; ·intro w'; go_simp; with_reducible rfl
         rotate_left; ·simp only [Act.put, z1, z2, z3, z4, z5]; rfl
         refine pure_ (i := 13) (N := some 47) (v := ?_) (a' := ?_) q14 rfl rfl (any_of HT_.out (by kernel_rfl)) (fun _ _ _ h => h) (Or.inl ⟨by rfl, ?_⟩) ?_ ?_
         rotate_left; ·intro w'; go_simp; with_reducible rfl
         rotate_left; ·simp only [Act.put, z1, z2, z3, z4, z5]; rfl
         refine pure_ (i := 15) (N := some 49) (v := ?_) (a' := ?_) q15 rfl rfl (any_of HT_.out (by kernel_rfl)) (fun _ _ _ h => h) (Or.inl ⟨by rfl, ?_⟩) ?_ ?_
         rotate_left; ·intro w'; go_simp; with_reducible rfl
         rotate_left; ·simp only [Act.put, z1, z2, z3, z4, z5]; rfl
         refine take_ (i := 14) (N := some 48) (v := ?_) (a' := ?_) q16 rfl rfl (take_ofW HT_.out HW_.out (by kernel_rfl)) (fun _ _ _ h => h) (Or.inl ⟨by rfl, ?_⟩) hHeld ?_ ?_
         rotate_left; ·rintro w' ⟨s0, s1, s2, s3, s4, s5, s6, s7, s8, s9, s10, s11, s12, s13, s14, s15⟩; go_simp; with_reducible rfl
         rotate_left; ·simp only [Act.put, z1, z2, z3, z4, z5]; rfl
         refine take_ (i := 16) (N := some 50) (v := ?_) (a' := ?_) q17 rfl rfl (take_ofW HT_.out HW_.out (by kernel_rfl)) (fun _ _ _ h => h) (Or.inl ⟨by rfl, ?_⟩) hHeld ?_ ?_
         rotate_left; ·rintro w' ⟨s0, s1, s2, s3, s4, s5, s6, s7, s8, s9, s10, s11, s12, s13, s14, s15⟩; go_simp; with_reducible rfl
         rotate_left; ·simp only [Act.put, z1, z2, z3, z4, z5]; rfl
         refine pure_ (i := 17) (N := some 51) (v := ?_) (a' := ?_) q18 rfl rfl (any_of HT_.out (by kernel_rfl)) (fun _ _ _ h => h) (Or.inl ⟨by rfl, ?_⟩) ?_ ?_
         rotate_left; ·intro w'; go_simp; with_reducible rfl
         rotate_left; ·simp only [Act.put, z1, z2, z3, z4, z5]; rfl
         refine pure_ (i := 18) (N := some 52) (v := ?_) (a' := ?_) q19 rfl rfl (any_of HT_.out (by kernel_rfl)) (fun _ _ _ h => h) (Or.inl ⟨by rfl, ?_⟩) ?_ ?_
         rotate_left; ·intro w'; go_simp; with_reducible rfl
         rotate_left; ·simp only [Act.put, z1, z2, z3, z4, z5]; rfl
         refine pure_ (i := 19) (N := some 53) (v := ?_) (a' := ?_) q20 rfl rfl (any_of HT_.out (by kernel_rfl)) (fun _ _ _ h => h) (Or.inl ⟨by rfl, ?_⟩) ?_ ?_
         rotate_left; ·intro w'; go_simp; with_reducible rfl
         rotate_left; ·simp only [Act.put, z1, z2, z3, z4, z5]; rfl
         refine pure_ (i := 20) (N := some 54) (v := ?_) (a' := ?_) q21 rfl rfl (any_of HT_.out (by kernel_rfl)) (fun _ _ _ h => h) (Or.inl ⟨by rfl, ?_⟩) ?_ ?_
         rotate_left; ·intro w'; go_simp; with_reducible rfl
         rotate_left; ·simp only [Act.put, z1, z2, z3, z4, z5]; rfl
         refine pure_ (i := 22) (N := some 56) (v := ?_) (a' := ?_) q22 rfl rfl (any_of HT_.out (by kernel_rfl)) (fun _ _ _ h => h) (Or.inl ⟨by rfl, ?_⟩) ?_ ?_
         rotate_left; ·intro w'; go_simp; with_reducible rfl
         rotate_left; ·simp only [Act.put, z1, z2, z3, z4, z5]; rfl
         refine take_ (i := 21) (N := some 55) (v := ?_) (a' := ?_) q23 rfl rfl (take_ofW HT_.out HW_.out (by kernel_rfl)) (fun _ _ _ h => h) (Or.inl ⟨by rfl, ?_⟩) hHeld ?_ ?_
         rotate_left; ·rintro w' ⟨s0, s1, s2, s3, s4, s5, s6, s7, s8, s9, s10, s11, s12, s13, s14, s15⟩; go_simp; with_reducible rfl
         rotate_left; ·simp only [Act.put, z1, z2, z3, z4, z5]; rfl
         refine take_ (i := 23) (N := some 57) (v := ?_) (a' := ?_) q24 rfl rfl (take_ofW HT_.out HW_.out (by kernel_rfl)) (fun _ _ _ h => h) (Or.inl ⟨by rfl, ?_⟩) hHeld ?_ ?_
         rotate_left; ·rintro w' ⟨s0, s1, s2, s3, s4, s5, s6, s7, s8, s9, s10, s11, s12, s13, s14, s15⟩; go_simp; with_reducible rfl
         rotate_left; ·simp only [Act.put, z1, z2, z3, z4, z5]; rfl
         refine pure_ (i := 24) (N := some 58) (v := ?_) (a' := ?_) q25 rfl rfl (any_of HT_.out (by kernel_rfl)) (fun _ _ _ h => h) (Or.inl ⟨by rfl, ?_⟩) ?_ ?_
         rotate_left; ·intro w'; go_simp; with_reducible rfl
         rotate_left; ·simp only [Act.put, z1, z2, z3, z4, z5]; rfl
         refine pure_ (i := 25) (N := some 59) (v := ?_) (a' := ?_) q26 rfl rfl (any_of HT_.out (by kernel_rfl)) (fun _ _ _ h => h) (Or.inl ⟨by rfl, ?_⟩) ?_ ?_
         rotate_left; ·intro w'; go_simp; with_reducible rfl
         rotate_left; ·simp only [Act.put, z1, z2, z3, z4, z5]; rfl
         refine pure_ (i := 26) (N := some 60) (v := ?_) (a' := ?_) q27 rfl rfl (any_of HT_.out (by kernel_rfl)) (fun _ _ _ h => h) (Or.inl ⟨by rfl, ?_⟩) ?_ ?_
         rotate_left; ·intro w'; go_simp; with_reducible rfl
         rotate_left; ·simp only [Act.put, z1, z2, z3, z4, z5]; rfl
         refine pure_ (i := 27) (N := some 61) (v := ?_) (a' := ?_) q28 rfl rfl (any_of HT_.out (by kernel_rfl)) (fun _ _ _ h => h) (Or.inl ⟨by rfl, ?_⟩) ?_ ?_
         rotate_left; ·intro w'; go_simp; with_reducible rfl
         rotate_left; ·simp only [Act.put, z1, z2, z3, z4, z5]; rfl
         refine take_ (i := 28) (N := some 62) (v := ?_) (a' := ?_) q29 rfl rfl (take_ofW HT_.out HW_.out (by kernel_rfl)) (fun _ _ _ h => h) (Or.inl ⟨by rfl, ?_⟩) hHeld ?_ ?_
         rotate_left; ·rintro w' ⟨s0, s1, s2, s3, s4, s5, s6, s7, s8, s9, s10, s11, s12, s13, s14, s15⟩; go_simp; with_reducible rfl
         rotate_left; ·simp only [Act.put, z1, z2, z3, z4, z5]; rfl
         refine pure_ (i := 29) (N := some 63) (v := ?_) (a' := ?_) q30 rfl rfl (any_of HT_.out (by kernel_rfl)) (fun _ _ _ h => h) (Or.inl ⟨by rfl, ?_⟩) ?_ ?_
         rotate_left; ·intro w'; go_simp; with_reducible rfl
         rotate_left; ·simp only [Act.put, z1, z2, z3, z4, z5]; rfl
         refine pure_ (i := 30) (N := some 64) (v := ?_) (a' := ?_) q31 rfl rfl (any_of HT_.out (by kernel_rfl)) (fun _ _ _ h => h) (Or.inl ⟨by rfl, ?_⟩) ?_ ?_
         rotate_left; ·intro w'; go_simp; with_reducible rfl
         rotate_left; ·simp only [Act.put, z1, z2, z3, z4, z5]; rfl
         refine pure_ (i := 31) (N := some 65) (v := undef) (a' := ?_) q32 rfl rfl (any_of HT_.out (by kernel_rfl)) (fun _ _ _ h => h) (Or.inr ⟨by rfl, rfl⟩) ?_ ?_
         rotate_left; ·simp only [Act.put, z1, z2, z3, z4, z5]; rfl
         refine pure_ (i := 32) (N := some 66) (v := undef) (a' := ?_) q57 rfl rfl (any_of HT_.out (by kernel_rfl)) (fun _ _ _ h => h) (Or.inr ⟨by rfl, rfl⟩) ?_ ?_
         rotate_left; ·simp only [Act.put, z1, z2, z3, z4, z5]; rfl
         refine pure_ (i := 33) (N := some 67) (v := undef) (a' := ?_) q34 rfl rfl (any_of HT_.out (by kernel_rfl)) (fun _ _ _ h => h) (Or.inr ⟨by rfl, rfl⟩) ?_ ?_
         rotate_left; ·simp only [Act.put, z1, z2, z3, z4, z5]; rfl
         refine pure_ (i := 34) (N := some 68) (v := undef) (a' := ?_) q35 rfl rfl (any_of HT_.out (by kernel_rfl)) (fun _ _ _ h => h) (Or.inr ⟨by rfl, rfl⟩) ?_ ?_
         rotate_left; ·simp only [Act.put, z1, z2, z3, z4, z5]; rfl
         refine pure_ (i := 35) (N := some 69) (v := undef) (a' := ?_) q36 rfl rfl (any_of HT_.out (by kernel_rfl)) (fun _ _ _ h => h) (Or.inr ⟨by rfl, rfl⟩) ?_ ?_
         rotate_left; ·simp only [Act.put, z1, z2, z3, z4, z5]; rfl
         refine pure_ (i := 36) (N := some 70) (v := ?_) (a' := ?_) q37 rfl rfl (any_of HT_.out (by kernel_rfl)) (fun _ _ _ h => h) (Or.inl ⟨by rfl, ?_⟩) ?_ ?_
         rotate_left; ·intro w'; go_simp; with_reducible rfl
         rotate_left; ·simp only [Act.put, z1, z2, z3, z4, z5]; rfl
         refine pure_ (i := 37) (N := some 71) (v := ?_) (a' := ?_) q38 rfl rfl (any_of HT_.out (by kernel_rfl)) (fun _ _ _ h => h) (Or.inl ⟨by rfl, ?_⟩) ?_ ?_
         rotate_left; ·intro w'; go_simp; with_reducible rfl
         rotate_left; ·simp only [Act.put, z1, z2, z3, z4, z5]; rfl
         refine pure_ (i := 38) (N := some 72) (v := ?_) (a' := ?_) q39 rfl rfl (any_of HT_.out (by kernel_rfl)) (fun _ _ _ h => h) (Or.inl ⟨by rfl, ?_⟩) ?_ ?_
         rotate_left; ·intro w'; go_simp; with_reducible rfl
         rotate_left; ·simp only [Act.put, z1, z2, z3, z4, z5]; rfl
         refine take_ (i := 39) (N := some 73) (v := ?_) (a' := ?_) q40 rfl rfl (take_ofW HT_.out HW_.out (by kernel_rfl)) (fun _ _ _ h => h) (Or.inl ⟨by rfl, ?_⟩) hHeld ?_ ?_
         rotate_left; ·rintro w' ⟨s0, s1, s2, s3, s4, s5, s6, s7, s8, s9, s10, s11, s12, s13, s14, s15⟩; go_simp; with_reducible rfl
         rotate_left; ·simp only [Act.put, z1, z2, z3, z4, z5]; rfl
         refine one_ (i := 40) (N := some 74) q41 rfl rfl (one_of HT_.out (by kernel_rfl)) (by decide) (fun K hK => ?_)
         refine goes_ Try.func32 (by kernel_rfl) rfl #[.agg #[.int .i64 x294000_2, .int .i64 x294001_2, .int .i64 x294002_2, .int .i64 x294003_2, .int .i64 x294004_2, .int .i64 x294005_2, .int .i64 x294006_2, .int .i64 x294007_2]] (by rfl) rfl rfl (by (try simp only [List.map_toArray, List.map_cons, List.map_nil]); first | done | rfl | (simp only [List.length_drop, List.length_take]; rfl)) ?_
         with_reducible refine (item_Over.calls x294000_2 x294001_2 x294002_2 x294003_2 x294004_2 x294005_2 x294006_2 x294007_2 false _ A62.out).mono ?_
         rintro e w69 ⟨rfl, hb⟩
         refine ⟨_, rfl, ?_⟩
         have n0_ := Aside0.mk (blk_below (g := gb293) (o := .cells #[.int .i64 x294000_2, .int .i64 x294001_2, .int .i64 x294002_2, .int .i64 x294003_2, .int .i64 x294004_2, .int .i64 x294005_2, .int .i64 x294006_2, .int .i64 x294007_2] 53 (0, 0)) (by (with_reducible repeat (first | refine blk_drewN ?_ _ | refine blk_drew ?_ | refine blk_alloc ?_ _)); exact BK293.out) hb)
         have n1_ := Aside0.mk (blk_below (g := gb297) (o := .cells #[.int .i64 ((rd_T93 l1 x21_2).f0), .int .i64 ((rd_T93 l1 x21_2).f1)] 93 (0, 0)) (by (with_reducible repeat (first | refine blk_drewN ?_ _ | refine blk_drew ?_ | refine blk_alloc ?_ _)); exact BK297.out) hb)
         have n2_ := Aside0.mk (blk_below (g := gb307) (o := .cells #[.int .i64 t298, .int .i64 t299, .int .i64 t300, .int .i64 t301, .int .i64 t302, .int .i64 t303, .int .i64 t304, .int .i64 t305] 53 (0, 0)) (by (with_reducible repeat (first | refine blk_drewN ?_ _ | refine blk_drew ?_ | refine blk_alloc ?_ _)); exact BK307.out) hb)
         have n3_ := Aside0.mk (below_step (by repeat (first | (with_reducible first | exact HB.out | apply below_alloc | apply pw_below_drewN | apply below_drew1 | refine below_set ?_ GE293.out | refine below_set ?_ GE297.out | refine below_set ?_ GE307.out) | exact HB.out)) hb)
         clear BK293
         clear BK297
         clear BK307
         clear HB
         have BK293 := n0_
         have BK297 := n1_
         have BK307 := n2_
         have HB := n3_
         clear n0_ n1_ n2_ n3_
         (try clear hb)
         (try clear hb2)
         (try clear hk)
         (try clear hi)
         refine hK.out _ _ ⟨(blk_cell BK307.out 0).trans rfl, (blk_cell BK307.out 1).trans rfl, (blk_cell BK307.out 2).trans rfl, (blk_cell BK307.out 3).trans rfl, (blk_cell BK307.out 4).trans rfl, (blk_cell BK307.out 5).trans rfl, (blk_cell BK307.out 6).trans rfl, (blk_cell BK307.out 7).trans rfl, (blk_cell BK293.out 0).trans rfl, (blk_cell BK293.out 1).trans rfl, (blk_cell BK293.out 2).trans rfl, (blk_cell BK293.out 3).trans rfl, (blk_cell BK293.out 4).trans rfl, (blk_cell BK293.out 5).trans rfl, (blk_cell BK293.out 6).trans rfl, (blk_cell BK293.out 7).trans rfl⟩ (fun hHeld => ?_)
         clear hK K
         refine norm_ (a' := ?_) ?_ ?_
         rotate_left
         ·show Act.put _ (some 74) _ = _
          simp only [Act.put, z1, z2, z3, z4, z5]
          rfl
         refine pure_ (i := 41) (N := some 75) (v := ?_) (a' := ?_) q42 rfl rfl (any_of HT_.out (by kernel_rfl)) (fun _ _ _ h => h) (Or.inl ⟨by rfl, ?_⟩) ?_ ?_
         rotate_left; ·intro w'; go_simp; with_reducible rfl
         rotate_left; ·simp only [Act.put, z1, z2, z3, z4, z5]; rfl
         refine pure_ (i := 42) (N := some 76) (v := undef) (a' := ?_) q43 rfl rfl (any_of HT_.out (by kernel_rfl)) (fun _ _ _ h => h) (Or.inr ⟨by rfl, rfl⟩) ?_ ?_
         rotate_left; ·simp only [Act.put, z1, z2, z3, z4, z5]; rfl
         refine pure_ (i := 43) (N := some 77) (v := undef) (a' := ?_) q44 rfl rfl (any_of HT_.out (by kernel_rfl)) (fun _ _ _ h => h) (Or.inr ⟨by rfl, rfl⟩) ?_ ?_
         rotate_left; ·simp only [Act.put, z1, z2, z3, z4, z5]; rfl
         refine pure_ (i := 44) (N := some 78) (v := undef) (a' := ?_) q45 rfl rfl (any_of HT_.out (by kernel_rfl)) (fun _ _ _ h => h) (Or.inr ⟨by rfl, rfl⟩) ?_ ?_
         rotate_left; ·simp only [Act.put, z1, z2, z3, z4, z5]; rfl
         refine pure_ (i := 45) (N := some 79) (v := ?_) (a' := ?_) q46 rfl rfl (any_of HT_.out (by kernel_rfl)) (fun _ _ _ h => h) (Or.inl ⟨by rfl, ?_⟩) ?_ ?_
         rotate_left; ·intro w'; go_simp; with_reducible rfl
         rotate_left; ·simp only [Act.put, z1, z2, z3, z4, z5]; rfl
         refine pure_ (i := 46) (N := some 80) (v := ?_) (a' := ?_) q47 rfl rfl (any_of HT_.out (by kernel_rfl)) (fun _ _ _ h => h) (Or.inl ⟨by rfl, ?_⟩) ?_ ?_
         rotate_left; ·intro w'; go_simp; with_reducible rfl
         rotate_left; ·simp only [Act.put, z1, z2, z3, z4, z5]; rfl
         refine pure_ (i := 47) (N := some 81) (v := ?_) (a' := ?_) q48 rfl rfl (any_of HT_.out (by kernel_rfl)) (fun _ _ _ h => h) (Or.inl ⟨by rfl, ?_⟩) ?_ ?_
         rotate_left; ·intro w'; go_simp; with_reducible rfl
         rotate_left; ·simp only [Act.put, z1, z2, z3, z4, z5]; rfl
         refine pure_ (i := 48) (N := some 82) (v := ?_) (a' := ?_) q49 rfl rfl (any_of HT_.out (by kernel_rfl)) (fun _ _ _ h => h) (Or.inl ⟨by rfl, ?_⟩) ?_ ?_
         rotate_left; ·intro w'; go_simp; with_reducible rfl
         rotate_left; ·simp only [Act.put, z1, z2, z3, z4, z5]; rfl
         refine pure_ (i := 49) (N := some 83) (v := ?_) (a' := ?_) q50 rfl rfl (any_of HT_.out (by kernel_rfl)) (fun _ _ _ h => h) (Or.inl ⟨by rfl, ?_⟩) ?_ ?_
         rotate_left; ·intro w'; go_simp; with_reducible rfl
         rotate_left; ·simp only [Act.put, z1, z2, z3, z4, z5]; rfl
         refine pure_ (i := 50) (N := some 84) (v := ?_) (a' := ?_) q51 rfl rfl (any_of HT_.out (by kernel_rfl)) (fun _ _ _ h => h) (Or.inl ⟨by rfl, ?_⟩) ?_ ?_
         rotate_left; ·intro w'; go_simp; with_reducible rfl
         rotate_left; ·simp only [Act.put, z1, z2, z3, z4, z5]; rfl
         refine pure_ (i := 51) (N := some 85) (v := undef) (a' := ?_) q52 rfl rfl (any_of HT_.out (by kernel_rfl)) (fun _ _ _ h => h) (Or.inr ⟨by rfl, rfl⟩) ?_ ?_
         rotate_left; ·simp only [Act.put, z1, z2, z3, z4, z5]; rfl
         refine pure_ (i := 52) (N := some 86) (v := undef) (a' := ?_) q53 rfl rfl (any_of HT_.out (by kernel_rfl)) (fun _ _ _ h => h) (Or.inr ⟨by rfl, rfl⟩) ?_ ?_
         rotate_left; ·simp only [Act.put, z1, z2, z3, z4, z5]; rfl
         refine pure_ (i := 53) (N := some 87) (v := undef) (a' := ?_) q54 rfl rfl (any_of HT_.out (by kernel_rfl)) (fun _ _ _ h => h) (Or.inr ⟨by rfl, rfl⟩) ?_ ?_
         rotate_left; ·simp only [Act.put, z1, z2, z3, z4, z5]; rfl
         refine pure_ (i := 54) (N := some 88) (v := ?_) (a' := ?_) q55 rfl rfl (any_of HT_.out (by kernel_rfl)) (fun _ _ _ h => h) (Or.inl ⟨by rfl, ?_⟩) ?_ ?_
         rotate_left; ·intro w'; go_simp; with_reducible rfl
         rotate_left; ·simp only [Act.put, z1, z2, z3, z4, z5]; rfl
         refine pure_ (i := 55) (N := some 89) (v := ?_) (a' := ?_) q56 rfl rfl (any_of HT_.out (by kernel_rfl)) (fun _ _ _ h => h) (Or.inl ⟨by rfl, ?_⟩) ?_ ?_
         rotate_left; ·intro w'; go_simp; with_reducible rfl
         rotate_left; ·simp only [Act.put, z1, z2, z3, z4, z5]; rfl
         refine done_ (done_of HT_.out (by kernel_rfl)) ?_
         try go_wp2
         go_meet
         case rel => exact ⟨_, (false), (by first | rfl | (simp; done) | (simp [*]; done)), H', ⟨by have := HJ4.out; have := HK2.out; first | omega | exact Nat.le_refl _⟩, ⟨by (with_reducible repeat (first | refine blk_drewN ?_ _ | refine blk_drew ?_ | refine blk_alloc ?_ _)); exact BK293.out⟩, ⟨by (with_reducible repeat (first | refine blk_drewN ?_ _ | refine blk_drew ?_ | refine blk_alloc ?_ _)); exact BK297.out⟩, ⟨by (with_reducible repeat (first | refine blk_drewN ?_ _ | refine blk_drew ?_ | refine blk_alloc ?_ _)); exact BK307.out⟩, ⟨by repeat (first | (with_reducible first | exact HB.out | apply below_alloc | apply pw_below_drewN | apply below_drew1 | refine below_set ?_ GE293.out | refine below_set ?_ GE297.out | refine below_set ?_ GE307.out) | exact HB.out)⟩⟩
        rw [if_neg c64] at H
        have c64b0 : (t306 == 0) = false := beq_eq_false_iff_ne.mpr c64
        have c64b1 : (t306 != 0) = true := bne_iff_ne.mpr c64
        clear c64
        have H' := Aside0.mk H
        clear H
        try go_wp2
        have n0_ : Aside0 (((((((((w25.setCell ⟨gb307, 0, none⟩ (.int .i64 t298)).setCell ⟨gb307, 1, none⟩ (.int .i64 t299)).setCell ⟨gb307, 2, none⟩ (.int .i64 t300)).setCell ⟨gb307, 3, none⟩ (.int .i64 t301)).setCell ⟨gb307, 4, none⟩ (.int .i64 t302)).setCell ⟨gb307, 5, none⟩ (.int .i64 t303)).setCell ⟨gb307, 6, none⟩ (.int .i64 t304)).setCell ⟨gb307, 7, none⟩ (.int .i64 t305)).heap[gb293]? = some (.cells #[.int .i64 x294000_2, .int .i64 x294001_2, .int .i64 x294002_2, .int .i64 x294003_2, .int .i64 x294004_2, .int .i64 x294005_2, .int .i64 x294006_2, .int .i64 x294007_2] 53 (0, 0))) := ⟨by (with_reducible repeat (first | refine blk_drewN ?_ _ | refine blk_drew ?_ | refine blk_alloc ?_ _)); refine blk_far ?_ NB293_307.out _; (with_reducible repeat (first | refine blk_drewN ?_ _ | refine blk_drew ?_ | refine blk_alloc ?_ _)); refine blk_far ?_ NB293_307.out _; (with_reducible repeat (first | refine blk_drewN ?_ _ | refine blk_drew ?_ | refine blk_alloc ?_ _)); refine blk_far ?_ NB293_307.out _; (with_reducible repeat (first | refine blk_drewN ?_ _ | refine blk_drew ?_ | refine blk_alloc ?_ _)); refine blk_far ?_ NB293_307.out _; (with_reducible repeat (first | refine blk_drewN ?_ _ | refine blk_drew ?_ | refine blk_alloc ?_ _)); refine blk_far ?_ NB293_307.out _; (with_reducible repeat (first | refine blk_drewN ?_ _ | refine blk_drew ?_ | refine blk_alloc ?_ _)); refine blk_far ?_ NB293_307.out _; (with_reducible repeat (first | refine blk_drewN ?_ _ | refine blk_drew ?_ | refine blk_alloc ?_ _)); refine blk_far ?_ NB293_307.out _; (with_reducible repeat (first | refine blk_drewN ?_ _ | refine blk_drew ?_ | refine blk_alloc ?_ _)); refine blk_far ?_ NB293_307.out _; (with_reducible repeat (first | refine blk_drewN ?_ _ | refine blk_drew ?_ | refine blk_alloc ?_ _)); exact BK293.out⟩
        have n1_ : Aside0 (((((((((w25.setCell ⟨gb307, 0, none⟩ (.int .i64 t298)).setCell ⟨gb307, 1, none⟩ (.int .i64 t299)).setCell ⟨gb307, 2, none⟩ (.int .i64 t300)).setCell ⟨gb307, 3, none⟩ (.int .i64 t301)).setCell ⟨gb307, 4, none⟩ (.int .i64 t302)).setCell ⟨gb307, 5, none⟩ (.int .i64 t303)).setCell ⟨gb307, 6, none⟩ (.int .i64 t304)).setCell ⟨gb307, 7, none⟩ (.int .i64 t305)).heap[gb297]? = some (.cells #[.int .i64 ((rd_T93 l1 x21_2).f0), .int .i64 ((rd_T93 l1 x21_2).f1)] 93 (0, 0))) := ⟨by (with_reducible repeat (first | refine blk_drewN ?_ _ | refine blk_drew ?_ | refine blk_alloc ?_ _)); refine blk_far ?_ NB297_307.out _; (with_reducible repeat (first | refine blk_drewN ?_ _ | refine blk_drew ?_ | refine blk_alloc ?_ _)); refine blk_far ?_ NB297_307.out _; (with_reducible repeat (first | refine blk_drewN ?_ _ | refine blk_drew ?_ | refine blk_alloc ?_ _)); refine blk_far ?_ NB297_307.out _; (with_reducible repeat (first | refine blk_drewN ?_ _ | refine blk_drew ?_ | refine blk_alloc ?_ _)); refine blk_far ?_ NB297_307.out _; (with_reducible repeat (first | refine blk_drewN ?_ _ | refine blk_drew ?_ | refine blk_alloc ?_ _)); refine blk_far ?_ NB297_307.out _; (with_reducible repeat (first | refine blk_drewN ?_ _ | refine blk_drew ?_ | refine blk_alloc ?_ _)); refine blk_far ?_ NB297_307.out _; (with_reducible repeat (first | refine blk_drewN ?_ _ | refine blk_drew ?_ | refine blk_alloc ?_ _)); refine blk_far ?_ NB297_307.out _; (with_reducible repeat (first | refine blk_drewN ?_ _ | refine blk_drew ?_ | refine blk_alloc ?_ _)); refine blk_far ?_ NB297_307.out _; (with_reducible repeat (first | refine blk_drewN ?_ _ | refine blk_drew ?_ | refine blk_alloc ?_ _)); exact BK297.out⟩
        have n2_ : Aside0 (((((((((w25.setCell ⟨gb307, 0, none⟩ (.int .i64 t298)).setCell ⟨gb307, 1, none⟩ (.int .i64 t299)).setCell ⟨gb307, 2, none⟩ (.int .i64 t300)).setCell ⟨gb307, 3, none⟩ (.int .i64 t301)).setCell ⟨gb307, 4, none⟩ (.int .i64 t302)).setCell ⟨gb307, 5, none⟩ (.int .i64 t303)).setCell ⟨gb307, 6, none⟩ (.int .i64 t304)).setCell ⟨gb307, 7, none⟩ (.int .i64 t305)).heap[gb307]? = some (.cells #[.int .i64 t298, .int .i64 t299, .int .i64 t300, .int .i64 t301, .int .i64 t302, .int .i64 t303, .int .i64 t304, .int .i64 t305] 53 (0, 0))) := ⟨by (with_reducible repeat (first | refine blk_drewN ?_ _ | refine blk_drew ?_ | refine blk_alloc ?_ _)); refine blk_put (cs := #[.int .i64 t298, .int .i64 t299, .int .i64 t300, .int .i64 t301, .int .i64 t302, .int .i64 t303, .int .i64 t304, .int .i64 0]) ?_ 7 _ rfl; (with_reducible repeat (first | refine blk_drewN ?_ _ | refine blk_drew ?_ | refine blk_alloc ?_ _)); refine blk_put (cs := #[.int .i64 t298, .int .i64 t299, .int .i64 t300, .int .i64 t301, .int .i64 t302, .int .i64 t303, .int .i64 0, .int .i64 0]) ?_ 6 _ rfl; (with_reducible repeat (first | refine blk_drewN ?_ _ | refine blk_drew ?_ | refine blk_alloc ?_ _)); refine blk_put (cs := #[.int .i64 t298, .int .i64 t299, .int .i64 t300, .int .i64 t301, .int .i64 t302, .int .i64 0, .int .i64 0, .int .i64 0]) ?_ 5 _ rfl; (with_reducible repeat (first | refine blk_drewN ?_ _ | refine blk_drew ?_ | refine blk_alloc ?_ _)); refine blk_put (cs := #[.int .i64 t298, .int .i64 t299, .int .i64 t300, .int .i64 t301, .int .i64 0, .int .i64 0, .int .i64 0, .int .i64 0]) ?_ 4 _ rfl; (with_reducible repeat (first | refine blk_drewN ?_ _ | refine blk_drew ?_ | refine blk_alloc ?_ _)); refine blk_put (cs := #[.int .i64 t298, .int .i64 t299, .int .i64 t300, .int .i64 0, .int .i64 0, .int .i64 0, .int .i64 0, .int .i64 0]) ?_ 3 _ rfl; (with_reducible repeat (first | refine blk_drewN ?_ _ | refine blk_drew ?_ | refine blk_alloc ?_ _)); refine blk_put (cs := #[.int .i64 t298, .int .i64 t299, .int .i64 0, .int .i64 0, .int .i64 0, .int .i64 0, .int .i64 0, .int .i64 0]) ?_ 2 _ rfl; (with_reducible repeat (first | refine blk_drewN ?_ _ | refine blk_drew ?_ | refine blk_alloc ?_ _)); refine blk_put (cs := #[.int .i64 t298, .int .i64 0, .int .i64 0, .int .i64 0, .int .i64 0, .int .i64 0, .int .i64 0, .int .i64 0]) ?_ 1 _ rfl; (with_reducible repeat (first | refine blk_drewN ?_ _ | refine blk_drew ?_ | refine blk_alloc ?_ _)); refine blk_put (cs := #[.int .i64 0, .int .i64 0, .int .i64 0, .int .i64 0, .int .i64 0, .int .i64 0, .int .i64 0, .int .i64 0]) ?_ 0 _ rfl; (with_reducible repeat (first | refine blk_drewN ?_ _ | refine blk_drew ?_ | refine blk_alloc ?_ _)); exact BK307.out⟩
        have n3_ : Aside0 (Below w.heap.size w ((((((((w25.setCell ⟨gb307, 0, none⟩ (.int .i64 t298)).setCell ⟨gb307, 1, none⟩ (.int .i64 t299)).setCell ⟨gb307, 2, none⟩ (.int .i64 t300)).setCell ⟨gb307, 3, none⟩ (.int .i64 t301)).setCell ⟨gb307, 4, none⟩ (.int .i64 t302)).setCell ⟨gb307, 5, none⟩ (.int .i64 t303)).setCell ⟨gb307, 6, none⟩ (.int .i64 t304)).setCell ⟨gb307, 7, none⟩ (.int .i64 t305))) := ⟨by repeat (first | (with_reducible first | exact HB.out | apply below_alloc | apply pw_below_drewN | apply below_drew1 | refine below_set ?_ GE293.out | refine below_set ?_ GE297.out | refine below_set ?_ GE307.out) | exact HB.out)⟩
        (try clear BK293)
        (try clear BK297)
        (try clear BK307)
        (try clear HB)
        generalize ((((((((w25.setCell ⟨gb307, 0, none⟩ (.int .i64 t298)).setCell ⟨gb307, 1, none⟩ (.int .i64 t299)).setCell ⟨gb307, 2, none⟩ (.int .i64 t300)).setCell ⟨gb307, 3, none⟩ (.int .i64 t301)).setCell ⟨gb307, 4, none⟩ (.int .i64 t302)).setCell ⟨gb307, 5, none⟩ (.int .i64 t303)).setCell ⟨gb307, 6, none⟩ (.int .i64 t304)).setCell ⟨gb307, 7, none⟩ (.int .i64 t305)) = w70 at n0_ n1_ n2_ n3_ ⊢
        have BK293 := n0_
        have BK297 := n1_
        have BK307 := n2_
        have HB := n3_
        clear n0_ n1_ n2_ n3_
        have n0_ := Aside0.mk (blk_drew BK293.out)
        have n1_ := Aside0.mk (blk_drew BK297.out)
        have n2_ := Aside0.mk (blk_drew BK307.out)
        have n3_ := Aside0.mk (below_drew1 HB.out)
        clear BK293
        clear BK297
        clear BK307
        clear HB
        have BK293 := n0_
        have BK297 := n1_
        have BK307 := n2_
        have HB := n3_
        clear n0_ n1_ n2_ n3_
        refine start_ (n := 56) (S := fun w' => w'.cell? ⟨gb307, 0, none⟩ = some (.int .i64 t298) ∧ w'.cell? ⟨gb307, 1, none⟩ = some (.int .i64 t299) ∧ w'.cell? ⟨gb307, 2, none⟩ = some (.int .i64 t300) ∧ w'.cell? ⟨gb307, 3, none⟩ = some (.int .i64 t301) ∧ w'.cell? ⟨gb307, 4, none⟩ = some (.int .i64 t302) ∧ w'.cell? ⟨gb307, 5, none⟩ = some (.int .i64 t303) ∧ w'.cell? ⟨gb307, 6, none⟩ = some (.int .i64 t304) ∧ w'.cell? ⟨gb307, 7, none⟩ = some (.int .i64 t305) ∧ w'.cell? ⟨gb293, 0, none⟩ = some (.int .i64 x294000_2) ∧ w'.cell? ⟨gb293, 1, none⟩ = some (.int .i64 x294001_2) ∧ w'.cell? ⟨gb293, 2, none⟩ = some (.int .i64 x294002_2) ∧ w'.cell? ⟨gb293, 3, none⟩ = some (.int .i64 x294003_2) ∧ w'.cell? ⟨gb293, 4, none⟩ = some (.int .i64 x294004_2) ∧ w'.cell? ⟨gb293, 5, none⟩ = some (.int .i64 x294005_2) ∧ w'.cell? ⟨gb293, 6, none⟩ = some (.int .i64 x294006_2) ∧ w'.cell? ⟨gb293, 7, none⟩ = some (.int .i64 x294007_2)) (ds := []) q0 (by kernel_rfl) rfl rfl ⟨(blk_cell BK307.out 0).trans rfl, (blk_cell BK307.out 1).trans rfl, (blk_cell BK307.out 2).trans rfl, (blk_cell BK307.out 3).trans rfl, (blk_cell BK307.out 4).trans rfl, (blk_cell BK307.out 5).trans rfl, (blk_cell BK307.out 6).trans rfl, (blk_cell BK307.out 7).trans rfl, (blk_cell BK293.out 0).trans rfl, (blk_cell BK293.out 1).trans rfl, (blk_cell BK293.out 2).trans rfl, (blk_cell BK293.out 3).trans rfl, (blk_cell BK293.out 4).trans rfl, (blk_cell BK293.out 5).trans rfl, (blk_cell BK293.out 6).trans rfl, (blk_cell BK293.out 7).trans rfl⟩ (fun hHeld => ?_); refine with_tabW contralaw09_ItemForward.tab9 contralaw09_ItemForward.bits9 (fun HT_ HW_ => ?_)
        generalize w70.drew = w71 at BK293 BK297 BK307 HB hHeld ⊢
        refine take_ (i := 0) (N := some 34) (v := ?_) (a' := ?_) q1 rfl rfl (take_ofW HT_.out HW_.out (by kernel_rfl)) (fun _ _ _ h => h) (Or.inl ⟨by rfl, ?_⟩) hHeld ?_ ?_
        rotate_left; ·rintro w' ⟨s0, s1, s2, s3, s4, s5, s6, s7, s8, s9, s10, s11, s12, s13, s14, s15⟩; go_simp; with_reducible rfl
        rotate_left; ·simp only [Act.put, z1, z2, z3, z4, z5]; rfl
        refine take_ (i := 2) (N := some 36) (v := ?_) (a' := ?_) q2 rfl rfl (take_ofW HT_.out HW_.out (by kernel_rfl)) (fun _ _ _ h => h) (Or.inl ⟨by rfl, ?_⟩) hHeld ?_ ?_
        rotate_left; ·rintro w' ⟨s0, s1, s2, s3, s4, s5, s6, s7, s8, s9, s10, s11, s12, s13, s14, s15⟩; go_simp; with_reducible rfl
        rotate_left; ·simp only [Act.put, z1, z2, z3, z4, z5]; rfl
        refine one_ (i := 1) (N := some 35) q3 rfl rfl (one_of HT_.out (by kernel_rfl)) (by decide) (fun K hK => ?_)
        refine goes_ Try.func47 (by kernel_rfl) rfl #[.agg #[.int .i64 t298, .int .i64 t299, .int .i64 t300, .int .i64 t301, .int .i64 t302, .int .i64 t303, .int .i64 t304, .int .i64 t305]] (by rfl) rfl rfl (by (try simp only [List.map_toArray, List.map_cons, List.map_nil]); first | done | rfl | (simp only [List.length_drop, List.length_take]; rfl)) ?_
        with_reducible refine (item_Rank.calls k2 t298 t299 t300 t301 t302 t303 t304 t305 t308 _ A29.out).mono ?_
        rintro e w72 ⟨rfl, hb⟩
        refine ⟨_, rfl, ?_⟩
        have n0_ := Aside0.mk (blk_below (g := gb293) (o := .cells #[.int .i64 x294000_2, .int .i64 x294001_2, .int .i64 x294002_2, .int .i64 x294003_2, .int .i64 x294004_2, .int .i64 x294005_2, .int .i64 x294006_2, .int .i64 x294007_2] 53 (0, 0)) (by (with_reducible repeat (first | refine blk_drewN ?_ _ | refine blk_drew ?_ | refine blk_alloc ?_ _)); exact BK293.out) hb)
        have n1_ := Aside0.mk (blk_below (g := gb297) (o := .cells #[.int .i64 ((rd_T93 l1 x21_2).f0), .int .i64 ((rd_T93 l1 x21_2).f1)] 93 (0, 0)) (by (with_reducible repeat (first | refine blk_drewN ?_ _ | refine blk_drew ?_ | refine blk_alloc ?_ _)); exact BK297.out) hb)
        have n2_ := Aside0.mk (blk_below (g := gb307) (o := .cells #[.int .i64 t298, .int .i64 t299, .int .i64 t300, .int .i64 t301, .int .i64 t302, .int .i64 t303, .int .i64 t304, .int .i64 t305] 53 (0, 0)) (by (with_reducible repeat (first | refine blk_drewN ?_ _ | refine blk_drew ?_ | refine blk_alloc ?_ _)); exact BK307.out) hb)
        have n3_ := Aside0.mk (below_step (by repeat (first | (with_reducible first | exact HB.out | apply below_alloc | apply pw_below_drewN | apply below_drew1 | refine below_set ?_ GE293.out | refine below_set ?_ GE297.out | refine below_set ?_ GE307.out) | exact HB.out)) hb)
        clear BK293
        clear BK297
        clear BK307
        clear HB
        have BK293 := n0_
        have BK297 := n1_
        have BK307 := n2_
        have HB := n3_
        clear n0_ n1_ n2_ n3_
        (try clear hb)
        (try clear hb2)
        (try clear hk)
        (try clear hi)
        refine hK.out _ _ ⟨(blk_cell BK307.out 0).trans rfl, (blk_cell BK307.out 1).trans rfl, (blk_cell BK307.out 2).trans rfl, (blk_cell BK307.out 3).trans rfl, (blk_cell BK307.out 4).trans rfl, (blk_cell BK307.out 5).trans rfl, (blk_cell BK307.out 6).trans rfl, (blk_cell BK307.out 7).trans rfl, (blk_cell BK293.out 0).trans rfl, (blk_cell BK293.out 1).trans rfl, (blk_cell BK293.out 2).trans rfl, (blk_cell BK293.out 3).trans rfl, (blk_cell BK293.out 4).trans rfl, (blk_cell BK293.out 5).trans rfl, (blk_cell BK293.out 6).trans rfl, (blk_cell BK293.out 7).trans rfl⟩ (fun hHeld => ?_)
        clear hK K
        refine norm_ (a' := ?_) ?_ ?_
        rotate_left
        ·show Act.put _ (some 35) _ = _
         simp only [Act.put, z1, z2, z3, z4, z5]
         rfl
        refine one_ (i := 3) (N := some 37) q4 rfl rfl (one_of HT_.out (by kernel_rfl)) (by decide) (fun K hK => ?_)
        refine goes_ Try.func47 (by kernel_rfl) rfl #[.agg #[.int .i64 x294000_2, .int .i64 x294001_2, .int .i64 x294002_2, .int .i64 x294003_2, .int .i64 x294004_2, .int .i64 x294005_2, .int .i64 x294006_2, .int .i64 x294007_2]] (by rfl) rfl rfl (by (try simp only [List.map_toArray, List.map_cons, List.map_nil]); first | done | rfl | (simp only [List.length_drop, List.length_take]; rfl)) ?_
        with_reducible refine (item_Rank.calls k2 x294000_2 x294001_2 x294002_2 x294003_2 x294004_2 x294005_2 x294006_2 x294007_2 t309 _ A30.out).mono ?_
        rintro e w73 ⟨rfl, hb⟩
        refine ⟨_, rfl, ?_⟩
        have n0_ := Aside0.mk (blk_below (g := gb293) (o := .cells #[.int .i64 x294000_2, .int .i64 x294001_2, .int .i64 x294002_2, .int .i64 x294003_2, .int .i64 x294004_2, .int .i64 x294005_2, .int .i64 x294006_2, .int .i64 x294007_2] 53 (0, 0)) (by (with_reducible repeat (first | refine blk_drewN ?_ _ | refine blk_drew ?_ | refine blk_alloc ?_ _)); exact BK293.out) hb)
        have n1_ := Aside0.mk (blk_below (g := gb297) (o := .cells #[.int .i64 ((rd_T93 l1 x21_2).f0), .int .i64 ((rd_T93 l1 x21_2).f1)] 93 (0, 0)) (by (with_reducible repeat (first | refine blk_drewN ?_ _ | refine blk_drew ?_ | refine blk_alloc ?_ _)); exact BK297.out) hb)
        have n2_ := Aside0.mk (blk_below (g := gb307) (o := .cells #[.int .i64 t298, .int .i64 t299, .int .i64 t300, .int .i64 t301, .int .i64 t302, .int .i64 t303, .int .i64 t304, .int .i64 t305] 53 (0, 0)) (by (with_reducible repeat (first | refine blk_drewN ?_ _ | refine blk_drew ?_ | refine blk_alloc ?_ _)); exact BK307.out) hb)
        have n3_ := Aside0.mk (below_step (by repeat (first | (with_reducible first | exact HB.out | apply below_alloc | apply pw_below_drewN | apply below_drew1 | refine below_set ?_ GE293.out | refine below_set ?_ GE297.out | refine below_set ?_ GE307.out) | exact HB.out)) hb)
        clear BK293
        clear BK297
        clear BK307
        clear HB
        have BK293 := n0_
        have BK297 := n1_
        have BK307 := n2_
        have HB := n3_
        clear n0_ n1_ n2_ n3_
        (try clear hb)
        (try clear hb2)
        (try clear hk)
        (try clear hi)
        refine hK.out _ _ ⟨(blk_cell BK307.out 0).trans rfl, (blk_cell BK307.out 1).trans rfl, (blk_cell BK307.out 2).trans rfl, (blk_cell BK307.out 3).trans rfl, (blk_cell BK307.out 4).trans rfl, (blk_cell BK307.out 5).trans rfl, (blk_cell BK307.out 6).trans rfl, (blk_cell BK307.out 7).trans rfl, (blk_cell BK293.out 0).trans rfl, (blk_cell BK293.out 1).trans rfl, (blk_cell BK293.out 2).trans rfl, (blk_cell BK293.out 3).trans rfl, (blk_cell BK293.out 4).trans rfl, (blk_cell BK293.out 5).trans rfl, (blk_cell BK293.out 6).trans rfl, (blk_cell BK293.out 7).trans rfl⟩ (fun hHeld => ?_)
        clear hK K
        refine norm_ (a' := ?_) ?_ ?_
        rotate_left
        ·show Act.put _ (some 37) _ = _
         simp only [Act.put, z1, z2, z3, z4, z5]
         rfl
        refine pure_ (i := 4) (N := some 38) (v := ?_) (a' := ?_) q5 rfl rfl (any_of HT_.out (by kernel_rfl)) (fun _ _ _ h => h) (Or.inl ⟨by rfl, ?_⟩) ?_ ?_
        rotate_left; ·intro w'; go_simp; with_reducible rfl
        rotate_left; ·simp only [Act.put, z1, z2, z3, z4, z5]; rfl
        refine pure_ (i := 5) (N := some 39) (v := ?_) (a' := ?_) q6 rfl rfl (any_of HT_.out (by kernel_rfl)) (fun _ _ _ h => h) (Or.inl ⟨by rfl, ?_⟩) ?_ ?_
        rotate_left; ·intro w'; go_simp; with_reducible rfl
        rotate_left; ·simp only [Act.put, z1, z2, z3, z4, z5]; rfl
        refine pure_ (i := 6) (N := some 40) (v := ?_) (a' := ?_) q7 rfl rfl (any_of HT_.out (by kernel_rfl)) (fun _ _ _ h => h) (Or.inl ⟨by rfl, ?_⟩) ?_ ?_
        rotate_left; ·intro w'; go_simp; with_reducible rfl
        rotate_left; ·simp only [Act.put, z1, z2, z3, z4, z5]; rfl
        refine pure_ (i := 8) (N := some 42) (v := ?_) (a' := ?_) q8 rfl rfl (any_of HT_.out (by kernel_rfl)) (fun _ _ _ h => h) (Or.inl ⟨by rfl, ?_⟩) ?_ ?_
        rotate_left; ·intro w'; go_simp; with_reducible rfl
        rotate_left; ·simp only [Act.put, z1, z2, z3, z4, z5]; rfl
        refine take_ (i := 7) (N := some 41) (v := ?_) (a' := ?_) q9 rfl rfl (take_ofW HT_.out HW_.out (by kernel_rfl)) (fun _ _ _ h => h) (Or.inl ⟨by rfl, ?_⟩) hHeld ?_ ?_
        rotate_left; ·rintro w' ⟨s0, s1, s2, s3, s4, s5, s6, s7, s8, s9, s10, s11, s12, s13, s14, s15⟩; go_simp; with_reducible rfl
        rotate_left; ·simp only [Act.put, z1, z2, z3, z4, z5]; rfl
        refine take_ (i := 9) (N := some 43) (v := ?_) (a' := ?_) q10 rfl rfl (take_ofW HT_.out HW_.out (by kernel_rfl)) (fun _ _ _ h => h) (Or.inl ⟨by rfl, ?_⟩) hHeld ?_ ?_
        rotate_left; ·rintro w' ⟨s0, s1, s2, s3, s4, s5, s6, s7, s8, s9, s10, s11, s12, s13, s14, s15⟩; go_simp; with_reducible rfl
        rotate_left; ·simp only [Act.put, z1, z2, z3, z4, z5]; rfl
        refine pure_ (i := 10) (N := some 44) (v := ?_) (a' := ?_) q11 rfl rfl (any_of HT_.out (by kernel_rfl)) (fun _ _ _ h => h) (Or.inl ⟨by rfl, ?_⟩) ?_ ?_
        rotate_left; ·intro w'; go_simp; with_reducible rfl
        rotate_left; ·simp only [Act.put, z1, z2, z3, z4, z5]; rfl
        refine pure_ (i := 11) (N := some 45) (v := ?_) (a' := ?_) q12 rfl rfl (any_of HT_.out (by kernel_rfl)) (fun _ _ _ h => h) (Or.inl ⟨by rfl, ?_⟩) ?_ ?_
        rotate_left; ·intro w'; go_simp; with_reducible rfl
        rotate_left; ·simp only [Act.put, z1, z2, z3, z4, z5]; rfl
        refine pure_ (i := 12) (N := some 46) (v := ?_) (a' := ?_) q13 rfl rfl (any_of HT_.out (by kernel_rfl)) (fun _ _ _ h => h) (Or.inl ⟨by rfl, ?_⟩) ?_ ?_
        rotate_left; ·intro w'; go_simp; with_reducible rfl
        rotate_left; ·simp only [Act.put, z1, z2, z3, z4, z5]; rfl
        refine pure_ (i := 13) (N := some 47) (v := ?_) (a' := ?_) q14 rfl rfl (any_of HT_.out (by kernel_rfl)) (fun _ _ _ h => h) (Or.inl ⟨by rfl, ?_⟩) ?_ ?_
        rotate_left; ·intro w'; go_simp; with_reducible rfl
        rotate_left; ·simp only [Act.put, z1, z2, z3, z4, z5]; rfl
        refine pure_ (i := 15) (N := some 49) (v := ?_) (a' := ?_) q15 rfl rfl (any_of HT_.out (by kernel_rfl)) (fun _ _ _ h => h) (Or.inl ⟨by rfl, ?_⟩) ?_ ?_
        rotate_left; ·intro w'; go_simp; with_reducible rfl
        rotate_left; ·simp only [Act.put, z1, z2, z3, z4, z5]; rfl
        refine take_ (i := 14) (N := some 48) (v := ?_) (a' := ?_) q16 rfl rfl (take_ofW HT_.out HW_.out (by kernel_rfl)) (fun _ _ _ h => h) (Or.inl ⟨by rfl, ?_⟩) hHeld ?_ ?_
        rotate_left; ·rintro w' ⟨s0, s1, s2, s3, s4, s5, s6, s7, s8, s9, s10, s11, s12, s13, s14, s15⟩; go_simp; with_reducible rfl
        rotate_left; ·simp only [Act.put, z1, z2, z3, z4, z5]; rfl
        refine take_ (i := 16) (N := some 50) (v := ?_) (a' := ?_) q17 rfl rfl (take_ofW HT_.out HW_.out (by kernel_rfl)) (fun _ _ _ h => h) (Or.inl ⟨by rfl, ?_⟩) hHeld ?_ ?_
        rotate_left; ·rintro w' ⟨s0, s1, s2, s3, s4, s5, s6, s7, s8, s9, s10, s11, s12, s13, s14, s15⟩; go_simp; with_reducible rfl
        rotate_left; ·simp only [Act.put, z1, z2, z3, z4, z5]; rfl
        refine pure_ (i := 17) (N := some 51) (v := ?_) (a' := ?_) q18 rfl rfl (any_of HT_.out (by kernel_rfl)) (fun _ _ _ h => h) (Or.inl ⟨by rfl, ?_⟩) ?_ ?_
        rotate_left; ·intro w'; go_simp; with_reducible rfl
        rotate_left; ·simp only [Act.put, z1, z2, z3, z4, z5]; rfl
        refine pure_ (i := 18) (N := some 52) (v := ?_) (a' := ?_) q19 rfl rfl (any_of HT_.out (by kernel_rfl)) (fun _ _ _ h => h) (Or.inl ⟨by rfl, ?_⟩) ?_ ?_
        rotate_left; ·intro w'; go_simp; with_reducible rfl
        rotate_left; ·simp only [Act.put, z1, z2, z3, z4, z5]; rfl
        refine pure_ (i := 19) (N := some 53) (v := ?_) (a' := ?_) q20 rfl rfl (any_of HT_.out (by kernel_rfl)) (fun _ _ _ h => h) (Or.inl ⟨by rfl, ?_⟩) ?_ ?_
        rotate_left; ·intro w'; go_simp; with_reducible rfl
        rotate_left; ·simp only [Act.put, z1, z2, z3, z4, z5]; rfl
        refine pure_ (i := 20) (N := some 54) (v := ?_) (a' := ?_) q21 rfl rfl (any_of HT_.out (by kernel_rfl)) (fun _ _ _ h => h) (Or.inl ⟨by rfl, ?_⟩) ?_ ?_
        rotate_left; ·intro w'; go_simp; with_reducible rfl
        rotate_left; ·simp only [Act.put, z1, z2, z3, z4, z5]; rfl
        refine pure_ (i := 22) (N := some 56) (v := ?_) (a' := ?_) q22 rfl rfl (any_of HT_.out (by kernel_rfl)) (fun _ _ _ h => h) (Or.inl ⟨by rfl, ?_⟩) ?_ ?_
        rotate_left; ·intro w'; go_simp; with_reducible rfl
        rotate_left; ·simp only [Act.put, z1, z2, z3, z4, z5]; rfl
        refine take_ (i := 21) (N := some 55) (v := ?_) (a' := ?_) q23 rfl rfl (take_ofW HT_.out HW_.out (by kernel_rfl)) (fun _ _ _ h => h) (Or.inl ⟨by rfl, ?_⟩) hHeld ?_ ?_
        rotate_left; ·rintro w' ⟨s0, s1, s2, s3, s4, s5, s6, s7, s8, s9, s10, s11, s12, s13, s14, s15⟩; go_simp; with_reducible rfl
        rotate_left; ·simp only [Act.put, z1, z2, z3, z4, z5]; rfl
        refine take_ (i := 23) (N := some 57) (v := ?_) (a' := ?_) q24 rfl rfl (take_ofW HT_.out HW_.out (by kernel_rfl)) (fun _ _ _ h => h) (Or.inl ⟨by rfl, ?_⟩) hHeld ?_ ?_
        rotate_left; ·rintro w' ⟨s0, s1, s2, s3, s4, s5, s6, s7, s8, s9, s10, s11, s12, s13, s14, s15⟩; go_simp; with_reducible rfl
        rotate_left; ·simp only [Act.put, z1, z2, z3, z4, z5]; rfl
        refine pure_ (i := 24) (N := some 58) (v := ?_) (a' := ?_) q25 rfl rfl (any_of HT_.out (by kernel_rfl)) (fun _ _ _ h => h) (Or.inl ⟨by rfl, ?_⟩) ?_ ?_
        rotate_left; ·intro w'; go_simp; with_reducible rfl
        rotate_left; ·simp only [Act.put, z1, z2, z3, z4, z5]; rfl
        refine pure_ (i := 25) (N := some 59) (v := ?_) (a' := ?_) q26 rfl rfl (any_of HT_.out (by kernel_rfl)) (fun _ _ _ h => h) (Or.inl ⟨by rfl, ?_⟩) ?_ ?_
        rotate_left; ·intro w'; go_simp; with_reducible rfl
        rotate_left; ·simp only [Act.put, z1, z2, z3, z4, z5]; rfl
        refine pure_ (i := 26) (N := some 60) (v := ?_) (a' := ?_) q27 rfl rfl (any_of HT_.out (by kernel_rfl)) (fun _ _ _ h => h) (Or.inl ⟨by rfl, ?_⟩) ?_ ?_
        rotate_left; ·intro w'; go_simp; with_reducible rfl
        rotate_left; ·simp only [Act.put, z1, z2, z3, z4, z5]; rfl
        refine pure_ (i := 27) (N := some 61) (v := ?_) (a' := ?_) q28 rfl rfl (any_of HT_.out (by kernel_rfl)) (fun _ _ _ h => h) (Or.inl ⟨by rfl, ?_⟩) ?_ ?_
        rotate_left; ·intro w'; go_simp; with_reducible rfl
        rotate_left; ·simp only [Act.put, z1, z2, z3, z4, z5]; rfl
        refine take_ (i := 28) (N := some 62) (v := ?_) (a' := ?_) q29 rfl rfl (take_ofW HT_.out HW_.out (by kernel_rfl)) (fun _ _ _ h => h) (Or.inl ⟨by rfl, ?_⟩) hHeld ?_ ?_
        rotate_left; ·rintro w' ⟨s0, s1, s2, s3, s4, s5, s6, s7, s8, s9, s10, s11, s12, s13, s14, s15⟩; go_simp; with_reducible rfl
        rotate_left; ·simp only [Act.put, z1, z2, z3, z4, z5]; rfl
        refine pure_ (i := 29) (N := some 63) (v := ?_) (a' := ?_) q30 rfl rfl (any_of HT_.out (by kernel_rfl)) (fun _ _ _ h => h) (Or.inl ⟨by rfl, ?_⟩) ?_ ?_
        rotate_left; ·intro w'; go_simp; with_reducible rfl
        rotate_left; ·simp only [Act.put, z1, z2, z3, z4, z5]; rfl
        refine pure_ (i := 30) (N := some 64) (v := ?_) (a' := ?_) q31 rfl rfl (any_of HT_.out (by kernel_rfl)) (fun _ _ _ h => h) (Or.inl ⟨by rfl, ?_⟩) ?_ ?_
        rotate_left; ·intro w'; go_simp; with_reducible rfl
        rotate_left; ·simp only [Act.put, z1, z2, z3, z4, z5]; rfl
        refine pure_ (i := 31) (N := some 65) (v := undef) (a' := ?_) q32 rfl rfl (any_of HT_.out (by kernel_rfl)) (fun _ _ _ h => h) (Or.inr ⟨by rfl, rfl⟩) ?_ ?_
        rotate_left; ·simp only [Act.put, z1, z2, z3, z4, z5]; rfl
        refine pure_ (i := 32) (N := some 66) (v := undef) (a' := ?_) q57 rfl rfl (any_of HT_.out (by kernel_rfl)) (fun _ _ _ h => h) (Or.inr ⟨by rfl, rfl⟩) ?_ ?_
        rotate_left; ·simp only [Act.put, z1, z2, z3, z4, z5]; rfl
        refine pure_ (i := 33) (N := some 67) (v := undef) (a' := ?_) q34 rfl rfl (any_of HT_.out (by kernel_rfl)) (fun _ _ _ h => h) (Or.inr ⟨by rfl, rfl⟩) ?_ ?_
        rotate_left; ·simp only [Act.put, z1, z2, z3, z4, z5]; rfl
        refine pure_ (i := 34) (N := some 68) (v := undef) (a' := ?_) q35 rfl rfl (any_of HT_.out (by kernel_rfl)) (fun _ _ _ h => h) (Or.inr ⟨by rfl, rfl⟩) ?_ ?_
        rotate_left; ·simp only [Act.put, z1, z2, z3, z4, z5]; rfl
        refine pure_ (i := 35) (N := some 69) (v := undef) (a' := ?_) q36 rfl rfl (any_of HT_.out (by kernel_rfl)) (fun _ _ _ h => h) (Or.inr ⟨by rfl, rfl⟩) ?_ ?_
        rotate_left; ·simp only [Act.put, z1, z2, z3, z4, z5]; rfl
        refine pure_ (i := 36) (N := some 70) (v := ?_) (a' := ?_) q37 rfl rfl (any_of HT_.out (by kernel_rfl)) (fun _ _ _ h => h) (Or.inl ⟨by rfl, ?_⟩) ?_ ?_
        rotate_left; ·intro w'; go_simp; with_reducible rfl
        rotate_left; ·simp only [Act.put, z1, z2, z3, z4, z5]; rfl
        refine pure_ (i := 37) (N := some 71) (v := ?_) (a' := ?_) q38 rfl rfl (any_of HT_.out (by kernel_rfl)) (fun _ _ _ h => h) (Or.inl ⟨by rfl, ?_⟩) ?_ ?_
        rotate_left; ·intro w'; go_simp; with_reducible rfl
        rotate_left; ·simp only [Act.put, z1, z2, z3, z4, z5]; rfl
        refine pure_ (i := 38) (N := some 72) (v := ?_) (a' := ?_) q39 rfl rfl (any_of HT_.out (by kernel_rfl)) (fun _ _ _ h => h) (Or.inl ⟨by rfl, ?_⟩) ?_ ?_
        rotate_left; ·intro w'; go_simp; with_reducible rfl
        rotate_left; ·simp only [Act.put, z1, z2, z3, z4, z5]; rfl
        refine take_ (i := 39) (N := some 73) (v := ?_) (a' := ?_) q40 rfl rfl (take_ofW HT_.out HW_.out (by kernel_rfl)) (fun _ _ _ h => h) (Or.inl ⟨by rfl, ?_⟩) hHeld ?_ ?_
        rotate_left; ·rintro w' ⟨s0, s1, s2, s3, s4, s5, s6, s7, s8, s9, s10, s11, s12, s13, s14, s15⟩; go_simp; with_reducible rfl
        rotate_left; ·simp only [Act.put, z1, z2, z3, z4, z5]; rfl
        refine one_ (i := 40) (N := some 74) q41 rfl rfl (one_of HT_.out (by kernel_rfl)) (by decide) (fun K hK => ?_)
        refine goes_ Try.func32 (by kernel_rfl) rfl #[.agg #[.int .i64 x294000_2, .int .i64 x294001_2, .int .i64 x294002_2, .int .i64 x294003_2, .int .i64 x294004_2, .int .i64 x294005_2, .int .i64 x294006_2, .int .i64 x294007_2]] (by rfl) rfl rfl (by (try simp only [List.map_toArray, List.map_cons, List.map_nil]); first | done | rfl | (simp only [List.length_drop, List.length_take]; rfl)) ?_
        with_reducible refine (item_Over.calls x294000_2 x294001_2 x294002_2 x294003_2 x294004_2 x294005_2 x294006_2 x294007_2 false _ A62.out).mono ?_
        rintro e w74 ⟨rfl, hb⟩
        refine ⟨_, rfl, ?_⟩
        have n0_ := Aside0.mk (blk_below (g := gb293) (o := .cells #[.int .i64 x294000_2, .int .i64 x294001_2, .int .i64 x294002_2, .int .i64 x294003_2, .int .i64 x294004_2, .int .i64 x294005_2, .int .i64 x294006_2, .int .i64 x294007_2] 53 (0, 0)) (by (with_reducible repeat (first | refine blk_drewN ?_ _ | refine blk_drew ?_ | refine blk_alloc ?_ _)); exact BK293.out) hb)
        have n1_ := Aside0.mk (blk_below (g := gb297) (o := .cells #[.int .i64 ((rd_T93 l1 x21_2).f0), .int .i64 ((rd_T93 l1 x21_2).f1)] 93 (0, 0)) (by (with_reducible repeat (first | refine blk_drewN ?_ _ | refine blk_drew ?_ | refine blk_alloc ?_ _)); exact BK297.out) hb)
        have n2_ := Aside0.mk (blk_below (g := gb307) (o := .cells #[.int .i64 t298, .int .i64 t299, .int .i64 t300, .int .i64 t301, .int .i64 t302, .int .i64 t303, .int .i64 t304, .int .i64 t305] 53 (0, 0)) (by (with_reducible repeat (first | refine blk_drewN ?_ _ | refine blk_drew ?_ | refine blk_alloc ?_ _)); exact BK307.out) hb)
        have n3_ := Aside0.mk (below_step (by repeat (first | (with_reducible first | exact HB.out | apply below_alloc | apply pw_below_drewN | apply below_drew1 | refine below_set ?_ GE293.out | refine below_set ?_ GE297.out | refine below_set ?_ GE307.out) | exact HB.out)) hb)
        clear BK293
        clear BK297
        clear BK307
        clear HB
        have BK293 := n0_
        have BK297 := n1_
        have BK307 := n2_
        have HB := n3_
        clear n0_ n1_ n2_ n3_
        (try clear hb)
        (try clear hb2)
        (try clear hk)
        (try clear hi)
        refine hK.out _ _ ⟨(blk_cell BK307.out 0).trans rfl, (blk_cell BK307.out 1).trans rfl, (blk_cell BK307.out 2).trans rfl, (blk_cell BK307.out 3).trans rfl, (blk_cell BK307.out 4).trans rfl, (blk_cell BK307.out 5).trans rfl, (blk_cell BK307.out 6).trans rfl, (blk_cell BK307.out 7).trans rfl, (blk_cell BK293.out 0).trans rfl, (blk_cell BK293.out 1).trans rfl, (blk_cell BK293.out 2).trans rfl, (blk_cell BK293.out 3).trans rfl, (blk_cell BK293.out 4).trans rfl, (blk_cell BK293.out 5).trans rfl, (blk_cell BK293.out 6).trans rfl, (blk_cell BK293.out 7).trans rfl⟩ (fun hHeld => ?_)
        clear hK K
        refine norm_ (a' := ?_) ?_ ?_
        rotate_left
        ·show Act.put _ (some 74) _ = _
         simp only [Act.put, z1, z2, z3, z4, z5]
         rfl
        refine pure_ (i := 41) (N := some 75) (v := ?_) (a' := ?_) q42 rfl rfl (any_of HT_.out (by kernel_rfl)) (fun _ _ _ h => h) (Or.inl ⟨by rfl, ?_⟩) ?_ ?_
        rotate_left; ·intro w'; go_simp; with_reducible rfl
        rotate_left; ·simp only [Act.put, z1, z2, z3, z4, z5]; rfl
        refine pure_ (i := 42) (N := some 76) (v := undef) (a' := ?_) q43 rfl rfl (any_of HT_.out (by kernel_rfl)) (fun _ _ _ h => h) (Or.inr ⟨by rfl, rfl⟩) ?_ ?_
        rotate_left; ·simp only [Act.put, z1, z2, z3, z4, z5]; rfl
        refine pure_ (i := 43) (N := some 77) (v := undef) (a' := ?_) q44 rfl rfl (any_of HT_.out (by kernel_rfl)) (fun _ _ _ h => h) (Or.inr ⟨by rfl, rfl⟩) ?_ ?_
        rotate_left; ·simp only [Act.put, z1, z2, z3, z4, z5]; rfl
        refine pure_ (i := 44) (N := some 78) (v := undef) (a' := ?_) q45 rfl rfl (any_of HT_.out (by kernel_rfl)) (fun _ _ _ h => h) (Or.inr ⟨by rfl, rfl⟩) ?_ ?_
        rotate_left; ·simp only [Act.put, z1, z2, z3, z4, z5]; rfl
        refine pure_ (i := 45) (N := some 79) (v := ?_) (a' := ?_) q46 rfl rfl (any_of HT_.out (by kernel_rfl)) (fun _ _ _ h => h) (Or.inl ⟨by rfl, ?_⟩) ?_ ?_
        rotate_left; ·intro w'; go_simp; with_reducible rfl
        rotate_left; ·simp only [Act.put, z1, z2, z3, z4, z5]; rfl
        refine pure_ (i := 46) (N := some 80) (v := ?_) (a' := ?_) q47 rfl rfl (any_of HT_.out (by kernel_rfl)) (fun _ _ _ h => h) (Or.inl ⟨by rfl, ?_⟩) ?_ ?_
        rotate_left; ·intro w'; go_simp; with_reducible rfl
        rotate_left; ·simp only [Act.put, z1, z2, z3, z4, z5]; rfl
        refine pure_ (i := 47) (N := some 81) (v := ?_) (a' := ?_) q48 rfl rfl (any_of HT_.out (by kernel_rfl)) (fun _ _ _ h => h) (Or.inl ⟨by rfl, ?_⟩) ?_ ?_
        rotate_left; ·intro w'; go_simp; with_reducible rfl
        rotate_left; ·simp only [Act.put, z1, z2, z3, z4, z5]; rfl
        refine pure_ (i := 48) (N := some 82) (v := ?_) (a' := ?_) q49 rfl rfl (any_of HT_.out (by kernel_rfl)) (fun _ _ _ h => h) (Or.inl ⟨by rfl, ?_⟩) ?_ ?_
        rotate_left; ·intro w'; go_simp; with_reducible rfl
        rotate_left; ·simp only [Act.put, z1, z2, z3, z4, z5]; rfl
        refine pure_ (i := 49) (N := some 83) (v := ?_) (a' := ?_) q50 rfl rfl (any_of HT_.out (by kernel_rfl)) (fun _ _ _ h => h) (Or.inl ⟨by rfl, ?_⟩) ?_ ?_
        rotate_left; ·intro w'; go_simp; with_reducible rfl
        rotate_left; ·simp only [Act.put, z1, z2, z3, z4, z5]; rfl
        refine pure_ (i := 50) (N := some 84) (v := ?_) (a' := ?_) q51 rfl rfl (any_of HT_.out (by kernel_rfl)) (fun _ _ _ h => h) (Or.inl ⟨by rfl, ?_⟩) ?_ ?_
        rotate_left; ·intro w'; go_simp; with_reducible rfl
        rotate_left; ·simp only [Act.put, z1, z2, z3, z4, z5]; rfl
        refine take_ (i := 51) (N := some 85) (v := ?_) (a' := ?_) q52 rfl rfl (take_ofW HT_.out HW_.out (by kernel_rfl)) (fun _ _ _ h => h) (Or.inl ⟨by rfl, ?_⟩) hHeld ?_ ?_
        rotate_left; ·rintro w' ⟨s0, s1, s2, s3, s4, s5, s6, s7, s8, s9, s10, s11, s12, s13, s14, s15⟩; go_simp; with_reducible rfl
        rotate_left; ·simp only [Act.put, z1, z2, z3, z4, z5]; rfl
        refine take_ (i := 52) (N := some 86) (v := ?_) (a' := ?_) q53 rfl rfl (take_ofW HT_.out HW_.out (by kernel_rfl)) (fun _ _ _ h => h) (Or.inl ⟨by rfl, ?_⟩) hHeld ?_ ?_
        rotate_left; ·rintro w' ⟨s0, s1, s2, s3, s4, s5, s6, s7, s8, s9, s10, s11, s12, s13, s14, s15⟩; go_simp; with_reducible rfl
        rotate_left; ·simp only [Act.put, z1, z2, z3, z4, z5]; rfl
        refine pure_ (i := 53) (N := some 87) (v := ?_) (a' := ?_) q54 rfl rfl (any_of HT_.out (by kernel_rfl)) (fun _ _ _ h => h) (Or.inl ⟨by rfl, ?_⟩) ?_ ?_
        rotate_left; ·intro w'; go_simp; with_reducible rfl
        rotate_left; ·simp only [Act.put, z1, z2, z3, z4, z5]; rfl
        refine pure_ (i := 54) (N := some 88) (v := ?_) (a' := ?_) q55 rfl rfl (any_of HT_.out (by kernel_rfl)) (fun _ _ _ h => h) (Or.inl ⟨by rfl, ?_⟩) ?_ ?_
        rotate_left; ·intro w'; go_simp; with_reducible rfl
        rotate_left; ·simp only [Act.put, z1, z2, z3, z4, z5]; rfl
        refine pure_ (i := 55) (N := some 89) (v := ?_) (a' := ?_) q56 rfl rfl (any_of HT_.out (by kernel_rfl)) (fun _ _ _ h => h) (Or.inl ⟨by rfl, ?_⟩) ?_ ?_
        rotate_left; ·intro w'; go_simp; with_reducible rfl
        rotate_left; ·simp only [Act.put, z1, z2, z3, z4, z5]; rfl
        refine done_ (done_of HT_.out (by kernel_rfl)) ?_
        try go_wp2
        go_meet
        case rel => exact ⟨_, (((!(t298 == x294000_2) || (!(t299 == x294001_2))) || (!(t300 == x294002_2) || (!(t301 == x294003_2) || (!(t302 == x294004_2) || (!(t303 == x294005_2) || (!(t304 == x294006_2) || (!(t305 == x294007_2))))))))), (by first | rfl | (simp; done) | (simp [*]; done)), H', ⟨by have := HJ4.out; have := HK2.out; first | omega | exact Nat.le_refl _⟩, ⟨by (with_reducible repeat (first | refine blk_drewN ?_ _ | refine blk_drew ?_ | refine blk_alloc ?_ _)); exact BK293.out⟩, ⟨by (with_reducible repeat (first | refine blk_drewN ?_ _ | refine blk_drew ?_ | refine blk_alloc ?_ _)); exact BK297.out⟩, ⟨by (with_reducible repeat (first | refine blk_drewN ?_ _ | refine blk_drew ?_ | refine blk_alloc ?_ _)); exact BK307.out⟩, ⟨by repeat (first | (with_reducible first | exact HB.out | apply below_alloc | apply pw_below_drewN | apply below_drew1 | refine below_set ?_ GE293.out | refine below_set ?_ GE297.out | refine below_set ?_ GE307.out) | exact HB.out)⟩⟩
       case rest =>
        clear HC19
        try clear p2; try clear c3; try clear c4; try clear c6; try clear c32; try clear c47; try clear c64; try clear c64b0; try clear c64b1
        obtain ⟨kq, x89_18, rfl, HA, HJ18, BK293, BK297, BK307, HB⟩ := hcut
        cases kq with
        | zero => exact absurd HA.out (by simp [contralaw09_ItemForward.j2])
        | succ kj18 =>
         have H := HA.out
         clear HA
         simp only [contralaw09_ItemForward.j2] at H
         by_cases c75 : x89_18 = true
         ·subst c75; rw [if_pos rfl] at H; exact absurd H (by simp)
         replace c75 := Bool.eq_false_iff.mpr c75
         subst c75
         have H1 : (contralaw09_ItemForward.l0 kj18 l1 (l1.length : Int) (wrap64 (x21_2 + 1)) t298 t299 t300 t301 t302 t303 t304 t305) = some true := by rw [if_neg (show ¬ (false = true) by decide)] at H; try exact H
         clear H
         have H := H1
         clear H1
         have H' := Aside0.mk H
         clear H
         have hnb76 := NB307_293.out
         have hnc76 := NB293_307.out
         have hnb77 := NB307_297.out
         have hnc77 := NB297_307.out
         have hcz78_0 : wc.cell? ⟨gb307, 0, none⟩ = some (.int .i64 t298) := (blk_cell BK307.out 0).trans rfl
         have hcz78_1 : wc.cell? ⟨gb307, 1, none⟩ = some (.int .i64 t299) := (blk_cell BK307.out 1).trans rfl
         have hcz78_2 : wc.cell? ⟨gb307, 2, none⟩ = some (.int .i64 t300) := (blk_cell BK307.out 2).trans rfl
         have hcz78_3 : wc.cell? ⟨gb307, 3, none⟩ = some (.int .i64 t301) := (blk_cell BK307.out 3).trans rfl
         have hcz78_4 : wc.cell? ⟨gb307, 4, none⟩ = some (.int .i64 t302) := (blk_cell BK307.out 4).trans rfl
         have hcz78_5 : wc.cell? ⟨gb307, 5, none⟩ = some (.int .i64 t303) := (blk_cell BK307.out 5).trans rfl
         have hcz78_6 : wc.cell? ⟨gb307, 6, none⟩ = some (.int .i64 t304) := (blk_cell BK307.out 6).trans rfl
         have hcz78_7 : wc.cell? ⟨gb307, 7, none⟩ = some (.int .i64 t305) := (blk_cell BK307.out 7).trans rfl
         have hfz78_0 := blk_frozen BK307.out 0
         have hfz78_1 := blk_frozen BK307.out 1
         have hfz78_2 := blk_frozen BK307.out 2
         have hfz78_3 := blk_frozen BK307.out 3
         have hfz78_4 := blk_frozen BK307.out 4
         have hfz78_5 := blk_frozen BK307.out 5
         have hfz78_6 := blk_frozen BK307.out 6
         have hfz78_7 := blk_frozen BK307.out 7
         have hnb79 := NB293_297.out
         have hnc79 := NB297_293.out
         have hcz80_0 : wc.cell? ⟨gb293, 0, none⟩ = some (.int .i64 x294000_2) := (blk_cell BK293.out 0).trans rfl
         have hcz80_1 : wc.cell? ⟨gb293, 1, none⟩ = some (.int .i64 x294001_2) := (blk_cell BK293.out 1).trans rfl
         have hcz80_2 : wc.cell? ⟨gb293, 2, none⟩ = some (.int .i64 x294002_2) := (blk_cell BK293.out 2).trans rfl
         have hcz80_3 : wc.cell? ⟨gb293, 3, none⟩ = some (.int .i64 x294003_2) := (blk_cell BK293.out 3).trans rfl
         have hcz80_4 : wc.cell? ⟨gb293, 4, none⟩ = some (.int .i64 x294004_2) := (blk_cell BK293.out 4).trans rfl
         have hcz80_5 : wc.cell? ⟨gb293, 5, none⟩ = some (.int .i64 x294005_2) := (blk_cell BK293.out 5).trans rfl
         have hcz80_6 : wc.cell? ⟨gb293, 6, none⟩ = some (.int .i64 x294006_2) := (blk_cell BK293.out 6).trans rfl
         have hcz80_7 : wc.cell? ⟨gb293, 7, none⟩ = some (.int .i64 x294007_2) := (blk_cell BK293.out 7).trans rfl
         have hfz80_0 := blk_frozen BK293.out 0
         have hfz80_1 := blk_frozen BK293.out 1
         have hfz80_2 := blk_frozen BK293.out 2
         have hfz80_3 := blk_frozen BK293.out 3
         have hfz80_4 := blk_frozen BK293.out 4
         have hfz80_5 := blk_frozen BK293.out 5
         have hfz80_6 := blk_frozen BK293.out 6
         have hfz80_7 := blk_frozen BK293.out 7
         go_wp2
         go_roundg kj18
         case measure => have := HJ4.out; have := HK2.out; have := HJ18.out; omega
         case rel => exact ⟨(wrap64 (x21_2 + 1)), (t298), (t299), (t300), (t301), (t302), (t303), (t304), (t305), (by first | rfl | (simp; done) | (simp [*]; done)), H', ⟨by have := HJ4.out; have := HK2.out; have := HJ18.out; omega⟩, ⟨by (with_reducible repeat (first | refine blk_drewN ?_ _ | refine blk_drew ?_ | refine blk_alloc ?_ _)); refine blk_put (cs := #[.int .i64 t298, .int .i64 t299, .int .i64 t300, .int .i64 t301, .int .i64 t302, .int .i64 t303, .int .i64 t304, .int .i64 x294007_2]) ?_ 7 _ rfl; (with_reducible repeat (first | refine blk_drewN ?_ _ | refine blk_drew ?_ | refine blk_alloc ?_ _)); refine blk_put (cs := #[.int .i64 t298, .int .i64 t299, .int .i64 t300, .int .i64 t301, .int .i64 t302, .int .i64 t303, .int .i64 x294006_2, .int .i64 x294007_2]) ?_ 6 _ rfl; (with_reducible repeat (first | refine blk_drewN ?_ _ | refine blk_drew ?_ | refine blk_alloc ?_ _)); refine blk_put (cs := #[.int .i64 t298, .int .i64 t299, .int .i64 t300, .int .i64 t301, .int .i64 t302, .int .i64 x294005_2, .int .i64 x294006_2, .int .i64 x294007_2]) ?_ 5 _ rfl; (with_reducible repeat (first | refine blk_drewN ?_ _ | refine blk_drew ?_ | refine blk_alloc ?_ _)); refine blk_put (cs := #[.int .i64 t298, .int .i64 t299, .int .i64 t300, .int .i64 t301, .int .i64 x294004_2, .int .i64 x294005_2, .int .i64 x294006_2, .int .i64 x294007_2]) ?_ 4 _ rfl; (with_reducible repeat (first | refine blk_drewN ?_ _ | refine blk_drew ?_ | refine blk_alloc ?_ _)); refine blk_put (cs := #[.int .i64 t298, .int .i64 t299, .int .i64 t300, .int .i64 x294003_2, .int .i64 x294004_2, .int .i64 x294005_2, .int .i64 x294006_2, .int .i64 x294007_2]) ?_ 3 _ rfl; (with_reducible repeat (first | refine blk_drewN ?_ _ | refine blk_drew ?_ | refine blk_alloc ?_ _)); refine blk_put (cs := #[.int .i64 t298, .int .i64 t299, .int .i64 x294002_2, .int .i64 x294003_2, .int .i64 x294004_2, .int .i64 x294005_2, .int .i64 x294006_2, .int .i64 x294007_2]) ?_ 2 _ rfl; (with_reducible repeat (first | refine blk_drewN ?_ _ | refine blk_drew ?_ | refine blk_alloc ?_ _)); refine blk_put (cs := #[.int .i64 t298, .int .i64 x294001_2, .int .i64 x294002_2, .int .i64 x294003_2, .int .i64 x294004_2, .int .i64 x294005_2, .int .i64 x294006_2, .int .i64 x294007_2]) ?_ 1 _ rfl; (with_reducible repeat (first | refine blk_drewN ?_ _ | refine blk_drew ?_ | refine blk_alloc ?_ _)); refine blk_put (cs := #[.int .i64 x294000_2, .int .i64 x294001_2, .int .i64 x294002_2, .int .i64 x294003_2, .int .i64 x294004_2, .int .i64 x294005_2, .int .i64 x294006_2, .int .i64 x294007_2]) ?_ 0 _ rfl; (with_reducible repeat (first | refine blk_drewN ?_ _ | refine blk_drew ?_ | refine blk_alloc ?_ _)); exact BK293.out⟩, ⟨by repeat (first | (with_reducible first | exact HB.out | apply below_alloc | apply pw_below_drewN | apply below_drew1 | refine below_set ?_ GE293.out | refine below_set ?_ GE297.out | refine below_set ?_ GE307.out) | exact HB.out)⟩⟩
      rw [if_neg c15] at H
      have c15b0 : decide (x21_2 < (l1.length : Int)) = false := decide_eq_false c15
      clear c15
      have HT := Option.some.inj H
      go_wp2
      go_ret
      exact ⟨by first | rfl | (simp [errW_none, errW_some] <;> rfl) | (simp [*, errW_none, errW_some] <;> rfl), by repeat (first | (with_reducible first | exact HB.out | apply below_alloc | apply pw_below_drewN | apply below_drew1 | refine below_set ?_ GE293.out) | exact HB.out)⟩
 ·replace c4 := Bool.eq_false_iff.mpr c4; subst c4; rw [if_neg (show ¬ (false = true) by decide)] at H; exact absurd H (by simp)

end Go.Proofs.Ytpkfagbllafehaa.QItem
