/- Functions of the reference, walked by a driver over the kit's print. No conditions. -/
import Derived.Test.YtpfjboioeidecaaDoorE6

section
namespace Go.Proofs.YtpfjboioeidecaaDoor.PQ
open Go.RowKit Go.Proofs.YtpfjboioeidecaaDoorW.PrintWords Go.Proofs.YtpfjboioeidecaaDoorW.PrintLast Go.Proofs.YtpfjboioeidecaaDoorW.PrintMore
attribute [local go_sem] max2_int min2_int max_two min_two max_three min_three max_four min_four
set_option linter.unusedVariables false
set_option linter.unusedSimpArgs false
def spec_l19Told.f (l0_0 : List ByteArray) (a0_1 : ByteArray) (a0_2 : ByteArray) (a0_3 : Int) (a0_4 : Int) (a0_5 : Int) (a0_6 : Bool) : Option (Int × ByteArray × ByteArray × Int) := if 0 ≤ (wrap64 ((l0_0.length : Int) - 1)) then (if (wrap64 ((l0_0.length : Int) - 1)) < (l0_0.length : Int) then (some (0, rdOf ByteArray.empty l0_0 (wrap64 ((l0_0.length : Int) - 1)), a0_1, a0_3)) else (none)) else (none)
def spec_l19Told.T1 : Bool × List (List Nat × List Nat) := (true, [([], []), ([0], [0]), ([], []), ([2], [2]), ([3], [3]), ([4], [4]), ([1, 5], [1, 5]), ([6], [6]), ([], []), ([8], [8]), ([], []), ([10], [10]), ([7, 9, 11], [7, 9, 11]), ([12, 0, 1, 2, 3, 4, 5, 6, 7, 8, 9, 10, 11, 12], [12])])
def spec_l19Told.B1 : List Nat := [0, 1, 0, 4, 12, 28, 63, 127, 0, 256, 0, 1024, 4095, 8191]
theorem spec_l19Told.tab1 : rtab .any (opsOf Tryd.f32 1) = spec_l19Told.T1 := by kernel_rfl
theorem spec_l19Told.bits1 : waitsOk spec_l19Told.T1.2 spec_l19Told.B1 = true := by kernel_rfl
set_option maxHeartbeats 8000000 in
set_option maxRecDepth 100000 in
theorem spec_l19Told.calls (A0_0 : Option Addr) (c0_0 : Nat) (l0_0 : List ByteArray) (a0_1 : ByteArray) (a0_2 : ByteArray) (a0_3 : Int) (a0_4 : Int) (a0_5 : Int) (a0_6 : Bool) (r1 : Int) (r2 : ByteArray) (r3 : ByteArray) (r4 : Int) (w : World) (hr0_0 : Kd.C Kd.string w A0_0 l0_0.length l0_0) (hc0_0 : l0_0.length ≤ c0_0) (h : spec_l19Told.f l0_0 a0_1 a0_2 a0_3 a0_4 a0_5 a0_6 = some (r1, r2, r3, r4)) :
    Calls Tryd.prog 32 #[.agg #[.slice A0_0 l0_0.length c0_0, .string a0_1, .string a0_2, .int .i64 a0_3, .int .i64 a0_4, .int .i64 a0_5, .bool a0_6]] w fun e w' => e = .returned (.agg #[.int .i64 r1, .string r2, .string r3, .int .i64 r4]) ∧ Below w.heap.size w w' := by
  have hu78 := Tryd.underlying78
  have hu31 := Tryd.underlying31
  have HR0_0 := Aside0.mk hr0_0
  have HC0_0 := Aside0.mk hc0_0
  clear hr0_0 hc0_0
  have HB := Aside0.mk (Below.refl w.heap.size w)
  have H : (if 0 ≤ (wrap64 ((l0_0.length : Int) - 1)) then (if (wrap64 ((l0_0.length : Int) - 1)) < (l0_0.length : Int) then (some (0, rdOf ByteArray.empty l0_0 (wrap64 ((l0_0.length : Int) - 1)), a0_1, a0_3)) else (none)) else (none)) = some (r1, r2, r3, r4) := h
  clear h
  obtain ⟨ji2, hji2⟩ : ∃ j_ : Int, (wrap64 ((l0_0.length : Int) - 1)) = j_ := ⟨_, rfl⟩
  replace H : (if 0 ≤ (ji2) then (if (ji2) < (l0_0.length : Int) then (some (0, rdOf ByteArray.empty l0_0 (ji2), a0_1, a0_3)) else (none)) else (none)) = some (r1, r2, r3, r4) := by first | (rw [hji2] at H; exact H) | (simp only [hji2] at H ⊢; exact H)
  have hji2w : (IntKind.i64.wrap ((l0_0.length : Int) - 1)) = ji2 := (i64_w _).trans hji2
  by_cases c3 : 0 ≤ (ji2)
  · rw [if_pos c3] at H
    have c3b0 : decide (0 ≤ (ji2)) = true := decide_eq_true c3
    clear c3
    by_cases c4 : (ji2) < (l0_0.length : Int)
    · rw [if_pos c4] at H
      have c4b0 : decide ((ji2) < (l0_0.length : Int)) = true := decide_eq_true c4
      clear c4
      simp only [Option.some.injEq, Prod.mk.injEq] at H
      obtain ⟨rfl, rfl, rfl, rfl⟩ := H
      go_enter Tryd.func32, Tryd.ntmps32
      try go_wp2_with (first | ((with_reducible refine gate_dst (N := 1) rfl ?_); refine box_event ?hg (N := 1) ?hd (cs := #[.slice A0_0 l0_0.length c0_0, .string a0_1, .string a0_2, .int .i64 a0_3, .int .i64 a0_4, .int .i64 a0_5, .bool a0_6]) (t := 78) ?hr ?_; (case hd => rfl); (case hg => rfl); (case hr => first | (go_simp; done) | (go_simp; rfl)); intro gb172 hg w5 hbox hb; have n0_ := Aside0.mk (below_step (by repeat (first | (with_reducible first | exact HB.out | apply below_alloc | apply pw_below_drewN | apply below_drew1) | exact HB.out)) hb); have n1_ := Aside0.mk (hbox); have n2_ := Aside0.mk ((by rw [hg]; exact (below_size (by repeat (first | (with_reducible first | exact HB.out | apply below_alloc | apply pw_below_drewN | apply below_drew1) | exact HB.out))) : w.heap.size ≤ gb172)); have n3_ := Aside0.mk ((by rw [hg]; exact (below_size (by repeat (first | (with_reducible first | exact HB.out | apply below_alloc | apply pw_below_drewN | apply below_drew1) | exact HB.out))) : w.heap.size ≤ gb172)); clear HB; have HB := n0_; have BK172 := n1_; have GW172 := n2_; have GE172 := n3_; clear n0_ n1_ n2_ n3_; clear hb hbox hg) | ((with_reducible refine gate_dst (N := 2) rfl ?_); refine box_event ?hg (N := 2) ?hd (cs := #[.int .i64 0, .string (⟨#[]⟩ : ByteArray), .string (⟨#[]⟩ : ByteArray), .int .i64 0]) (t := 31) ?hr ?_; (case hd => rfl); (case hg => rfl); (case hr => first | (go_simp; done) | (go_simp; rfl)); intro gb173 hg w6 hbox hb; have n0_ := Aside0.mk (blk_below (g := gb172) (o := .cells #[.slice A0_0 l0_0.length c0_0, .string a0_1, .string a0_2, .int .i64 a0_3, .int .i64 a0_4, .int .i64 a0_5, .bool a0_6] 78 (0, 0)) (by (with_reducible repeat (first | refine blk_drewN ?_ _ | refine blk_drew ?_ | refine blk_alloc ?_ _)); exact BK172.out) hb); have n1_ := Aside0.mk (below_step (by repeat (first | (with_reducible first | exact HB.out | apply below_alloc | apply pw_below_drewN | apply below_drew1 | refine below_set ?_ GE172.out) | exact HB.out)) hb); have n2_ := Aside0.mk (hbox); have n3_ := Aside0.mk ((by rw [hg]; exact (below_size (by repeat (first | (with_reducible first | exact HB.out | apply below_alloc | apply pw_below_drewN | apply below_drew1 | refine below_set ?_ GE172.out) | exact HB.out))) : w.heap.size ≤ gb173)); have n4_ := Aside0.mk ((by rw [hg]; exact (below_size (by repeat (first | (with_reducible first | exact HB.out | apply below_alloc | apply pw_below_drewN | apply below_drew1 | refine below_set ?_ GE172.out) | exact HB.out))) : w.heap.size ≤ gb173)); have n5_ := Aside0.mk ((by rw [hg]; exact Nat.ne_of_lt (blk_lt (g := gb172) (o := .cells #[.slice A0_0 l0_0.length c0_0, .string a0_1, .string a0_2, .int .i64 a0_3, .int .i64 a0_4, .int .i64 a0_5, .bool a0_6] 78 (0, 0)) (by (with_reducible repeat (first | refine blk_drewN ?_ _ | refine blk_drew ?_ | refine blk_alloc ?_ _)); exact BK172.out)) : gb172 ≠ gb173)); have n6_ := Aside0.mk ((by rw [hg]; exact Nat.ne_of_gt (blk_lt (g := gb172) (o := .cells #[.slice A0_0 l0_0.length c0_0, .string a0_1, .string a0_2, .int .i64 a0_3, .int .i64 a0_4, .int .i64 a0_5, .bool a0_6] 78 (0, 0)) (by (with_reducible repeat (first | refine blk_drewN ?_ _ | refine blk_drew ?_ | refine blk_alloc ?_ _)); exact BK172.out)) : gb173 ≠ gb172)); clear BK172; clear HB; have BK172 := n0_; have HB := n1_; have BK173 := n2_; have GW173 := n3_; have GE173 := n4_; have NB172_173 := n5_; have NB173_172 := n6_; clear n0_ n1_ n2_ n3_ n4_ n5_ n6_; clear hb hbox hg))
      have n0_ := Aside0.mk (blk_drew BK172.out)
      have n1_ := Aside0.mk (blk_drew BK173.out)
      have n2_ := Aside0.mk (below_drew1 HB.out)
      clear BK172
      clear BK173
      clear HB
      have BK172 := n0_
      have BK173 := n1_
      have HB := n2_
      clear n0_ n1_ n2_
      have p174 : 0 ≤ ((ji2) : Int) := of_decide_eq_true (by first | (with_reducible assumption) | assumption)
      have q174 : (ji2) < (l0_0.length : Int) := of_decide_eq_true (by first | (with_reducible assumption) | assumption)
      obtain ⟨ad174, e174, hx174_0⟩ := Kd.at_string HR0_0.out (ji2) p174 q174
      have hw174_0 := hx174_0
      cases e174
      replace hx174_0 := (HB.out.cell (World.block_lt_of_cell? w _ hx174_0)).trans hx174_0
      replace p174 := eq_true p174
      replace q174 := eq_true q174
      refine start_ (n := 14) (S := fun w' => w'.cell? ⟨gb172, 0, none⟩ = some (.slice (some ad174) l0_0.length c0_0) ∧ w'.cell? ⟨gb172, 1, none⟩ = some (.string a0_1) ∧ w'.cell? ⟨gb172, 2, none⟩ = some (.string a0_2) ∧ w'.cell? ⟨gb172, 3, none⟩ = some (.int .i64 a0_3) ∧ w'.cell? ⟨gb172, 4, none⟩ = some (.int .i64 a0_4) ∧ w'.cell? ⟨gb172, 5, none⟩ = some (.int .i64 a0_5) ∧ w'.cell? ⟨gb172, 6, none⟩ = some (.bool a0_6) ∧ w'.cell? (ad174.add ((ji2)).toNat) = some (.string (rdOf ByteArray.empty l0_0 (ji2)))) (ds := []) #[false, false, false, false, false, false, false, false, false, false, false, false, false, false] (by kernel_rfl) rfl rfl ⟨(blk_cell BK172.out 0).trans rfl, (blk_cell BK172.out 1).trans rfl, (blk_cell BK172.out 2).trans rfl, (blk_cell BK172.out 3).trans rfl, (blk_cell BK172.out 4).trans rfl, (blk_cell BK172.out 5).trans rfl, (blk_cell BK172.out 6).trans rfl, ((HB.out.cell (World.block_lt_of_cell? w _ hw174_0)).trans hw174_0)⟩ (fun hHeld => ?_); refine with_tabW spec_l19Told.tab1 spec_l19Told.bits1 (fun HT_ HW_ => ?_)
      generalize w6.drew = w7 at BK172 BK173 HB hx174_0 hHeld ⊢
      refine pure_ (i := 0) (N := some 3) (v := ?_) (a' := ?_) #[true, false, false, false, false, false, false, false, false, false, false, false, false, false] rfl rfl (any_of HT_.out (by kernel_rfl)) (fun _ _ _ h => h) (Or.inl ⟨by rfl, ?_⟩) ?_ ?_
      rotate_left
      · intro w'
        go_simp
        with_reducible rfl
      rotate_left
      · simp only [Act.put, List.setIfInBounds_toArray, List.set_cons_zero, List.set_cons_succ, i64_w, i32_w]
        rfl
      refine pure_ (i := 2) (N := some 5) (v := ?_) (a' := ?_) #[true, false, true, false, false, false, false, false, false, false, false, false, false, false] rfl rfl (any_of HT_.out (by kernel_rfl)) (fun _ _ _ h => h) (Or.inl ⟨by rfl, ?_⟩) ?_ ?_
      rotate_left
      · intro w'
        go_simp
        with_reducible rfl
      rotate_left
      · simp only [Act.put, List.setIfInBounds_toArray, List.set_cons_zero, List.set_cons_succ, i64_w, i32_w]
        rfl
      refine pure_ (i := 8) (N := some 11) (v := ?_) (a' := ?_) #[true, false, true, false, false, false, false, false, true, false, false, false, false, false] rfl rfl (any_of HT_.out (by kernel_rfl)) (fun _ _ _ h => h) (Or.inl ⟨by rfl, ?_⟩) ?_ ?_
      rotate_left
      · intro w'
        go_simp
        with_reducible rfl
      rotate_left
      · simp only [Act.put, List.setIfInBounds_toArray, List.set_cons_zero, List.set_cons_succ, i64_w, i32_w]
        rfl
      refine pure_ (i := 10) (N := some 13) (v := ?_) (a' := ?_) #[true, false, true, false, false, false, false, false, true, false, true, false, false, false] rfl rfl (any_of HT_.out (by kernel_rfl)) (fun _ _ _ h => h) (Or.inl ⟨by rfl, ?_⟩) ?_ ?_
      rotate_left
      · intro w'
        go_simp
        with_reducible rfl
      rotate_left
      · simp only [Act.put, List.setIfInBounds_toArray, List.set_cons_zero, List.set_cons_succ, i64_w, i32_w]
        rfl
      refine take_ (i := 1) (N := some 4) (v := ?_) (a' := ?_) #[true, true, true, false, false, false, false, false, true, false, true, false, false, false] rfl rfl (take_ofW HT_.out HW_.out (by kernel_rfl)) (fun _ _ _ h => h) (Or.inl ⟨by rfl, ?_⟩) hHeld ?_ ?_
      rotate_left
      · rintro w' ⟨s0, s1, s2, s3, s4, s5, s6, s7⟩
        go_simp
        with_reducible rfl
      rotate_left
      · simp only [Act.put, List.setIfInBounds_toArray, List.set_cons_zero, List.set_cons_succ, i64_w, i32_w]
        rfl
      refine take_ (i := 3) (N := some 6) (v := ?_) (a' := ?_) #[true, true, true, true, false, false, false, false, true, false, true, false, false, false] rfl rfl (take_ofW HT_.out HW_.out (by kernel_rfl)) (fun _ _ _ h => h) (Or.inl ⟨by rfl, ?_⟩) hHeld ?_ ?_
      rotate_left
      · rintro w' ⟨s0, s1, s2, s3, s4, s5, s6, s7⟩
        go_simp
        with_reducible rfl
      rotate_left
      · simp only [Act.put, List.setIfInBounds_toArray, List.set_cons_zero, List.set_cons_succ, i64_w, i32_w]
        rfl
      refine pure_ (i := 4) (N := some 7) (v := ?_) (a' := ?_) #[true, true, true, true, true, false, false, false, true, false, true, false, false, false] rfl rfl (any_of HT_.out (by kernel_rfl)) (fun _ _ _ h => h) (Or.inl ⟨by rfl, ?_⟩) ?_ ?_
      rotate_left
      · intro w'
        go_simp
        with_reducible rfl
      rotate_left
      · simp only [Act.put, List.setIfInBounds_toArray, List.set_cons_zero, List.set_cons_succ, i64_w, i32_w]
        rfl
      refine pure_ (i := 5) (N := some 8) (v := ?_) (a' := ?_) #[true, true, true, true, true, true, false, false, true, false, true, false, false, false] rfl rfl (any_of HT_.out (by kernel_rfl)) (fun _ _ _ h => h) (Or.inl ⟨by rfl, ?_⟩) ?_ ?_
      rotate_left
      · intro w'
        go_simp
        with_reducible rfl
      rotate_left
      · simp only [Act.put, List.setIfInBounds_toArray, List.set_cons_zero, List.set_cons_succ, i64_w, i32_w]
        rfl
      refine pure_ (i := 6) (N := some 9) (v := ?_) (a' := ?_) #[true, true, true, true, true, true, true, false, true, false, true, false, false, false] rfl rfl (any_of HT_.out (by kernel_rfl)) (fun _ _ _ h => h) (Or.inl ⟨by rfl, ?_⟩) ?_ ?_
      rotate_left
      · intro w'
        go_simp
        with_reducible rfl
      rotate_left
      · simp only [Act.put, List.setIfInBounds_toArray, List.set_cons_zero, List.set_cons_succ, i64_w, i32_w]
        rfl
      refine take_ (i := 7) (N := some 10) (v := ?_) (a' := ?_) #[true, true, true, true, true, true, true, true, true, false, true, false, false, false] rfl rfl (take_ofW HT_.out HW_.out (by kernel_rfl)) (fun _ _ _ h => h) (Or.inl ⟨by rfl, ?_⟩) hHeld ?_ ?_
      rotate_left
      · rintro w' ⟨s0, s1, s2, s3, s4, s5, s6, s7⟩
        go_simp
        with_reducible rfl
      rotate_left
      · simp only [Act.put, List.setIfInBounds_toArray, List.set_cons_zero, List.set_cons_succ, i64_w, i32_w]
        rfl
      refine take_ (i := 9) (N := some 12) (v := ?_) (a' := ?_) #[true, true, true, true, true, true, true, true, true, true, true, false, false, false] rfl rfl (take_ofW HT_.out HW_.out (by kernel_rfl)) (fun _ _ _ h => h) (Or.inl ⟨by rfl, ?_⟩) hHeld ?_ ?_
      rotate_left
      · rintro w' ⟨s0, s1, s2, s3, s4, s5, s6, s7⟩
        go_simp
        with_reducible rfl
      rotate_left
      · simp only [Act.put, List.setIfInBounds_toArray, List.set_cons_zero, List.set_cons_succ, i64_w, i32_w]
        rfl
      refine take_ (i := 11) (N := some 14) (v := ?_) (a' := ?_) #[true, true, true, true, true, true, true, true, true, true, true, true, false, false] rfl rfl (take_ofW HT_.out HW_.out (by kernel_rfl)) (fun _ _ _ h => h) (Or.inl ⟨by rfl, ?_⟩) hHeld ?_ ?_
      rotate_left
      · rintro w' ⟨s0, s1, s2, s3, s4, s5, s6, s7⟩
        go_simp
        with_reducible rfl
      rotate_left
      · simp only [Act.put, List.setIfInBounds_toArray, List.set_cons_zero, List.set_cons_succ, i64_w, i32_w]
        rfl
      refine pure_ (i := 12) (N := some 15) (v := ?_) (a' := ?_) #[true, true, true, true, true, true, true, true, true, true, true, true, true, false] rfl rfl (any_of HT_.out (by kernel_rfl)) (fun _ _ _ h => h) (Or.inl ⟨by rfl, ?_⟩) ?_ ?_
      rotate_left
      · intro w'
        go_simp
        with_reducible rfl
      rotate_left
      · simp only [Act.put, List.setIfInBounds_toArray, List.set_cons_zero, List.set_cons_succ, i64_w, i32_w]
        rfl
      refine one_ (i := 13) (N := none) #[true, true, true, true, true, true, true, true, true, true, true, true, true, true] rfl rfl (one_of HT_.out (by kernel_rfl)) (by decide) (fun K hK => ?_)
      have hs8 : w7.cell? ⟨gb173, 0, none⟩ = some (.int .i64 0) := (blk_cell BK173.out 0).trans rfl
      have hfs8 := blk_frozen BK173.out 0
      have hns8_0 := NB172_173.out
      have hms8_0 := NB173_172.out
      have hs9 : w7.cell? ⟨gb173, 1, none⟩ = some (.string (⟨#[]⟩ : ByteArray)) := (blk_cell BK173.out 1).trans rfl
      have hfs9 := blk_frozen BK173.out 1
      have hns9_0 := NB172_173.out
      have hms9_0 := NB173_172.out
      have hs10 : w7.cell? ⟨gb173, 2, none⟩ = some (.string (⟨#[]⟩ : ByteArray)) := (blk_cell BK173.out 2).trans rfl
      have hfs10 := blk_frozen BK173.out 2
      have hns10_0 := NB172_173.out
      have hms10_0 := NB173_172.out
      have hs11 : w7.cell? ⟨gb173, 3, none⟩ = some (.int .i64 0) := (blk_cell BK173.out 3).trans rfl
      have hfs11 := blk_frozen BK173.out 3
      have hns11_0 := NB172_173.out
      have hms11_0 := NB173_172.out
      refine skip_ (w1 := ?_) (by rfl) rfl ?_ ?_
      rotate_left
      · go_simp
        rfl
      refine hK.out _ _ ⟨((cell_far (p := ⟨gb173, _, none⟩) NB172_173.out _).trans (((cell_far (p := ⟨gb173, _, none⟩) NB172_173.out _).trans (((cell_far (p := ⟨gb173, _, none⟩) NB172_173.out _).trans (((cell_far (p := ⟨gb173, _, none⟩) NB172_173.out _).trans (hHeld.1)))))))), ((cell_far (p := ⟨gb173, _, none⟩) NB172_173.out _).trans (((cell_far (p := ⟨gb173, _, none⟩) NB172_173.out _).trans (((cell_far (p := ⟨gb173, _, none⟩) NB172_173.out _).trans (((cell_far (p := ⟨gb173, _, none⟩) NB172_173.out _).trans (hHeld.2.1)))))))), ((cell_far (p := ⟨gb173, _, none⟩) NB172_173.out _).trans (((cell_far (p := ⟨gb173, _, none⟩) NB172_173.out _).trans (((cell_far (p := ⟨gb173, _, none⟩) NB172_173.out _).trans (((cell_far (p := ⟨gb173, _, none⟩) NB172_173.out _).trans (hHeld.2.2.1)))))))), ((cell_far (p := ⟨gb173, _, none⟩) NB172_173.out _).trans (((cell_far (p := ⟨gb173, _, none⟩) NB172_173.out _).trans (((cell_far (p := ⟨gb173, _, none⟩) NB172_173.out _).trans (((cell_far (p := ⟨gb173, _, none⟩) NB172_173.out _).trans (hHeld.2.2.2.1)))))))), ((cell_far (p := ⟨gb173, _, none⟩) NB172_173.out _).trans (((cell_far (p := ⟨gb173, _, none⟩) NB172_173.out _).trans (((cell_far (p := ⟨gb173, _, none⟩) NB172_173.out _).trans (((cell_far (p := ⟨gb173, _, none⟩) NB172_173.out _).trans (hHeld.2.2.2.2.1)))))))), ((cell_far (p := ⟨gb173, _, none⟩) NB172_173.out _).trans (((cell_far (p := ⟨gb173, _, none⟩) NB172_173.out _).trans (((cell_far (p := ⟨gb173, _, none⟩) NB172_173.out _).trans (((cell_far (p := ⟨gb173, _, none⟩) NB172_173.out _).trans (hHeld.2.2.2.2.2.1)))))))), ((cell_far (p := ⟨gb173, _, none⟩) NB172_173.out _).trans (((cell_far (p := ⟨gb173, _, none⟩) NB172_173.out _).trans (((cell_far (p := ⟨gb173, _, none⟩) NB172_173.out _).trans (((cell_far (p := ⟨gb173, _, none⟩) NB172_173.out _).trans (hHeld.2.2.2.2.2.2.1)))))))), ((cell_far (p := ⟨gb173, _, none⟩) (by first | exact Nat.ne_of_lt (Nat.lt_of_lt_of_le (by have := World.block_lt_of_cell? _ _ hw174_0; first | rwa [add_block] at this | exact this) GW173.out) | (rw [add_block]; exact Nat.ne_of_lt (Nat.lt_of_lt_of_le (by have := World.block_lt_of_cell? _ _ hw174_0; first | rwa [add_block] at this | exact this) GW173.out)) | (show (Addr.add _ _).block ≠ _; rw [add_block]; exact Nat.ne_of_lt (Nat.lt_of_lt_of_le (by have := World.block_lt_of_cell? _ _ hw174_0; first | rwa [add_block] at this | exact this) GW173.out)) | (dsimp only; exact Nat.ne_of_lt (Nat.lt_of_lt_of_le (by have := World.block_lt_of_cell? _ _ hw174_0; first | rwa [add_block] at this | exact this) GW173.out))) _).trans (((cell_far (p := ⟨gb173, _, none⟩) (by first | exact Nat.ne_of_lt (Nat.lt_of_lt_of_le (by have := World.block_lt_of_cell? _ _ hw174_0; first | rwa [add_block] at this | exact this) GW173.out) | (rw [add_block]; exact Nat.ne_of_lt (Nat.lt_of_lt_of_le (by have := World.block_lt_of_cell? _ _ hw174_0; first | rwa [add_block] at this | exact this) GW173.out)) | (show (Addr.add _ _).block ≠ _; rw [add_block]; exact Nat.ne_of_lt (Nat.lt_of_lt_of_le (by have := World.block_lt_of_cell? _ _ hw174_0; first | rwa [add_block] at this | exact this) GW173.out)) | (dsimp only; exact Nat.ne_of_lt (Nat.lt_of_lt_of_le (by have := World.block_lt_of_cell? _ _ hw174_0; first | rwa [add_block] at this | exact this) GW173.out))) _).trans (((cell_far (p := ⟨gb173, _, none⟩) (by first | exact Nat.ne_of_lt (Nat.lt_of_lt_of_le (by have := World.block_lt_of_cell? _ _ hw174_0; first | rwa [add_block] at this | exact this) GW173.out) | (rw [add_block]; exact Nat.ne_of_lt (Nat.lt_of_lt_of_le (by have := World.block_lt_of_cell? _ _ hw174_0; first | rwa [add_block] at this | exact this) GW173.out)) | (show (Addr.add _ _).block ≠ _; rw [add_block]; exact Nat.ne_of_lt (Nat.lt_of_lt_of_le (by have := World.block_lt_of_cell? _ _ hw174_0; first | rwa [add_block] at this | exact this) GW173.out)) | (dsimp only; exact Nat.ne_of_lt (Nat.lt_of_lt_of_le (by have := World.block_lt_of_cell? _ _ hw174_0; first | rwa [add_block] at this | exact this) GW173.out))) _).trans (((cell_far (p := ⟨gb173, _, none⟩) (by first | exact Nat.ne_of_lt (Nat.lt_of_lt_of_le (by have := World.block_lt_of_cell? _ _ hw174_0; first | rwa [add_block] at this | exact this) GW173.out) | (rw [add_block]; exact Nat.ne_of_lt (Nat.lt_of_lt_of_le (by have := World.block_lt_of_cell? _ _ hw174_0; first | rwa [add_block] at this | exact this) GW173.out)) | (show (Addr.add _ _).block ≠ _; rw [add_block]; exact Nat.ne_of_lt (Nat.lt_of_lt_of_le (by have := World.block_lt_of_cell? _ _ hw174_0; first | rwa [add_block] at this | exact this) GW173.out)) | (dsimp only; exact Nat.ne_of_lt (Nat.lt_of_lt_of_le (by have := World.block_lt_of_cell? _ _ hw174_0; first | rwa [add_block] at this | exact this) GW173.out))) _).trans (hHeld.2.2.2.2.2.2.2))))))))⟩ (fun hHeld => ?_)
      clear hK K
      refine done_ (done_of HT_.out (by kernel_rfl)) ?_
      try go_wp2
      refine bodyPost_ret (results_cell_row rfl _ _ gb173 31 #[.int .i64 0, .string (rdOf ByteArray.empty l0_0 (ji2)), .string a0_1, .int .i64 a0_3] (0, 0) _ rfl (by (with_reducible repeat (first | refine blk_drewN ?_ _ | refine blk_drew ?_ | refine blk_alloc ?_ _)); refine blk_put (cs := #[.int .i64 0, .string (rdOf ByteArray.empty l0_0 (ji2)), .string a0_1, .int .i64 0]) ?_ 3 _ rfl; (with_reducible repeat (first | refine blk_drewN ?_ _ | refine blk_drew ?_ | refine blk_alloc ?_ _)); refine blk_put (cs := #[.int .i64 0, .string (rdOf ByteArray.empty l0_0 (ji2)), .string (⟨#[]⟩ : ByteArray), .int .i64 0]) ?_ 2 _ rfl; (with_reducible repeat (first | refine blk_drewN ?_ _ | refine blk_drew ?_ | refine blk_alloc ?_ _)); refine blk_put (cs := #[.int .i64 0, .string (⟨#[]⟩ : ByteArray), .string (⟨#[]⟩ : ByteArray), .int .i64 0]) ?_ 1 _ rfl; (with_reducible repeat (first | refine blk_drewN ?_ _ | refine blk_drew ?_ | refine blk_alloc ?_ _)); refine blk_put (cs := #[.int .i64 0, .string (⟨#[]⟩ : ByteArray), .string (⟨#[]⟩ : ByteArray), .int .i64 0]) ?_ 0 _ rfl; (with_reducible repeat (first | refine blk_drewN ?_ _ | refine blk_drew ?_ | refine blk_alloc ?_ _)); exact BK173.out) Tryd.underlying31 rfl (by kernel_rfl)) rfl ?_
      exact ⟨by first | rfl | (simp [errW_none, errW_some] <;> rfl) | (simp only [← hji2]; first | rfl | (simp [errW_none, errW_some] <;> rfl)) | (simp [*, errW_none, errW_some] <;> rfl) | (simp [*, Go.Proofs.YtpfjboioeidecaaDoor.HQ.isEmpty_ne]; done) | (simp; rw [Go.Proofs.YtpfjboioeidecaaDoor.HQ.isEmpty_ne]), by repeat (first | (with_reducible first | exact HB.out | apply below_alloc | apply pw_below_drewN | apply below_drew1 | refine below_set ?_ GE172.out | refine below_set ?_ GE173.out) | exact HB.out)⟩
    · rw [if_neg c4] at H
      exact absurd H (by simp)
  · rw [if_neg c3] at H
    exact absurd H (by simp)
def spec_l15Not.f (a0 : Bool) (a1 : ByteArray) (a2 : Bool) : Option (Bool) := if a0 = true then (some (!a2)) else (some (a1.toList != ([] : List UInt8)))
set_option maxHeartbeats 8000000 in
set_option maxRecDepth 100000 in
theorem spec_l15Not.calls (a0 : Bool) (a1 : ByteArray) (a2 : Bool) (r : Bool) (w : World) (h : spec_l15Not.f a0 a1 a2 = some r) :
    Calls Tryd.prog 59 #[.bool a0, .string a1, .bool a2] w fun e w' => e = .returned (.bool r) ∧ Drawn0 w w' := by
  have H : (if a0 = true then (some (!a2)) else (some (a1.toList != ([] : List UInt8)))) = some r := h
  clear h
  by_cases c4 : a0 = true
  · subst c4
    have H1 : (some (!a2)) = some r := by rw [if_pos rfl] at H; exact H
    clear H
    have H := H1
    clear H1
    obtain rfl := Option.some.inj H
    go_enter Tryd.func59, Tryd.ntmps59
    go_wp2
    go_ret
    exact ⟨by first | rfl | (simp; done) | (simp [*]; done) | (simp; first | rw [Go.Proofs.YtpfjboioeidecaaDoor.HQ.isEmpty_ne] | (simp [Go.Proofs.YtpfjboioeidecaaDoor.HQ.isEmpty_ne]; done)), by repeat (first | exact Drawn0.refl _ | apply Drawn0.step)⟩
  · replace c4 := Bool.eq_false_iff.mpr c4
    subst c4
    have H1 : (some (a1.toList != ([] : List UInt8))) = some r := by rw [if_neg (show ¬ (false = true) by decide)] at H; exact H
    clear H
    have H := H1
    clear H1
    obtain rfl := Option.some.inj H
    go_enter Tryd.func59, Tryd.ntmps59
    go_wp2
    go_ret
    exact ⟨by first | rfl | (simp; done) | (simp [*]; done) | (simp; first | rw [Go.Proofs.YtpfjboioeidecaaDoor.HQ.isEmpty_ne] | (simp [Go.Proofs.YtpfjboioeidecaaDoor.HQ.isEmpty_ne]; done)), by repeat (first | exact Drawn0.refl _ | apply Drawn0.step)⟩
def spec_l1Digit.f (a0 : Int) : Option (Bool) := if a0 ≥ 48 then (some (decide (a0 ≤ 57))) else (some false)
set_option maxHeartbeats 8000000 in
set_option maxRecDepth 100000 in
theorem spec_l1Digit.calls (a0 : Int) (r : Bool) (w : World) (h : spec_l1Digit.f a0 = some r) :
    Calls Tryd.prog 66 #[.int .u8 a0] w fun e w' => e = .returned (.bool r) ∧ Drawn0 w w' := by
  have H : (if a0 ≥ 48 then (some (decide (a0 ≤ 57))) else (some false)) = some r := h
  clear h
  by_cases c2 : a0 ≥ 48
  · rw [if_pos c2] at H
    have c2b0 : decide (48 ≤ a0) = true := decide_eq_true c2
    clear c2
    obtain rfl := Option.some.inj H
    go_enter Tryd.func66, Tryd.ntmps66
    go_wp2
    go_ret
    exact ⟨by first | rfl | (simp; done) | (simp [*]; done) | (simp; first | rw [Go.Proofs.YtpfjboioeidecaaDoor.HQ.isEmpty_ne] | (simp [Go.Proofs.YtpfjboioeidecaaDoor.HQ.isEmpty_ne]; done)), by repeat (first | exact Drawn0.refl _ | apply Drawn0.step)⟩
  · rw [if_neg c2] at H
    have c2b0 : decide (48 ≤ a0) = false := decide_eq_false c2
    clear c2
    obtain rfl := Option.some.inj H
    go_enter Tryd.func66, Tryd.ntmps66
    go_wp2
    go_ret
    exact ⟨by first | rfl | (simp; done) | (simp [*]; done) | (simp; first | rw [Go.Proofs.YtpfjboioeidecaaDoor.HQ.isEmpty_ne] | (simp [Go.Proofs.YtpfjboioeidecaaDoor.HQ.isEmpty_ne]; done)), by repeat (first | exact Drawn0.refl _ | apply Drawn0.step)⟩
def spec_l1Letter.f (a0 : Int) : Option (Bool) := if a0 ≥ 97 then (if a0 ≤ 122 then (some true) else (if a0 ≥ 65 then (some (decide (a0 ≤ 90))) else (some false))) else (if a0 ≥ 65 then (some (decide (a0 ≤ 90))) else (some false))
set_option maxHeartbeats 8000000 in
set_option maxRecDepth 100000 in
theorem spec_l1Letter.calls (a0 : Int) (r : Bool) (w : World) (h : spec_l1Letter.f a0 = some r) :
    Calls Tryd.prog 67 #[.int .u8 a0] w fun e w' => e = .returned (.bool r) ∧ Drawn0 w w' := by
  have H : (if a0 ≥ 97 then (if a0 ≤ 122 then (some true) else (if a0 ≥ 65 then (some (decide (a0 ≤ 90))) else (some false))) else (if a0 ≥ 65 then (some (decide (a0 ≤ 90))) else (some false))) = some r := h
  clear h
  by_cases c2 : a0 ≥ 97
  · rw [if_pos c2] at H
    have c2b0 : decide (97 ≤ a0) = true := decide_eq_true c2
    clear c2
    by_cases c3 : a0 ≤ 122
    · rw [if_pos c3] at H
      have c3b0 : decide (a0 ≤ 122) = true := decide_eq_true c3
      clear c3
      obtain rfl := Option.some.inj H
      go_enter Tryd.func67, Tryd.ntmps67
      go_wp2
      go_ret
      exact ⟨by first | rfl | (simp; done) | (simp [*]; done) | (simp; first | rw [Go.Proofs.YtpfjboioeidecaaDoor.HQ.isEmpty_ne] | (simp [Go.Proofs.YtpfjboioeidecaaDoor.HQ.isEmpty_ne]; done)), by repeat (first | exact Drawn0.refl _ | apply Drawn0.step)⟩
    · rw [if_neg c3] at H
      have c3b0 : decide (a0 ≤ 122) = false := decide_eq_false c3
      clear c3
      by_cases c4 : a0 ≥ 65
      · rw [if_pos c4] at H
        have c4b0 : decide (65 ≤ a0) = true := decide_eq_true c4
        clear c4
        obtain rfl := Option.some.inj H
        go_enter Tryd.func67, Tryd.ntmps67
        go_wp2
        go_ret
        exact ⟨by first | rfl | (simp; done) | (simp [*]; done) | (simp; first | rw [Go.Proofs.YtpfjboioeidecaaDoor.HQ.isEmpty_ne] | (simp [Go.Proofs.YtpfjboioeidecaaDoor.HQ.isEmpty_ne]; done)), by repeat (first | exact Drawn0.refl _ | apply Drawn0.step)⟩
      · rw [if_neg c4] at H
        have c4b0 : decide (65 ≤ a0) = false := decide_eq_false c4
        clear c4
        obtain rfl := Option.some.inj H
        go_enter Tryd.func67, Tryd.ntmps67
        go_wp2
        go_ret
        exact ⟨by first | rfl | (simp; done) | (simp [*]; done) | (simp; first | rw [Go.Proofs.YtpfjboioeidecaaDoor.HQ.isEmpty_ne] | (simp [Go.Proofs.YtpfjboioeidecaaDoor.HQ.isEmpty_ne]; done)), by repeat (first | exact Drawn0.refl _ | apply Drawn0.step)⟩
  · rw [if_neg c2] at H
    have c2b0 : decide (97 ≤ a0) = false := decide_eq_false c2
    clear c2
    by_cases c5 : a0 ≥ 65
    · rw [if_pos c5] at H
      have c5b0 : decide (65 ≤ a0) = true := decide_eq_true c5
      clear c5
      obtain rfl := Option.some.inj H
      go_enter Tryd.func67, Tryd.ntmps67
      go_wp2
      go_ret
      exact ⟨by first | rfl | (simp; done) | (simp [*]; done) | (simp; first | rw [Go.Proofs.YtpfjboioeidecaaDoor.HQ.isEmpty_ne] | (simp [Go.Proofs.YtpfjboioeidecaaDoor.HQ.isEmpty_ne]; done)), by repeat (first | exact Drawn0.refl _ | apply Drawn0.step)⟩
    · rw [if_neg c5] at H
      have c5b0 : decide (65 ≤ a0) = false := decide_eq_false c5
      clear c5
      obtain rfl := Option.some.inj H
      go_enter Tryd.func67, Tryd.ntmps67
      go_wp2
      go_ret
      exact ⟨by first | rfl | (simp; done) | (simp [*]; done) | (simp; first | rw [Go.Proofs.YtpfjboioeidecaaDoor.HQ.isEmpty_ne] | (simp [Go.Proofs.YtpfjboioeidecaaDoor.HQ.isEmpty_ne]; done)), by repeat (first | exact Drawn0.refl _ | apply Drawn0.step)⟩
mutual
def spec_GoodName.j0 : Nat → ByteArray → Bool → Option (Bool)
  | 0, _, _ => none
  | k + 1, x0, x16 => if x16 = true then (some false) else (spec_GoodName.l0 k x0 0)
def spec_GoodName.l0 : Nat → ByteArray → Int → Option (Bool)
  | 0, _, _ => none
  | k + 1, x0, x3 => if x3 < (x0.size : Int) then (if 0 ≤ x3 then ((spec_l1Letter.f (bt x0 x3)).bind fun t176 => (if t176 = true then (spec_GoodName.l0 k x0 (wrap64 (x3 + 1))) else ((spec_l1Digit.f (bt x0 x3)).bind fun t177 => (if t177 = true then (spec_GoodName.l0 k x0 (wrap64 (x3 + 1))) else (if (bt x0 x3) = 95 then (spec_GoodName.l0 k x0 (wrap64 (x3 + 1))) else (some false)))))) else (none)) else (some true)
end
def spec_GoodName.f (k : Nat) (a0 : ByteArray) : Option (Bool) := if (a0.size : Int) < 1 then (spec_GoodName.j0 k a0 true) else (if (a0.size : Int) > 30 then (spec_GoodName.j0 k a0 true) else (if 0 < (a0.size : Int) then ((spec_l1Digit.f (bt a0 0)).bind fun t175 => (spec_GoodName.j0 k a0 t175)) else (none)))
theorem spec_GoodName.mono_l : ∀ k, (∀ y0 y1, LeO (spec_GoodName.j0 k y0 y1) (spec_GoodName.j0 (k + 1) y0 y1)) ∧ (∀ y0 y1, LeO (spec_GoodName.l0 k y0 y1) (spec_GoodName.l0 (k + 1) y0 y1))
  | 0 => ⟨fun _ _ r h => by simp [spec_GoodName.j0] at h, fun _ _ r h => by simp [spec_GoodName.l0] at h⟩
  | k + 1 => by
    obtain ⟨ih0, ih1⟩ := spec_GoodName.mono_l k
    refine ⟨?_, ?_⟩
    · intro y0 y1
      unfold spec_GoodName.j0
      repeat' first
      | (with_reducible exact ih0 _ _)
      | (with_reducible exact ih1 _ _)
      | (with_reducible exact LeO.refl _)
      | (with_reducible exact LeO.none _)
      | (with_reducible refine LeO.ite ?_ ?_)
      | (with_reducible refine LeO.bind ?_ (fun _ => ?_))
      | exact ih0 _ _
      | exact ih1 _ _
      | exact LeO.none _
      | refine LeO.ite ?_ ?_
      | refine LeO.bind ?_ (fun _ => ?_)
    · intro y0 y1
      unfold spec_GoodName.l0
      repeat' first
      | (with_reducible exact ih0 _ _)
      | (with_reducible exact ih1 _ _)
      | (with_reducible exact LeO.refl _)
      | (with_reducible exact LeO.none _)
      | (with_reducible refine LeO.ite ?_ ?_)
      | (with_reducible refine LeO.bind ?_ (fun _ => ?_))
      | exact ih0 _ _
      | exact ih1 _ _
      | exact LeO.none _
      | refine LeO.ite ?_ ?_
      | refine LeO.bind ?_ (fun _ => ?_)
theorem spec_GoodName.mono : ∀ a0 k, LeO (spec_GoodName.f k a0) (spec_GoodName.f (k + 1) a0) := by
  intro a0 k
  obtain ⟨ih0, ih1⟩ := spec_GoodName.mono_l k
  unfold spec_GoodName.f
  repeat' first
      | (with_reducible exact ih0 _ _)
      | (with_reducible exact ih1 _ _)
      | (with_reducible exact LeO.refl _)
      | (with_reducible exact LeO.none _)
      | (with_reducible refine LeO.ite ?_ ?_)
      | (with_reducible refine LeO.bind ?_ (fun _ => ?_))
      | exact ih0 _ _
      | exact ih1 _ _
      | exact LeO.none _
      | refine LeO.ite ?_ ?_
      | refine LeO.bind ?_ (fun _ => ?_)
set_option maxHeartbeats 8000000 in
set_option maxRecDepth 100000 in
theorem spec_GoodName.calls (k : Nat) (a0 : ByteArray) (r : Bool) (w : World) (h : spec_GoodName.f k a0 = some r) :
    Calls Tryd.prog 60 #[.string a0] w fun e w' => e = .returned (.bool r) ∧ Drawn0 w w' := by
  have H : (if (a0.size : Int) < 1 then (spec_GoodName.j0 k a0 true) else (if (a0.size : Int) > 30 then (spec_GoodName.j0 k a0 true) else (if 0 < (a0.size : Int) then ((spec_l1Digit.f (bt a0 0)).bind fun t175 => (spec_GoodName.j0 k a0 t175)) else (none)))) = some r := h
  clear h
  have HC2 := Aside0.mk H
  clear H
  go_enter Tryd.func60, Tryd.ntmps60
  go_upto_region 1 with (fail)
  go_cut [16] (fun v16 wc => ∃ (kq : Nat) (x16_1 : Bool), v16 = .bool x16_1 ∧ Aside0 (spec_GoodName.j0 kq a0 x16_1 = some r) ∧ Aside0 (kq ≤ k) ∧ Drawn0 w wc)
  case first =>
    have H := HC2.out
    clear HC2
    by_cases c3 : (a0.size : Int) < 1
    · rw [if_pos c3] at H
      have c3b0 : decide ((a0.size : Int) < 1) = true := decide_eq_true c3
      have c3b1 : decide (a0.size < 1) = true := decide_eq_true (by omega)
      clear c3
      (first | rw [c3b0] | (simp only [i64_w, i32_w]; rw [c3b0]) | skip)
      have H' := Aside0.mk H
      clear H
      go_wp2
      go_meet
      case rel => exact ⟨_, (true), (by first | rfl | (simp; done) | (simp [*]; done) | (simp; first | rw [Go.Proofs.YtpfjboioeidecaaDoor.HQ.isEmpty_ne] | (simp [Go.Proofs.YtpfjboioeidecaaDoor.HQ.isEmpty_ne]; done))), H', ⟨by first | omega | exact Nat.le_refl _⟩, by repeat (first | exact Drawn0.refl _ | apply Drawn0.step)⟩
    · rw [if_neg c3] at H
      have c3b0 : decide ((a0.size : Int) < 1) = false := decide_eq_false c3
      have c3b1 : decide (a0.size < 1) = false := decide_eq_false (by omega)
      clear c3
      (first | rw [c3b0] | (simp only [i64_w, i32_w]; rw [c3b0]) | skip)
      by_cases c4 : (a0.size : Int) > 30
      · rw [if_pos c4] at H
        have c4b0 : decide (30 < (a0.size : Int)) = true := decide_eq_true c4
        have c4b1 : decide (30 < a0.size) = true := decide_eq_true (by omega)
        clear c4
        have H' := Aside0.mk H
        clear H
        go_wp2
        go_meet
        case rel => exact ⟨_, (true), (by first | rfl | (simp; done) | (simp [*]; done) | (simp; first | rw [Go.Proofs.YtpfjboioeidecaaDoor.HQ.isEmpty_ne] | (simp [Go.Proofs.YtpfjboioeidecaaDoor.HQ.isEmpty_ne]; done))), H', ⟨by first | omega | exact Nat.le_refl _⟩, by repeat (first | exact Drawn0.refl _ | apply Drawn0.step)⟩
      · rw [if_neg c4] at H
        have c4b0 : decide (30 < (a0.size : Int)) = false := decide_eq_false c4
        have c4b1 : decide (30 < a0.size) = false := decide_eq_false (by omega)
        clear c4
        by_cases c5 : 0 < (a0.size : Int)
        · rw [if_pos c5] at H
          have c5b0 : decide (0 < (a0.size : Int)) = true := decide_eq_true c5
          have c5b1 : decide (0 < a0.size) = true := decide_eq_true (by omega)
          clear c5
          replace H := Option.bind_eq_some_iff.mp H
          obtain ⟨t175, A70, H⟩ := H
          replace H : (spec_GoodName.j0 k a0 t175) = some r := H
          have A7 := Aside0.mk A70
          clear A70
          have H' := Aside0.mk H
          clear H
          have p6 : 0 ≤ (0 : Int) := (by omega)
          have q6 : 0 < a0.size := (by have : (0 : Int) < (a0.size : Int) := of_decide_eq_true (by first | (with_reducible assumption) | assumption); omega)
          have hx6 : ∀ h : 0 < a0.size, ((a0[0]'h).toNat : Int) = bt a0 0 := bt_at a0 0
          clear p6
          have qi6 : (0 < (a0.size : Int)) = True := eq_true (of_decide_eq_true (by first | (with_reducible assumption) | assumption))
          replace q6 := eq_true q6
          go_wp2_with (first | (go_at_call 66; (with_reducible refine (spec_l1Digit.calls (bt a0 0) t175 _ A7.out).mono ?_); rintro e w' ⟨rfl, ⟨nd, rfl⟩⟩))
          go_meet
          case rel => exact ⟨_, (t175), (by first | rfl | (simp; done) | (simp [*]; done) | (simp; first | rw [Go.Proofs.YtpfjboioeidecaaDoor.HQ.isEmpty_ne] | (simp [Go.Proofs.YtpfjboioeidecaaDoor.HQ.isEmpty_ne]; done))), H', ⟨by first | omega | exact Nat.le_refl _⟩, by repeat (first | exact Drawn0.refl _ | apply Drawn0.step)⟩
        · rw [if_neg c5] at H
          exact absurd H (by simp)
  case rest =>
    clear HC2
    try clear p2
    try clear c3
    try clear c3b0
    try clear c3b1
    try clear c4
    try clear c4b0
    try clear c4b1
    try clear c5
    try clear c5b0
    try clear c5b1
    try clear c6
    try clear p6
    try clear q6
    try clear hx6
    try clear qi6
    try clear p6
    try clear q6
    obtain ⟨kq, x16_1, rfl, HA, HJ1, ⟨mc1, rfl⟩⟩ := hcut
    cases kq with
    | zero => exact absurd HA.out (by simp [spec_GoodName.j0])
    | succ kj1 =>
      have H := HA.out
      clear HA
      simp only [spec_GoodName.j0] at H
      by_cases c8 : x16_1 = true
      · subst c8
        have H1 : (some false) = some r := by rw [if_pos rfl] at H; exact H
        clear H
        have H := H1
        clear H1
        obtain rfl := Option.some.inj H
        go_wp2
        go_ret
        exact ⟨by first | rfl | (simp; done) | (simp [*]; done) | (simp; first | rw [Go.Proofs.YtpfjboioeidecaaDoor.HQ.isEmpty_ne] | (simp [Go.Proofs.YtpfjboioeidecaaDoor.HQ.isEmpty_ne]; done)), by repeat (first | exact Drawn0.refl _ | apply Drawn0.step)⟩
      · replace c8 := Bool.eq_false_iff.mpr c8
        subst c8
        have H1 : (spec_GoodName.l0 kj1 a0 0) = some r := by rw [if_neg (show ¬ (false = true) by decide)] at H; exact H
        clear H
        have H := H1
        clear H1
        have H' := Aside0.mk H
        clear H
        go_wp2
        go_loopg [3] kj1 (fun kq v3 w' => ∃ (x3_2 : Int), v3 = .int .i64 x3_2 ∧ Aside0 (spec_GoodName.l0 kq a0 x3_2 = some r) ∧ Aside0 (kq ≤ kj1) ∧ Drawn0 w w')
        case atStart => exact ⟨(0), (by first | rfl | (simp; done) | (simp [*]; done) | (simp; first | rw [Go.Proofs.YtpfjboioeidecaaDoor.HQ.isEmpty_ne] | (simp [Go.Proofs.YtpfjboioeidecaaDoor.HQ.isEmpty_ne]; done))), H', ⟨Nat.le_refl _⟩, by repeat (first | exact Drawn0.refl _ | apply Drawn0.step)⟩
        case round =>
          clear H'
          try clear c1
          try clear p2
          try clear c3
          try clear c3b0
          try clear c3b1
          try clear c4
          try clear c4b0
          try clear c4b1
          try clear c5
          try clear c5b0
          try clear c5b1
          try clear c6
          try clear p6
          try clear q6
          try clear hx6
          try clear qi6
          try clear c8
          try clear p2
          try clear p6
          try clear q6
          obtain ⟨x3_2, rfl, HA, HK2, ⟨m2, rfl⟩⟩ := hrel
          cases gk with
          | zero => exact absurd HA.out (by simp [spec_GoodName.l0])
          | succ k2 =>
            have H := HA.out
            clear HA
            simp only [spec_GoodName.l0] at H
            by_cases c9 : x3_2 < (a0.size : Int)
            · rw [if_pos c9] at H
              have c9b0 : decide (x3_2 < (a0.size : Int)) = true := decide_eq_true c9
              clear c9
              by_cases c10 : 0 ≤ x3_2
              · rw [if_pos c10] at H
                have c10b0 : decide (0 ≤ x3_2) = true := decide_eq_true c10
                clear c10
                replace H := Option.bind_eq_some_iff.mp H
                obtain ⟨t176, A120, H⟩ := H
                replace H : (if t176 = true then (spec_GoodName.l0 k2 a0 (wrap64 (x3_2 + 1))) else ((spec_l1Digit.f (bt a0 x3_2)).bind fun t177 => (if t177 = true then (spec_GoodName.l0 k2 a0 (wrap64 (x3_2 + 1))) else (if (bt a0 x3_2) = 95 then (spec_GoodName.l0 k2 a0 (wrap64 (x3_2 + 1))) else (some false))))) = some r := H
                have A12 := Aside0.mk A120
                clear A120
                by_cases c13 : t176 = true
                · subst c13
                  have H1 : (spec_GoodName.l0 k2 a0 (wrap64 (x3_2 + 1))) = some r := by rw [if_pos rfl] at H; exact H
                  clear H
                  have H := H1
                  clear H1
                  have H' := Aside0.mk H
                  clear H
                  have p11 : 0 ≤ (x3_2 : Int) := of_decide_eq_true (by first | (with_reducible assumption) | assumption)
                  have q11 : x3_2 < (a0.size : Int) := of_decide_eq_true (by first | (with_reducible assumption) | assumption)
                  have hx11 := bt_at a0 x3_2
                  replace p11 := eq_true p11
                  replace q11 := eq_true q11
                  go_wp2_with (first | ((with_reducible refine gate_callee (f := 67) rfl ?_); refine goesL_ (some 26) rfl rfl Tryd.func67 (by kernel_rfl) rfl #[.int .u8 (bt a0 x3_2)] rfl (by (try simp only [List.map_toArray, List.map_cons, List.map_nil]); first | done | rfl | (simp only [List.length_drop, List.length_take]; rfl)) ?_; (with_reducible refine (spec_l1Letter.calls (bt a0 x3_2) true _ A12.out).mono ?_); rintro e w' ⟨rfl, ⟨nd, rfl⟩⟩; refine ⟨_, rfl, ?_⟩))
                  go_roundg k2
                  case measure => have := HJ1.out; have := HK2.out; omega
                  case rel => exact ⟨(wrap64 (x3_2 + 1)), (by first | rfl | (simp; done) | (simp [*]; done) | (simp; first | rw [Go.Proofs.YtpfjboioeidecaaDoor.HQ.isEmpty_ne] | (simp [Go.Proofs.YtpfjboioeidecaaDoor.HQ.isEmpty_ne]; done))), H', ⟨by have := HJ1.out; have := HK2.out; omega⟩, by repeat (first | exact Drawn0.refl _ | apply Drawn0.step)⟩
                · replace c13 := Bool.eq_false_iff.mpr c13
                  subst c13
                  have H1 : ((spec_l1Digit.f (bt a0 x3_2)).bind fun t177 => (if t177 = true then (spec_GoodName.l0 k2 a0 (wrap64 (x3_2 + 1))) else (if (bt a0 x3_2) = 95 then (spec_GoodName.l0 k2 a0 (wrap64 (x3_2 + 1))) else (some false)))) = some r := by rw [if_neg (show ¬ (false = true) by decide)] at H; exact H
                  clear H
                  have H := H1
                  clear H1
                  replace H := Option.bind_eq_some_iff.mp H
                  obtain ⟨t177, A150, H⟩ := H
                  replace H : (if t177 = true then (spec_GoodName.l0 k2 a0 (wrap64 (x3_2 + 1))) else (if (bt a0 x3_2) = 95 then (spec_GoodName.l0 k2 a0 (wrap64 (x3_2 + 1))) else (some false))) = some r := H
                  have A15 := Aside0.mk A150
                  clear A150
                  by_cases c16 : t177 = true
                  · subst c16
                    have H1 : (spec_GoodName.l0 k2 a0 (wrap64 (x3_2 + 1))) = some r := by rw [if_pos rfl] at H; exact H
                    clear H
                    have H := H1
                    clear H1
                    have H' := Aside0.mk H
                    clear H
                    have p11 : 0 ≤ (x3_2 : Int) := of_decide_eq_true (by first | (with_reducible assumption) | assumption)
                    have q11 : x3_2 < (a0.size : Int) := of_decide_eq_true (by first | (with_reducible assumption) | assumption)
                    have hx11 := bt_at a0 x3_2
                    replace p11 := eq_true p11
                    replace q11 := eq_true q11
                    go_wp2_with (first | ((with_reducible refine gate_callee (f := 67) rfl ?_); refine goesL_ (some 26) rfl rfl Tryd.func67 (by kernel_rfl) rfl #[.int .u8 (bt a0 x3_2)] rfl (by (try simp only [List.map_toArray, List.map_cons, List.map_nil]); first | done | rfl | (simp only [List.length_drop, List.length_take]; rfl)) ?_; (with_reducible refine (spec_l1Letter.calls (bt a0 x3_2) false _ A12.out).mono ?_); rintro e w' ⟨rfl, ⟨nd, rfl⟩⟩; refine ⟨_, rfl, ?_⟩; have p14 : 0 ≤ (x3_2 : Int) := of_decide_eq_true (by first | (with_reducible assumption) | assumption); have q14 : x3_2 < (a0.size : Int) := of_decide_eq_true (by first | (with_reducible assumption) | assumption); have hx14 := bt_at a0 x3_2; replace p14 := eq_true p14; replace q14 := eq_true q14) | (go_at_call 66; (with_reducible refine (spec_l1Digit.calls (bt a0 x3_2) true _ A15.out).mono ?_); rintro e w' ⟨rfl, ⟨nd, rfl⟩⟩))
                    go_roundg k2
                    case measure => have := HJ1.out; have := HK2.out; omega
                    case rel => exact ⟨(wrap64 (x3_2 + 1)), (by first | rfl | (simp; done) | (simp [*]; done) | (simp; first | rw [Go.Proofs.YtpfjboioeidecaaDoor.HQ.isEmpty_ne] | (simp [Go.Proofs.YtpfjboioeidecaaDoor.HQ.isEmpty_ne]; done))), H', ⟨by have := HJ1.out; have := HK2.out; omega⟩, by repeat (first | exact Drawn0.refl _ | apply Drawn0.step)⟩
                  · replace c16 := Bool.eq_false_iff.mpr c16
                    subst c16
                    have H1 : (if (bt a0 x3_2) = 95 then (spec_GoodName.l0 k2 a0 (wrap64 (x3_2 + 1))) else (some false)) = some r := by rw [if_neg (show ¬ (false = true) by decide)] at H; exact H
                    clear H
                    have H := H1
                    clear H1
                    by_cases c18 : (bt a0 x3_2) = 95
                    · rw [if_pos c18] at H
                      have c18b0 : ((bt a0 x3_2) == 95) = true := beq_iff_eq.mpr c18
                      have c18b1 : ((bt a0 x3_2) != 95) = false := bne_eq_false_iff_eq.mpr c18
                      clear c18
                      have H' := Aside0.mk H
                      clear H
                      have p11 : 0 ≤ (x3_2 : Int) := of_decide_eq_true (by first | (with_reducible assumption) | assumption)
                      have q11 : x3_2 < (a0.size : Int) := of_decide_eq_true (by first | (with_reducible assumption) | assumption)
                      have hx11 := bt_at a0 x3_2
                      replace p11 := eq_true p11
                      replace q11 := eq_true q11
                      go_wp2_with (first | ((with_reducible refine gate_callee (f := 67) rfl ?_); refine goesL_ (some 26) rfl rfl Tryd.func67 (by kernel_rfl) rfl #[.int .u8 (bt a0 x3_2)] rfl (by (try simp only [List.map_toArray, List.map_cons, List.map_nil]); first | done | rfl | (simp only [List.length_drop, List.length_take]; rfl)) ?_; (with_reducible refine (spec_l1Letter.calls (bt a0 x3_2) false _ A12.out).mono ?_); rintro e w' ⟨rfl, ⟨nd, rfl⟩⟩; refine ⟨_, rfl, ?_⟩; have p14 : 0 ≤ (x3_2 : Int) := of_decide_eq_true (by first | (with_reducible assumption) | assumption); have q14 : x3_2 < (a0.size : Int) := of_decide_eq_true (by first | (with_reducible assumption) | assumption); have hx14 := bt_at a0 x3_2; replace p14 := eq_true p14; replace q14 := eq_true q14) | (go_at_call 66; (with_reducible refine (spec_l1Digit.calls (bt a0 x3_2) false _ A15.out).mono ?_); rintro e w' ⟨rfl, ⟨nd, rfl⟩⟩; have p17 : 0 ≤ (x3_2 : Int) := of_decide_eq_true (by first | (with_reducible assumption) | assumption); have q17 : x3_2 < (a0.size : Int) := of_decide_eq_true (by first | (with_reducible assumption) | assumption); have hx17 := bt_at a0 x3_2; replace p17 := eq_true p17; replace q17 := eq_true q17))
                      go_roundg k2
                      case measure => have := HJ1.out; have := HK2.out; omega
                      case rel => exact ⟨(wrap64 (x3_2 + 1)), (by first | rfl | (simp; done) | (simp [*]; done) | (simp; first | rw [Go.Proofs.YtpfjboioeidecaaDoor.HQ.isEmpty_ne] | (simp [Go.Proofs.YtpfjboioeidecaaDoor.HQ.isEmpty_ne]; done))), H', ⟨by have := HJ1.out; have := HK2.out; omega⟩, by repeat (first | exact Drawn0.refl _ | apply Drawn0.step)⟩
                    · rw [if_neg c18] at H
                      have c18b0 : ((bt a0 x3_2) == 95) = false := beq_eq_false_iff_ne.mpr c18
                      have c18b1 : ((bt a0 x3_2) != 95) = true := bne_iff_ne.mpr c18
                      obtain rfl := Option.some.inj H
                      have p11 : 0 ≤ (x3_2 : Int) := of_decide_eq_true (by first | (with_reducible assumption) | assumption)
                      have q11 : x3_2 < (a0.size : Int) := of_decide_eq_true (by first | (with_reducible assumption) | assumption)
                      have hx11 := bt_at a0 x3_2
                      replace p11 := eq_true p11
                      replace q11 := eq_true q11
                      go_wp2_with (first | ((with_reducible refine gate_callee (f := 67) rfl ?_); refine goesL_ (some 26) rfl rfl Tryd.func67 (by kernel_rfl) rfl #[.int .u8 (bt a0 x3_2)] rfl (by (try simp only [List.map_toArray, List.map_cons, List.map_nil]); first | done | rfl | (simp only [List.length_drop, List.length_take]; rfl)) ?_; (with_reducible refine (spec_l1Letter.calls (bt a0 x3_2) false _ A12.out).mono ?_); rintro e w' ⟨rfl, ⟨nd, rfl⟩⟩; refine ⟨_, rfl, ?_⟩; have p14 : 0 ≤ (x3_2 : Int) := of_decide_eq_true (by first | (with_reducible assumption) | assumption); have q14 : x3_2 < (a0.size : Int) := of_decide_eq_true (by first | (with_reducible assumption) | assumption); have hx14 := bt_at a0 x3_2; replace p14 := eq_true p14; replace q14 := eq_true q14) | (go_at_call 66; (with_reducible refine (spec_l1Digit.calls (bt a0 x3_2) false _ A15.out).mono ?_); rintro e w' ⟨rfl, ⟨nd, rfl⟩⟩; have p17 : 0 ≤ (x3_2 : Int) := of_decide_eq_true (by first | (with_reducible assumption) | assumption); have q17 : x3_2 < (a0.size : Int) := of_decide_eq_true (by first | (with_reducible assumption) | assumption); have hx17 := bt_at a0 x3_2; replace p17 := eq_true p17; replace q17 := eq_true q17))
                      go_ret
                      exact ⟨by first | rfl | (simp; done) | (simp [*]; done) | (simp; first | rw [Go.Proofs.YtpfjboioeidecaaDoor.HQ.isEmpty_ne] | (simp [Go.Proofs.YtpfjboioeidecaaDoor.HQ.isEmpty_ne]; done)), by repeat (first | exact Drawn0.refl _ | apply Drawn0.step)⟩
              · rw [if_neg c10] at H
                exact absurd H (by simp)
            · rw [if_neg c9] at H
              have c9b0 : decide (x3_2 < (a0.size : Int)) = false := decide_eq_false c9
              clear c9
              obtain rfl := Option.some.inj H
              go_wp2
              go_ret
              exact ⟨by first | rfl | (simp; done) | (simp [*]; done) | (simp; first | rw [Go.Proofs.YtpfjboioeidecaaDoor.HQ.isEmpty_ne] | (simp [Go.Proofs.YtpfjboioeidecaaDoor.HQ.isEmpty_ne]; done)), by repeat (first | exact Drawn0.refl _ | apply Drawn0.step)⟩
end Go.Proofs.YtpfjboioeidecaaDoor.PQ
end
section
namespace Go.Proofs.YtpfjboioeidecaaDoor.PQ
open Go.RowKit Go.Proofs.YtpfjboioeidecaaDoorW.PrintWords Go.Proofs.YtpfjboioeidecaaDoorW.PrintLast Go.Proofs.YtpfjboioeidecaaDoorW.PrintMore
attribute [local go_sem] max2_int min2_int max_two min_two max_three min_three max_four min_four
set_option linter.unusedVariables false
set_option linter.unusedSimpArgs false
mutual
def spec_l19Bad.j0 : Nat → Bool → Int → Int → ByteArray → ByteArray → ByteArray → Option (Bool)
  | 0, _, _, _, _, _, _ => none
  | k + 1, x22, x179000, x179001, x179002, x179003, x179004 => if x22 = true then (some true) else (if x179000 = 1 then (spec_l19Bad.j1 k true x179000 x179001 x179002 x179003 x179004) else (spec_l19Bad.j1 k (x179000 == 5) x179000 x179001 x179002 x179003 x179004))
def spec_l19Bad.j1 : Nat → Bool → Int → Int → ByteArray → ByteArray → ByteArray → Option (Bool)
  | 0, _, _, _, _, _, _ => none
  | k + 1, x3, x179000, x179001, x179002, x179003, x179004 => (spec_GoodName.f k x179002).bind fun t179 => ((spec_l15Not.f x3 x179002 t179).bind fun t180 => (if t180 = true then (some true) else ((spec_GoodName.f k x179003).bind fun t181 => ((spec_l15Not.f (x179000 != 5) x179003 t181).bind fun t182 => (if t182 = true then (some true) else (if x3 = true then (some (x179004.toList != ([] : List UInt8))) else (some false)))))))
end
def spec_l19Bad.f (k : Nat) (a0_0 : Int) (a0_1 : Int) (a0_2 : ByteArray) (a0_3 : ByteArray) (a0_4 : ByteArray) : Option (Bool) := if a0_0 < 1 then (spec_l19Bad.j0 k true a0_0 a0_1 a0_2 a0_3 a0_4) else (if a0_0 > 5 then (spec_l19Bad.j0 k true a0_0 a0_1 a0_2 a0_3 a0_4) else (if a0_1 < 0 then (spec_l19Bad.j0 k true a0_0 a0_1 a0_2 a0_3 a0_4) else (spec_l19Bad.j0 k (decide (a0_1 > 100000000000)) a0_0 a0_1 a0_2 a0_3 a0_4)))
theorem spec_l19Bad.mono_l : ∀ k, (∀ y0 y1 y2 y3 y4 y5, LeO (spec_l19Bad.j0 k y0 y1 y2 y3 y4 y5) (spec_l19Bad.j0 (k + 1) y0 y1 y2 y3 y4 y5)) ∧ (∀ y0 y1 y2 y3 y4 y5, LeO (spec_l19Bad.j1 k y0 y1 y2 y3 y4 y5) (spec_l19Bad.j1 (k + 1) y0 y1 y2 y3 y4 y5))
  | 0 => ⟨fun _ _ _ _ _ _ r h => by simp [spec_l19Bad.j0] at h, fun _ _ _ _ _ _ r h => by simp [spec_l19Bad.j1] at h⟩
  | k + 1 => by
    obtain ⟨ih0, ih1⟩ := spec_l19Bad.mono_l k
    refine ⟨?_, ?_⟩
    · intro y0 y1 y2 y3 y4 y5
      unfold spec_l19Bad.j0
      repeat' first
      | (with_reducible exact ih0 _ _ _ _ _ _)
      | (with_reducible exact ih1 _ _ _ _ _ _)
      | (with_reducible exact spec_GoodName.mono _ _)
      | (with_reducible exact LeO.refl _)
      | (with_reducible exact LeO.none _)
      | (with_reducible refine LeO.ite ?_ ?_)
      | (with_reducible refine LeO.bind ?_ (fun _ => ?_))
      | exact ih0 _ _ _ _ _ _
      | exact ih1 _ _ _ _ _ _
      | exact spec_GoodName.mono _ _
      | exact LeO.none _
      | refine LeO.ite ?_ ?_
      | refine LeO.bind ?_ (fun _ => ?_)
    · intro y0 y1 y2 y3 y4 y5
      unfold spec_l19Bad.j1
      repeat' first
      | (with_reducible exact ih0 _ _ _ _ _ _)
      | (with_reducible exact ih1 _ _ _ _ _ _)
      | (with_reducible exact spec_GoodName.mono _ _)
      | (with_reducible exact LeO.refl _)
      | (with_reducible exact LeO.none _)
      | (with_reducible refine LeO.ite ?_ ?_)
      | (with_reducible refine LeO.bind ?_ (fun _ => ?_))
      | exact ih0 _ _ _ _ _ _
      | exact ih1 _ _ _ _ _ _
      | exact spec_GoodName.mono _ _
      | exact LeO.none _
      | refine LeO.ite ?_ ?_
      | refine LeO.bind ?_ (fun _ => ?_)
theorem spec_l19Bad.mono : ∀ a0 a1 a2 a3 a4 k, LeO (spec_l19Bad.f k a0 a1 a2 a3 a4) (spec_l19Bad.f (k + 1) a0 a1 a2 a3 a4) := by
  intro a0 a1 a2 a3 a4 k
  obtain ⟨ih0, ih1⟩ := spec_l19Bad.mono_l k
  unfold spec_l19Bad.f
  repeat' first
      | (with_reducible exact ih0 _ _ _ _ _ _)
      | (with_reducible exact ih1 _ _ _ _ _ _)
      | (with_reducible exact spec_GoodName.mono _ _)
      | (with_reducible exact LeO.refl _)
      | (with_reducible exact LeO.none _)
      | (with_reducible refine LeO.ite ?_ ?_)
      | (with_reducible refine LeO.bind ?_ (fun _ => ?_))
      | exact ih0 _ _ _ _ _ _
      | exact ih1 _ _ _ _ _ _
      | exact spec_GoodName.mono _ _
      | exact LeO.none _
      | refine LeO.ite ?_ ?_
      | refine LeO.bind ?_ (fun _ => ?_)
set_option maxHeartbeats 8000000 in
set_option maxRecDepth 100000 in
theorem spec_l19Bad.calls (k : Nat) (a0_0 : Int) (a0_1 : Int) (a0_2 : ByteArray) (a0_3 : ByteArray) (a0_4 : ByteArray) (r : Bool) (w : World) (h : spec_l19Bad.f k a0_0 a0_1 a0_2 a0_3 a0_4 = some r) :
    Calls Tryd.prog 51 #[.agg #[.int .i64 a0_0, .int .i64 a0_1, .string a0_2, .string a0_3, .string a0_4]] w fun e w' => e = .returned (.bool r) ∧ Below w.heap.size w w' := by
  have hu34 := Tryd.underlying34
  have HB := Aside0.mk (Below.refl w.heap.size w)
  have H : (if a0_0 < 1 then (spec_l19Bad.j0 k true a0_0 a0_1 a0_2 a0_3 a0_4) else (if a0_0 > 5 then (spec_l19Bad.j0 k true a0_0 a0_1 a0_2 a0_3 a0_4) else (if a0_1 < 0 then (spec_l19Bad.j0 k true a0_0 a0_1 a0_2 a0_3 a0_4) else (spec_l19Bad.j0 k (decide (a0_1 > 100000000000)) a0_0 a0_1 a0_2 a0_3 a0_4)))) = some r := h
  clear h
  have HC2 := Aside0.mk H
  clear H
  go_enter Tryd.func51, Tryd.ntmps51
  go_upto_region 1 with (first | ((with_reducible refine gate_dst (N := 1) rfl ?_); refine box_event ?hg (N := 1) ?hd (cs := #[.int .i64 a0_0, .int .i64 a0_1, .string a0_2, .string a0_3, .string a0_4]) (t := 34) ?hr ?_; (case hd => rfl); (case hg => rfl); (case hr => first | (go_simp; done) | (go_simp; rfl)); intro gb178 hg w3 hbox hb; have n0_ := Aside0.mk (below_step (by repeat (first | (with_reducible first | exact HB.out | apply below_alloc | apply pw_below_drewN | apply below_drew1) | exact HB.out)) hb); have n1_ := Aside0.mk (hbox); have n2_ := Aside0.mk ((by rw [hg]; exact (below_size (by repeat (first | (with_reducible first | exact HB.out | apply below_alloc | apply pw_below_drewN | apply below_drew1) | exact HB.out))) : w.heap.size ≤ gb178)); have n3_ := Aside0.mk ((by rw [hg]; exact (below_size (by repeat (first | (with_reducible first | exact HB.out | apply below_alloc | apply pw_below_drewN | apply below_drew1) | exact HB.out))) : w.heap.size ≤ gb178)); clear HB; have HB := n0_; have BK178 := n1_; have GW178 := n2_; have GE178 := n3_; clear n0_ n1_ n2_ n3_; clear hb hbox hg))
  repeat (go_quiet (first | ((with_reducible refine gate_dst (N := 1) rfl ?_); refine box_event ?hg (N := 1) ?hd (cs := #[.int .i64 a0_0, .int .i64 a0_1, .string a0_2, .string a0_3, .string a0_4]) (t := 34) ?hr ?_; (case hd => rfl); (case hg => rfl); (case hr => first | (go_simp; done) | (go_simp; rfl)); intro gb178 hg w3 hbox hb; have n0_ := Aside0.mk (below_step (by repeat (first | (with_reducible first | exact HB.out | apply below_alloc | apply pw_below_drewN | apply below_drew1) | exact HB.out)) hb); have n1_ := Aside0.mk (hbox); have n2_ := Aside0.mk ((by rw [hg]; exact (below_size (by repeat (first | (with_reducible first | exact HB.out | apply below_alloc | apply pw_below_drewN | apply below_drew1) | exact HB.out))) : w.heap.size ≤ gb178)); have n3_ := Aside0.mk ((by rw [hg]; exact (below_size (by repeat (first | (with_reducible first | exact HB.out | apply below_alloc | apply pw_below_drewN | apply below_drew1) | exact HB.out))) : w.heap.size ≤ gb178)); clear HB; have HB := n0_; have BK178 := n1_; have GW178 := n2_; have GE178 := n3_; clear n0_ n1_ n2_ n3_; clear hb hbox hg)); go_upto_region 1 with (first | ((with_reducible refine gate_dst (N := 1) rfl ?_); refine box_event ?hg (N := 1) ?hd (cs := #[.int .i64 a0_0, .int .i64 a0_1, .string a0_2, .string a0_3, .string a0_4]) (t := 34) ?hr ?_; (case hd => rfl); (case hg => rfl); (case hr => first | (go_simp; done) | (go_simp; rfl)); intro gb178 hg w3 hbox hb; have n0_ := Aside0.mk (below_step (by repeat (first | (with_reducible first | exact HB.out | apply below_alloc | apply pw_below_drewN | apply below_drew1) | exact HB.out)) hb); have n1_ := Aside0.mk (hbox); have n2_ := Aside0.mk ((by rw [hg]; exact (below_size (by repeat (first | (with_reducible first | exact HB.out | apply below_alloc | apply pw_below_drewN | apply below_drew1) | exact HB.out))) : w.heap.size ≤ gb178)); have n3_ := Aside0.mk ((by rw [hg]; exact (below_size (by repeat (first | (with_reducible first | exact HB.out | apply below_alloc | apply pw_below_drewN | apply below_drew1) | exact HB.out))) : w.heap.size ≤ gb178)); clear HB; have HB := n0_; have BK178 := n1_; have GW178 := n2_; have GE178 := n3_; clear n0_ n1_ n2_ n3_; clear hb hbox hg)))
  (try simp only [Act.put, List.setIfInBounds_toArray, List.set_cons_zero, List.set_cons_succ])
  go_cut [22] (fun v22 wc => ∃ (kq : Nat) (x22_1 : Bool), v22 = .bool x22_1 ∧ Aside0 (spec_l19Bad.j0 kq x22_1 a0_0 a0_1 a0_2 a0_3 a0_4 = some r) ∧ Aside0 (kq ≤ k) ∧ Aside0 (wc.heap[gb178]? = some (.cells #[.int .i64 a0_0, .int .i64 a0_1, .string a0_2, .string a0_3, .string a0_4] 34 (0, 0))) ∧ Aside0 (Below w.heap.size w wc))
  case first =>
    have H := HC2.out
    clear HC2
    by_cases c4 : a0_0 < 1
    · rw [if_pos c4] at H
      have c4b0 : decide (a0_0 < 1) = true := decide_eq_true c4
      clear c4
      (first | rw [c4b0] | (simp only [i64_w, i32_w]; rw [c4b0]) | skip)
      have H' := Aside0.mk H
      clear H
      have hcz5_0 : w3.cell? ⟨gb178, 0, none⟩ = some (.int .i64 a0_0) := (blk_cell BK178.out 0).trans rfl
      have hcz5_1 : w3.cell? ⟨gb178, 1, none⟩ = some (.int .i64 a0_1) := (blk_cell BK178.out 1).trans rfl
      have hcz5_2 : w3.cell? ⟨gb178, 2, none⟩ = some (.string a0_2) := (blk_cell BK178.out 2).trans rfl
      have hcz5_3 : w3.cell? ⟨gb178, 3, none⟩ = some (.string a0_3) := (blk_cell BK178.out 3).trans rfl
      have hcz5_4 : w3.cell? ⟨gb178, 4, none⟩ = some (.string a0_4) := (blk_cell BK178.out 4).trans rfl
      have hfz5_0 := blk_frozen BK178.out 0
      have hfz5_1 := blk_frozen BK178.out 1
      have hfz5_2 := blk_frozen BK178.out 2
      have hfz5_3 := blk_frozen BK178.out 3
      have hfz5_4 := blk_frozen BK178.out 4
      go_wp2
      repeat (go_quiet (fail); try go_wp2)
      go_meet
      case rel => exact ⟨_, (true), (by first | rfl | (simp; done) | (simp [*]; done) | (simp; first | rw [Go.Proofs.YtpfjboioeidecaaDoor.HQ.isEmpty_ne] | (simp [Go.Proofs.YtpfjboioeidecaaDoor.HQ.isEmpty_ne]; done))), H', ⟨by first | omega | exact Nat.le_refl _⟩, ⟨by (with_reducible repeat (first | refine blk_drewN ?_ _ | refine blk_drew ?_ | refine blk_alloc ?_ _)); exact BK178.out⟩, ⟨by repeat (first | (with_reducible first | exact HB.out | apply below_alloc | apply pw_below_drewN | apply below_drew1 | refine below_set ?_ GE178.out) | exact HB.out)⟩⟩
    · rw [if_neg c4] at H
      have c4b0 : decide (a0_0 < 1) = false := decide_eq_false c4
      clear c4
      (first | rw [c4b0] | (simp only [i64_w, i32_w]; rw [c4b0]) | skip)
      by_cases c6 : a0_0 > 5
      · rw [if_pos c6] at H
        have c6b0 : decide (5 < a0_0) = true := decide_eq_true c6
        clear c6
        have H' := Aside0.mk H
        clear H
        have hcz7_0 : w3.cell? ⟨gb178, 0, none⟩ = some (.int .i64 a0_0) := (blk_cell BK178.out 0).trans rfl
        have hcz7_1 : w3.cell? ⟨gb178, 1, none⟩ = some (.int .i64 a0_1) := (blk_cell BK178.out 1).trans rfl
        have hcz7_2 : w3.cell? ⟨gb178, 2, none⟩ = some (.string a0_2) := (blk_cell BK178.out 2).trans rfl
        have hcz7_3 : w3.cell? ⟨gb178, 3, none⟩ = some (.string a0_3) := (blk_cell BK178.out 3).trans rfl
        have hcz7_4 : w3.cell? ⟨gb178, 4, none⟩ = some (.string a0_4) := (blk_cell BK178.out 4).trans rfl
        have hfz7_0 := blk_frozen BK178.out 0
        have hfz7_1 := blk_frozen BK178.out 1
        have hfz7_2 := blk_frozen BK178.out 2
        have hfz7_3 := blk_frozen BK178.out 3
        have hfz7_4 := blk_frozen BK178.out 4
        go_wp2
        repeat (go_quiet (fail); try go_wp2)
        go_meet
        case rel => exact ⟨_, (true), (by first | rfl | (simp; done) | (simp [*]; done) | (simp; first | rw [Go.Proofs.YtpfjboioeidecaaDoor.HQ.isEmpty_ne] | (simp [Go.Proofs.YtpfjboioeidecaaDoor.HQ.isEmpty_ne]; done))), H', ⟨by first | omega | exact Nat.le_refl _⟩, ⟨by (with_reducible repeat (first | refine blk_drewN ?_ _ | refine blk_drew ?_ | refine blk_alloc ?_ _)); exact BK178.out⟩, ⟨by repeat (first | (with_reducible first | exact HB.out | apply below_alloc | apply pw_below_drewN | apply below_drew1 | refine below_set ?_ GE178.out) | exact HB.out)⟩⟩
      · rw [if_neg c6] at H
        have c6b0 : decide (5 < a0_0) = false := decide_eq_false c6
        clear c6
        by_cases c8 : a0_1 < 0
        · rw [if_pos c8] at H
          have c8b0 : decide (a0_1 < 0) = true := decide_eq_true c8
          clear c8
          have H' := Aside0.mk H
          clear H
          have hcz9_0 : w3.cell? ⟨gb178, 0, none⟩ = some (.int .i64 a0_0) := (blk_cell BK178.out 0).trans rfl
          have hcz9_1 : w3.cell? ⟨gb178, 1, none⟩ = some (.int .i64 a0_1) := (blk_cell BK178.out 1).trans rfl
          have hcz9_2 : w3.cell? ⟨gb178, 2, none⟩ = some (.string a0_2) := (blk_cell BK178.out 2).trans rfl
          have hcz9_3 : w3.cell? ⟨gb178, 3, none⟩ = some (.string a0_3) := (blk_cell BK178.out 3).trans rfl
          have hcz9_4 : w3.cell? ⟨gb178, 4, none⟩ = some (.string a0_4) := (blk_cell BK178.out 4).trans rfl
          have hfz9_0 := blk_frozen BK178.out 0
          have hfz9_1 := blk_frozen BK178.out 1
          have hfz9_2 := blk_frozen BK178.out 2
          have hfz9_3 := blk_frozen BK178.out 3
          have hfz9_4 := blk_frozen BK178.out 4
          go_wp2
          repeat (go_quiet (fail); try go_wp2)
          go_meet
          case rel => exact ⟨_, (true), (by first | rfl | (simp; done) | (simp [*]; done) | (simp; first | rw [Go.Proofs.YtpfjboioeidecaaDoor.HQ.isEmpty_ne] | (simp [Go.Proofs.YtpfjboioeidecaaDoor.HQ.isEmpty_ne]; done))), H', ⟨by first | omega | exact Nat.le_refl _⟩, ⟨by (with_reducible repeat (first | refine blk_drewN ?_ _ | refine blk_drew ?_ | refine blk_alloc ?_ _)); exact BK178.out⟩, ⟨by repeat (first | (with_reducible first | exact HB.out | apply below_alloc | apply pw_below_drewN | apply below_drew1 | refine below_set ?_ GE178.out) | exact HB.out)⟩⟩
        · rw [if_neg c8] at H
          have c8b0 : decide (a0_1 < 0) = false := decide_eq_false c8
          clear c8
          have H' := Aside0.mk H
          clear H
          have hcz10_0 : w3.cell? ⟨gb178, 0, none⟩ = some (.int .i64 a0_0) := (blk_cell BK178.out 0).trans rfl
          have hcz10_1 : w3.cell? ⟨gb178, 1, none⟩ = some (.int .i64 a0_1) := (blk_cell BK178.out 1).trans rfl
          have hcz10_2 : w3.cell? ⟨gb178, 2, none⟩ = some (.string a0_2) := (blk_cell BK178.out 2).trans rfl
          have hcz10_3 : w3.cell? ⟨gb178, 3, none⟩ = some (.string a0_3) := (blk_cell BK178.out 3).trans rfl
          have hcz10_4 : w3.cell? ⟨gb178, 4, none⟩ = some (.string a0_4) := (blk_cell BK178.out 4).trans rfl
          have hfz10_0 := blk_frozen BK178.out 0
          have hfz10_1 := blk_frozen BK178.out 1
          have hfz10_2 := blk_frozen BK178.out 2
          have hfz10_3 := blk_frozen BK178.out 3
          have hfz10_4 := blk_frozen BK178.out 4
          go_wp2
          repeat (go_quiet (fail); try go_wp2)
          go_meet
          case rel => exact ⟨_, (decide (a0_1 > 100000000000)), (by first | rfl | (simp; done) | (simp [*]; done) | (simp; first | rw [Go.Proofs.YtpfjboioeidecaaDoor.HQ.isEmpty_ne] | (simp [Go.Proofs.YtpfjboioeidecaaDoor.HQ.isEmpty_ne]; done))), H', ⟨by first | omega | exact Nat.le_refl _⟩, ⟨by (with_reducible repeat (first | refine blk_drewN ?_ _ | refine blk_drew ?_ | refine blk_alloc ?_ _)); exact BK178.out⟩, ⟨by repeat (first | (with_reducible first | exact HB.out | apply below_alloc | apply pw_below_drewN | apply below_drew1 | refine below_set ?_ GE178.out) | exact HB.out)⟩⟩
  case rest =>
    clear HC2
    try clear p2
    try clear c4
    try clear c4b0
    try clear c5
    try clear c6
    try clear c6b0
    try clear c8
    try clear c8b0
    try clear hcz10_0
    try clear hcz10_1
    try clear hcz10_2
    try clear hcz10_3
    try clear hcz10_4
    try clear hcz5_0
    try clear hcz5_1
    try clear hcz5_2
    try clear hcz5_3
    try clear hcz5_4
    try clear hcz7_0
    try clear hcz7_1
    try clear hcz7_2
    try clear hcz7_3
    try clear hcz7_4
    try clear hcz9_0
    try clear hcz9_1
    try clear hcz9_2
    try clear hcz9_3
    try clear hcz9_4
    try clear hfz10_0
    try clear hfz10_1
    try clear hfz10_2
    try clear hfz10_3
    try clear hfz10_4
    try clear hfz5_0
    try clear hfz5_1
    try clear hfz5_2
    try clear hfz5_3
    try clear hfz5_4
    try clear hfz7_0
    try clear hfz7_1
    try clear hfz7_2
    try clear hfz7_3
    try clear hfz7_4
    try clear hfz9_0
    try clear hfz9_1
    try clear hfz9_2
    try clear hfz9_3
    try clear hfz9_4
    obtain ⟨kq, x22_1, rfl, HA, HJ1, BK178, HB⟩ := hcut
    cases kq with
    | zero => exact absurd HA.out (by simp [spec_l19Bad.j0])
    | succ kj1 =>
      have H := HA.out
      clear HA
      simp only [spec_l19Bad.j0] at H
      by_cases c11 : x22_1 = true
      · subst c11
        have H1 : (some true) = some r := by rw [if_pos rfl] at H; exact H
        clear H
        have H := H1
        clear H1
        obtain rfl := Option.some.inj H
        go_wp2
        repeat (go_quiet (fail); try go_wp2)
        go_ret
        exact ⟨by first | rfl | (simp [errW_none, errW_some] <;> rfl) | (simp [*, errW_none, errW_some] <;> rfl) | (simp [*, Go.Proofs.YtpfjboioeidecaaDoor.HQ.isEmpty_ne]; done) | (simp; rw [Go.Proofs.YtpfjboioeidecaaDoor.HQ.isEmpty_ne]), by repeat (first | (with_reducible first | exact HB.out | apply below_alloc | apply pw_below_drewN | apply below_drew1 | refine below_set ?_ GE178.out) | exact HB.out)⟩
      · replace c11 := Bool.eq_false_iff.mpr c11
        subst c11
        have H1 : (if a0_0 = 1 then (spec_l19Bad.j1 kj1 true a0_0 a0_1 a0_2 a0_3 a0_4) else (spec_l19Bad.j1 kj1 (a0_0 == 5) a0_0 a0_1 a0_2 a0_3 a0_4)) = some r := by rw [if_neg (show ¬ (false = true) by decide)] at H; exact H
        clear H
        have H := H1
        clear H1
        have HC12 := Aside0.mk H
        clear H
        go_upto_region 3 with (fail)
        repeat (go_quiet (fail); go_upto_region 3 with (fail))
        go_cut [3] (fun v3 wc => ∃ (kq : Nat) (x3_11 : Bool), v3 = .bool x3_11 ∧ Aside0 (spec_l19Bad.j1 kq x3_11 a0_0 a0_1 a0_2 a0_3 a0_4 = some r) ∧ Aside0 (kq ≤ kj1) ∧ Aside0 (wc.heap[gb178]? = some (.cells #[.int .i64 a0_0, .int .i64 a0_1, .string a0_2, .string a0_3, .string a0_4] 34 (0, 0))) ∧ Aside0 (Below w.heap.size w wc))
        case first =>
          have H := HC12.out
          clear HC12
          by_cases c13 : a0_0 = 1
          · rw [if_pos c13] at H
            have c13b0 : (a0_0 == 1) = true := beq_iff_eq.mpr c13
            have c13b1 : (a0_0 != 1) = false := bne_eq_false_iff_eq.mpr c13
            clear c13
            (first | rw [c13b0] | (simp only [i64_w, i32_w]; rw [c13b0]) | skip)
            have H' := Aside0.mk H
            clear H
            have hcz14_0 : wc.cell? ⟨gb178, 0, none⟩ = some (.int .i64 a0_0) := (blk_cell BK178.out 0).trans rfl
            have hcz14_1 : wc.cell? ⟨gb178, 1, none⟩ = some (.int .i64 a0_1) := (blk_cell BK178.out 1).trans rfl
            have hcz14_2 : wc.cell? ⟨gb178, 2, none⟩ = some (.string a0_2) := (blk_cell BK178.out 2).trans rfl
            have hcz14_3 : wc.cell? ⟨gb178, 3, none⟩ = some (.string a0_3) := (blk_cell BK178.out 3).trans rfl
            have hcz14_4 : wc.cell? ⟨gb178, 4, none⟩ = some (.string a0_4) := (blk_cell BK178.out 4).trans rfl
            have hfz14_0 := blk_frozen BK178.out 0
            have hfz14_1 := blk_frozen BK178.out 1
            have hfz14_2 := blk_frozen BK178.out 2
            have hfz14_3 := blk_frozen BK178.out 3
            have hfz14_4 := blk_frozen BK178.out 4
            go_wp2
            repeat (go_quiet (fail); try go_wp2)
            go_meet
            case rel => exact ⟨_, (true), (by first | rfl | (simp; done) | (simp [*]; done) | (simp; first | rw [Go.Proofs.YtpfjboioeidecaaDoor.HQ.isEmpty_ne] | (simp [Go.Proofs.YtpfjboioeidecaaDoor.HQ.isEmpty_ne]; done))), H', ⟨by have := HJ1.out; first | omega | exact Nat.le_refl _⟩, ⟨by (with_reducible repeat (first | refine blk_drewN ?_ _ | refine blk_drew ?_ | refine blk_alloc ?_ _)); exact BK178.out⟩, ⟨by repeat (first | (with_reducible first | exact HB.out | apply below_alloc | apply pw_below_drewN | apply below_drew1 | refine below_set ?_ GE178.out) | exact HB.out)⟩⟩
          · rw [if_neg c13] at H
            have c13b0 : (a0_0 == 1) = false := beq_eq_false_iff_ne.mpr c13
            have c13b1 : (a0_0 != 1) = true := bne_iff_ne.mpr c13
            (first | rw [c13b0] | (simp only [i64_w, i32_w]; rw [c13b0]) | skip)
            have H' := Aside0.mk H
            clear H
            have hcz15_0 : wc.cell? ⟨gb178, 0, none⟩ = some (.int .i64 a0_0) := (blk_cell BK178.out 0).trans rfl
            have hcz15_1 : wc.cell? ⟨gb178, 1, none⟩ = some (.int .i64 a0_1) := (blk_cell BK178.out 1).trans rfl
            have hcz15_2 : wc.cell? ⟨gb178, 2, none⟩ = some (.string a0_2) := (blk_cell BK178.out 2).trans rfl
            have hcz15_3 : wc.cell? ⟨gb178, 3, none⟩ = some (.string a0_3) := (blk_cell BK178.out 3).trans rfl
            have hcz15_4 : wc.cell? ⟨gb178, 4, none⟩ = some (.string a0_4) := (blk_cell BK178.out 4).trans rfl
            have hfz15_0 := blk_frozen BK178.out 0
            have hfz15_1 := blk_frozen BK178.out 1
            have hfz15_2 := blk_frozen BK178.out 2
            have hfz15_3 := blk_frozen BK178.out 3
            have hfz15_4 := blk_frozen BK178.out 4
            go_wp2
            repeat (go_quiet (fail); try go_wp2)
            go_meet
            case rel => exact ⟨_, ((a0_0 == 5)), (by first | rfl | (simp; done) | (simp [*]; done) | (simp; first | rw [Go.Proofs.YtpfjboioeidecaaDoor.HQ.isEmpty_ne] | (simp [Go.Proofs.YtpfjboioeidecaaDoor.HQ.isEmpty_ne]; done))), H', ⟨by have := HJ1.out; first | omega | exact Nat.le_refl _⟩, ⟨by (with_reducible repeat (first | refine blk_drewN ?_ _ | refine blk_drew ?_ | refine blk_alloc ?_ _)); exact BK178.out⟩, ⟨by repeat (first | (with_reducible first | exact HB.out | apply below_alloc | apply pw_below_drewN | apply below_drew1 | refine below_set ?_ GE178.out) | exact HB.out)⟩⟩
        case rest =>
          clear HC12
          try clear c1
          try clear p2
          try clear c4
          try clear c4b0
          try clear c5
          try clear c6
          try clear c6b0
          try clear c8
          try clear c8b0
          try clear c11
          try clear c13
          try clear c13b0
          try clear c13b1
          try clear hcz10_0
          try clear hcz10_1
          try clear hcz10_2
          try clear hcz10_3
          try clear hcz10_4
          try clear hcz14_0
          try clear hcz14_1
          try clear hcz14_2
          try clear hcz14_3
          try clear hcz14_4
          try clear hcz15_0
          try clear hcz15_1
          try clear hcz15_2
          try clear hcz15_3
          try clear hcz15_4
          try clear hcz5_0
          try clear hcz5_1
          try clear hcz5_2
          try clear hcz5_3
          try clear hcz5_4
          try clear hcz7_0
          try clear hcz7_1
          try clear hcz7_2
          try clear hcz7_3
          try clear hcz7_4
          try clear hcz9_0
          try clear hcz9_1
          try clear hcz9_2
          try clear hcz9_3
          try clear hcz9_4
          try clear hfz10_0
          try clear hfz10_1
          try clear hfz10_2
          try clear hfz10_3
          try clear hfz10_4
          try clear hfz14_0
          try clear hfz14_1
          try clear hfz14_2
          try clear hfz14_3
          try clear hfz14_4
          try clear hfz15_0
          try clear hfz15_1
          try clear hfz15_2
          try clear hfz15_3
          try clear hfz15_4
          try clear hfz5_0
          try clear hfz5_1
          try clear hfz5_2
          try clear hfz5_3
          try clear hfz5_4
          try clear hfz7_0
          try clear hfz7_1
          try clear hfz7_2
          try clear hfz7_3
          try clear hfz7_4
          try clear hfz9_0
          try clear hfz9_1
          try clear hfz9_2
          try clear hfz9_3
          try clear hfz9_4
          try clear p2
          obtain ⟨kq, x3_11, rfl, HA, HJ11, BK178, HB⟩ := hcut
          cases kq with
          | zero => exact absurd HA.out (by simp [spec_l19Bad.j1])
          | succ kj11 =>
            have H := HA.out
            clear HA
            simp only [spec_l19Bad.j1] at H
            replace H := Option.bind_eq_some_iff.mp H
            obtain ⟨t179, A160, H⟩ := H
            replace H : ((spec_l15Not.f x3_11 a0_2 t179).bind fun t180 => (if t180 = true then (some true) else ((spec_GoodName.f kj11 a0_3).bind fun t181 => ((spec_l15Not.f (a0_0 != 5) a0_3 t181).bind fun t182 => (if t182 = true then (some true) else (if x3_11 = true then (some (a0_4.toList != ([] : List UInt8))) else (some false))))))) = some r := H
            have A16 := Aside0.mk A160
            clear A160
            replace H := Option.bind_eq_some_iff.mp H
            obtain ⟨t180, A170, H⟩ := H
            replace H : (if t180 = true then (some true) else ((spec_GoodName.f kj11 a0_3).bind fun t181 => ((spec_l15Not.f (a0_0 != 5) a0_3 t181).bind fun t182 => (if t182 = true then (some true) else (if x3_11 = true then (some (a0_4.toList != ([] : List UInt8))) else (some false)))))) = some r := H
            have A17 := Aside0.mk A170
            clear A170
            by_cases c18 : t180 = true
            · subst c18
              have H1 : (some true) = some r := by rw [if_pos rfl] at H; exact H
              clear H
              have H := H1
              clear H1
              obtain rfl := Option.some.inj H
              have hcz19_0 : wc.cell? ⟨gb178, 0, none⟩ = some (.int .i64 a0_0) := (blk_cell BK178.out 0).trans rfl
              have hcz19_1 : wc.cell? ⟨gb178, 1, none⟩ = some (.int .i64 a0_1) := (blk_cell BK178.out 1).trans rfl
              have hcz19_2 : wc.cell? ⟨gb178, 2, none⟩ = some (.string a0_2) := (blk_cell BK178.out 2).trans rfl
              have hcz19_3 : wc.cell? ⟨gb178, 3, none⟩ = some (.string a0_3) := (blk_cell BK178.out 3).trans rfl
              have hcz19_4 : wc.cell? ⟨gb178, 4, none⟩ = some (.string a0_4) := (blk_cell BK178.out 4).trans rfl
              have hfz19_0 := blk_frozen BK178.out 0
              have hfz19_1 := blk_frozen BK178.out 1
              have hfz19_2 := blk_frozen BK178.out 2
              have hfz19_3 := blk_frozen BK178.out 3
              have hfz19_4 := blk_frozen BK178.out 4
              go_wp2_with (first | (go_at_call 60; (with_reducible refine (spec_GoodName.calls kj11 a0_2 t179 _ A16.out).mono ?_); rintro e w' ⟨rfl, ⟨nd, rfl⟩⟩; (try first | exact ⟨rfl, _, World.drewN_drewN _ _ _⟩ | exact ⟨rfl, _, Eq.trans (World.drewN_drewN _ _ _) (congrArg (World.drewN _) (Nat.add_assoc _ _ _))⟩)) | (go_at_call 59; (with_reducible refine (spec_l15Not.calls x3_11 a0_2 t179 true _ A17.out).mono ?_); rintro e w' ⟨rfl, ⟨nd, rfl⟩⟩; (try first | exact ⟨rfl, _, World.drewN_drewN _ _ _⟩ | exact ⟨rfl, _, Eq.trans (World.drewN_drewN _ _ _) (congrArg (World.drewN _) (Nat.add_assoc _ _ _))⟩)))
              repeat (go_quiet (first | (go_at_call 60; (with_reducible refine (spec_GoodName.calls kj11 a0_2 t179 _ A16.out).mono ?_); rintro e w' ⟨rfl, ⟨nd, rfl⟩⟩; (try first | exact ⟨rfl, _, World.drewN_drewN _ _ _⟩ | exact ⟨rfl, _, Eq.trans (World.drewN_drewN _ _ _) (congrArg (World.drewN _) (Nat.add_assoc _ _ _))⟩)) | (go_at_call 59; (with_reducible refine (spec_l15Not.calls x3_11 a0_2 t179 true _ A17.out).mono ?_); rintro e w' ⟨rfl, ⟨nd, rfl⟩⟩; (try first | exact ⟨rfl, _, World.drewN_drewN _ _ _⟩ | exact ⟨rfl, _, Eq.trans (World.drewN_drewN _ _ _) (congrArg (World.drewN _) (Nat.add_assoc _ _ _))⟩))); try go_wp2_with (first | (go_at_call 60; (with_reducible refine (spec_GoodName.calls kj11 a0_2 t179 _ A16.out).mono ?_); rintro e w' ⟨rfl, ⟨nd, rfl⟩⟩; (try first | exact ⟨rfl, _, World.drewN_drewN _ _ _⟩ | exact ⟨rfl, _, Eq.trans (World.drewN_drewN _ _ _) (congrArg (World.drewN _) (Nat.add_assoc _ _ _))⟩)) | (go_at_call 59; (with_reducible refine (spec_l15Not.calls x3_11 a0_2 t179 true _ A17.out).mono ?_); rintro e w' ⟨rfl, ⟨nd, rfl⟩⟩; (try first | exact ⟨rfl, _, World.drewN_drewN _ _ _⟩ | exact ⟨rfl, _, Eq.trans (World.drewN_drewN _ _ _) (congrArg (World.drewN _) (Nat.add_assoc _ _ _))⟩))))
              go_ret
              exact ⟨by first | rfl | (simp [errW_none, errW_some] <;> rfl) | (simp [*, errW_none, errW_some] <;> rfl) | (simp [*, Go.Proofs.YtpfjboioeidecaaDoor.HQ.isEmpty_ne]; done) | (simp; rw [Go.Proofs.YtpfjboioeidecaaDoor.HQ.isEmpty_ne]), by repeat (first | (with_reducible first | exact HB.out | apply below_alloc | apply pw_below_drewN | apply below_drew1 | refine below_set ?_ GE178.out) | exact HB.out)⟩
            · replace c18 := Bool.eq_false_iff.mpr c18
              subst c18
              have H1 : ((spec_GoodName.f kj11 a0_3).bind fun t181 => ((spec_l15Not.f (a0_0 != 5) a0_3 t181).bind fun t182 => (if t182 = true then (some true) else (if x3_11 = true then (some (a0_4.toList != ([] : List UInt8))) else (some false))))) = some r := by rw [if_neg (show ¬ (false = true) by decide)] at H; exact H
              clear H
              have H := H1
              clear H1
              replace H := Option.bind_eq_some_iff.mp H
              obtain ⟨t181, A200, H⟩ := H
              replace H : ((spec_l15Not.f (a0_0 != 5) a0_3 t181).bind fun t182 => (if t182 = true then (some true) else (if x3_11 = true then (some (a0_4.toList != ([] : List UInt8))) else (some false)))) = some r := H
              have A20 := Aside0.mk A200
              clear A200
              replace H := Option.bind_eq_some_iff.mp H
              obtain ⟨t182, A210, H⟩ := H
              replace H : (if t182 = true then (some true) else (if x3_11 = true then (some (a0_4.toList != ([] : List UInt8))) else (some false))) = some r := H
              have A21 := Aside0.mk A210
              clear A210
              by_cases c22 : t182 = true
              · subst c22
                have H1 : (some true) = some r := by rw [if_pos rfl] at H; exact H
                clear H
                have H := H1
                clear H1
                obtain rfl := Option.some.inj H
                have hcz23_0 : wc.cell? ⟨gb178, 0, none⟩ = some (.int .i64 a0_0) := (blk_cell BK178.out 0).trans rfl
                have hcz23_1 : wc.cell? ⟨gb178, 1, none⟩ = some (.int .i64 a0_1) := (blk_cell BK178.out 1).trans rfl
                have hcz23_2 : wc.cell? ⟨gb178, 2, none⟩ = some (.string a0_2) := (blk_cell BK178.out 2).trans rfl
                have hcz23_3 : wc.cell? ⟨gb178, 3, none⟩ = some (.string a0_3) := (blk_cell BK178.out 3).trans rfl
                have hcz23_4 : wc.cell? ⟨gb178, 4, none⟩ = some (.string a0_4) := (blk_cell BK178.out 4).trans rfl
                have hfz23_0 := blk_frozen BK178.out 0
                have hfz23_1 := blk_frozen BK178.out 1
                have hfz23_2 := blk_frozen BK178.out 2
                have hfz23_3 := blk_frozen BK178.out 3
                have hfz23_4 := blk_frozen BK178.out 4
                go_wp2_with (first | (go_at_call 60; (with_reducible refine (spec_GoodName.calls kj11 a0_2 t179 _ A16.out).mono ?_); rintro e w' ⟨rfl, ⟨nd, rfl⟩⟩; (try first | exact ⟨rfl, _, World.drewN_drewN _ _ _⟩ | exact ⟨rfl, _, Eq.trans (World.drewN_drewN _ _ _) (congrArg (World.drewN _) (Nat.add_assoc _ _ _))⟩)) | (go_at_call 59; (with_reducible refine (spec_l15Not.calls x3_11 a0_2 t179 false _ A17.out).mono ?_); rintro e w' ⟨rfl, ⟨nd, rfl⟩⟩; (try first | exact ⟨rfl, _, World.drewN_drewN _ _ _⟩ | exact ⟨rfl, _, Eq.trans (World.drewN_drewN _ _ _) (congrArg (World.drewN _) (Nat.add_assoc _ _ _))⟩)) | (go_at_call 60; (with_reducible refine (spec_GoodName.calls kj11 a0_3 t181 _ A20.out).mono ?_); rintro e w' ⟨rfl, ⟨nd, rfl⟩⟩; (try first | exact ⟨rfl, _, World.drewN_drewN _ _ _⟩ | exact ⟨rfl, _, Eq.trans (World.drewN_drewN _ _ _) (congrArg (World.drewN _) (Nat.add_assoc _ _ _))⟩)) | (go_at_call 59; (with_reducible refine (spec_l15Not.calls (a0_0 != 5) a0_3 t181 true _ A21.out).mono ?_); rintro e w' ⟨rfl, ⟨nd, rfl⟩⟩; (try first | exact ⟨rfl, _, World.drewN_drewN _ _ _⟩ | exact ⟨rfl, _, Eq.trans (World.drewN_drewN _ _ _) (congrArg (World.drewN _) (Nat.add_assoc _ _ _))⟩)))
                repeat (go_quiet (first | (go_at_call 60; (with_reducible refine (spec_GoodName.calls kj11 a0_2 t179 _ A16.out).mono ?_); rintro e w' ⟨rfl, ⟨nd, rfl⟩⟩; (try first | exact ⟨rfl, _, World.drewN_drewN _ _ _⟩ | exact ⟨rfl, _, Eq.trans (World.drewN_drewN _ _ _) (congrArg (World.drewN _) (Nat.add_assoc _ _ _))⟩)) | (go_at_call 59; (with_reducible refine (spec_l15Not.calls x3_11 a0_2 t179 false _ A17.out).mono ?_); rintro e w' ⟨rfl, ⟨nd, rfl⟩⟩; (try first | exact ⟨rfl, _, World.drewN_drewN _ _ _⟩ | exact ⟨rfl, _, Eq.trans (World.drewN_drewN _ _ _) (congrArg (World.drewN _) (Nat.add_assoc _ _ _))⟩)) | (go_at_call 60; (with_reducible refine (spec_GoodName.calls kj11 a0_3 t181 _ A20.out).mono ?_); rintro e w' ⟨rfl, ⟨nd, rfl⟩⟩; (try first | exact ⟨rfl, _, World.drewN_drewN _ _ _⟩ | exact ⟨rfl, _, Eq.trans (World.drewN_drewN _ _ _) (congrArg (World.drewN _) (Nat.add_assoc _ _ _))⟩)) | (go_at_call 59; (with_reducible refine (spec_l15Not.calls (a0_0 != 5) a0_3 t181 true _ A21.out).mono ?_); rintro e w' ⟨rfl, ⟨nd, rfl⟩⟩; (try first | exact ⟨rfl, _, World.drewN_drewN _ _ _⟩ | exact ⟨rfl, _, Eq.trans (World.drewN_drewN _ _ _) (congrArg (World.drewN _) (Nat.add_assoc _ _ _))⟩))); try go_wp2_with (first | (go_at_call 60; (with_reducible refine (spec_GoodName.calls kj11 a0_2 t179 _ A16.out).mono ?_); rintro e w' ⟨rfl, ⟨nd, rfl⟩⟩; (try first | exact ⟨rfl, _, World.drewN_drewN _ _ _⟩ | exact ⟨rfl, _, Eq.trans (World.drewN_drewN _ _ _) (congrArg (World.drewN _) (Nat.add_assoc _ _ _))⟩)) | (go_at_call 59; (with_reducible refine (spec_l15Not.calls x3_11 a0_2 t179 false _ A17.out).mono ?_); rintro e w' ⟨rfl, ⟨nd, rfl⟩⟩; (try first | exact ⟨rfl, _, World.drewN_drewN _ _ _⟩ | exact ⟨rfl, _, Eq.trans (World.drewN_drewN _ _ _) (congrArg (World.drewN _) (Nat.add_assoc _ _ _))⟩)) | (go_at_call 60; (with_reducible refine (spec_GoodName.calls kj11 a0_3 t181 _ A20.out).mono ?_); rintro e w' ⟨rfl, ⟨nd, rfl⟩⟩; (try first | exact ⟨rfl, _, World.drewN_drewN _ _ _⟩ | exact ⟨rfl, _, Eq.trans (World.drewN_drewN _ _ _) (congrArg (World.drewN _) (Nat.add_assoc _ _ _))⟩)) | (go_at_call 59; (with_reducible refine (spec_l15Not.calls (a0_0 != 5) a0_3 t181 true _ A21.out).mono ?_); rintro e w' ⟨rfl, ⟨nd, rfl⟩⟩; (try first | exact ⟨rfl, _, World.drewN_drewN _ _ _⟩ | exact ⟨rfl, _, Eq.trans (World.drewN_drewN _ _ _) (congrArg (World.drewN _) (Nat.add_assoc _ _ _))⟩))))
                go_ret
                exact ⟨by first | rfl | (simp [errW_none, errW_some] <;> rfl) | (simp [*, errW_none, errW_some] <;> rfl) | (simp [*, Go.Proofs.YtpfjboioeidecaaDoor.HQ.isEmpty_ne]; done) | (simp; rw [Go.Proofs.YtpfjboioeidecaaDoor.HQ.isEmpty_ne]), by repeat (first | (with_reducible first | exact HB.out | apply below_alloc | apply pw_below_drewN | apply below_drew1 | refine below_set ?_ GE178.out) | exact HB.out)⟩
              · replace c22 := Bool.eq_false_iff.mpr c22
                subst c22
                have H1 : (if x3_11 = true then (some (a0_4.toList != ([] : List UInt8))) else (some false)) = some r := by rw [if_neg (show ¬ (false = true) by decide)] at H; exact H
                clear H
                have H := H1
                clear H1
                by_cases c24 : x3_11 = true
                · subst c24
                  have H1 : (some (a0_4.toList != ([] : List UInt8))) = some r := by rw [if_pos rfl] at H; exact H
                  clear H
                  have H := H1
                  clear H1
                  obtain rfl := Option.some.inj H
                  have hcz25_0 : wc.cell? ⟨gb178, 0, none⟩ = some (.int .i64 a0_0) := (blk_cell BK178.out 0).trans rfl
                  have hcz25_1 : wc.cell? ⟨gb178, 1, none⟩ = some (.int .i64 a0_1) := (blk_cell BK178.out 1).trans rfl
                  have hcz25_2 : wc.cell? ⟨gb178, 2, none⟩ = some (.string a0_2) := (blk_cell BK178.out 2).trans rfl
                  have hcz25_3 : wc.cell? ⟨gb178, 3, none⟩ = some (.string a0_3) := (blk_cell BK178.out 3).trans rfl
                  have hcz25_4 : wc.cell? ⟨gb178, 4, none⟩ = some (.string a0_4) := (blk_cell BK178.out 4).trans rfl
                  have hfz25_0 := blk_frozen BK178.out 0
                  have hfz25_1 := blk_frozen BK178.out 1
                  have hfz25_2 := blk_frozen BK178.out 2
                  have hfz25_3 := blk_frozen BK178.out 3
                  have hfz25_4 := blk_frozen BK178.out 4
                  go_wp2_with (first | (go_at_call 60; (with_reducible refine (spec_GoodName.calls kj11 a0_2 t179 _ A16.out).mono ?_); rintro e w' ⟨rfl, ⟨nd, rfl⟩⟩; (try first | exact ⟨rfl, _, World.drewN_drewN _ _ _⟩ | exact ⟨rfl, _, Eq.trans (World.drewN_drewN _ _ _) (congrArg (World.drewN _) (Nat.add_assoc _ _ _))⟩)) | (go_at_call 59; (with_reducible refine (spec_l15Not.calls true a0_2 t179 false _ A17.out).mono ?_); rintro e w' ⟨rfl, ⟨nd, rfl⟩⟩; (try first | exact ⟨rfl, _, World.drewN_drewN _ _ _⟩ | exact ⟨rfl, _, Eq.trans (World.drewN_drewN _ _ _) (congrArg (World.drewN _) (Nat.add_assoc _ _ _))⟩)) | (go_at_call 60; (with_reducible refine (spec_GoodName.calls kj11 a0_3 t181 _ A20.out).mono ?_); rintro e w' ⟨rfl, ⟨nd, rfl⟩⟩; (try first | exact ⟨rfl, _, World.drewN_drewN _ _ _⟩ | exact ⟨rfl, _, Eq.trans (World.drewN_drewN _ _ _) (congrArg (World.drewN _) (Nat.add_assoc _ _ _))⟩)) | (go_at_call 59; (with_reducible refine (spec_l15Not.calls (a0_0 != 5) a0_3 t181 false _ A21.out).mono ?_); rintro e w' ⟨rfl, ⟨nd, rfl⟩⟩; (try first | exact ⟨rfl, _, World.drewN_drewN _ _ _⟩ | exact ⟨rfl, _, Eq.trans (World.drewN_drewN _ _ _) (congrArg (World.drewN _) (Nat.add_assoc _ _ _))⟩)))
                  repeat (go_quiet (first | (go_at_call 60; (with_reducible refine (spec_GoodName.calls kj11 a0_2 t179 _ A16.out).mono ?_); rintro e w' ⟨rfl, ⟨nd, rfl⟩⟩; (try first | exact ⟨rfl, _, World.drewN_drewN _ _ _⟩ | exact ⟨rfl, _, Eq.trans (World.drewN_drewN _ _ _) (congrArg (World.drewN _) (Nat.add_assoc _ _ _))⟩)) | (go_at_call 59; (with_reducible refine (spec_l15Not.calls true a0_2 t179 false _ A17.out).mono ?_); rintro e w' ⟨rfl, ⟨nd, rfl⟩⟩; (try first | exact ⟨rfl, _, World.drewN_drewN _ _ _⟩ | exact ⟨rfl, _, Eq.trans (World.drewN_drewN _ _ _) (congrArg (World.drewN _) (Nat.add_assoc _ _ _))⟩)) | (go_at_call 60; (with_reducible refine (spec_GoodName.calls kj11 a0_3 t181 _ A20.out).mono ?_); rintro e w' ⟨rfl, ⟨nd, rfl⟩⟩; (try first | exact ⟨rfl, _, World.drewN_drewN _ _ _⟩ | exact ⟨rfl, _, Eq.trans (World.drewN_drewN _ _ _) (congrArg (World.drewN _) (Nat.add_assoc _ _ _))⟩)) | (go_at_call 59; (with_reducible refine (spec_l15Not.calls (a0_0 != 5) a0_3 t181 false _ A21.out).mono ?_); rintro e w' ⟨rfl, ⟨nd, rfl⟩⟩; (try first | exact ⟨rfl, _, World.drewN_drewN _ _ _⟩ | exact ⟨rfl, _, Eq.trans (World.drewN_drewN _ _ _) (congrArg (World.drewN _) (Nat.add_assoc _ _ _))⟩))); try go_wp2_with (first | (go_at_call 60; (with_reducible refine (spec_GoodName.calls kj11 a0_2 t179 _ A16.out).mono ?_); rintro e w' ⟨rfl, ⟨nd, rfl⟩⟩; (try first | exact ⟨rfl, _, World.drewN_drewN _ _ _⟩ | exact ⟨rfl, _, Eq.trans (World.drewN_drewN _ _ _) (congrArg (World.drewN _) (Nat.add_assoc _ _ _))⟩)) | (go_at_call 59; (with_reducible refine (spec_l15Not.calls true a0_2 t179 false _ A17.out).mono ?_); rintro e w' ⟨rfl, ⟨nd, rfl⟩⟩; (try first | exact ⟨rfl, _, World.drewN_drewN _ _ _⟩ | exact ⟨rfl, _, Eq.trans (World.drewN_drewN _ _ _) (congrArg (World.drewN _) (Nat.add_assoc _ _ _))⟩)) | (go_at_call 60; (with_reducible refine (spec_GoodName.calls kj11 a0_3 t181 _ A20.out).mono ?_); rintro e w' ⟨rfl, ⟨nd, rfl⟩⟩; (try first | exact ⟨rfl, _, World.drewN_drewN _ _ _⟩ | exact ⟨rfl, _, Eq.trans (World.drewN_drewN _ _ _) (congrArg (World.drewN _) (Nat.add_assoc _ _ _))⟩)) | (go_at_call 59; (with_reducible refine (spec_l15Not.calls (a0_0 != 5) a0_3 t181 false _ A21.out).mono ?_); rintro e w' ⟨rfl, ⟨nd, rfl⟩⟩; (try first | exact ⟨rfl, _, World.drewN_drewN _ _ _⟩ | exact ⟨rfl, _, Eq.trans (World.drewN_drewN _ _ _) (congrArg (World.drewN _) (Nat.add_assoc _ _ _))⟩))))
                  go_ret
                  exact ⟨by first | rfl | (simp [errW_none, errW_some] <;> rfl) | (simp [*, errW_none, errW_some] <;> rfl) | (simp [*, Go.Proofs.YtpfjboioeidecaaDoor.HQ.isEmpty_ne]; done) | (simp; rw [Go.Proofs.YtpfjboioeidecaaDoor.HQ.isEmpty_ne]), by repeat (first | (with_reducible first | exact HB.out | apply below_alloc | apply pw_below_drewN | apply below_drew1 | refine below_set ?_ GE178.out) | exact HB.out)⟩
                · replace c24 := Bool.eq_false_iff.mpr c24
                  subst c24
                  have H1 : (some false) = some r := by rw [if_neg (show ¬ (false = true) by decide)] at H; exact H
                  clear H
                  have H := H1
                  clear H1
                  obtain rfl := Option.some.inj H
                  have hcz26_0 : wc.cell? ⟨gb178, 0, none⟩ = some (.int .i64 a0_0) := (blk_cell BK178.out 0).trans rfl
                  have hcz26_1 : wc.cell? ⟨gb178, 1, none⟩ = some (.int .i64 a0_1) := (blk_cell BK178.out 1).trans rfl
                  have hcz26_2 : wc.cell? ⟨gb178, 2, none⟩ = some (.string a0_2) := (blk_cell BK178.out 2).trans rfl
                  have hcz26_3 : wc.cell? ⟨gb178, 3, none⟩ = some (.string a0_3) := (blk_cell BK178.out 3).trans rfl
                  have hcz26_4 : wc.cell? ⟨gb178, 4, none⟩ = some (.string a0_4) := (blk_cell BK178.out 4).trans rfl
                  have hfz26_0 := blk_frozen BK178.out 0
                  have hfz26_1 := blk_frozen BK178.out 1
                  have hfz26_2 := blk_frozen BK178.out 2
                  have hfz26_3 := blk_frozen BK178.out 3
                  have hfz26_4 := blk_frozen BK178.out 4
                  go_wp2_with (first | (go_at_call 60; (with_reducible refine (spec_GoodName.calls kj11 a0_2 t179 _ A16.out).mono ?_); rintro e w' ⟨rfl, ⟨nd, rfl⟩⟩; (try first | exact ⟨rfl, _, World.drewN_drewN _ _ _⟩ | exact ⟨rfl, _, Eq.trans (World.drewN_drewN _ _ _) (congrArg (World.drewN _) (Nat.add_assoc _ _ _))⟩)) | (go_at_call 59; (with_reducible refine (spec_l15Not.calls false a0_2 t179 false _ A17.out).mono ?_); rintro e w' ⟨rfl, ⟨nd, rfl⟩⟩; (try first | exact ⟨rfl, _, World.drewN_drewN _ _ _⟩ | exact ⟨rfl, _, Eq.trans (World.drewN_drewN _ _ _) (congrArg (World.drewN _) (Nat.add_assoc _ _ _))⟩)) | (go_at_call 60; (with_reducible refine (spec_GoodName.calls kj11 a0_3 t181 _ A20.out).mono ?_); rintro e w' ⟨rfl, ⟨nd, rfl⟩⟩; (try first | exact ⟨rfl, _, World.drewN_drewN _ _ _⟩ | exact ⟨rfl, _, Eq.trans (World.drewN_drewN _ _ _) (congrArg (World.drewN _) (Nat.add_assoc _ _ _))⟩)) | (go_at_call 59; (with_reducible refine (spec_l15Not.calls (a0_0 != 5) a0_3 t181 false _ A21.out).mono ?_); rintro e w' ⟨rfl, ⟨nd, rfl⟩⟩; (try first | exact ⟨rfl, _, World.drewN_drewN _ _ _⟩ | exact ⟨rfl, _, Eq.trans (World.drewN_drewN _ _ _) (congrArg (World.drewN _) (Nat.add_assoc _ _ _))⟩)))
                  repeat (go_quiet (first | (go_at_call 60; (with_reducible refine (spec_GoodName.calls kj11 a0_2 t179 _ A16.out).mono ?_); rintro e w' ⟨rfl, ⟨nd, rfl⟩⟩; (try first | exact ⟨rfl, _, World.drewN_drewN _ _ _⟩ | exact ⟨rfl, _, Eq.trans (World.drewN_drewN _ _ _) (congrArg (World.drewN _) (Nat.add_assoc _ _ _))⟩)) | (go_at_call 59; (with_reducible refine (spec_l15Not.calls false a0_2 t179 false _ A17.out).mono ?_); rintro e w' ⟨rfl, ⟨nd, rfl⟩⟩; (try first | exact ⟨rfl, _, World.drewN_drewN _ _ _⟩ | exact ⟨rfl, _, Eq.trans (World.drewN_drewN _ _ _) (congrArg (World.drewN _) (Nat.add_assoc _ _ _))⟩)) | (go_at_call 60; (with_reducible refine (spec_GoodName.calls kj11 a0_3 t181 _ A20.out).mono ?_); rintro e w' ⟨rfl, ⟨nd, rfl⟩⟩; (try first | exact ⟨rfl, _, World.drewN_drewN _ _ _⟩ | exact ⟨rfl, _, Eq.trans (World.drewN_drewN _ _ _) (congrArg (World.drewN _) (Nat.add_assoc _ _ _))⟩)) | (go_at_call 59; (with_reducible refine (spec_l15Not.calls (a0_0 != 5) a0_3 t181 false _ A21.out).mono ?_); rintro e w' ⟨rfl, ⟨nd, rfl⟩⟩; (try first | exact ⟨rfl, _, World.drewN_drewN _ _ _⟩ | exact ⟨rfl, _, Eq.trans (World.drewN_drewN _ _ _) (congrArg (World.drewN _) (Nat.add_assoc _ _ _))⟩))); try go_wp2_with (first | (go_at_call 60; (with_reducible refine (spec_GoodName.calls kj11 a0_2 t179 _ A16.out).mono ?_); rintro e w' ⟨rfl, ⟨nd, rfl⟩⟩; (try first | exact ⟨rfl, _, World.drewN_drewN _ _ _⟩ | exact ⟨rfl, _, Eq.trans (World.drewN_drewN _ _ _) (congrArg (World.drewN _) (Nat.add_assoc _ _ _))⟩)) | (go_at_call 59; (with_reducible refine (spec_l15Not.calls false a0_2 t179 false _ A17.out).mono ?_); rintro e w' ⟨rfl, ⟨nd, rfl⟩⟩; (try first | exact ⟨rfl, _, World.drewN_drewN _ _ _⟩ | exact ⟨rfl, _, Eq.trans (World.drewN_drewN _ _ _) (congrArg (World.drewN _) (Nat.add_assoc _ _ _))⟩)) | (go_at_call 60; (with_reducible refine (spec_GoodName.calls kj11 a0_3 t181 _ A20.out).mono ?_); rintro e w' ⟨rfl, ⟨nd, rfl⟩⟩; (try first | exact ⟨rfl, _, World.drewN_drewN _ _ _⟩ | exact ⟨rfl, _, Eq.trans (World.drewN_drewN _ _ _) (congrArg (World.drewN _) (Nat.add_assoc _ _ _))⟩)) | (go_at_call 59; (with_reducible refine (spec_l15Not.calls (a0_0 != 5) a0_3 t181 false _ A21.out).mono ?_); rintro e w' ⟨rfl, ⟨nd, rfl⟩⟩; (try first | exact ⟨rfl, _, World.drewN_drewN _ _ _⟩ | exact ⟨rfl, _, Eq.trans (World.drewN_drewN _ _ _) (congrArg (World.drewN _) (Nat.add_assoc _ _ _))⟩))))
                  go_ret
                  exact ⟨by first | rfl | (simp [errW_none, errW_some] <;> rfl) | (simp [*, errW_none, errW_some] <;> rfl) | (simp [*, Go.Proofs.YtpfjboioeidecaaDoor.HQ.isEmpty_ne]; done) | (simp; rw [Go.Proofs.YtpfjboioeidecaaDoor.HQ.isEmpty_ne]), by repeat (first | (with_reducible first | exact HB.out | apply below_alloc | apply pw_below_drewN | apply below_drew1 | refine below_set ?_ GE178.out) | exact HB.out)⟩
def spec_l19Err.f (a0 : Int) : Option (Int × ByteArray × ByteArray × Int) := some (a0, (⟨#[]⟩ : ByteArray), (⟨#[]⟩ : ByteArray), 0)
set_option maxHeartbeats 8000000 in
set_option maxRecDepth 100000 in
theorem spec_l19Err.calls (a0 : Int) (r1 : Int) (r2 : ByteArray) (r3 : ByteArray) (r4 : Int) (w : World) (h : spec_l19Err.f a0 = some (r1, r2, r3, r4)) :
    Calls Tryd.prog 52 #[.int .i64 a0] w fun e w' => e = .returned (.agg #[.int .i64 r1, .string r2, .string r3, .int .i64 r4]) ∧ Below w.heap.size w w' := by
  have hu31 := Tryd.underlying31
  have HB := Aside0.mk (Below.refl w.heap.size w)
  have H : (some (a0, (⟨#[]⟩ : ByteArray), (⟨#[]⟩ : ByteArray), 0)) = some (r1, r2, r3, r4) := h
  clear h
  simp only [Option.some.injEq, Prod.mk.injEq] at H
  obtain ⟨rfl, rfl, rfl, rfl⟩ := H
  go_enter Tryd.func52, Tryd.ntmps52
  go_wp2_with (first | ((with_reducible refine gate_dst (N := 2) rfl ?_); refine box_event ?hg (N := 2) ?hd (cs := #[.int .i64 0, .string (⟨#[]⟩ : ByteArray), .string (⟨#[]⟩ : ByteArray), .int .i64 0]) (t := 31) ?hr ?_; (case hd => rfl); (case hg => rfl); (case hr => first | (go_simp; done) | (go_simp; rfl)); intro gb183 hg w2 hbox hb; have n0_ := Aside0.mk (below_step (by repeat (first | (with_reducible first | exact HB.out | apply below_alloc | apply pw_below_drewN | apply below_drew1) | exact HB.out)) hb); have n1_ := Aside0.mk (hbox); have n2_ := Aside0.mk ((by rw [hg]; exact (below_size (by repeat (first | (with_reducible first | exact HB.out | apply below_alloc | apply pw_below_drewN | apply below_drew1) | exact HB.out))) : w.heap.size ≤ gb183)); have n3_ := Aside0.mk ((by rw [hg]; exact (below_size (by repeat (first | (with_reducible first | exact HB.out | apply below_alloc | apply pw_below_drewN | apply below_drew1) | exact HB.out))) : w.heap.size ≤ gb183)); clear HB; have HB := n0_; have BK183 := n1_; have GW183 := n2_; have GE183 := n3_; clear n0_ n1_ n2_ n3_; clear hb hbox hg; have hcz3_0 : w2.cell? ⟨gb183, 0, none⟩ = some (.int .i64 0) := (blk_cell BK183.out 0).trans rfl; have hcz3_1 : w2.cell? ⟨gb183, 1, none⟩ = some (.string (⟨#[]⟩ : ByteArray)) := (blk_cell BK183.out 1).trans rfl; have hcz3_2 : w2.cell? ⟨gb183, 2, none⟩ = some (.string (⟨#[]⟩ : ByteArray)) := (blk_cell BK183.out 2).trans rfl; have hcz3_3 : w2.cell? ⟨gb183, 3, none⟩ = some (.int .i64 0) := (blk_cell BK183.out 3).trans rfl; have hfz3_0 := blk_frozen BK183.out 0; have hfz3_1 := blk_frozen BK183.out 1; have hfz3_2 := blk_frozen BK183.out 2; have hfz3_3 := blk_frozen BK183.out 3))
  refine bodyPost_ret (results_cell_row rfl _ _ gb183 31 #[.int .i64 a0, .string (⟨#[]⟩ : ByteArray), .string (⟨#[]⟩ : ByteArray), .int .i64 0] (0, 0) _ rfl (by (with_reducible repeat (first | refine blk_drewN ?_ _ | refine blk_drew ?_ | refine blk_alloc ?_ _)); refine blk_put (cs := #[.int .i64 a0, .string (⟨#[]⟩ : ByteArray), .string (⟨#[]⟩ : ByteArray), .int .i64 0]) ?_ 3 _ rfl; (with_reducible repeat (first | refine blk_drewN ?_ _ | refine blk_drew ?_ | refine blk_alloc ?_ _)); refine blk_put (cs := #[.int .i64 a0, .string (⟨#[]⟩ : ByteArray), .string (⟨#[]⟩ : ByteArray), .int .i64 0]) ?_ 2 _ rfl; (with_reducible repeat (first | refine blk_drewN ?_ _ | refine blk_drew ?_ | refine blk_alloc ?_ _)); refine blk_put (cs := #[.int .i64 a0, .string (⟨#[]⟩ : ByteArray), .string (⟨#[]⟩ : ByteArray), .int .i64 0]) ?_ 1 _ rfl; (with_reducible repeat (first | refine blk_drewN ?_ _ | refine blk_drew ?_ | refine blk_alloc ?_ _)); refine blk_put (cs := #[.int .i64 0, .string (⟨#[]⟩ : ByteArray), .string (⟨#[]⟩ : ByteArray), .int .i64 0]) ?_ 0 _ rfl; (with_reducible repeat (first | refine blk_drewN ?_ _ | refine blk_drew ?_ | refine blk_alloc ?_ _)); exact BK183.out) Tryd.underlying31 rfl (by kernel_rfl)) rfl ?_
  exact ⟨by first | rfl | (simp [errW_none, errW_some] <;> rfl) | (simp [*, errW_none, errW_some] <;> rfl) | (simp [*, Go.Proofs.YtpfjboioeidecaaDoor.HQ.isEmpty_ne]; done) | (simp; rw [Go.Proofs.YtpfjboioeidecaaDoor.HQ.isEmpty_ne]), by repeat (first | (with_reducible first | exact HB.out | apply below_alloc | apply pw_below_drewN | apply below_drew1 | refine below_set ?_ GE183.out) | exact HB.out)⟩
def spec_l15Lesser.f (a0 : Int) (a1 : Int) : Option (Int) := if a0 < a1 then (some a0) else (some a1)
set_option maxHeartbeats 8000000 in
set_option maxRecDepth 100000 in
theorem spec_l15Lesser.calls (a0 : Int) (a1 : Int) (r : Int) (w : World) (h : spec_l15Lesser.f a0 a1 = some r) :
    Calls Tryd.prog 45 #[.int .i64 a0, .int .i64 a1] w fun e w' => e = .returned (.int .i64 r) ∧ Drawn0 w w' := by
  have H : (if a0 < a1 then (some a0) else (some a1)) = some r := h
  clear h
  by_cases c3 : a0 < a1
  · rw [if_pos c3] at H
    have c3b0 : decide (a0 < a1) = true := decide_eq_true c3
    clear c3
    obtain rfl := Option.some.inj H
    go_enter Tryd.func45, Tryd.ntmps45
    go_wp2
    go_ret
    exact ⟨by first | rfl | (simp; done) | (simp [*]; done) | (simp; first | rw [Go.Proofs.YtpfjboioeidecaaDoor.HQ.isEmpty_ne] | (simp [Go.Proofs.YtpfjboioeidecaaDoor.HQ.isEmpty_ne]; done)), by repeat (first | exact Drawn0.refl _ | apply Drawn0.step)⟩
  · rw [if_neg c3] at H
    have c3b0 : decide (a0 < a1) = false := decide_eq_false c3
    clear c3
    obtain rfl := Option.some.inj H
    go_enter Tryd.func45, Tryd.ntmps45
    go_wp2
    go_ret
    exact ⟨by first | rfl | (simp; done) | (simp [*]; done) | (simp; first | rw [Go.Proofs.YtpfjboioeidecaaDoor.HQ.isEmpty_ne] | (simp [Go.Proofs.YtpfjboioeidecaaDoor.HQ.isEmpty_ne]; done)), by repeat (first | exact Drawn0.refl _ | apply Drawn0.step)⟩
def spec_l3Has.l0 : Nat → ByteArray → List ByteArray → Int → Int → Option (Bool)
  | 0, _, _, _, _ => none
  | k + 1, x1, x7, x8, x9 => if x9 < x8 then (if 0 ≤ x9 then (if x9 < (x7.length : Int) then (if (rdOf ByteArray.empty x7 x9).toList = x1.toList then (some true) else (spec_l3Has.l0 k x1 x7 x8 (wrap64 (x9 + 1)))) else (none)) else (none)) else (some false)
def spec_l3Has.f (k : Nat) (l0 : List ByteArray) (a1 : ByteArray) : Option (Bool) := spec_l3Has.l0 k a1 l0 (l0.length : Int) 0
theorem spec_l3Has.mono_l : ∀ k, (∀ y0 y1 y2 y3, LeO (spec_l3Has.l0 k y0 y1 y2 y3) (spec_l3Has.l0 (k + 1) y0 y1 y2 y3))
  | 0 => fun _ _ _ _ r h => by simp [spec_l3Has.l0] at h
  | k + 1 => by
    have ih0 := spec_l3Has.mono_l k
    · intro y0 y1 y2 y3
      unfold spec_l3Has.l0
      repeat' first
      | (with_reducible exact ih0 _ _ _ _)
      | (with_reducible exact LeO.refl _)
      | (with_reducible exact LeO.none _)
      | (with_reducible refine LeO.ite ?_ ?_)
      | (with_reducible refine LeO.bind ?_ (fun _ => ?_))
      | exact ih0 _ _ _ _
      | exact LeO.none _
      | refine LeO.ite ?_ ?_
      | refine LeO.bind ?_ (fun _ => ?_)
theorem spec_l3Has.mono : ∀ a0 a1 k, LeO (spec_l3Has.f k a0 a1) (spec_l3Has.f (k + 1) a0 a1) := by
  intro a0 a1 k
  have ih0 := spec_l3Has.mono_l k
  unfold spec_l3Has.f
  repeat' first
      | (with_reducible exact ih0 _ _ _ _)
      | (with_reducible exact LeO.refl _)
      | (with_reducible exact LeO.none _)
      | (with_reducible refine LeO.ite ?_ ?_)
      | (with_reducible refine LeO.bind ?_ (fun _ => ?_))
      | exact ih0 _ _ _ _
      | exact LeO.none _
      | refine LeO.ite ?_ ?_
      | refine LeO.bind ?_ (fun _ => ?_)
set_option maxHeartbeats 8000000 in
set_option maxRecDepth 100000 in
theorem spec_l3Has.calls (k : Nat) (A0 : Option Addr) (c0 : Nat) (l0 : List ByteArray) (a1 : ByteArray) (r : Bool) (w : World) (hr0 : Kd.C Kd.string w A0 l0.length l0) (hc0 : l0.length ≤ c0) (h : spec_l3Has.f k l0 a1 = some r) :
    Calls Tryd.prog 47 #[.slice A0 l0.length c0, .string a1] w fun e w' => e = .returned (.bool r) ∧ Drawn0 w w' := by
  have HR0 := Aside0.mk hr0
  have HC0 := Aside0.mk hc0
  clear hr0 hc0
  have H : (spec_l3Has.l0 k a1 l0 (l0.length : Int) 0) = some r := h
  clear h
  have H' := Aside0.mk H
  clear H
  go_enter Tryd.func47, Tryd.ntmps47
  go_wp2
  go_loopg [9] k (fun kq v9 w' => ∃ (x9_1 : Int), v9 = .int .i64 x9_1 ∧ Aside0 (spec_l3Has.l0 kq a1 l0 (l0.length : Int) x9_1 = some r) ∧ Aside0 (kq ≤ k) ∧ Drawn0 w w')
  case atStart => exact ⟨(0), (by first | rfl | (simp; done) | (simp [*]; done) | (simp; first | rw [Go.Proofs.YtpfjboioeidecaaDoor.HQ.isEmpty_ne] | (simp [Go.Proofs.YtpfjboioeidecaaDoor.HQ.isEmpty_ne]; done))), H', ⟨Nat.le_refl _⟩, by repeat (first | exact Drawn0.refl _ | apply Drawn0.step)⟩
  case round =>
    clear H'
    try clear p2
    obtain ⟨x9_1, rfl, HA, HK1, ⟨m1, rfl⟩⟩ := hrel
    cases gk with
    | zero => exact absurd HA.out (by simp [spec_l3Has.l0])
    | succ k1 =>
      have H := HA.out
      clear HA
      simp only [spec_l3Has.l0] at H
      by_cases c3 : x9_1 < (l0.length : Int)
      · rw [if_pos c3] at H
        have c3b0 : decide (x9_1 < (l0.length : Int)) = true := decide_eq_true c3
        clear c3
        by_cases c4 : 0 ≤ x9_1
        · rw [if_pos c4] at H
          have c4b0 : decide (0 ≤ x9_1) = true := decide_eq_true c4
          clear c4
          by_cases c5 : x9_1 < (l0.length : Int)
          · rw [if_pos c5] at H
            have c5b0 : decide (x9_1 < (l0.length : Int)) = true := decide_eq_true c5
            clear c5
            by_cases c6 : (rdOf ByteArray.empty l0 x9_1).toList = a1.toList
            · rw [if_pos c6] at H
              have c6b0 : ((rdOf ByteArray.empty l0 x9_1).toList == a1.toList) = true := beq_iff_eq.mpr c6
              have c6b1 : ((rdOf ByteArray.empty l0 x9_1).toList != a1.toList) = false := bne_eq_false_iff_eq.mpr c6
              clear c6
              obtain rfl := Option.some.inj H
              have p184 : 0 ≤ (x9_1 : Int) := of_decide_eq_true (by first | (with_reducible assumption) | assumption)
              have q184 : x9_1 < (l0.length : Int) := of_decide_eq_true (by first | (with_reducible assumption) | assumption)
              obtain ⟨ad184, e184, hx184_0⟩ := Kd.at_string HR0.out x9_1 p184 q184
              cases e184
              replace p184 := eq_true p184
              replace q184 := eq_true q184
              go_wp2
              go_ret
              exact ⟨by first | rfl | (simp; done) | (simp [*]; done) | (simp; first | rw [Go.Proofs.YtpfjboioeidecaaDoor.HQ.isEmpty_ne] | (simp [Go.Proofs.YtpfjboioeidecaaDoor.HQ.isEmpty_ne]; done)), by repeat (first | exact Drawn0.refl _ | apply Drawn0.step)⟩
            · rw [if_neg c6] at H
              have c6b0 : ((rdOf ByteArray.empty l0 x9_1).toList == a1.toList) = false := beq_eq_false_iff_ne.mpr c6
              have c6b1 : ((rdOf ByteArray.empty l0 x9_1).toList != a1.toList) = true := bne_iff_ne.mpr c6
              have H' := Aside0.mk H
              clear H
              have p184 : 0 ≤ (x9_1 : Int) := of_decide_eq_true (by first | (with_reducible assumption) | assumption)
              have q184 : x9_1 < (l0.length : Int) := of_decide_eq_true (by first | (with_reducible assumption) | assumption)
              obtain ⟨ad184, e184, hx184_0⟩ := Kd.at_string HR0.out x9_1 p184 q184
              cases e184
              replace p184 := eq_true p184
              replace q184 := eq_true q184
              go_wp2
              go_roundg k1
              case measure => have := HK1.out; omega
              case rel => exact ⟨(wrap64 (x9_1 + 1)), (by first | rfl | (simp; done) | (simp [*]; done) | (simp; first | rw [Go.Proofs.YtpfjboioeidecaaDoor.HQ.isEmpty_ne] | (simp [Go.Proofs.YtpfjboioeidecaaDoor.HQ.isEmpty_ne]; done))), H', ⟨by have := HK1.out; omega⟩, by repeat (first | exact Drawn0.refl _ | apply Drawn0.step)⟩
          · rw [if_neg c5] at H
            exact absurd H (by simp)
        · rw [if_neg c4] at H
          exact absurd H (by simp)
      · rw [if_neg c3] at H
        have c3b0 : decide (x9_1 < (l0.length : Int)) = false := decide_eq_false c3
        clear c3
        obtain rfl := Option.some.inj H
        go_wp2
        go_ret
        exact ⟨by first | rfl | (simp; done) | (simp [*]; done) | (simp; first | rw [Go.Proofs.YtpfjboioeidecaaDoor.HQ.isEmpty_ne] | (simp [Go.Proofs.YtpfjboioeidecaaDoor.HQ.isEmpty_ne]; done)), by repeat (first | exact Drawn0.refl _ | apply Drawn0.step)⟩
def spec_l2Letters.f  : Option (ByteArray) := some (⟨#[48, 49, 50, 51, 52, 53, 54, 55, 56, 57, 97, 98, 99, 100, 101, 102, 103, 104, 105, 106, 107, 108, 109, 110, 111, 112, 113, 114, 115, 116, 117, 118]⟩ : ByteArray)
set_option maxHeartbeats 8000000 in
set_option maxRecDepth 100000 in
theorem spec_l2Letters.calls  (r : ByteArray) (w : World) (h : spec_l2Letters.f  = some r) :
    Calls Tryd.prog 76 #[] w fun e w' => e = .returned (.string r) ∧ Drawn0 w w' := by
  have H : (some (⟨#[48, 49, 50, 51, 52, 53, 54, 55, 56, 57, 97, 98, 99, 100, 101, 102, 103, 104, 105, 106, 107, 108, 109, 110, 111, 112, 113, 114, 115, 116, 117, 118]⟩ : ByteArray)) = some r := h
  clear h
  obtain rfl := Option.some.inj H
  go_enter Tryd.func76, Tryd.ntmps76
  go_wp2
  go_ret
  exact ⟨by first | rfl | (simp; done) | (simp [*]; done) | (simp; first | rw [Go.Proofs.YtpfjboioeidecaaDoor.HQ.isEmpty_ne] | (simp [Go.Proofs.YtpfjboioeidecaaDoor.HQ.isEmpty_ne]; done)), by repeat (first | exact Drawn0.refl _ | apply Drawn0.step)⟩
end Go.Proofs.YtpfjboioeidecaaDoor.PQ
end
