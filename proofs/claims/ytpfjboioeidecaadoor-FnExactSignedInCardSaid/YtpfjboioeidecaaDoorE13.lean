/- The reference's SignedIn is the plain one; sizes are bounded. -/
import Derived.Test.YtpfjboioeidecaaDoorE12
import Derived.Deep.Cut
import Derived.Deep.CutBlock
import Derived.Deep.CutRange
import Derived.Deep.RegionHeld3
import Derived.Deep.RegionLaw
import Derived.Outline
import Derived.Deep.DeepMust
section
namespace Go.Proofs.YtpfjboioeidecaaDoor.HT
open Go.RowKit Go.Proofs.YtpfjboioeidecaaDoorW.PrintWords Go.Proofs.YtpfjboioeidecaaDoorW.PrintLast Go.Proofs.YtpfjboioeidecaaDoor.HP Go.Proofs.YtpfjboioeidecaaDoor.HDig Go.Proofs.YtpfjboioeidecaaDoor.PQ Go.Proofs.YtpfjboioeidecaaDoor.HS Go.Proofs.YtpfjboioeidecaaDoor.HPl Go.Proofs.YtpfjboioeidecaaDoorW
set_option maxHeartbeats 20000000 in
set_option maxRecDepth 100000 in
theorem tdo_calls (B : Nat) (w0 w : World) (p : Nat) (A : Option Addr) (c : Nat) (s : St) (L : Value) (e : HS.Ev) (m : Nat) (hS : TRel B w p A c s L) (hO : s.Ok m) (hm : m < 200)
    (hb : Below B w0 w) (hB0 : w0.heap.size ≤ B) (hBw : B ≤ w.heap.size) (hr : Kd.C (Kd.int .u8) w0 A s.key.length s.key) (hc : s.key.length ≤ c) (hu : e.user.size ≤ 140737488351232) (hd : e.device.size ≤ 140737488351232) :
    Calls Tryd.prog 46 #[.pointer (some ⟨p, 0, none⟩), .agg (EvCells e)] w fun r w' => r = .returned (.agg (RpCells (stepS s e).2)) ∧
      ∃ L', TRel B w' p A c (stepS s e).1 L' ∧ Below B w0 w' ∧ Kt w w' := by
  have HS := Aside0.mk hS
  have HO := Aside0.mk hO
  have HB := Aside0.mk hb
  have HR := Aside0.mk hr
  have HBc := Aside0.mk (bad_calls e hu hd)
  clear hS hO hb hr hu hd
  go_enter Tryd.func46, Tryd.ntmps46
  go_upto_region 1 with (fail)
  obtain ⟨w1, hw1⟩ : ∃ w1, w1 = (w.alloc (.cells (EvCells e) 34)).alloc (.cells #[.int .i64 0, .string none_, .string none_, .int .i64 0] 31) := ⟨_, rfl⟩
  rw [← hw1]
  have h34 : w1.heap[w.heap.size]? = some (.cells (EvCells e) 34 (0, 0)) := by
    rw [hw1, Go.Deep.blk_alloc_lt _ _ _ (by simp)]; exact blk_new w _
  have h31 : w1.heap[w.heap.size + 1]? = some (.cells #[.int .i64 0, .string none_, .string none_, .int .i64 0] 31 (0, 0)) := by
    have := blk_new (w.alloc (.cells (EvCells e) 34)) (.cells #[.int .i64 0, .string none_, .string none_, .int .i64 0] 31)
    rw [World.size_alloc] at this
    rw [hw1]; exact this
  have hb1 : Below w.heap.size w w1 := by rw [hw1]; exact ((Below.refl _ _).alloc (Nat.le_refl _) _).alloc (by simp) _
  clear hw1
  have HC := Aside0.mk (show CT B w0 w p A c e w.heap.size w1 s L from ⟨HS.out.below hb1, HB.out.trans (hb1.mono hBw), Kt.of_below hb1, h34, h31, rfl, hBw⟩)
  have e0 := blk_cell h34 0
  have e1 := blk_cell h34 1
  have e2 := blk_cell h34 2
  have e3 := blk_cell h34 3
  have e4 := blk_cell h34 4
  simp only [EvCells, List.getElem?_toArray, List.getElem?_cons_zero, List.getElem?_cons_succ] at e0 e1 e2 e3 e4
  clear h34 h31 hb1 HS HB
  generalize w.heap.size = g1 at *
  cases hbad : bad e
  · rw [hbad] at HBc
    have HBad := Aside0.mk hbad
    clear hbad
    go_upto_region 3 with (go_at_call 51; (with_reducible refine (HBc.out _).mono ?_); rintro r w2 ⟨rfl, hb2⟩; have HC2 := Aside0.mk (HC.out.below hb2); clear hb2 HC e0 e1 e2 e3 e4)
    by_cases htm : e.time < s.now
    · have htm2 : decide (e.time < s.now) = true := decide_eq_true htm
      have e0 := blk_cell HC2.out.ev 0
      have e1 := blk_cell HC2.out.ev 1
      have e2 := blk_cell HC2.out.ev 2
      have e3 := blk_cell HC2.out.ev 3
      have e4 := blk_cell HC2.out.ev 4
      simp only [EvCells, List.getElem?_toArray, List.getElem?_cons_zero, List.getElem?_cons_succ] at e0 e1 e2 e3 e4
      have p3 := blk_cell HC2.out.rel.blk 3
      simp only [List.getElem?_toArray, List.getElem?_cons_zero, List.getElem?_cons_succ] at p3
      have hst : stepS s e = (s, err 2) := by unfold stepS; rw [HBad.out, if_neg (by simp), if_pos htm]
      have HSt := Aside0.mk hst
      clear hst htm
      go_upto_region 4 with (go_quiet (fail))
      obtain ⟨w3, hw2⟩ : ∃ wz : World, wz = w2.drewN nq := ⟨_, rfl⟩
      have HC3 := Aside0.mk (HC2.out.drewN nq)
      rw [← hw2] at HC3 ⊢
      clear hw2 HC2
      clear e0 e1 e2 e3 e4 p3
      go_wp2_with (go_at_call 52; (with_reducible refine (err_calls 2 _).mono ?_); rintro r w9 ⟨rfl, hb9⟩; have HC9 := Aside0.mk (HC3.out.below hb9); have f31 : ∀ j, w9.frozen? ⟨g1 + 1, j, none⟩ = false := (fun j => by simp [World.frozen?, HC9.out.rp]); have q0 := blk_cell HC9.out.rp 0; have q1 := blk_cell HC9.out.rp 1; have q2 := blk_cell HC9.out.rp 2; have q3 := blk_cell HC9.out.rp 3; simp only [List.getElem?_toArray, List.getElem?_cons_zero, List.getElem?_cons_succ] at q0 q1 q2 q3; clear hb9 HC3)
      have hs := Sets.reply rfl (Sets.first HC9.out.rp) 2 0 none_ none_
      refine tend (.inl rfl) hs ?_ ?_ ?_
      · rfl
      · rfl
      rw [HSt.out]
      exact ⟨rfl, HC9.out.fin hs⟩
    · have htm2 : decide (e.time < s.now) = false := decide_eq_false htm
      have e0 := blk_cell HC2.out.ev 0
      have e1 := blk_cell HC2.out.ev 1
      have e2 := blk_cell HC2.out.ev 2
      have e3 := blk_cell HC2.out.ev 3
      have e4 := blk_cell HC2.out.ev 4
      simp only [EvCells, List.getElem?_toArray, List.getElem?_cons_zero, List.getElem?_cons_succ] at e0 e1 e2 e3 e4
      have p3 := blk_cell HC2.out.rel.blk 3
      simp only [List.getElem?_toArray, List.getElem?_cons_zero, List.getElem?_cons_succ] at p3
      obtain ⟨hk1, hk5, ht0, ht1⟩ := bad_false HBad.out
      have HTm := Aside0.mk htm
      clear htm
      go_upto_region 5 with (go_quiet (fail))
      obtain ⟨w3, hw2⟩ : ∃ wz : World, wz = w2.drewN nq := ⟨_, rfl⟩
      have HC3 := Aside0.mk (HC2.out.drewN nq)
      rw [← hw2] at HC3 ⊢
      clear hw2 HC2
      clear e0 e1 e2 e3 e4 p3 htm2
      have e0 := blk_cell HC3.out.ev 0
      have e1 := blk_cell HC3.out.ev 1
      have e2 := blk_cell HC3.out.ev 2
      have e3 := blk_cell HC3.out.ev 3
      have e4 := blk_cell HC3.out.ev 4
      simp only [EvCells, List.getElem?_toArray, List.getElem?_cons_zero, List.getElem?_cons_succ] at e0 e1 e2 e3 e4
      have fp : ∀ j, w3.frozen? ⟨p, j, none⟩ = false := fun j => by simp [World.frozen?, HC3.out.rel.blk]
      have p3 := blk_cell HC3.out.rel.blk 3
      simp only [List.getElem?_toArray, List.getElem?_cons_zero, List.getElem?_cons_succ] at p3
      obtain ⟨s1, hs1⟩ : ∃ s1 : St, s1 = { s with now := e.time } := ⟨_, rfl⟩
      have hst : stepS s e = step2S s1 e := by unfold stepS; rw [HBad.out, if_neg (by simp), if_neg HTm.out, hs1]
      have HSt := Aside0.mk hst
      have HO1 := Aside0.mk (show s1.Ok m by rw [hs1]; exact HO.out.at_time ht0 ht1)
      go_upto_region 6 with (fail)
      obtain ⟨w4, hw4⟩ : ∃ w4, w4 = w3.setCell ⟨p, 3, none⟩ (.int .i64 e.time) := ⟨_, rfl⟩
      have hs4 : Sets w3 w4 p (.cells #[.slice A s1.key.length c, .int .i64 s1.idle, .int .i64 s1.most, .int .i64 s1.now, .int .i64 s1.n, L] 76 (0, 0)) := by
        rw [hw4, hs1]; simpa using (Sets.first HC3.out.rel.blk).set 3 (.int .i64 e.time)
      have HC4 := Aside0.mk (HC3.out.put (s' := s1) (by rw [hs1]) (by rw [hs1]) hs4)
      have HR1 := Aside0.mk (show Kd.C (Kd.int .u8) w0 A s1.key.length s1.key by rw [hs1]; exact HR.out)
      have hc1 : s1.key.length ≤ c := by rw [hs1]; exact hc
      rw [← hw4]
      clear hs4 hw4 hst hs1 HC3 HO HTm HBad e0 e1 e2 e3 e4 p3 fp HR hc
      obtain hk | hk | hk : e.kind = 1 ∨ e.kind = 5 ∨ (e.kind ≠ 1 ∧ e.kind ≠ 5) := by omega
      · have HK := Aside0.mk hk
        have e0 := blk_cell HC4.out.ev 0
        have e1 := blk_cell HC4.out.ev 1
        have e2 := blk_cell HC4.out.ev 2
        have e3 := blk_cell HC4.out.ev 3
        have e4 := blk_cell HC4.out.ev 4
        simp only [EvCells, List.getElem?_toArray, List.getElem?_cons_zero, List.getElem?_cons_succ] at e0 e1 e2 e3 e4
        rw [hk] at e0
        clear hk
        go_upto_region 7 with (fail)
        have p3 := blk_cell HC4.out.rel.blk 3
        simp only [List.getElem?_toArray, List.getElem?_cons_zero, List.getElem?_cons_succ] at p3
        clear e0 e1 e4
        go_region_held3 (fun W => W.cell? ⟨g1, 2, none⟩ = some (.string e.user) ∧ W.cell? ⟨g1, 3, none⟩ = some (.string e.device) ∧ W.cell? ⟨p, 3, none⟩ = some (.int .i64 s1.now)) (first | (with_reducible exact ⟨e2, e3, p3⟩) | (with_reducible exact hC.loads) | (with_reducible exact hB1.ct.loads) | (with_reducible exact hB2.ct.loads) | (with_reducible exact hB3.ct.loads) | go_keep)
          (first | (go_at_call 53; (with_reducible refine ((HC4.out.below (below_drew (Below.refl _ _))).id_calls HO1.out hm HR1.out hB0 hc1).mono ?_); rintro r w5 ⟨rfl, hC, _, _⟩; have hB1 : Born B w0 w p A c e g1 ((w5.alloc (.cells #[.string s1.next] 9)).alloc (.cells #[.slice (some ⟨w5.heap.size, 0, none⟩) 1 1, .string e.user, .string e.device, .int .i64 1, .int .i64 s1.now, .int .i64 s1.now, .bool false] 78)) { s1 with n := s1.n + 1 } L (w5.heap.size + 1) (w5.heap.size) ⟨[s1.next], e.user, e.device, 1, s1.now, s1.now, false⟩ := Born.first hC ⟨[s1.next], e.user, e.device, 1, s1.now, s1.now, false⟩ s1.next rfl; have hB2 : Born B w0 w p A c e g1 ((w5.alloc (.cells #[.slice (some ⟨w5.heap.size + 1, 0, none⟩) 1 1, .string e.user, .string e.device, .int .i64 1, .int .i64 s1.now, .int .i64 s1.now, .bool false] 78)).alloc (.cells #[.string s1.next] 9)) { s1 with n := s1.n + 1 } L (w5.heap.size) (w5.heap.size + 1) ⟨[s1.next], e.user, e.device, 1, s1.now, s1.now, false⟩ := Born.between hC ⟨[s1.next], e.user, e.device, 1, s1.now, s1.now, false⟩ s1.next rfl) | (go_at_call 53; (with_reducible refine ((HC4.out.below (below_drew ((Below.refl _ _).alloc (Nat.le_refl _) _))).id_calls HO1.out hm HR1.out hB0 hc1).mono ?_); rintro r w5 ⟨rfl, hC, hsz5, hk5⟩; have hB3 : Born B w0 w p A c e g1 ((((((((w5.setCell ⟨w4.heap.size, 0, none⟩ (.slice (some ⟨w5.heap.size, 0, none⟩) 1 1)).setCell ⟨w4.heap.size, 1, none⟩ (.string e.user)).setCell ⟨w4.heap.size, 2, none⟩ (.string e.device)).setCell ⟨w4.heap.size, 3, none⟩ (.int .i64 1)).setCell ⟨w4.heap.size, 4, none⟩ (.int .i64 s1.now)).setCell ⟨w4.heap.size, 5, none⟩ (.int .i64 s1.now)).setCell ⟨w4.heap.size, 6, none⟩ (.bool false)).alloc (.cells #[.string s1.next] 9)) { s1 with n := s1.n + 1 } L (w4.heap.size) (w5.heap.size) ⟨[s1.next], e.user, e.device, 1, s1.now, s1.now, false⟩ := Born.second HC4.out hC (by simpa using hsz5) (fun k h1 h2 => hk5 k h1 (by simpa using h2)) ⟨[s1.next], e.user, e.device, 1, s1.now, s1.now, false⟩ s1.next rfl; have hlt5 : w4.heap.size < w5.heap.size := Nat.lt_of_succ_le (by simpa using hsz5); obtain ⟨fz, z0, z1, z2, z3, z4, z5, z6⟩ := born_zero HC4.out (fun k h1 h2 => hk5 k h1 (by simpa using h2)); clear hk5 hsz5))
        · skip
          go_wp2_with fail
          obtain ⟨W, hW⟩ : ∃ W, W = ((w5.alloc (.cells #[.string s1.next] 9)).alloc (.cells #[.slice (some ⟨w5.heap.size, 0, none⟩) 1 1, .string e.user, .string e.device, .int .i64 1, .int .i64 s1.now, .int .i64 s1.now, .bool false] 78)) := ⟨_, rfl⟩
          rw [← hW] at hB1 ⊢
          clear hW
          generalize w5.heap.size + 1 = b at hB1 ⊢
          generalize w5.heap.size = k9 at hB1 ⊢
          have HBn := Aside0.mk hB1
          clear hB1 hB2 hC HC4 e2 e3 p3
          skip
          have HBd := Aside0.mk (HBn.out.below (below_drew (Below.refl _ _)))
          have x0 := blk_cell HBn.out.blk 0
          have x1 := blk_cell HBn.out.blk 1
          have x2 := blk_cell HBn.out.blk 2
          have x3 := blk_cell HBn.out.blk 3
          have x4 := blk_cell HBn.out.blk 4
          have x5 := blk_cell HBn.out.blk 5
          have x6 := blk_cell HBn.out.blk 6
          simp only [SesCells, List.getElem?_toArray, List.getElem?_cons_zero, List.getElem?_cons_succ] at x0 x1 x2 x3 x4 x5 x6
          have p5 := blk_cell HBn.out.ct.rel.blk 5
          simp only [List.getElem?_toArray, List.getElem?_cons_zero, List.getElem?_cons_succ] at p5
          have hnw : ∀ o, (W.alloc o).cell? ⟨p, 5, none⟩ = some L := fun o => (World.cell?_alloc_some W _ o (by rw [p5]; rfl)).trans p5
          have hBW : B ≤ W.drew.heap.size := HBd.out.ct.sz
          have hnl : s1.list.length ≤ 200 := by have := HO1.out.len; omega
          go_region_law
            (first
              | (refine app_stepS kX B rfl (.tmp 50) (.tmp 52) 74 78 (.agg #[.slice none 0 0, .string none_, .string none_, .int .i64 0, .int .i64 0, .int .i64 0, .bool false]) 88 rfl Tryd.underlying74 info_x rfl (by decide) (by decide) L s1.list ⟨[s1.next], e.user, e.device, 1, s1.now, s1.now, false⟩ [.slice (some ⟨k9, 0, none⟩) 1 1, .string e.user, .string e.device, .int .i64 1, .int .i64 s1.now, .int .i64 s1.now, .bool false] (fun k => k ≠ b) (fun k => k = k9) rfl rfl (kX_mkM HBd.out.ids) HBd.out.okp (fun k hk => by have := HBd.out.lt; omega) HBd.out.row HBd.out.ct.bel hBW (by omega) ?_; intro L6 w6 hS6 hB6 hg6 _; obtain ⟨A6, c6, hL6⟩ := Kd.S_slice hS6; rw [List.length_append, List.length_singleton] at hL6; subst hL6; obtain ⟨p5', fp', hC7, hb7, hi7⟩ := HBd.out.pushed hS6 hg6; have HC7 := Aside0.mk hC7; have HB7 := Aside0.mk hb7; have HI7 := Aside0.mk hi7; clear hS6 hB6 hg6 hC7 hb7 hi7 HBn HBd x0 x1 x2 x3 x4 x5 x6 p5 hBW hnw))
          all_goals
            obtain ⟨w7, hw7⟩ : ∃ w7, w7 = w6.setCell ⟨p, 5, none⟩ (.slice A6 (s1.list.length + 1) c6) := ⟨_, rfl⟩
            rw [← hw7] at HC7 HB7 HI7 ⊢
            clear hw7 p5' fp'
            have y0 := blk_cell HB7.out 0
            have y1 := blk_cell HB7.out 1
            have y2 := blk_cell HB7.out 2
            have y3 := blk_cell HB7.out 3
            have y4 := blk_cell HB7.out 4
            have y5 := blk_cell HB7.out 5
            have y6 := blk_cell HB7.out 6
            simp only [SesCells, List.getElem?_toArray, List.getElem?_cons_zero, List.getElem?_cons_succ] at y0 y1 y2 y3 y4 y5 y6
            have HTo := Aside0.mk (told_calls (some ⟨k9, 0, none⟩) 1 1 ⟨[s1.next], e.user, e.device, 1, s1.now, s1.now, false⟩ w7 rfl (Kd.R_reads' HI7.out).2.2 (by simp) (by simp) (by simp))
            go_wp2_with (go_at_call 32; (with_reducible refine HTo.out.mono ?_); rintro r w8 ⟨rfl, hb8⟩; have HC8 := Aside0.mk (HC7.out.below hb8); have f31 : ∀ j, w8.frozen? ⟨g1 + 1, j, none⟩ = false := (fun j => by simp [World.frozen?, HC8.out.rp]); have q0 := blk_cell HC8.out.rp 0; have q1 := blk_cell HC8.out.rp 1; have q2 := blk_cell HC8.out.rp 2; have q3 := blk_cell HC8.out.rp 3; simp only [List.getElem?_toArray, List.getElem?_cons_zero, List.getElem?_cons_succ] at q0 q1 q2 q3; clear hb8 HC7 HB7 HI7 HTo y0 y1 y2 y3 y4 y5 y6)
            have hs := Sets.reply rfl (Sets.first HC8.out.rp) 0 1 s1.next e.user
            refine tend (.inl rfl) hs ?_ ?_ ?_
            · rfl
            · rfl
            have hst : stepS s e = ({ s1 with n := s1.n + 1, list := s1.list ++ [⟨[s1.next], e.user, e.device, 1, s1.now, s1.now, false⟩] }, ⟨0, s1.next, e.user, 1⟩) := by
              rw [HSt.out]; unfold step2S; rw [if_pos HK.out]
            rw [hst]
            exact ⟨rfl, HC8.out.fin hs⟩
        · skip
          go_wp2_with fail
          obtain ⟨W, hW⟩ : ∃ W, W = ((w5.alloc (.cells #[.slice (some ⟨w5.heap.size + 1, 0, none⟩) 1 1, .string e.user, .string e.device, .int .i64 1, .int .i64 s1.now, .int .i64 s1.now, .bool false] 78)).alloc (.cells #[.string s1.next] 9)) := ⟨_, rfl⟩
          rw [← hW] at hB2 ⊢
          clear hW
          generalize w5.heap.size + 1 = k9 at hB2 ⊢
          generalize w5.heap.size = b at hB2 ⊢
          have HBn := Aside0.mk hB2
          clear hB1 hB2 hC HC4 e2 e3 p3
          skip
          have HBd := Aside0.mk (HBn.out.below (below_drew (Below.refl _ _)))
          have x0 := blk_cell HBn.out.blk 0
          have x1 := blk_cell HBn.out.blk 1
          have x2 := blk_cell HBn.out.blk 2
          have x3 := blk_cell HBn.out.blk 3
          have x4 := blk_cell HBn.out.blk 4
          have x5 := blk_cell HBn.out.blk 5
          have x6 := blk_cell HBn.out.blk 6
          simp only [SesCells, List.getElem?_toArray, List.getElem?_cons_zero, List.getElem?_cons_succ] at x0 x1 x2 x3 x4 x5 x6
          have p5 := blk_cell HBn.out.ct.rel.blk 5
          simp only [List.getElem?_toArray, List.getElem?_cons_zero, List.getElem?_cons_succ] at p5
          have hnw : ∀ o, (W.alloc o).cell? ⟨p, 5, none⟩ = some L := fun o => (World.cell?_alloc_some W _ o (by rw [p5]; rfl)).trans p5
          have hBW : B ≤ W.drew.heap.size := HBd.out.ct.sz
          have hnl : s1.list.length ≤ 200 := by have := HO1.out.len; omega
          go_region_law
            (first
              | (refine app_stepS kX B rfl (.tmp 50) (.tmp 52) 74 78 (.agg #[.slice none 0 0, .string none_, .string none_, .int .i64 0, .int .i64 0, .int .i64 0, .bool false]) 88 rfl Tryd.underlying74 info_x rfl (by decide) (by decide) L s1.list ⟨[s1.next], e.user, e.device, 1, s1.now, s1.now, false⟩ [.slice (some ⟨k9, 0, none⟩) 1 1, .string e.user, .string e.device, .int .i64 1, .int .i64 s1.now, .int .i64 s1.now, .bool false] (fun k => k ≠ b) (fun k => k = k9) rfl rfl (kX_mkM HBd.out.ids) HBd.out.okp (fun k hk => by have := HBd.out.lt; omega) HBd.out.row HBd.out.ct.bel hBW (by omega) ?_; intro L6 w6 hS6 hB6 hg6 _; obtain ⟨A6, c6, hL6⟩ := Kd.S_slice hS6; rw [List.length_append, List.length_singleton] at hL6; subst hL6; obtain ⟨p5', fp', hC7, hb7, hi7⟩ := HBd.out.pushed hS6 hg6; have HC7 := Aside0.mk hC7; have HB7 := Aside0.mk hb7; have HI7 := Aside0.mk hi7; clear hS6 hB6 hg6 hC7 hb7 hi7 HBn HBd x0 x1 x2 x3 x4 x5 x6 p5 hBW hnw))
          all_goals
            obtain ⟨w7, hw7⟩ : ∃ w7, w7 = w6.setCell ⟨p, 5, none⟩ (.slice A6 (s1.list.length + 1) c6) := ⟨_, rfl⟩
            rw [← hw7] at HC7 HB7 HI7 ⊢
            clear hw7 p5' fp'
            have y0 := blk_cell HB7.out 0
            have y1 := blk_cell HB7.out 1
            have y2 := blk_cell HB7.out 2
            have y3 := blk_cell HB7.out 3
            have y4 := blk_cell HB7.out 4
            have y5 := blk_cell HB7.out 5
            have y6 := blk_cell HB7.out 6
            simp only [SesCells, List.getElem?_toArray, List.getElem?_cons_zero, List.getElem?_cons_succ] at y0 y1 y2 y3 y4 y5 y6
            have HTo := Aside0.mk (told_calls (some ⟨k9, 0, none⟩) 1 1 ⟨[s1.next], e.user, e.device, 1, s1.now, s1.now, false⟩ w7 rfl (Kd.R_reads' HI7.out).2.2 (by simp) (by simp) (by simp))
            go_wp2_with (go_at_call 32; (with_reducible refine HTo.out.mono ?_); rintro r w8 ⟨rfl, hb8⟩; have HC8 := Aside0.mk (HC7.out.below hb8); have f31 : ∀ j, w8.frozen? ⟨g1 + 1, j, none⟩ = false := (fun j => by simp [World.frozen?, HC8.out.rp]); have q0 := blk_cell HC8.out.rp 0; have q1 := blk_cell HC8.out.rp 1; have q2 := blk_cell HC8.out.rp 2; have q3 := blk_cell HC8.out.rp 3; simp only [List.getElem?_toArray, List.getElem?_cons_zero, List.getElem?_cons_succ] at q0 q1 q2 q3; clear hb8 HC7 HB7 HI7 HTo y0 y1 y2 y3 y4 y5 y6)
            have hs := Sets.reply rfl (Sets.first HC8.out.rp) 0 1 s1.next e.user
            refine tend (.inl rfl) hs ?_ ?_ ?_
            · rfl
            · rfl
            have hst : stepS s e = ({ s1 with n := s1.n + 1, list := s1.list ++ [⟨[s1.next], e.user, e.device, 1, s1.now, s1.now, false⟩] }, ⟨0, s1.next, e.user, 1⟩) := by
              rw [HSt.out]; unfold step2S; rw [if_pos HK.out]
            rw [hst]
            exact ⟨rfl, HC8.out.fin hs⟩
        · skip
          go_wp2_with fail
          obtain ⟨W, hW⟩ : ∃ W, W = ((((((((w5.setCell ⟨w4.heap.size, 0, none⟩ (.slice (some ⟨w5.heap.size, 0, none⟩) 1 1)).setCell ⟨w4.heap.size, 1, none⟩ (.string e.user)).setCell ⟨w4.heap.size, 2, none⟩ (.string e.device)).setCell ⟨w4.heap.size, 3, none⟩ (.int .i64 1)).setCell ⟨w4.heap.size, 4, none⟩ (.int .i64 s1.now)).setCell ⟨w4.heap.size, 5, none⟩ (.int .i64 s1.now)).setCell ⟨w4.heap.size, 6, none⟩ (.bool false)).alloc (.cells #[.string s1.next] 9)) := ⟨_, rfl⟩
          rw [← hW] at hB3 ⊢
          clear hW
          generalize w5.heap.size = k9 at hB3 ⊢
          generalize w4.heap.size = b at hB3 ⊢
          have HBn := Aside0.mk hB3
          clear hB3 hC HC4 e2 e3 p3 hlt5 fz z0 z1 z2 z3 z4 z5 z6
          skip
          have HBd := Aside0.mk (HBn.out.below (below_drew (Below.refl _ _)))
          have x0 := blk_cell HBn.out.blk 0
          have x1 := blk_cell HBn.out.blk 1
          have x2 := blk_cell HBn.out.blk 2
          have x3 := blk_cell HBn.out.blk 3
          have x4 := blk_cell HBn.out.blk 4
          have x5 := blk_cell HBn.out.blk 5
          have x6 := blk_cell HBn.out.blk 6
          simp only [SesCells, List.getElem?_toArray, List.getElem?_cons_zero, List.getElem?_cons_succ] at x0 x1 x2 x3 x4 x5 x6
          have p5 := blk_cell HBn.out.ct.rel.blk 5
          simp only [List.getElem?_toArray, List.getElem?_cons_zero, List.getElem?_cons_succ] at p5
          have hnw : ∀ o, (W.alloc o).cell? ⟨p, 5, none⟩ = some L := fun o => (World.cell?_alloc_some W _ o (by rw [p5]; rfl)).trans p5
          have hBW : B ≤ W.drew.heap.size := HBd.out.ct.sz
          have hnl : s1.list.length ≤ 200 := by have := HO1.out.len; omega
          go_region_law
            (first
              | (refine app_stepS kX B rfl (.tmp 50) (.tmp 52) 74 78 (.agg #[.slice none 0 0, .string none_, .string none_, .int .i64 0, .int .i64 0, .int .i64 0, .bool false]) 88 rfl Tryd.underlying74 info_x rfl (by decide) (by decide) L s1.list ⟨[s1.next], e.user, e.device, 1, s1.now, s1.now, false⟩ [.slice (some ⟨k9, 0, none⟩) 1 1, .string e.user, .string e.device, .int .i64 1, .int .i64 s1.now, .int .i64 s1.now, .bool false] (fun k => k ≠ b) (fun k => k = k9) rfl rfl (kX_mkM HBd.out.ids) HBd.out.okp (fun k hk => by have := HBd.out.lt; omega) HBd.out.row HBd.out.ct.bel hBW (by omega) ?_; intro L6 w6 hS6 hB6 hg6 _; obtain ⟨A6, c6, hL6⟩ := Kd.S_slice hS6; rw [List.length_append, List.length_singleton] at hL6; subst hL6; obtain ⟨p5', fp', hC7, hb7, hi7⟩ := HBd.out.pushed hS6 hg6; have HC7 := Aside0.mk hC7; have HB7 := Aside0.mk hb7; have HI7 := Aside0.mk hi7; clear hS6 hB6 hg6 hC7 hb7 hi7 HBn HBd x0 x1 x2 x3 x4 x5 x6 p5 hBW hnw))
          all_goals
            obtain ⟨w7, hw7⟩ : ∃ w7, w7 = w6.setCell ⟨p, 5, none⟩ (.slice A6 (s1.list.length + 1) c6) := ⟨_, rfl⟩
            rw [← hw7] at HC7 HB7 HI7 ⊢
            clear hw7 p5' fp'
            have y0 := blk_cell HB7.out 0
            have y1 := blk_cell HB7.out 1
            have y2 := blk_cell HB7.out 2
            have y3 := blk_cell HB7.out 3
            have y4 := blk_cell HB7.out 4
            have y5 := blk_cell HB7.out 5
            have y6 := blk_cell HB7.out 6
            simp only [SesCells, List.getElem?_toArray, List.getElem?_cons_zero, List.getElem?_cons_succ] at y0 y1 y2 y3 y4 y5 y6
            have HTo := Aside0.mk (told_calls (some ⟨k9, 0, none⟩) 1 1 ⟨[s1.next], e.user, e.device, 1, s1.now, s1.now, false⟩ w7 rfl (Kd.R_reads' HI7.out).2.2 (by simp) (by simp) (by simp))
            go_wp2_with (go_at_call 32; (with_reducible refine HTo.out.mono ?_); rintro r w8 ⟨rfl, hb8⟩; have HC8 := Aside0.mk (HC7.out.below hb8); have f31 : ∀ j, w8.frozen? ⟨g1 + 1, j, none⟩ = false := (fun j => by simp [World.frozen?, HC8.out.rp]); have q0 := blk_cell HC8.out.rp 0; have q1 := blk_cell HC8.out.rp 1; have q2 := blk_cell HC8.out.rp 2; have q3 := blk_cell HC8.out.rp 3; simp only [List.getElem?_toArray, List.getElem?_cons_zero, List.getElem?_cons_succ] at q0 q1 q2 q3; clear hb8 HC7 HB7 HI7 HTo y0 y1 y2 y3 y4 y5 y6)
            have hs := Sets.reply rfl (Sets.first HC8.out.rp) 0 1 s1.next e.user
            refine tend (.inl rfl) hs ?_ ?_ ?_
            · rfl
            · rfl
            have hst : stepS s e = ({ s1 with n := s1.n + 1, list := s1.list ++ [⟨[s1.next], e.user, e.device, 1, s1.now, s1.now, false⟩] }, ⟨0, s1.next, e.user, 1⟩) := by
              rw [HSt.out]; unfold step2S; rw [if_pos HK.out]
            rw [hst]
            exact ⟨rfl, HC8.out.fin hs⟩
      · have HK := Aside0.mk hk
        have e0 := blk_cell HC4.out.ev 0
        have e1 := blk_cell HC4.out.ev 1
        have e2 := blk_cell HC4.out.ev 2
        have e3 := blk_cell HC4.out.ev 3
        have e4 := blk_cell HC4.out.ev 4
        simp only [EvCells, List.getElem?_toArray, List.getElem?_cons_zero, List.getElem?_cons_succ] at e0 e1 e2 e3 e4
        rw [hk] at e0
        clear hk
        obtain ⟨A5, cap5, rfl⟩ := HC4.out.rel.form
        have p5 := blk_cell HC4.out.rel.blk 5
        simp only [List.getElem?_toArray, List.getElem?_cons_zero, List.getElem?_cons_succ] at p5
        have hnl : s1.list.length ≤ 200 := by have := HO1.out.len; omega
        obtain ⟨n1, hn1⟩ : ∃ n, n = s1.list.length := ⟨_, rfl⟩
        rw [← hn1] at p5 hnl HC4
        have HN1 := Aside0.mk hn1
        clear hn1
        go_wp2_with fail
        clear p5 e0 e1 e2 e3 e4
        go_loopw [66] (fun i wr => ∃ k : Nat, k ≤ n1 ∧ i = .int .i64 k ∧ Aside0 (CT B w0 w p A c e g1 wr { s1 with list := outs e.user s1.list k } (.slice A5 n1 cap5))) (fun i _ => n1 - (intOf i).toNat)
        case atStart => exact ⟨0, Nat.zero_le _, rfl, HC4⟩
        case round =>
          clear HC4
          obtain ⟨k, hkn, rfl, HC⟩ := hrel
          by_cases hlt : k < n1
          · obtain ⟨x, hx⟩ : ∃ x, s1.list[k]? = some x := ⟨_, List.getElem?_eq_getElem (by rw [← HN1.out]; exact hlt)⟩
            have hx2 : (outs e.user s1.list k)[k]? = some x := (outs_at _ _ _ (by rw [← HN1.out]; exact hlt)).trans hx
            obtain ⟨g5, rfl⟩ := HC.out.at_ hx2
            obtain ⟨v5, hcell, hfz, _⟩ := HC.out.elem hx2
            have x1 : wr.cell? ⟨g5, k * 7 + 1, none⟩ = some (.string x.user) := hcell 1 _ rfl
            have x6 : wr.cell? ⟨g5, k * 7 + 6, none⟩ = some (.bool x.dead) := hcell 6 _ rfl
            have p5 := blk_cell HC.out.rel.blk 5
            have e2 := blk_cell HC.out.ev 2
            simp only [EvCells, List.getElem?_toArray, List.getElem?_cons_zero, List.getElem?_cons_succ] at e2 p5
            have HX := Aside0.mk hx
            have HX2 := Aside0.mk hx2
            clear hx hx2 hcell
            cases hq : (x.user.toList == e.user.toList)
            · have HN : Aside0 (∀ m, CT B w0 w p A c e g1 (wr.drewN m) { s1 with list := outs e.user s1.list (k + 1) } (.slice (some ⟨g5, 0, none⟩) n1 cap5)) := ⟨fun m => by
                have h1 : out1 e.user x = x := by unfold out1; rw [hq, Bool.or_false]
                have h2 := outs_succ e.user s1.list k x HX.out
                rw [h1, list_set_same HX2.out] at h2
                rw [← h2]
                exact HC.out.drewN m⟩
              clear HX HX2
              go_wp2_with fail
              go_quiet (fail)
              go_wp2_with fail
              go_roundw
              case rel => exact ⟨k + 1, by omega, by go_num, ⟨HN.out _⟩⟩
              case measure => simp [intOf]; omega
            · have HN : Aside0 (∀ m, CT B w0 w p A c e g1 ((wr.drewN m).setCell ⟨g5, k * 7 + 6, none⟩ (.bool true)) { s1 with list := outs e.user s1.list (k + 1) } (.slice (some ⟨g5, 0, none⟩) n1 cap5)) := ⟨fun m => by
                have h1 : out1 e.user x = { x with dead := true } := by unfold out1; rw [hq, Bool.or_true]
                have h2 := outs_succ e.user s1.list k x HX.out
                rw [h1] at h2
                rw [← h2]
                exact (HC.out.drewN m).set (x' := { x with dead := true }) (u := .bool true) HX2.out rfl (by decide) rfl (fun v => rfl)⟩
              clear HX HX2
              go_wp2_with fail
              go_quiet (fail)
              go_wp2_with fail
              go_roundw
              case rel => exact ⟨k + 1, by omega, by go_num, ⟨HN.out _⟩⟩
              case measure => simp [intOf]; omega
          · have hkk : k = n1 := by omega
            rw [hkk, HN1.out, outs_all] at HC
            have e2 := blk_cell HC.out.ev 2
            simp only [EvCells, List.getElem?_toArray, List.getElem?_cons_zero, List.getElem?_cons_succ] at e2
            have f31 : ∀ j, wr.frozen? ⟨g1 + 1, j, none⟩ = false := (fun j => by simp [World.frozen?, HC.out.rp]); have q0 := blk_cell HC.out.rp 0; have q1 := blk_cell HC.out.rp 1; have q2 := blk_cell HC.out.rp 2; have q3 := blk_cell HC.out.rp 3; simp only [List.getElem?_toArray, List.getElem?_cons_zero, List.getElem?_cons_succ] at q0 q1 q2 q3
            go_wp2_with fail
            have hs := Sets.reply rfl (Sets.first HC.out.rp) 0 0 none_ e.user
            refine tend (.inl rfl) hs ?_ ?_ ?_
            · rfl
            · rfl
            have hst : stepS s e = ({ s1 with list := s1.list.map (out1 e.user) }, ⟨0, none_, e.user, 0⟩) := by
              rw [HSt.out]; unfold step2S; rw [if_neg (by have := HK.out; omega), if_pos HK.out]
            rw [hst]
            exact ⟨rfl, HC.out.fin hs⟩
      · have HK := Aside0.mk hk
        have e0 := blk_cell HC4.out.ev 0
        have e1 := blk_cell HC4.out.ev 1
        have e2 := blk_cell HC4.out.ev 2
        have e3 := blk_cell HC4.out.ev 3
        have e4 := blk_cell HC4.out.ev 4
        simp only [EvCells, List.getElem?_toArray, List.getElem?_cons_zero, List.getElem?_cons_succ] at e0 e1 e2 e3 e4
        obtain ⟨hn1, hn5⟩ := hk
        have hk1' : (e.kind == 1) = false := by simpa using hn1
        have hk5' : (e.kind == 5) = false := by simpa using hn5
        clear hn1 hn5
        obtain ⟨A5, cap5, rfl⟩ := HC4.out.rel.form
        have p5 := blk_cell HC4.out.rel.blk 5
        simp only [List.getElem?_toArray, List.getElem?_cons_zero, List.getElem?_cons_succ] at p5
        have hnl : s1.list.length ≤ 200 := by have := HO1.out.len; omega
        obtain ⟨n1, hn1⟩ : ∃ n, n = s1.list.length := ⟨_, rfl⟩
        rw [← hn1] at p5 hnl HC4
        have HN1 := Aside0.mk hn1
        clear hn1
        go_wp2_with fail
        clear p5 e0 e1 e2 e3 e4 hk1' hk5'
        go_loopw [7, 96] (fun a i wr => ∃ k : Nat, k ≤ n1 ∧ i = .int .i64 k ∧ a = .int .i64 (place (atK s1.list e.id k)) ∧ Aside0 (CT B w0 w p A c e g1 wr s1 (.slice A5 n1 cap5))) (fun _ i _ => n1 - (intOf i).toNat)
        case atStart => exact ⟨0, Nat.zero_le _, rfl, rfl, HC4⟩
        case round =>
          clear HC4
          obtain ⟨k, hkn, rfl, ha, HC⟩ := hrel
          by_cases hlt : k < n1
          · obtain ⟨x, hx⟩ : ∃ x, s1.list[k]? = some x := ⟨_, List.getElem?_eq_getElem (by rw [← HN1.out]; exact hlt)⟩
            obtain ⟨g5, rfl⟩ := HC.out.at_ hx
            obtain ⟨v5, hcell, hfz, hv5⟩ := HC.out.elem hx
            obtain ⟨A9, c9, rfl⟩ := Kd.R_slice hv5
            have x0 : wr.cell? ⟨g5, k * 7, none⟩ = some (.slice A9 x.ids.length c9) := hcell 0 _ rfl
            have x1 : wr.cell? ⟨g5, k * 7 + 1, none⟩ = some (.string x.user) := hcell 1 _ rfl
            have x2 : wr.cell? ⟨g5, k * 7 + 2, none⟩ = some (.string x.device) := hcell 2 _ rfl
            have x3 : wr.cell? ⟨g5, k * 7 + 3, none⟩ = some (.int .i64 x.level) := hcell 3 _ rfl
            have x4 : wr.cell? ⟨g5, k * 7 + 4, none⟩ = some (.int .i64 x.login) := hcell 4 _ rfl
            have x5 : wr.cell? ⟨g5, k * 7 + 5, none⟩ = some (.int .i64 x.last) := hcell 5 _ rfl
            have x6 : wr.cell? ⟨g5, k * 7 + 6, none⟩ = some (.bool x.dead) := hcell 6 _ rfl
            have hgl := blk_lt HC.out.ev
            have e4 := blk_cell HC.out.ev 4
            simp only [EvCells, List.getElem?_toArray, List.getElem?_cons_zero, List.getElem?_cons_succ] at e4
            have hln : x.ids.length ≤ 1000 := by have := (HO1.out.all x (List.mem_of_getElem? hx)).len; omega
            have hat := atK_succ (id := e.id) hx
            have HV := Aside0.mk hv5
            have HCa := Aside0.mk (fun o => has_calls' A9 x.ids.length c9 x.ids e.id (wr.alloc o) rfl (Kd.C_below (Kd.R_reads' hv5).2.2 ((Below.refl _ _).alloc (Nat.le_refl _) o)) (Kd.R_reads' hv5).2.1 hln)
            have HCb := Aside0.mk (fun o m => (HC.out.below ((Below.refl _ _).alloc (Nat.le_refl _) o)).drewN m)
            clear hx hcell hv5
            cases hh : x.has e.id
            · rw [show Lib.containsS x.ids e.id = false from hh] at HCa
              rw [hh, if_neg (by simp)] at hat
              have HAt := Aside0.mk hat
              clear hat
              go_wp2_with (go_at_call 47; (with_reducible refine (HCa.out _).mono ?_); rintro r w6 ⟨rfl, m6, rfl⟩)
              go_roundw
              case rel => exact ⟨k + 1, by omega, by go_num, by rw [HAt.out], ⟨HCb.out _ _⟩⟩
              case measure => simp [intOf]; omega
            · rw [show Lib.containsS x.ids e.id = true from hh] at HCa
              rw [hh, if_pos rfl] at hat
              have HAt := Aside0.mk hat
              clear hat
              go_wp2_with (go_at_call 47; (with_reducible refine (HCa.out _).mono ?_); rintro r w6 ⟨rfl, m6, rfl⟩)
              go_roundw
              case rel => exact ⟨k + 1, by omega, by go_num, by rw [HAt.out]; rfl, ⟨HCb.out _ _⟩⟩
              case measure => simp [intOf]; omega
          · have hkk : k = n1 := by omega
            rw [hkk, HN1.out, show atK s1.list e.id s1.list.length = atS s1.list e.id from rfl] at ha
            cases hat : atS s1.list e.id
            · rw [hat, show place none = -1 from rfl] at ha
              subst ha
              have hst : stepS s e = (s1, err 3) := by
                rw [HSt.out]; unfold step2S; rw [if_neg HK.out.1, if_neg HK.out.2, hat]
              have HSt2 := Aside0.mk hst
              clear HSt hst hat
              have HSt := HSt2
              clear HSt2
              go_wp2_with (go_at_call 52; (with_reducible refine (err_calls 3 _).mono ?_); rintro r w9 ⟨rfl, hb9⟩; have HC9 := Aside0.mk (HC.out.below hb9); have f31 : ∀ j, w9.frozen? ⟨g1 + 1, j, none⟩ = false := (fun j => by simp [World.frozen?, HC9.out.rp]); have q0 := blk_cell HC9.out.rp 0; have q1 := blk_cell HC9.out.rp 1; have q2 := blk_cell HC9.out.rp 2; have q3 := blk_cell HC9.out.rp 3; simp only [List.getElem?_toArray, List.getElem?_cons_zero, List.getElem?_cons_succ] at q0 q1 q2 q3; clear hb9 HC)
              have hs := Sets.reply rfl (Sets.first HC9.out.rp) 3 0 none_ none_
              refine tend (.inl rfl) hs ?_ ?_ ?_
              · rfl
              · rfl
              rw [HSt.out]
              exact ⟨rfl, HC9.out.fin hs⟩
            · rename_i i0
              rw [hat, show place (some i0) = (i0 : Int) from rfl] at ha
              subst ha
              obtain ⟨hil, x, hx, _⟩ := atK_is (show atK s1.list e.id s1.list.length = some i0 from hat)
              rw [← HN1.out] at hil
              obtain ⟨g5, rfl⟩ := HC.out.at_ hx
              have HAt := Aside0.mk hat
              have HX := Aside0.mk hx
              have HXO := Aside0.mk (HO1.out.all x (List.mem_of_getElem? hx))
              have hlx : x.ids.length ≤ 1000 := by have := HXO.out.len; omega
              have hlx0 : 0 < x.ids.length := List.length_pos_iff.2 HXO.out.ne
              clear hat hx hlt
              obtain ⟨v5, hcell, fx, hv5⟩ := HC.out.elem HX.out
              obtain ⟨A9, c9, rfl⟩ := Kd.R_slice hv5
              have x0 : wr.cell? ⟨g5, i0 * 7, none⟩ = some (.slice A9 x.ids.length c9) := hcell 0 _ rfl
              have x2 : wr.cell? ⟨g5, i0 * 7 + 2, none⟩ = some (.string x.device) := hcell 2 _ rfl
              clear hcell
              have p5 := blk_cell HC.out.rel.blk 5
              have e3 := blk_cell HC.out.ev 3
              have e4 := blk_cell HC.out.ev 4
              simp only [EvCells, List.getElem?_toArray, List.getElem?_cons_zero, List.getElem?_cons_succ] at e3 e4 p5
              obtain ⟨a9, rfl, _, hN0, hN1, hN2, hlast⟩ := ids_last hv5 HXO.out.ne
              rw [show x.ids.getD (x.ids.length - 1) none_ = x.last_ from rfl] at hlast
              have HV5 := Aside0.mk hv5
              clear hv5
              cases hA : (x.last_.toList != e.id.toList)
              · have hA2 : x.last_.toList = e.id.toList := by simpa using hA
                cases hD : (x.device.toList != e.device.toList)
                · have hD2 : x.device.toList = e.device.toList := by simpa using hD
                  go_upto_region 28 with (fail)
                  go_quiet (fail)
                  obtain ⟨w5, hw5⟩ : ∃ wz : World, wz = wr.drewN nq := ⟨_, rfl⟩
                  have HC5 := Aside0.mk (HC.out.drewN nq)
                  rw [← hw5] at HC5 ⊢
                  clear hw5 HC x0 x2 p5 e3 e4 hlast HV5 fx
                  have HA := Aside0.mk hA
                  have HD := Aside0.mk hD
                  clear hA hD hA2 hD2
                  obtain ⟨v6, hcell, fx, hv5⟩ := HC5.out.elem HX.out
                  obtain ⟨A9, c9, rfl⟩ := Kd.R_slice hv5
                  have x6 : w5.cell? ⟨g5, i0 * 7 + 6, none⟩ = some (.bool x.dead) := hcell 6 _ rfl
                  clear hcell
                  cases hdd : x.dead
                  · have HDd := Aside0.mk hdd
                    rw [hdd] at x6
                    clear hdd hv5
                    go_upto_region 33 with (fail)
                    clear x6 fx
                    obtain ⟨v7, hcell, fx, hv5⟩ := HC5.out.elem HX.out
                    obtain ⟨A9, c9, rfl⟩ := Kd.R_slice hv5
                    have x0 : w5.cell? ⟨g5, i0 * 7, none⟩ = some (.slice A9 x.ids.length c9) := hcell 0 _ rfl
                    have x1 : w5.cell? ⟨g5, i0 * 7 + 1, none⟩ = some (.string x.user) := hcell 1 _ rfl
                    have x2 : w5.cell? ⟨g5, i0 * 7 + 2, none⟩ = some (.string x.device) := hcell 2 _ rfl
                    have x3 : w5.cell? ⟨g5, i0 * 7 + 3, none⟩ = some (.int .i64 x.level) := hcell 3 _ rfl
                    have x4 : w5.cell? ⟨g5, i0 * 7 + 4, none⟩ = some (.int .i64 x.login) := hcell 4 _ rfl
                    have x5 : w5.cell? ⟨g5, i0 * 7 + 5, none⟩ = some (.int .i64 x.last) := hcell 5 _ rfl
                    have x6 : w5.cell? ⟨g5, i0 * 7 + 6, none⟩ = some (.bool x.dead) := hcell 6 _ rfl
                    clear hcell
                    have p3 := blk_cell HC5.out.rel.blk 3
                    simp only [List.getElem?_toArray, List.getElem?_cons_zero, List.getElem?_cons_succ] at p3
                    have HOv := Aside0.mk (sover_calls p _ _ (.slice A9 x.ids.length c9) x s1.idle s1.most s1.now s1.n s1.now w5.drew (HC5.out.below (below_drew (Below.refl _ _))).rel.blk HXO.out.log0 HXO.out.log1 HXO.out.las0 HXO.out.las1 HO1.out.i0 HO1.out.i1 HO1.out.m0 HO1.out.m1)
                    have HOv := Aside0.mk (show Calls Tryd.prog 31 #[.pointer (some ⟨p, 0, none⟩), .agg #[.slice A9 x.ids.length c9, .string x.user, .string x.device, .int .i64 x.level, .int .i64 x.login, .int .i64 x.last, .bool x.dead], .int .i64 s1.now] w5.drew fun e w' => e = .returned (.bool (over s1.idle s1.most x s1.now)) ∧ Below w5.drew.heap.size w5.drew w' from HOv.out)
                    go_still_tail 8, (by kernel_rfl)
                    cases hov : over s1.idle s1.most x s1.now
                    · have HOV := Aside0.mk hov
                      rw [hov] at HOv
                      clear hov
                      go_upto_region 35 with (go_at_call 31; (with_reducible refine HOv.out.mono ?_); rintro r w6 ⟨rfl, hb6⟩; have HC6 := Aside0.mk ((HC5.out.below (below_drew (Below.refl _ _))).below hb6); clear hb6 HOv HC5 x0 x1 x2 x3 x4 x5 x6 p3 fx hv5)
                      obtain ⟨v8, hcell, fx, hv5⟩ := HC6.out.elem HX.out
                      obtain ⟨A9, c9, rfl⟩ := Kd.R_slice hv5
                      have x5 : w6.cell? ⟨g5, i0 * 7 + 5, none⟩ = some (.int .i64 x.last) := hcell 5 _ rfl
                      clear hcell
                      clear hv5
                      have p3 := blk_cell HC6.out.rel.blk 3
                      simp only [List.getElem?_toArray, List.getElem?_cons_zero, List.getElem?_cons_succ] at p3
                      go_upto_region 36 with (fail)
                      have hC7 := HC6.out.set (i := i0) (x' := { x with last := s1.now }) (u := .int .i64 s1.now) HX.out rfl (show 5 < 7 by decide) rfl (fun v => rfl)
                      have HC7 := Aside0.mk hC7
                      obtain ⟨w7, hw7⟩ : ∃ w7, w7 = w6.setCell ⟨g5, i0 * 7 + 5, none⟩ (.int .i64 s1.now) := ⟨_, rfl⟩
                      rw [← hw7] at HC7 ⊢
                      clear hw7 hC7 x5 p3 fx HC6
                      have HX7 := Aside0.mk (show (({ s1 with list := s1.list.set i0 { x with last := s1.now } } : St).list)[i0]? = some { x with last := s1.now } from List.getElem?_set_self (by rw [← HN1.out]; exact hil))
                      have e0 := blk_cell HC7.out.ev 0
                      simp only [EvCells, List.getElem?_toArray, List.getElem?_cons_zero, List.getElem?_cons_succ] at e0
                      obtain hk3 | hk4 | hk2 : e.kind = 3 ∨ e.kind = 4 ∨ e.kind = 2 := by have := HK.out; omega
                      · have HK3 := Aside0.mk hk3
                        rw [hk3] at e0
                        clear hk3
                        obtain ⟨v9, hcell, fx, hv9⟩ := HC7.out.elem HX7.out
                        have x3 : w7.cell? ⟨g5, i0 * 7 + 3, none⟩ = some (.int .i64 x.level) := hcell 3 _ rfl
                        have hlv0 := HXO.out.lev0
                        have hlv1 := HXO.out.lev1
                        clear hcell hv9
                        have HLe := Aside0.mk (lesser_calls (x.level + 1) 9)
                        go_upto_region 39 with (go_at_call 45; (with_reducible refine (HLe.out _).mono ?_); rintro r w71 ⟨rfl, m7, rfl⟩; clear HLe)
                        obtain ⟨lv, hlv⟩ : ∃ lv : Int, lv = (if x.level + 1 < 9 then x.level + 1 else 9) := ⟨_, rfl⟩
                        rw [← hlv]
                        have hC8 := (HC7.out.drewN m7).set (i := i0) (x' := { x with last := s1.now, level := lv }) (u := .int .i64 lv) HX7.out rfl (show 3 < 7 by decide) rfl (fun v => rfl)
                        have HC8 := Aside0.mk (show CT B w0 w p A c e g1 _ { s1 with list := s1.list.set i0 { x with last := s1.now, level := lv } } _ by simpa using hC8)
                        obtain ⟨w8, hw8⟩ : ∃ w8, w8 = (w7.drewN m7).setCell ⟨g5, i0 * 7 + 3, none⟩ (.int .i64 lv) := ⟨_, rfl⟩
                        rw [← hw8] at HC8 ⊢
                        clear hw8 hC8 x3 fx HC7 e0
                        have HX8 := Aside0.mk (show (({ s1 with list := s1.list.set i0 { x with last := s1.now, level := lv } } : St).list)[i0]? = some { x with last := s1.now, level := lv } from List.getElem?_set_self (by rw [← HN1.out]; exact hil))
                        have HLv := Aside0.mk hlv
                        have hO3 : St.Ok m { s1 with list := s1.list.set i0 { x with last := s1.now, level := lv } } := HO1.out.set ⟨HXO.out.ne, HXO.out.len, by rw [hlv]; exact (lev_in x.level hlv0).1, by rw [hlv]; exact (lev_in x.level hlv0).2, HXO.out.log0, HXO.out.log1, HO1.out.t0, HO1.out.t1⟩
                        have HO3 := Aside0.mk hO3
                        clear hO3 hlv hlv0 hlv1
                        obtain ⟨v9, hcell, fx, hv9⟩ := HC8.out.elem HX8.out
                        obtain ⟨A9, c9, rfl⟩ := Kd.R_slice hv9
                        have x0 : w8.cell? ⟨g5, i0 * 7, none⟩ = some (.slice A9 x.ids.length c9) := hcell 0 _ rfl
                        have HI := Aside0.mk (show Calls Tryd.prog 53 #[.pointer (some ⟨p, 0, none⟩)] w8.drew fun r w' => r = .returned (.string s1.next) ∧ CT B w0 w p A c e g1 w' { s1 with n := s1.n + 1, list := s1.list.set i0 { x with last := s1.now, level := lv } } (.slice (some ⟨g5, 0, none⟩) n1 cap5) ∧ w8.drew.heap.size ≤ w'.heap.size ∧ ∀ k, k ≠ p → k < w8.drew.heap.size → w'.heap[k]? = w8.drew.heap[k]? from (HC8.out.below (below_drew (Below.refl _ _))).id_calls HO3.out hm HR1.out hB0 hc1)
                        clear hcell hv9 fx
                        go_region_law
                          (first
                            | (refine app_step Kd.string B rfl (.tmp 184) (.tmp 187) 69 9 (.string none_) 16 rfl Tryd.underlying69 info_str rfl (by decide) (by decide) (.slice A9 x.ids.length c9) x.ids s1.next [.string s1.next] (fun _ => True) (fun _ => False) rfl rfl rfl (fun _ h => h.elim) (fun _ _ => trivial) HV9.out HC9.out.bel hB9 (by omega) ?_; intro v10 w10 hR10 _ hg10 hat10; obtain ⟨z0, fz⟩ := HC9.out.raise_at HV9.out y0 hg10; obtain ⟨A10, c10, hv10⟩ := Kd.R_slice hR10; have hown10 := Kd.own_of_R hR10; rw [List.length_append, List.length_singleton] at hv10 hown10; subst hv10; have HC10 := Aside0.mk (HC9.out.raise (id := s1.next) HX8.out y0 (by simpa [encs] using hown10) hg10 hat10 rfl); clear hR10 hg10 hat10 hown10 HC9 HV9 hB9 y0 x0 hny)
                            | (go_simp; go_at_call 53; (with_reducible refine HI.out.mono ?_); rintro r w9 ⟨rfl, hC9, hsz9, hk9⟩; obtain ⟨y0, fy, hv9⟩ := (HC8.out.below (below_drew (Below.refl _ _))).elem_same hC9 HX8.out hk9 x0; have HV9 := Aside0.mk (show Kd.R Kd.string 9 w9 B (fun _ => True) (.slice A9 x.ids.length c9) x.ids from hv9); have hny : ∀ o, (w9.alloc o).cell? ⟨g5, i0 * 7, none⟩ = some (.slice A9 x.ids.length c9) := (fun o => (World.cell?_alloc_some w9 _ o (by rw [y0]; rfl)).trans y0); have HC9 := Aside0.mk hC9; have hB9 : B ≤ w9.heap.size := hC9.sz; clear hC9 hsz9 hk9 hv9 fy HI))
                        all_goals
                          obtain ⟨w11, hw11⟩ : ∃ w11, w11 = w10.setCell ⟨g5, i0 * 7, none⟩ (.slice A10 (x.ids.length + 1) c10) := ⟨_, rfl⟩
                          have HC11 := Aside0.mk (show CT B w0 w p A c e g1 w11 { s1 with n := s1.n + 1, list := s1.list.set i0 { x with last := s1.now, level := lv, ids := x.ids ++ [s1.next] } } (.slice (some ⟨g5, 0, none⟩) n1 cap5) by rw [hw11]; simpa using HC10.out)
                          rw [← hw11]
                          clear hw11 HC10 z0 fz
                          have HX11 := Aside0.mk (show (({ s1 with n := s1.n + 1, list := s1.list.set i0 { x with last := s1.now, level := lv, ids := x.ids ++ [s1.next] } } : St).list)[i0]? = some { x with last := s1.now, level := lv, ids := x.ids ++ [s1.next] } from List.getElem?_set_self (by rw [← HN1.out]; exact hil))
                          have hlxr : (x.ids ++ [s1.next]).length ≤ 1000 := by have := HXO.out.len; simp; omega
                          go_upto_region 42 with (fail)
                          obtain ⟨vt, hcell, fxt, hvt⟩ := HC11.out.elem HX11.out
                          obtain ⟨At, ct, rfl⟩ := Kd.R_slice hvt
                          have y0 : w11.cell? ⟨g5, i0 * 7, none⟩ = some (.slice At (x.ids.length + 1) ct) := by have h := hcell 0 _ rfl; rw [List.length_append, List.length_singleton] at h; exact h
                          have y1 : w11.cell? ⟨g5, i0 * 7 + 1, none⟩ = some (.string ({ x with last := s1.now, level := lv, ids := x.ids ++ [s1.next] } : Ses).user) := hcell 1 _ rfl
                          have y2 : w11.cell? ⟨g5, i0 * 7 + 2, none⟩ = some (.string ({ x with last := s1.now, level := lv, ids := x.ids ++ [s1.next] } : Ses).device) := hcell 2 _ rfl
                          have y3 : w11.cell? ⟨g5, i0 * 7 + 3, none⟩ = some (.int .i64 ({ x with last := s1.now, level := lv, ids := x.ids ++ [s1.next] } : Ses).level) := hcell 3 _ rfl
                          have y4 : w11.cell? ⟨g5, i0 * 7 + 4, none⟩ = some (.int .i64 ({ x with last := s1.now, level := lv, ids := x.ids ++ [s1.next] } : Ses).login) := hcell 4 _ rfl
                          have y5 : w11.cell? ⟨g5, i0 * 7 + 5, none⟩ = some (.int .i64 ({ x with last := s1.now, level := lv, ids := x.ids ++ [s1.next] } : Ses).last) := hcell 5 _ rfl
                          have y6 : w11.cell? ⟨g5, i0 * 7 + 6, none⟩ = some (.bool ({ x with last := s1.now, level := lv, ids := x.ids ++ [s1.next] } : Ses).dead) := hcell 6 _ rfl
                          have hTo := told_calls At (x.ids.length + 1) ct { x with last := s1.now, level := lv, ids := x.ids ++ [s1.next] } w11 (by simp) (Kd.R_reads' hvt).2.2 (Kd.R_reads' hvt).2.1 (by simp) hlxr
                          rw [show ({ x with last := s1.now, level := lv, ids := x.ids ++ [s1.next] } : Ses).last_ = s1.next from last_snoc x.ids s1.next] at hTo
                          have HTo := Aside0.mk hTo
                          clear hTo
                          clear hcell fxt hvt
                          go_wp2_with (go_at_call 32; (with_reducible refine HTo.out.mono ?_); rintro r w8 ⟨rfl, hb8⟩; have HC8 := Aside0.mk (HC11.out.below hb8); have f31 : ∀ j, w8.frozen? ⟨g1 + 1, j, none⟩ = false := (fun j => by simp [World.frozen?, HC8.out.rp]); have q0 := blk_cell HC8.out.rp 0; have q1 := blk_cell HC8.out.rp 1; have q2 := blk_cell HC8.out.rp 2; have q3 := blk_cell HC8.out.rp 3; simp only [List.getElem?_toArray, List.getElem?_cons_zero, List.getElem?_cons_succ] at q0 q1 q2 q3; clear hb8 HC11 HTo y0 y1 y2 y3 y4 y5 y6)
                          have hs := Sets.reply rfl (Sets.first HC8.out.rp) 0 (lv) (s1.next) x.user
                          refine tend (.inl rfl) hs ?_ ?_ ?_
                          · rfl
                          · rfl
                          have hst : stepS s e = ({ s1 with n := s1.n + 1, list := s1.list.set i0 { x with last := s1.now, level := lv, ids := x.ids ++ [s1.next] } }, ⟨0, s1.next, x.user, lv⟩) := by
                            rw [HSt.out]; unfold step2S; simp only [if_neg HK.out.1, if_neg HK.out.2, HAt.out, HX.out]; rw [if_neg (by rw [HA.out, HD.out]; simp), if_neg (by rw [HDd.out]; simp), if_neg (by rw [HOV.out]; simp), if_pos HK3.out]; simp only [← HLv.out]
                          rw [hst]
                          exact ⟨rfl, HC8.out.fin hs⟩
                      · have HK4 := Aside0.mk hk4
                        rw [hk4] at e0
                        clear hk4
                        obtain ⟨v9, hcell, fx, hv9⟩ := HC7.out.elem HX7.out
                        have x6 : w7.cell? ⟨g5, i0 * 7 + 6, none⟩ = some (.bool x.dead) := hcell 6 _ rfl
                        clear hcell hv9
                        go_upto_region 42 with (fail)
                        have hC9 := HC7.out.set (i := i0) (x' := { x with last := s1.now, dead := true }) (u := .bool true) HX7.out rfl (show 6 < 7 by decide) rfl (fun v => rfl)
                        have HC9 := Aside0.mk (show CT B w0 w p A c e g1 _ { s1 with list := s1.list.set i0 { x with last := s1.now, dead := true } } _ by simpa using hC9)
                        obtain ⟨w9, hw9⟩ : ∃ w9, w9 = w7.setCell ⟨g5, i0 * 7 + 6, none⟩ (.bool true) := ⟨_, rfl⟩
                        rw [← hw9] at HC9 ⊢
                        clear hw9 hC9 x6 fx HC7 e0
                        have HX9 := Aside0.mk (show (({ s1 with list := s1.list.set i0 { x with last := s1.now, dead := true } } : St).list)[i0]? = some { x with last := s1.now, dead := true } from List.getElem?_set_self (by rw [← HN1.out]; exact hil))
                        obtain ⟨vt, hcell, fxt, hvt⟩ := HC9.out.elem HX9.out
                        obtain ⟨At, ct, rfl⟩ := Kd.R_slice hvt
                        have y0 : w9.cell? ⟨g5, i0 * 7, none⟩ = some (.slice At ({ x with last := s1.now, dead := true } : Ses).ids.length ct) := hcell 0 _ rfl
                        have y1 : w9.cell? ⟨g5, i0 * 7 + 1, none⟩ = some (.string ({ x with last := s1.now, dead := true } : Ses).user) := hcell 1 _ rfl
                        have y2 : w9.cell? ⟨g5, i0 * 7 + 2, none⟩ = some (.string ({ x with last := s1.now, dead := true } : Ses).device) := hcell 2 _ rfl
                        have y3 : w9.cell? ⟨g5, i0 * 7 + 3, none⟩ = some (.int .i64 ({ x with last := s1.now, dead := true } : Ses).level) := hcell 3 _ rfl
                        have y4 : w9.cell? ⟨g5, i0 * 7 + 4, none⟩ = some (.int .i64 ({ x with last := s1.now, dead := true } : Ses).login) := hcell 4 _ rfl
                        have y5 : w9.cell? ⟨g5, i0 * 7 + 5, none⟩ = some (.int .i64 ({ x with last := s1.now, dead := true } : Ses).last) := hcell 5 _ rfl
                        have y6 : w9.cell? ⟨g5, i0 * 7 + 6, none⟩ = some (.bool ({ x with last := s1.now, dead := true } : Ses).dead) := hcell 6 _ rfl
                        have HTo := Aside0.mk (told_calls At ({ x with last := s1.now, dead := true } : Ses).ids.length ct { x with last := s1.now, dead := true } w9 rfl (Kd.R_reads' hvt).2.2 (Kd.R_reads' hvt).2.1 HXO.out.ne hlx)
                        clear hcell fxt hvt
                        go_wp2_with (go_at_call 32; (with_reducible refine HTo.out.mono ?_); rintro r w8 ⟨rfl, hb8⟩; have HC8 := Aside0.mk (HC9.out.below hb8); have f31 : ∀ j, w8.frozen? ⟨g1 + 1, j, none⟩ = false := (fun j => by simp [World.frozen?, HC8.out.rp]); have q0 := blk_cell HC8.out.rp 0; have q1 := blk_cell HC8.out.rp 1; have q2 := blk_cell HC8.out.rp 2; have q3 := blk_cell HC8.out.rp 3; simp only [List.getElem?_toArray, List.getElem?_cons_zero, List.getElem?_cons_succ] at q0 q1 q2 q3; clear hb8 HC9 HTo y0 y1 y2 y3 y4 y5 y6)
                        have hs := Sets.reply rfl (Sets.first HC8.out.rp) 0 (x.level) (x.last_) x.user
                        refine tend (.inl rfl) hs ?_ ?_ ?_
                        · rfl
                        · rfl
                        have hst : stepS s e = ({ s1 with list := s1.list.set i0 { x with last := s1.now, dead := true } }, ⟨0, x.last_, x.user, x.level⟩) := by
                          rw [HSt.out]; unfold step2S; simp only [if_neg HK.out.1, if_neg HK.out.2, HAt.out, HX.out]; rw [if_neg (by rw [HA.out, HD.out]; simp), if_neg (by rw [HDd.out]; simp), if_neg (by rw [HOV.out]; simp), if_neg (by have := HK4.out; omega), if_pos HK4.out]; rfl
                        rw [hst]
                        exact ⟨rfl, HC8.out.fin hs⟩
                      · have HK2 := Aside0.mk hk2
                        rw [hk2] at e0
                        clear hk2
                        go_upto_region 42 with (fail)
                        clear e0
                        obtain ⟨vt, hcell, fxt, hvt⟩ := HC7.out.elem HX7.out
                        obtain ⟨At, ct, rfl⟩ := Kd.R_slice hvt
                        have y0 : w7.cell? ⟨g5, i0 * 7, none⟩ = some (.slice At ({ x with last := s1.now } : Ses).ids.length ct) := hcell 0 _ rfl
                        have y1 : w7.cell? ⟨g5, i0 * 7 + 1, none⟩ = some (.string ({ x with last := s1.now } : Ses).user) := hcell 1 _ rfl
                        have y2 : w7.cell? ⟨g5, i0 * 7 + 2, none⟩ = some (.string ({ x with last := s1.now } : Ses).device) := hcell 2 _ rfl
                        have y3 : w7.cell? ⟨g5, i0 * 7 + 3, none⟩ = some (.int .i64 ({ x with last := s1.now } : Ses).level) := hcell 3 _ rfl
                        have y4 : w7.cell? ⟨g5, i0 * 7 + 4, none⟩ = some (.int .i64 ({ x with last := s1.now } : Ses).login) := hcell 4 _ rfl
                        have y5 : w7.cell? ⟨g5, i0 * 7 + 5, none⟩ = some (.int .i64 ({ x with last := s1.now } : Ses).last) := hcell 5 _ rfl
                        have y6 : w7.cell? ⟨g5, i0 * 7 + 6, none⟩ = some (.bool ({ x with last := s1.now } : Ses).dead) := hcell 6 _ rfl
                        have HTo := Aside0.mk (told_calls At ({ x with last := s1.now } : Ses).ids.length ct { x with last := s1.now } w7 rfl (Kd.R_reads' hvt).2.2 (Kd.R_reads' hvt).2.1 HXO.out.ne hlx)
                        clear hcell fxt hvt
                        go_wp2_with (go_at_call 32; (with_reducible refine HTo.out.mono ?_); rintro r w8 ⟨rfl, hb8⟩; have HC8 := Aside0.mk (HC7.out.below hb8); have f31 : ∀ j, w8.frozen? ⟨g1 + 1, j, none⟩ = false := (fun j => by simp [World.frozen?, HC8.out.rp]); have q0 := blk_cell HC8.out.rp 0; have q1 := blk_cell HC8.out.rp 1; have q2 := blk_cell HC8.out.rp 2; have q3 := blk_cell HC8.out.rp 3; simp only [List.getElem?_toArray, List.getElem?_cons_zero, List.getElem?_cons_succ] at q0 q1 q2 q3; clear hb8 HC7 HTo y0 y1 y2 y3 y4 y5 y6)
                        have hs := Sets.reply rfl (Sets.first HC8.out.rp) 0 (x.level) (x.last_) x.user
                        refine tend (.inl rfl) hs ?_ ?_ ?_
                        · rfl
                        · rfl
                        have hst : stepS s e = ({ s1 with list := s1.list.set i0 { x with last := s1.now } }, ⟨0, x.last_, x.user, x.level⟩) := by
                          rw [HSt.out]; unfold step2S; simp only [if_neg HK.out.1, if_neg HK.out.2, HAt.out, HX.out]; rw [if_neg (by rw [HA.out, HD.out]; simp), if_neg (by rw [HDd.out]; simp), if_neg (by rw [HOV.out]; simp), if_neg (by have := HK2.out; omega), if_neg (by have := HK2.out; omega)]; rfl
                        rw [hst]
                        exact ⟨rfl, HC8.out.fin hs⟩
                    · have HOV := Aside0.mk hov
                      rw [hov] at HOv
                      clear hov
                      go_upto_region 34 with (go_at_call 31; (with_reducible refine HOv.out.mono ?_); rintro r w6 ⟨rfl, hb6⟩; have HC6 := Aside0.mk ((HC5.out.below (below_drew (Below.refl _ _))).below hb6); clear hb6 HOv HC5 x0 x1 x2 x3 x4 x5 x6 p3 fx hv5)
                      have hst : stepS s e = (s1, err 6) := by
                        rw [HSt.out]; unfold step2S; simp only [if_neg HK.out.1, if_neg HK.out.2, HAt.out, HX.out]; rw [if_neg (by rw [HA.out, HD.out]; simp), if_neg (by rw [HDd.out]; simp), if_pos HOV.out]
                      have HSt2 := Aside0.mk hst
                      clear HSt hst
                      have HSt := HSt2
                      clear HSt2
                      go_wp2_with (go_at_call 52; (with_reducible refine (err_calls 6 _).mono ?_); rintro r w9 ⟨rfl, hb9⟩; have HC9 := Aside0.mk (HC6.out.below hb9); have f31 : ∀ j, w9.frozen? ⟨g1 + 1, j, none⟩ = false := (fun j => by simp [World.frozen?, HC9.out.rp]); have q0 := blk_cell HC9.out.rp 0; have q1 := blk_cell HC9.out.rp 1; have q2 := blk_cell HC9.out.rp 2; have q3 := blk_cell HC9.out.rp 3; simp only [List.getElem?_toArray, List.getElem?_cons_zero, List.getElem?_cons_succ] at q0 q1 q2 q3; clear hb9 HC6)
                      have hs := Sets.reply rfl (Sets.first HC9.out.rp) 6 0 none_ none_
                      refine tend (.inl rfl) hs ?_ ?_ ?_
                      · rfl
                      · rfl
                      rw [HSt.out]
                      exact ⟨rfl, HC9.out.fin hs⟩
                  · have HDd := Aside0.mk hdd
                    rw [hdd] at x6
                    clear hdd hv5
                    go_upto_region 32 with (fail)
                    clear x6 fx
                    have hst : stepS s e = (s1, err 5) := by
                      rw [HSt.out]; unfold step2S; simp only [if_neg HK.out.1, if_neg HK.out.2, HAt.out, HX.out]; rw [if_neg (by rw [HA.out, HD.out]; simp), if_pos HDd.out]
                    have HSt2 := Aside0.mk hst
                    clear HSt hst
                    have HSt := HSt2
                    clear HSt2
                    go_wp2_with (go_at_call 52; (with_reducible refine (err_calls 5 _).mono ?_); rintro r w9 ⟨rfl, hb9⟩; have HC9 := Aside0.mk (HC5.out.below hb9); have f31 : ∀ j, w9.frozen? ⟨g1 + 1, j, none⟩ = false := (fun j => by simp [World.frozen?, HC9.out.rp]); have q0 := blk_cell HC9.out.rp 0; have q1 := blk_cell HC9.out.rp 1; have q2 := blk_cell HC9.out.rp 2; have q3 := blk_cell HC9.out.rp 3; simp only [List.getElem?_toArray, List.getElem?_cons_zero, List.getElem?_cons_succ] at q0 q1 q2 q3; clear hb9 HC5)
                    have hs := Sets.reply rfl (Sets.first HC9.out.rp) 5 0 none_ none_
                    refine tend (.inl rfl) hs ?_ ?_ ?_
                    · rfl
                    · rfl
                    rw [HSt.out]
                    exact ⟨rfl, HC9.out.fin hs⟩
                · have hD2 : ¬ x.device.toList = e.device.toList := by simpa using hD
                  have hD3 : (x.device.toList == e.device.toList) = false := by simpa using hD
                  go_upto_region 28 with (fail)
                  go_quiet (fail)
                  obtain ⟨w5, hw5⟩ : ∃ wz : World, wz = wr.drewN nq := ⟨_, rfl⟩
                  have HC5 := Aside0.mk (HC.out.drewN nq)
                  rw [← hw5] at HC5 ⊢
                  clear hw5 HC x0 x2 p5 e3 e4 hlast HV5 fx
                  obtain ⟨v6, hcell, fx, hv5⟩ := HC5.out.elem HX.out
                  obtain ⟨A9, c9, rfl⟩ := Kd.R_slice hv5
                  have x6 : w5.cell? ⟨g5, i0 * 7 + 6, none⟩ = some (.bool x.dead) := hcell 6 _ rfl
                  clear hcell
                  clear hv5
                  have HCk := Aside0.mk (HC5.out.set (i := i0) (x' := x.kill) (u := .bool true) HX.out rfl (show 6 < 7 by decide) rfl (fun v => rfl))
                  go_upto_region 30 with (fail)
                  obtain ⟨w6, hw6⟩ : ∃ w6, w6 = w5.setCell ⟨g5, i0 * 7 + 6, none⟩ (.bool true) := ⟨_, rfl⟩
                  rw [← hw6] at HCk ⊢
                  clear hw6 HC5 x6 fx
                  have hst : stepS s e = ({ s1 with list := s1.list.set i0 x.kill }, err 4) := by
                    rw [HSt.out]; unfold step2S; simp only [if_neg HK.out.1, if_neg HK.out.2, HAt.out, HX.out]; rw [if_pos (by rw [hD]; simp)]
                  have HSt2 := Aside0.mk hst
                  clear HSt hst
                  have HSt := HSt2
                  clear HSt2
                  go_wp2_with (go_at_call 52; (with_reducible refine (err_calls 4 _).mono ?_); rintro r w9 ⟨rfl, hb9⟩; have HC9 := Aside0.mk (HCk.out.below hb9); have f31 : ∀ j, w9.frozen? ⟨g1 + 1, j, none⟩ = false := (fun j => by simp [World.frozen?, HC9.out.rp]); have q0 := blk_cell HC9.out.rp 0; have q1 := blk_cell HC9.out.rp 1; have q2 := blk_cell HC9.out.rp 2; have q3 := blk_cell HC9.out.rp 3; simp only [List.getElem?_toArray, List.getElem?_cons_zero, List.getElem?_cons_succ] at q0 q1 q2 q3; clear hb9 HCk)
                  have hs := Sets.reply rfl (Sets.first HC9.out.rp) 4 0 none_ none_
                  refine tend (.inl rfl) hs ?_ ?_ ?_
                  · rfl
                  · rfl
                  rw [HSt.out]
                  exact ⟨rfl, HC9.out.fin hs⟩
              · have hA2 : ¬ x.last_.toList = e.id.toList := by simpa using hA
                have hA3 : (x.last_.toList == e.id.toList) = false := by simpa using hA
                go_upto_region 28 with (fail)
                go_quiet (fail)
                obtain ⟨w5, hw5⟩ : ∃ wz : World, wz = wr.drewN nq := ⟨_, rfl⟩
                have HC5 := Aside0.mk (HC.out.drewN nq)
                rw [← hw5] at HC5 ⊢
                clear hw5 HC x0 x2 p5 e3 e4 hlast HV5 fx
                obtain ⟨v6, hcell, fx, hv5⟩ := HC5.out.elem HX.out
                obtain ⟨A9, c9, rfl⟩ := Kd.R_slice hv5
                have x6 : w5.cell? ⟨g5, i0 * 7 + 6, none⟩ = some (.bool x.dead) := hcell 6 _ rfl
                clear hcell
                clear hv5
                have HCk := Aside0.mk (HC5.out.set (i := i0) (x' := x.kill) (u := .bool true) HX.out rfl (show 6 < 7 by decide) rfl (fun v => rfl))
                go_upto_region 30 with (fail)
                obtain ⟨w6, hw6⟩ : ∃ w6, w6 = w5.setCell ⟨g5, i0 * 7 + 6, none⟩ (.bool true) := ⟨_, rfl⟩
                rw [← hw6] at HCk ⊢
                clear hw6 HC5 x6 fx
                have hst : stepS s e = ({ s1 with list := s1.list.set i0 x.kill }, err 4) := by
                  rw [HSt.out]; unfold step2S; simp only [if_neg HK.out.1, if_neg HK.out.2, HAt.out, HX.out]; rw [if_pos (by rw [hA]; simp)]
                have HSt2 := Aside0.mk hst
                clear HSt hst
                have HSt := HSt2
                clear HSt2
                go_wp2_with (go_at_call 52; (with_reducible refine (err_calls 4 _).mono ?_); rintro r w9 ⟨rfl, hb9⟩; have HC9 := Aside0.mk (HCk.out.below hb9); have f31 : ∀ j, w9.frozen? ⟨g1 + 1, j, none⟩ = false := (fun j => by simp [World.frozen?, HC9.out.rp]); have q0 := blk_cell HC9.out.rp 0; have q1 := blk_cell HC9.out.rp 1; have q2 := blk_cell HC9.out.rp 2; have q3 := blk_cell HC9.out.rp 3; simp only [List.getElem?_toArray, List.getElem?_cons_zero, List.getElem?_cons_succ] at q0 q1 q2 q3; clear hb9 HCk)
                have hs := Sets.reply rfl (Sets.first HC9.out.rp) 4 0 none_ none_
                refine tend (.inl rfl) hs ?_ ?_ ?_
                · rfl
                · rfl
                rw [HSt.out]
                exact ⟨rfl, HC9.out.fin hs⟩
  · rw [hbad] at HBc
    have hst : stepS s e = (s, err 1) := by unfold stepS; rw [hbad, if_pos rfl]
    have HSt := Aside0.mk hst
    clear hst hbad
    go_wp2_with (first | (go_at_call 51; (with_reducible refine (HBc.out _).mono ?_); rintro r w2 ⟨rfl, hb2⟩; have HC2 := Aside0.mk (HC.out.below hb2); clear hb2 HC e0 e1 e2 e3 e4) | (go_at_call 52; (with_reducible refine (err_calls 1 _).mono ?_); rintro r w3 ⟨rfl, hb3⟩; have HC3 := Aside0.mk (HC2.out.below hb3); have f31 : ∀ j, w3.frozen? ⟨g1 + 1, j, none⟩ = false := (fun j => by simp [World.frozen?, HC3.out.rp]); have q0 := blk_cell HC3.out.rp 0; have q1 := blk_cell HC3.out.rp 1; have q2 := blk_cell HC3.out.rp 2; have q3 := blk_cell HC3.out.rp 3; simp only [List.getElem?_toArray, List.getElem?_cons_zero, List.getElem?_cons_succ] at q0 q1 q2 q3; clear hb3 HC2))
    have hs := Sets.reply rfl (Sets.first HC3.out.rp) 1 0 none_ none_
    refine tend (.inl rfl) hs ?_ ?_ ?_
    · rfl
    · rfl
    rw [HSt.out]
    exact ⟨rfl, HC3.out.fin hs⟩
end Go.Proofs.YtpfjboioeidecaaDoor.HT
end
section
namespace Go.Proofs.YtpfjboioeidecaaDoor.HT
open Go.RowKit Go.Proofs.YtpfjboioeidecaaDoorW.PrintWords Go.Proofs.YtpfjboioeidecaaDoorW.PrintLast Go.Proofs.YtpfjboioeidecaaDoor.HP Go.Proofs.YtpfjboioeidecaaDoor.HDig Go.Proofs.YtpfjboioeidecaaDoor.PQ Go.Proofs.YtpfjboioeidecaaDoor.HS Go.Proofs.YtpfjboioeidecaaDoor.HPl Go.Proofs.YtpfjboioeidecaaDoorW
theorem TRel.grown {B : Nat} {w w' : World} {p : Nat} {A : Option Addr} {c : Nat} {s : St} {L v : Value} {b sz n : Nat} {xs : List Value} (h : TRel B w p A c s L) (hO : w.ownsRow b 31 sz v n xs) (hg : w.grownBy w' v.ownBlock) : TRel B w' p A c s L := by
  have keep : ∀ (k : Nat) (cells : Array Value) (t : Nat), w.heap[k]? = some (.cells cells t (0, 0)) → t ≠ 31 → w'.heap[k]? = w.heap[k]? := fun k cells t hc h1 => (grown_keep hO hg hc h1).trans hc.symm
  refine ⟨(keep _ _ _ h.blk (by decide)).trans h.blk, h.base, Kd.S_mono (Kd.S_step (Kd.S_bound h.row) (fun k hk _ => ?_)) (fun _ hk => hk.1)⟩
  obtain ⟨_, _, _, q, hq, cells, hc⟩ := hk
  refine keep k cells q hc ?_
  rcases List.mem_cons.1 hq with h3 | h3
  · rw [h3]; decide
  · rw [kX_E q h3]; decide
theorem R31_kt {w w' : World} {B : Nat} {ok : Nat → Prop} {v : Value} {xs : List S31} (h : Kd.R k31 31 w B ok v xs) (hk : Kt w w') : Kd.R k31 31 w' B ok v xs := by
  obtain ⟨h0, inner, ho, hr⟩ := h
  exact ⟨h0, inner, own_move ho (fun k hk1 => by obtain ⟨cells, hc⟩ := own_typed ho k hk1; exact hk.blk k cells hc), hr⟩
set_option maxHeartbeats 8000000 in
set_option maxRecDepth 100000 in
theorem trun_calls (w : World) (A : Option Addr) (c : Nat) (key : List Int) (idle most : Int) (AE : Option Addr) (cE : Nat) (evs : List HS.Ev)
    (hr : Kd.C (Kd.int .u8) w A key.length key) (hc : key.length ≤ c) (hk : Byt key) (hev : Kd.C kEv w AE evs.length evs) (hcE : evs.length ≤ cE)
    (hsz : ∀ e ∈ evs, e.user.size ≤ 140737488351232 ∧ e.device.size ≤ 140737488351232) (hg : conf key.length idle most = true) (hn : evs.length ≤ 200) :
    Calls Tryd.prog 28 #[.agg #[.slice A key.length c, .int .i64 idle, .int .i64 most], .slice AE evs.length cE] w fun r w' =>
      ∃ p v L, r = .returned (.tuple #[.pointer (some ⟨p, 0, none⟩), v]) ∧ TRel w.heap.size w' p A c (steps (HS.start key idle most) evs).1 L ∧
        Kd.R k31 31 w' w.heap.size (fun _ => True) v ((steps (HS.start key idle most) evs).2.map rp) ∧ Below w.heap.size w w' := by
  have HR := Aside0.mk hr
  have HE := Aside0.mk hev
  have hkl : key.length ≤ 9223372036854775807 := Kd.C_max hr
  clear hr hev
  go_enter Tryd.func28, Tryd.ntmps28
  go_wp2_with fail
  obtain ⟨B, hB⟩ : ∃ B, B = w.heap.size := ⟨_, rfl⟩
  obtain ⟨p, hp⟩ : ∃ p, p = w.heap.size + 1 := ⟨_, rfl⟩
  obtain ⟨s0, hs0⟩ : ∃ s0, s0 = HS.start key idle most := ⟨_, rfl⟩
  obtain ⟨wl, hwl⟩ : ∃ wl, wl = (w.alloc (.cells #[.slice A key.length c, .int .i64 idle, .int .i64 most] 24)).alloc (.cells #[.slice A key.length c, .int .i64 idle, .int .i64 most, .int .i64 0, .int .i64 0, .slice none 0 0] 76) := ⟨_, rfl⟩
  have hrel : TRel B wl p A c s0 (.slice none 0 0) := by
    refine ⟨?_, by omega, ?_⟩
    · rw [hwl, hp, hs0]
      have := blk_new (w.alloc (.cells #[.slice A key.length c, .int .i64 idle, .int .i64 most] 24)) (.cells #[.slice A key.length c, .int .i64 idle, .int .i64 most, .int .i64 0, .int .i64 0, .slice none 0 0] 76)
      simpa [HS.start] using this
    · rw [hs0]; exact Kd.S_nil _ _ _ _ _
  have hbl : Below B w wl := by
    rw [hwl, hB]
    exact ((Below.refl _ _).alloc (Nat.le_refl _) _).alloc (by simp) _
  have HRel := Aside0.mk hrel
  have HBl := Aside0.mk hbl
  have HS0 := Aside0.mk hs0
  obtain ⟨n, hnn⟩ : ∃ n, n = evs.length := ⟨_, rfl⟩
  have HN := Aside0.mk hnn
  rw [← hwl, ← hp, ← hB, ← hnn]
  rw [← hnn] at hcE hn HE
  have HBe := Aside0.mk hB
  clear hwl hrel hbl hs0 hnn hp hB
  go_loopw [7, 15] (fun v i wr => ∃ k : Nat, k ≤ n ∧ i = .int .i64 k ∧ Aside0 (∃ L, TRel B wr p A c (steps s0 (evs.take k)).1 L) ∧ Aside0 (Kd.R k31 31 wr B (fun _ => True) v ((steps s0 (evs.take k)).2.map rp)) ∧ Aside0 (Below B w wr)) (fun _ i _ => n - (intOf i).toNat)
  case atStart => exact ⟨0, Nat.zero_le _, rfl, ⟨_, HRel.out⟩, ⟨Kd.R_nil _ _ _ _ _⟩, HBl⟩
  case round =>
    clear HRel HBl
    obtain ⟨k, hkn, rfl, HRel, HO, HBl⟩ := hrel
    by_cases hlt : k < n
    · obtain ⟨e, he⟩ : ∃ e, evs[k]? = some e := ⟨_, List.getElem?_eq_getElem (by rw [← HN.out]; exact hlt)⟩
      obtain ⟨L, hRel⟩ := HRel.out
      obtain ⟨ad, rfl, e0, e1, e2, e3, e4⟩ := ev_at (Kd.C_below HE.out (HBl.out.mono (Nat.le_of_eq HBe.out.symm))) he hlt
      obtain ⟨s1, hs1⟩ : ∃ s1, s1 = (steps s0 (evs.take k)).1 := ⟨_, rfl⟩
      obtain ⟨rs, hrs⟩ : ∃ rs, rs = (steps s0 (evs.take k)).2 := ⟨_, rfl⟩
      rw [← hs1] at hRel
      rw [← hrs] at HO
      have hok : s1.Ok k := by
        rw [hs1]
        have := steps_ok (start_ok hg hk) (evs.take k)
        rw [HS0.out]
        simpa [Nat.min_eq_left (show k ≤ evs.length by rw [← HN.out]; exact hkn)] using this
      have hkey : s1.key = key := by rw [hs1, HS0.out]; exact steps_key _ _
      have hinv : St.inv s1 := by rw [hs1, HS0.out]; exact steps_inv (start_inv key idle most) _
      obtain ⟨hu, hd⟩ := hsz e (List.mem_of_getElem? he)
      obtain ⟨rq, hrq⟩ : ∃ rq, rq = (HS.step s1 e).2 := ⟨_, rfl⟩
      obtain ⟨s2, hs2⟩ : ∃ s2, s2 = (HS.step s1 e).1 := ⟨_, rfl⟩
      have hBr : B ≤ wr.heap.size := by have := HBl.out.size; have := HBe.out; omega
      have hb1 : Below wr.heap.size wr (wr.alloc (.cells (EvCells e) 34)) := (Below.refl _ _).alloc (Nat.le_refl _) _
      have hdo := tdo_calls B w (wr.alloc (.cells (EvCells e) 34)) p A c s1 L e k (hRel.below hb1) hok (by omega) (HBl.out.trans (hb1.mono hBr)) (Nat.le_of_eq HBe.out.symm) (by simp; omega) (by rw [hkey]; exact HR.out) (by rw [hkey]; exact hc) hu hd
      rw [step_eq hinv, ← hrq, ← hs2] at hdo
      have HDo := Aside0.mk (show Calls Tryd.prog 46 #[.pointer (some ⟨p, 0, none⟩), .agg #[.int .i64 e.kind, .int .i64 e.time, .string e.user, .string e.device, .string e.id]] (wr.alloc (.cells #[.int .i64 e.kind, .int .i64 e.time, .string e.user, .string e.device, .string e.id] 34)) fun r w' => r = .returned (.agg #[.int .i64 rq.err, .string rq.id, .string rq.user, .int .i64 rq.level]) ∧
        ∃ L', TRel B w' p A c s2 L' ∧ Below B w w' ∧ Kt (wr.alloc (.cells #[.int .i64 e.kind, .int .i64 e.time, .string e.user, .string e.device, .string e.id] 34)) w' from hdo)
      have hrl : (rs.map rp).length ≤ 200 := by rw [List.length_map, hrs]; have := steps_len s0 (evs.take k); simp at this; omega
      have HEv := Aside0.mk he
      have HS1d := Aside0.mk hs1
      have HRs := Aside0.mk hrs
      have HS2 := Aside0.mk hs2
      have HRq := Aside0.mk hrq
      obtain ⟨ys, hys⟩ : ∃ ys, ys = rs.map rp := ⟨_, rfl⟩
      rw [← hys] at HO hrl
      have HYs := Aside0.mk hys
      clear hdo he hs1 hrs hs2 hrq hys hok hkey hinv hu hd hb1 hRel HRel
      go_wp2_with (first | (go_at_call 46; (with_reducible refine HDo.out.mono ?_); rintro r w9 ⟨rfl, L9, hT9, hb9, hkt⟩; have HO9 := Aside0.mk (R31_kt HO.out ((Kt.of_below ((Below.refl _ _).alloc (Nat.le_refl _) _)).trans hkt)); have HT9 := Aside0.mk hT9; have HB9 := Aside0.mk hb9; have hB9 : B ≤ w9.heap.size := (by have := hb9.size; have := HBe.out; omega); clear hT9 hb9 hkt HDo HO HBl) | (at_builtin; refine Kd.R_append k31 B rfl (.tmp 19) (.tmp 23) 28 31 (.agg #[.int .i64 0, .string none_, .string none_, .int .i64 0]) 48 rfl Tryd.underlying28 info_rp rfl (by decide) (by decide) u7 ys (rp rq) [.int .i64 rq.err, .string rq.id, .string rq.user, .int .i64 rq.level] (fun _ => True) (fun _ => False) rfl rfl (k31_mkM _ _ _ (rp rq)) (fun _ h => h.elim) (fun _ _ => trivial) HO9.out HB9.out hB9 (by omega) ?_; intro v10 w10 hR10 hB10 hg10 _; have HO10 := Aside0.mk hR10; have HB10 := Aside0.mk hB10; have HT10 := Aside0.mk (by obtain ⟨_, inner, hown, _⟩ := HO9.out; exact HT9.out.grown hown hg10); clear hR10 hB10 hg10 HO9 HB9 HT9 hB9))
      go_roundw
      case rel =>
        refine ⟨k + 1, by omega, by go_num, ⟨?_⟩, ⟨?_⟩, HB10⟩
        · rw [take_snoc HEv.out, steps_snoc, ← HS1d.out, ← HS2.out]
          exact ⟨_, HT10.out⟩
        · rw [take_snoc HEv.out, steps_snoc, ← HS1d.out, ← HRs.out, ← HRq.out, List.map_append, ← HYs.out]
          exact HO10.out
      case measure => simp [intOf]; omega
    · obtain rfl : k = n := by omega
      have hall : evs.take k = evs := List.take_of_length_le (by rw [← HN.out]; exact Nat.le_refl _)
      rw [hall, HS0.out] at HRel HO
      obtain ⟨L, hRel⟩ := HRel.out
      have HT := Aside0.mk hRel
      clear hall HRel hRel
      go_wp2_with fail
      go_ret2
      rw [← HBe.out]
      exact ⟨p, _, L, rfl, HT.out, HO.out, HBl.out⟩
end Go.Proofs.YtpfjboioeidecaaDoor.HT
end
section
namespace Go.Proofs.YtpfjboioeidecaaDoor.HT
open Go.RowKit Go.Proofs.YtpfjboioeidecaaDoorW.PrintWords Go.Proofs.YtpfjboioeidecaaDoorW.PrintLast Go.Proofs.YtpfjboioeidecaaDoor.HP Go.Proofs.YtpfjboioeidecaaDoor.HDig Go.Proofs.YtpfjboioeidecaaDoor.PQ Go.Proofs.YtpfjboioeidecaaDoor.HS Go.Proofs.YtpfjboioeidecaaDoor.HPl Go.Proofs.YtpfjboioeidecaaDoorW
theorem tconf_calls (A : Option Addr) (c : Nat) (key : List Int) (idle most : Int) (w : World) (hr : Kd.C (Kd.int .u8) w A key.length key) (hc : key.length ≤ c) :
    Calls Tryd.prog 27 #[.agg #[.slice A key.length c, .int .i64 idle, .int .i64 most]] w fun e w' => e = .returned (.bool (conf key.length idle most)) ∧ Below w.heap.size w w' := by
  refine spec_GoodSessConf.calls A c key idle most _ w hr hc ?_
  unfold spec_GoodSessConf.f conf
  by_cases h1 : key.length ≤ 64 <;> by_cases h2 : 1 ≤ idle <;> by_cases h3 : idle ≤ 1000000 <;> by_cases h4 : 1 ≤ most <;> by_cases h5 : most ≤ 1000000 <;> simp [h1, h2, h3, h4, h5] <;> omega
theorem TRel.elem {B : Nat} {w : World} {p : Nat} {A : Option Addr} {c : Nat} {s : St} {A' : Option Addr} {n cap : Nat} (h : TRel B w p A c s (.slice A' n cap)) {i : Nat} {x : Ses} (hx : s.list[i]? = some x) :
    ∃ g5 v, A' = some ⟨g5, 0, none⟩ ∧ (∀ j u, (SesList v x)[j]? = some u → w.cell? ⟨g5, i * 7 + j, none⟩ = some u) ∧ Kd.R Kd.string 9 w B (fun _ => True) v x.ids := by
  have hil := (List.getElem?_eq_some_iff.1 hx).1
  have hn := (Kd.S_reads' h.row).1
  obtain ⟨g5, cap5, hv, _⟩ := Kd.S_form h.row (by omega)
  injection hv with h1
  subst h1
  obtain ⟨oki, cs, hcl, hM, hcc, hok, hH⟩ := Kd.S_lend h.row x (i : Int) (by omega) (by omega)
  have hg : s.list.getD (i : Int).toNat x = x := by simp [hx]
  rw [hg] at hM
  obtain ⟨v, rfl, hv⟩ := kX_openM hM
  exact ⟨g5, v, rfl, fun j u hu => by simpa [kX_sz] using hcc j u hu, Kd.R_mono hv (fun _ _ => trivial)⟩
set_option maxHeartbeats 8000000 in
set_option maxRecDepth 100000 in
theorem tsigned_calls (w : World) (A : Option Addr) (c : Nat) (key : List Int) (idle most : Int) (AE : Option Addr) (cE : Nat) (evs : List HS.Ev) (t : Int)
    (hr : Kd.C (Kd.int .u8) w A key.length key) (hc : key.length ≤ c) (hk : Byt key) (hev : Kd.C kEv w AE evs.length evs) (hcE : evs.length ≤ cE)
    (hsz : ∀ e ∈ evs, e.user.size ≤ 140737488351232 ∧ e.device.size ≤ 140737488351232) (hg : conf key.length idle most = true) (hn : evs.length ≤ 200)
    (ht : (steps (HS.start key idle most) evs).1.now ≤ t) :
    Calls Tryd.prog 9 #[.agg #[.slice A key.length c, .int .i64 idle, .int .i64 most], .slice AE evs.length cE, .int .i64 t] w fun r w' =>
      ∃ v, r = .returned v ∧ Kd.R k31 31 w' w.heap.size (fun _ => True) v ((signed (steps (HS.start key idle most) evs).1 t).map rp) ∧ Below w.heap.size w w' := by
  have HR := Aside0.mk hr
  have HE := Aside0.mk hev
  have HK := Aside0.mk hk
  have HSZ := Aside0.mk hsz
  have HG := Aside0.mk hg
  have hok := Aside0.mk (steps_ok (start_ok hg hk) evs)
  have hkl : key.length ≤ 9223372036854775807 := Kd.C_max hr
  have hcon := fun W (hr : Kd.C (Kd.int .u8) W A key.length key) => tconf_calls A c key idle most W hr hc
  rw [hg] at hcon
  have HCo := Aside0.mk hcon
  obtain ⟨s, hs⟩ : ∃ s, s = (steps (HS.start key idle most) evs).1 := ⟨_, rfl⟩
  rw [← hs] at ht hok ⊢
  have HSs := Aside0.mk hs
  have hnE : ¬ (200 : Int) < (evs.length : Int) := by omega
  clear hr hev hk hsz hg hs hcon
  go_enter Tryd.func9, Tryd.ntmps9
  go_wp2_with (first | (go_at_call 27; (with_reducible refine (HCo.out _ (Kd.C_below HR.out (below_alloc (Below.refl _ _) _))).mono ?_); rintro r w1 ⟨rfl, hb1⟩; have hsz1 : w.heap.size < w1.heap.size := (by have := hb1.size; simp at this; omega); have hm0 := (hb1.block w.heap.size (by simp)).trans (blk_new w (.cells #[.slice A key.length c, .int .i64 idle, .int .i64 most] 24)); have m0 := blk_cell hm0 0; have m1 := blk_cell hm0 1; have m2 := blk_cell hm0 2; simp only [List.getElem?_toArray, List.getElem?_cons_zero, List.getElem?_cons_succ] at m0 m1 m2; have HB1 := Aside0.mk (((Below.refl w.heap.size w).alloc (Nat.le_refl _) (.cells #[.slice A key.length c, .int .i64 idle, .int .i64 most] 24)).trans (hb1.mono (by simp))); clear hb1 hm0) | (go_at_call 28; (with_reducible refine (trun_calls _ A c key idle most AE cE evs (Kd.C_below HR.out HB1.out) hc HK.out (Kd.C_below HE.out HB1.out) hcE HSZ.out HG.out hn).mono ?_); rintro r w2 ⟨p, vr, L, rfl, hT, _, hb2⟩; rw [← HSs.out] at hT; obtain ⟨A5, cap5, rfl⟩ := hT.form; have p3 := blk_cell hT.blk 3; have p5 := blk_cell hT.blk 5; simp only [List.getElem?_toArray, List.getElem?_cons_zero, List.getElem?_cons_succ] at p3 p5; have HT := Aside0.mk hT; have HB := Aside0.mk (HB1.out.trans (hb2.mono (Nat.le_of_lt hsz1))); clear hT hb2 HR HE HSZ HB1 m0 m1 m2))
  obtain ⟨n, hnn⟩ : ∃ n, n = s.list.length := ⟨_, rfl⟩
  rw [← hnn] at HT ⊢
  obtain ⟨B, hB⟩ : ∃ B, B = w.heap.size := ⟨_, rfl⟩
  obtain ⟨B1, hB1⟩ : ∃ B1, B1 = w1.heap.size := ⟨_, rfl⟩
  rw [← hB1] at HT
  rw [← hB] at HB ⊢
  have HN := Aside0.mk hnn
  have HBe := Aside0.mk hB
  have hid : s.idle = idle := by rw [HSs.out]; exact (steps_same _ _).idle
  have hmo : s.most = most := by rw [HSs.out]; exact (steps_same _ _).most
  have HId := Aside0.mk hid
  have HMo := Aside0.mk hmo
  have hn2 : n ≤ 200 := by have := hok.out.len; omega
  clear hnn hB hB1 hid hmo p3 p5 hsz1 hnE
  go_loopw [9, 37] (fun v9 i wr => ∃ k : Nat, k ≤ n ∧ i = .int .i64 k ∧ Aside0 (TRel B1 wr p A c s (.slice A5 n cap5)) ∧ Aside0 (Kd.R k31 31 wr B (fun _ => True) v9 ((signedL idle most t (s.list.take k)).map rp)) ∧ Aside0 (Below B w wr)) (fun _ i _ => n - (intOf i).toNat)
  case atStart => exact ⟨0, Nat.zero_le _, rfl, HT, ⟨Kd.R_nil _ _ _ _ _⟩, HB⟩
  case round =>
    clear HT HB
    obtain ⟨k, hkn, rfl, HT, HO, HB⟩ := hrel
    by_cases hlt : k < n
    · obtain ⟨x, hx⟩ : ∃ x, s.list[k]? = some x := ⟨_, List.getElem?_eq_getElem (by rw [← HN.out]; exact hlt)⟩
      obtain ⟨g5, v5, rfl, hcell, hv5⟩ := HT.out.elem hx
      obtain ⟨A9, c9, rfl⟩ := Kd.R_slice hv5
      have x0 : wr.cell? ⟨g5, k * 7, none⟩ = some (.slice A9 x.ids.length c9) := hcell 0 _ rfl
      have x1 : wr.cell? ⟨g5, k * 7 + 1, none⟩ = some (.string x.user) := hcell 1 _ rfl
      have x2 : wr.cell? ⟨g5, k * 7 + 2, none⟩ = some (.string x.device) := hcell 2 _ rfl
      have x3 : wr.cell? ⟨g5, k * 7 + 3, none⟩ = some (.int .i64 x.level) := hcell 3 _ rfl
      have x4 : wr.cell? ⟨g5, k * 7 + 4, none⟩ = some (.int .i64 x.login) := hcell 4 _ rfl
      have x5 : wr.cell? ⟨g5, k * 7 + 5, none⟩ = some (.int .i64 x.last) := hcell 5 _ rfl
      have x6 : wr.cell? ⟨g5, k * 7 + 6, none⟩ = some (.bool x.dead) := hcell 6 _ rfl
      have hxo := hok.out.all x (List.mem_of_getElem? hx)
      have hbx : Below wr.heap.size wr (wr.alloc (.cells #[.slice A9 x.ids.length c9, .string x.user, .string x.device, .int .i64 x.level, .int .i64 x.login, .int .i64 x.last, .bool x.dead] 78)) := (Below.refl _ _).alloc (Nat.le_refl _) _
      have hov0 := sover_calls p _ _ (.slice A9 x.ids.length c9) x s.idle s.most s.now s.n t (wr.alloc (.cells #[.slice A9 x.ids.length c9, .string x.user, .string x.device, .int .i64 x.level, .int .i64 x.login, .int .i64 x.last, .bool x.dead] 78)) (HT.out.below hbx).blk hxo.log0 hxo.log1 hxo.las0 hxo.las1 hok.out.i0 hok.out.i1 hok.out.m0 hok.out.m1
      rw [HId.out, HMo.out] at hov0
      have hov := (show Calls Tryd.prog 31 #[.pointer (some ⟨p, 0, none⟩), .agg #[.slice A9 x.ids.length c9, .string x.user, .string x.device, .int .i64 x.level, .int .i64 x.login, .int .i64 x.last, .bool x.dead], .int .i64 t] (wr.alloc (.cells #[.slice A9 x.ids.length c9, .string x.user, .string x.device, .int .i64 x.level, .int .i64 x.login, .int .i64 x.last, .bool x.dead] 78)) fun e w' => e = .returned (.bool (over idle most x t)) ∧ Below (wr.alloc (.cells #[.slice A9 x.ids.length c9, .string x.user, .string x.device, .int .i64 x.level, .int .i64 x.login, .int .i64 x.last, .bool x.dead] 78)).heap.size (wr.alloc (.cells #[.slice A9 x.ids.length c9, .string x.user, .string x.device, .int .i64 x.level, .int .i64 x.login, .int .i64 x.last, .bool x.dead] 78)) w' from hov0)
      have hsn := signedL_snoc (idle := idle) (most := most) (t := t) hx
      have HXO := Aside0.mk hxo
      have HV5 := Aside0.mk hv5
      have hBw : B ≤ wr.heap.size := by have := HB.out.size; have := HBe.out; omega
      have HBX := Aside0.mk hbx
      clear hov0 hxo hv5 hcell hx hbx
      cases hd : x.dead
      · cases hob : over idle most x t
        · rw [hob] at hov
          rw [hd] at x6 hov
          have HSn : Aside0 (signedL idle most t (s.list.take (k + 1)) = signedL idle most t (s.list.take k) ++ [told x]) := ⟨by rw [hsn, hd, hob]; simp⟩
          have HOv := Aside0.mk hov
          have hlen : (List.map rp (signedL idle most t (List.take k s.list))).length ≤ 200 := by
            rw [List.length_map]
            have := signedL_len idle most t (s.list.take k)
            have := List.length_take_le k s.list
            omega
          have hlx : x.ids.length ≤ 1000 := by have := HXO.out.len; omega
          obtain ⟨ys, hys⟩ : ∃ ys, ys = List.map rp (signedL idle most t (List.take k s.list)) := ⟨_, rfl⟩
          have HYs := Aside0.mk hys
          have HBX2 := Aside0.mk (show Below wr.heap.size wr (wr.alloc (.cells #[.slice A9 x.ids.length c9, .string x.user, .string x.device, .int .i64 x.level, .int .i64 x.login, .int .i64 x.last, .bool false] 78)) from (Below.refl _ _).alloc (Nat.le_refl _) _)
          have HTo := Aside0.mk (fun W (hb : Below wr.heap.size wr W) => told_calls A9 x.ids.length c9 x W rfl (Kd.C_below (Kd.R_reads' HV5.out).2.2 hb) (Kd.R_reads' HV5.out).2.1 HXO.out.ne hlx)
          rw [hd] at HTo
          rw [← hys] at HO hlen
          clear hov hsn hd hob hys HBX
          go_wp2_with (first | (go_at_call 31; (with_reducible refine (HOv.out).mono ?_); rintro r w3 ⟨rfl, hb3⟩; have hm0 := (hb3.block wr.heap.size (by simp)).trans (blk_new wr (.cells #[.slice A9 x.ids.length c9, .string x.user, .string x.device, .int .i64 x.level, .int .i64 x.login, .int .i64 x.last, .bool false] 78)); have y0 := blk_cell hm0 0; have y1 := blk_cell hm0 1; have y2 := blk_cell hm0 2; have y3 := blk_cell hm0 3; have y4 := blk_cell hm0 4; have y5 := blk_cell hm0 5; have y6 := blk_cell hm0 6; simp only [List.getElem?_toArray, List.getElem?_cons_zero, List.getElem?_cons_succ] at y0 y1 y2 y3 y4 y5 y6; have HB3 := Aside0.mk (HBX2.out.trans (hb3.mono (by simp))); clear hb3 hm0 HOv) | (go_at_call 32; (with_reducible refine (HTo.out _ HB3.out).mono ?_); rintro r w4 ⟨rfl, hb4⟩; have HB4 := Aside0.mk (HB3.out.trans (hb4.mono HB3.out.size)); have HT4 := Aside0.mk (HT.out.below HB4.out); have HO4 := Aside0.mk (Kd.R_below HO.out HB4.out); have HBB := Aside0.mk (HB.out.trans (HB4.out.mono hBw)); have hB4 : B ≤ w4.heap.size := Nat.le_trans hBw HB4.out.size; clear hb4 HB3 y0 y1 y2 y3 y4 y5 y6) | (at_builtin; refine Kd.R_append k31 B rfl (.tmp 51) (.tmp 54) 28 31 (.agg #[.int .i64 0, .string none_, .string none_, .int .i64 0]) 48 rfl Tryd.underlying28 info_rp rfl (by decide) (by decide) u9 ys (rp (told x)) [.int .i64 0, .string x.last_, .string x.user, .int .i64 x.level] (fun _ => True) (fun _ => False) rfl rfl (k31_mkM _ _ _ (rp (told x))) (fun _ h => h.elim) (fun _ _ => trivial) HO4.out HBB.out hB4 (by omega) ?_; intro v10 w10 hR10 hB10 hg10 _; have HO10 := Aside0.mk hR10; have HB10 := Aside0.mk hB10; have HT10 := Aside0.mk (by obtain ⟨_, inner, hown, _⟩ := HO4.out; exact HT4.out.grown hown hg10); clear hR10 hB10 hg10))
          go_roundw
          case rel => exact ⟨k + 1, by omega, by go_num, HT10, ⟨by rw [HSn.out, List.map_append, ← HYs.out]; exact HO10.out⟩, HB10⟩
          case measure => simp [intOf]; omega
        · rw [hob] at hov
          rw [hd] at x6 hov
          have HSn : Aside0 (signedL idle most t (s.list.take (k + 1)) = signedL idle most t (s.list.take k)) := ⟨by rw [hsn, hd, hob]; simp⟩
          have HOv := Aside0.mk hov
          have HBX2 := Aside0.mk (show Below wr.heap.size wr (wr.alloc (.cells #[.slice A9 x.ids.length c9, .string x.user, .string x.device, .int .i64 x.level, .int .i64 x.login, .int .i64 x.last, .bool false] 78)) from (Below.refl _ _).alloc (Nat.le_refl _) _)
          clear hov hsn hd hob HBX
          go_wp2_with (go_at_call 31; (with_reducible refine (HOv.out).mono ?_); rintro r w3 ⟨rfl, hb3⟩; have HB3 := Aside0.mk (HBX2.out.trans (hb3.mono (by simp))); clear hb3 HOv)
          go_roundw
          case rel => exact ⟨k + 1, by omega, by go_num, ⟨HT.out.below HB3.out⟩, ⟨by rw [HSn.out]; exact Kd.R_below HO.out HB3.out⟩, ⟨HB.out.trans (HB3.out.mono hBw)⟩⟩
          case measure => simp [intOf]; omega
      · rw [hd] at x6
        have HSn : Aside0 (signedL idle most t (s.list.take (k + 1)) = signedL idle most t (s.list.take k)) := ⟨by rw [hsn, hd]; simp⟩
        have HBX2 := Aside0.mk (fun o => show Below wr.heap.size wr (wr.alloc o) from (Below.refl _ _).alloc (Nat.le_refl _) _)
        clear hov hsn hd HBX
        go_wp2_with fail
        go_roundw
        case rel => exact ⟨k + 1, by omega, by go_num, ⟨HT.out.below (HBX2.out _)⟩, ⟨by rw [HSn.out]; exact Kd.R_below HO.out (HBX2.out _)⟩, ⟨HB.out.trans ((HBX2.out _).mono hBw)⟩⟩
        case measure => simp [intOf]; omega
    · obtain rfl : k = n := by omega
      have hall : s.list.take k = s.list := List.take_of_length_le (by rw [← HN.out]; exact Nat.le_refl _)
      rw [hall] at HO
      clear hall
      go_wp2_with fail
      go_ret
      refine ⟨_, rfl, ?_, ?_⟩
      · rw [← HBe.out]
        unfold signed
        rw [HId.out, HMo.out]
        exact HO.out
      · rw [← HBe.out]; exact HB.out
end Go.Proofs.YtpfjboioeidecaaDoor.HT
end
section
namespace Go.Proofs.YtpfjboioeidecaaDoor.HT
open Go.RowKit Go.Proofs.YtpfjboioeidecaaDoorW.PrintWords Go.Proofs.YtpfjboioeidecaaDoorW.PrintLast Go.Proofs.YtpfjboioeidecaaDoor.HP Go.Proofs.YtpfjboioeidecaaDoor.HDig Go.Proofs.YtpfjboioeidecaaDoor.PQ Go.Proofs.YtpfjboioeidecaaDoor.HS Go.Proofs.YtpfjboioeidecaaDoor.HPl Go.Proofs.YtpfjboioeidecaaDoorW
set_option maxHeartbeats 4000000 in
set_option maxRecDepth 100000 in
theorem tsigned_late (w : World) (A : Option Addr) (c : Nat) (key : List Int) (idle most : Int) (AE : Option Addr) (cE : Nat) (evs : List HS.Ev) (t : Int)
    (hr : Kd.C (Kd.int .u8) w A key.length key) (hc : key.length ≤ c) (hk : Byt key) (hev : Kd.C kEv w AE evs.length evs) (hcE : evs.length ≤ cE)
    (hsz : ∀ e ∈ evs, e.user.size ≤ 140737488351232 ∧ e.device.size ≤ 140737488351232) (hg : conf key.length idle most = true) (hn : evs.length ≤ 200)
    (ht : t < (steps (HS.start key idle most) evs).1.now) :
    Calls Tryd.prog 9 #[.agg #[.slice A key.length c, .int .i64 idle, .int .i64 most], .slice AE evs.length cE, .int .i64 t] w fun r w' =>
      r = .returned (.slice none 0 0) ∧ Below w.heap.size w w' := by
  have HR := Aside0.mk hr
  have HE := Aside0.mk hev
  have HK := Aside0.mk hk
  have HSZ := Aside0.mk hsz
  have HG := Aside0.mk hg
  have hkl : key.length ≤ 9223372036854775807 := Kd.C_max hr
  have hcon := fun W (hr : Kd.C (Kd.int .u8) W A key.length key) => tconf_calls A c key idle most W hr hc
  rw [hg] at hcon
  have HCo := Aside0.mk hcon
  obtain ⟨s, hs⟩ : ∃ s, s = (steps (HS.start key idle most) evs).1 := ⟨_, rfl⟩
  rw [← hs] at ht
  have HSs := Aside0.mk hs
  have hnE : ¬ (200 : Int) < (evs.length : Int) := by omega
  clear hr hev hk hsz hg hs hcon
  go_enter Tryd.func9, Tryd.ntmps9
  go_wp2_with (first | (go_at_call 27; (with_reducible refine (HCo.out _ (Kd.C_below HR.out (below_alloc (Below.refl _ _) _))).mono ?_); rintro r w1 ⟨rfl, hb1⟩; have hsz1 : w.heap.size < w1.heap.size := (by have := hb1.size; simp at this; omega); have hm0 := (hb1.block w.heap.size (by simp)).trans (blk_new w (.cells #[.slice A key.length c, .int .i64 idle, .int .i64 most] 24)); have m0 := blk_cell hm0 0; have m1 := blk_cell hm0 1; have m2 := blk_cell hm0 2; simp only [List.getElem?_toArray, List.getElem?_cons_zero, List.getElem?_cons_succ] at m0 m1 m2; have HB1 := Aside0.mk (((Below.refl w.heap.size w).alloc (Nat.le_refl _) (.cells #[.slice A key.length c, .int .i64 idle, .int .i64 most] 24)).trans (hb1.mono (by simp))); clear hb1 hm0) | (go_at_call 28; (with_reducible refine (trun_calls _ A c key idle most AE cE evs (Kd.C_below HR.out HB1.out) hc HK.out (Kd.C_below HE.out HB1.out) hcE HSZ.out HG.out hn).mono ?_); rintro r w2 ⟨p, vr, L, rfl, hT, _, hb2⟩; rw [← HSs.out] at hT; have p3 := blk_cell hT.blk 3; simp only [List.getElem?_toArray, List.getElem?_cons_zero, List.getElem?_cons_succ] at p3; have HB := Aside0.mk (HB1.out.trans (hb2.mono (Nat.le_of_lt hsz1))); clear hT hb2 HR HE HSZ HB1 m0 m1 m2))
  go_ret
  exact ⟨rfl, HB.out⟩
set_option maxHeartbeats 4000000 in
set_option maxRecDepth 100000 in
theorem tsigned_bad (w : World) (A : Option Addr) (c : Nat) (key : List Int) (idle most : Int) (AE : Option Addr) (m cE : Nat) (t : Int)
    (hr : Kd.C (Kd.int .u8) w A key.length key) (hc : key.length ≤ c) (hm : m ≤ 9223372036854775807) (hg : conf key.length idle most = false ∨ 200 < m) :
    Calls Tryd.prog 9 #[.agg #[.slice A key.length c, .int .i64 idle, .int .i64 most], .slice AE m cE, .int .i64 t] w fun r w' =>
      r = .returned (.slice none 0 0) ∧ Below w.heap.size w w' := by
  have HR := Aside0.mk hr
  have hcon := fun W (hr : Kd.C (Kd.int .u8) W A key.length key) => tconf_calls A c key idle most W hr hc
  cases hb : conf key.length idle most
  · rw [hb] at hcon
    have HCo := Aside0.mk hcon
    clear hr hg hb hcon
    go_enter Tryd.func9, Tryd.ntmps9
    go_wp2_with (go_at_call 27; (with_reducible refine (HCo.out _ (Kd.C_below HR.out (below_alloc (Below.refl _ _) _))).mono ?_); rintro r w1 ⟨rfl, hb1⟩; have HB1 := Aside0.mk (((Below.refl w.heap.size w).alloc (Nat.le_refl _) (.cells #[.slice A key.length c, .int .i64 idle, .int .i64 most] 24)).trans (hb1.mono (by simp))); clear hb1)
    go_ret
    exact ⟨rfl, HB1.out⟩
  · have hm2 : (200 : Int) < (m : Int) := by
      rcases hg with h | h
      · rw [hb] at h; cases h
      · omega
    rw [hb] at hcon
    have HCo := Aside0.mk hcon
    clear hr hg hb hcon
    go_enter Tryd.func9, Tryd.ntmps9
    go_wp2_with (go_at_call 27; (with_reducible refine (HCo.out _ (Kd.C_below HR.out (below_alloc (Below.refl _ _) _))).mono ?_); rintro r w1 ⟨rfl, hb1⟩; have HB1 := Aside0.mk (((Below.refl w.heap.size w).alloc (Nat.le_refl _) (.cells #[.slice A key.length c, .int .i64 idle, .int .i64 most] 24)).trans (hb1.mono (by simp))); clear hb1)
    go_ret
    exact ⟨rfl, HB1.out⟩
theorem tsigned_all (w : World) (A : Option Addr) (c : Nat) (key : List Int) (idle most : Int) (AE : Option Addr) (cE : Nat) (evs : List HS.Ev) (t : Int)
    (hr : Kd.C (Kd.int .u8) w A key.length key) (hc : key.length ≤ c) (hk : Byt key) (hev : Kd.C kEv w AE evs.length evs) (hcE : evs.length ≤ cE)
    (hsz : ∀ e ∈ evs, e.user.size ≤ 140737488351232 ∧ e.device.size ≤ 140737488351232) :
    Calls Tryd.prog 9 #[.agg #[.slice A key.length c, .int .i64 idle, .int .i64 most], .slice AE evs.length cE, .int .i64 t] w fun r w' =>
      ∃ v, r = .returned v ∧ Kd.R k31 31 w' w.heap.size (fun _ => True) v ((signedP key idle most evs t).map rp) ∧ Below w.heap.size w w' := by
  unfold signedP
  by_cases hg : conf key.length idle most = true ∧ evs.length ≤ 200
  · rw [if_pos hg]
    by_cases ht : (steps (HS.start key idle most) evs).1.now ≤ t
    · rw [if_pos ht]
      exact tsigned_calls w A c key idle most AE cE evs t hr hc hk hev hcE hsz hg.1 hg.2 ht
    · rw [if_neg ht]
      refine (tsigned_late w A c key idle most AE cE evs t hr hc hk hev hcE hsz hg.1 hg.2 (by omega)).mono ?_
      rintro r w' ⟨rfl, hb⟩
      exact ⟨_, rfl, Kd.R_nil _ _ _ _ _, hb⟩
  · rw [if_neg hg]
    refine (tsigned_bad w A c key idle most AE evs.length cE t hr hc (Kd.C_max hev) ?_).mono ?_
    · cases h : conf key.length idle most
      · exact .inl rfl
      · exact .inr (by have : ¬ evs.length ≤ 200 := fun h2 => hg ⟨h, h2⟩; omega)
    · rintro r w' ⟨rfl, hb⟩
      exact ⟨_, rfl, Kd.R_nil _ _ _ _ _, hb⟩
end Go.Proofs.YtpfjboioeidecaaDoor.HT
end
