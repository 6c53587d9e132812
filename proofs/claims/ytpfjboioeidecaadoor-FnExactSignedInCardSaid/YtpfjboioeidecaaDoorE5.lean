/- One event of the program's run of sessions does the plain step; the condition is the table of powers of ten. -/
import Derived.Test.YtpfjboioeidecaaDoorE3
import Derived.Test.YtpfjboioeidecaaDoorE4
import Derived.Deep.Cut
import Derived.Deep.CutBlock
import Derived.Deep.CutRange
import Derived.Deep.RegionHeld3
import Derived.Deep.RegionLaw
section
namespace Go.Proofs.YtpfjboioeidecaaDoor.HS
open Go.RowKit Go.Proofs.YtpfjboioeidecaaDoorW.PrintWords Go.Proofs.YtpfjboioeidecaaDoorW.PrintLast Go.Proofs.YtpfjboioeidecaaDoor.HP Go.Proofs.YtpfjboioeidecaaDoor.HDig
set_option maxHeartbeats 20000000 in
set_option maxRecDepth 100000 in
theorem do_calls (B : Nat) (w0 w : World) (p : Nat) (A : Option Addr) (c : Nat) (R : Value) (s : St) (L : Value) (ps : List Pl) (e : Ev) (m : Nat) (hS : SRel B w p A c R s L ps) (hO : s.Ok m) (hm : m < 200)
    (hb : Below B w0 w) (hB0 : w0.heap.size ≤ B) (hBw : B ≤ w.heap.size) (hr : Kd.C (Kd.int .u8) w0 A s.key.length s.key) (hc : s.key.length ≤ c) (hT : Tabs w0) (hu : e.user.size ≤ 140737488351232) (hd : e.device.size ≤ 140737488351232) :
    Calls Tryd.prog 50 #[.pointer (some ⟨p, 0, none⟩), .agg (EvCells e)] w fun r w' => r = .returned (.agg (RpCells (step s e).2)) ∧
      ∃ L' ps', SRel B w' p A c R (step s e).1 L' ps' ∧ Below B w0 w' ∧ Kt w w' := by
  have HS := Aside0.mk hS
  have HO := Aside0.mk hO
  have HB := Aside0.mk hb
  have HR := Aside0.mk hr
  have HT := Aside0.mk hT
  clear hS hO hb hr hT
  go_enter Tryd.func50, Tryd.ntmps50
  go_upto_region 1 with (fail)
  obtain ⟨w1, hw1⟩ : ∃ w1, w1 = (w.alloc (.cells (EvCells e) 34)).alloc (.cells #[.int .i64 0, .string none_, .string none_, .int .i64 0] 31) := ⟨_, rfl⟩
  rw [← hw1]
  have h34 : w1.heap[w.heap.size]? = some (.cells (EvCells e) 34 (0, 0)) := by
    rw [hw1, Go.Deep.blk_alloc_lt _ _ _ (by simp)]; exact blk_new w _
  have h31 : w1.heap[w.heap.size + 1]? = some (.cells #[.int .i64 0, .string none_, .string none_, .int .i64 0] 31 (0, 0)) := by
    have := blk_new (w.alloc (.cells (EvCells e) 34)) (.cells #[.int .i64 0, .string none_, .string none_, .int .i64 0] 31)
    rw [World.size_alloc] at this
    rw [hw1]; exact this
  have hb1 : Below w.heap.size w w1 := by rw [hw1]; exact ((Below.refl _ _).alloc (Nat.le_refl _) _).alloc (by simp) _
  clear hw1
  have HC := Aside0.mk (show CI B w0 w p A c R e w.heap.size w1 s L ps from ⟨HS.out.below hb1, HB.out.trans (hb1.mono hBw), Kt.of_below hb1, h34, h31, rfl, hBw⟩)
  have hps := blk_lt HS.out.blk
  have e0 := blk_cell h34 0
  have e1 := blk_cell h34 1
  have e2 := blk_cell h34 2
  have e3 := blk_cell h34 3
  have e4 := blk_cell h34 4
  simp only [EvCells, List.getElem?_toArray, List.getElem?_cons_zero, List.getElem?_cons_succ] at e0 e1 e2 e3 e4
  clear h34 h31 hb1 HS HB
  generalize w.heap.size = g1 at *
  go_cut [5] from 13 to 20 (fun v5 wc => v5 = .bool (isUser e) ∧ wc = w1)
  case first =>
    have HU : isUser e = (e.kind == 1 || e.kind == 5) := rfl
    have HU := Aside0.mk HU
    cases hk1 : e.kind == 1
    · go_wp2_with fail
      go_meet
      case rel => exact ⟨by rw [HU.out, hk1]; rfl, rfl⟩
    · go_wp2_with fail
      go_meet
      case rel => exact ⟨by rw [HU.out, hk1]; rfl, rfl⟩
  case rest =>
    obtain ⟨rfl, rfl⟩ := hcut
    go_upto_region 3 with (fail)
    go_cut [7] from 24 to 41 (fun v7 w2 => v7 = .bool (bad1 e) ∧ w2 = wc)
    case first =>
      have HU := Aside0.mk (show bad1 e = (decide (e.kind < 1) || decide (5 < e.kind) || decide (e.time < 0) || decide (100000000000 < e.time)) from rfl)
      cases k1 : decide (e.kind < 1)
      · cases k2 : decide (5 < e.kind)
        · cases k3 : decide (e.time < 0)
          · go_wp2_with fail
            go_meet
            case rel => exact ⟨by rw [HU.out, k1, k2, k3]; rfl, rfl⟩
          · go_wp2_with fail
            go_meet
            case rel => exact ⟨by rw [HU.out, k1, k2, k3]; rfl, rfl⟩
        · go_wp2_with fail
          go_meet
          case rel => exact ⟨by rw [HU.out, k1, k2]; rfl, rfl⟩
      · go_wp2_with fail
        go_meet
        case rel => exact ⟨by rw [HU.out, k1]; rfl, rfl⟩
    case rest =>
      obtain ⟨rfl, rfl⟩ := hcut
      go_upto_region 4 with (fail)
      have hdv : (e.kind != 5) = isDev e := rfl
      rw [hdv]
      clear hdv
      have HU := Aside0.mk (show bad e = (bad1 e || (isUser e && !good e.user) || (!isUser e && (e.user.toList != [])) || (isDev e && !good e.device) || (!isDev e && (e.device.toList != [])) || (isUser e && (e.id.toList != []))) from rfl)
      have gU := good_calls e.user wc hu
      have gD := good_calls e.device wc hd
      go_cut [5, 6, 7, 23] from 42 to 86 (fun v5 v6 v7 v23 w2 => v7 = .bool (bad e) ∧ w2 = wc)
      case first =>
        cases kb : bad1 e
        · skip
          cases ku : isUser e
          · skip
            cases ke : e.user.toList.isEmpty
            · have ke1 : ¬ (e.user.toList = []) := by intro h; rw [h] at ke; cases ke
              have ke2 : (e.user.toList != ([] : List UInt8)) = true := by simpa using ke1
              have GU := Aside0.mk gU
              clear gU
              have GD := Aside0.mk gD
              clear gD
              go_wp2_with (go_at_call 54; first | ((with_reducible refine GU.out.mono ?_); rintro r w3 ⟨rfl, rfl⟩) | ((with_reducible refine GD.out.mono ?_); rintro r w3 ⟨rfl, rfl⟩))
              go_meet
              case rel => exact ⟨by rw [HU.out]; simp only [kb, ku, ke2, Bool.not_true, Bool.not_false, Bool.true_and, Bool.false_and, Bool.or_true, Bool.true_or, Bool.or_false], rfl⟩
            · have ke1 : e.user.toList = [] := List.isEmpty_iff.1 ke
              have ke2 : (e.user.toList != ([] : List UInt8)) = false := by rw [ke1]; rfl
              have GU := Aside0.mk gU
              clear gU
              cases kd : isDev e
              · skip
                cases kf : e.device.toList.isEmpty
                · have kf1 : ¬ (e.device.toList = []) := by intro h; rw [h] at kf; cases kf
                  have kf2 : (e.device.toList != ([] : List UInt8)) = true := by simpa using kf1
                  have GD := Aside0.mk gD
                  clear gD
                  go_wp2_with (go_at_call 54; first | ((with_reducible refine GU.out.mono ?_); rintro r w3 ⟨rfl, rfl⟩) | ((with_reducible refine GD.out.mono ?_); rintro r w3 ⟨rfl, rfl⟩))
                  go_meet
                  case rel => exact ⟨by rw [HU.out]; simp only [kb, ku, ke2, kd, kf2, Bool.not_true, Bool.not_false, Bool.true_and, Bool.false_and, Bool.or_true, Bool.true_or, Bool.or_false, Bool.and_false, Bool.and_true], rfl⟩
                · have kf1 : e.device.toList = [] := List.isEmpty_iff.1 kf
                  have kf2 : (e.device.toList != ([] : List UInt8)) = false := by rw [kf1]; rfl
                  have GD := Aside0.mk gD
                  clear gD
                  go_wp2_with (go_at_call 54; first | ((with_reducible refine GU.out.mono ?_); rintro r w3 ⟨rfl, rfl⟩) | ((with_reducible refine GD.out.mono ?_); rintro r w3 ⟨rfl, rfl⟩))
                  go_meet
                  case rel => exact ⟨by rw [HU.out]; simp only [kb, ku, ke2, kd, kf2, Bool.not_true, Bool.not_false, Bool.true_and, Bool.false_and, Bool.or_true, Bool.true_or, Bool.or_false, Bool.and_false, Bool.and_true], rfl⟩
              · skip
                cases kh : good e.device
                · skip
                  rw [kh] at gD
                  have GD := Aside0.mk gD
                  clear gD
                  go_wp2_with (go_at_call 54; first | ((with_reducible refine GU.out.mono ?_); rintro r w3 ⟨rfl, rfl⟩) | ((with_reducible refine GD.out.mono ?_); rintro r w3 ⟨rfl, rfl⟩))
                  go_meet
                  case rel => exact ⟨by rw [HU.out]; simp only [kb, ku, ke2, kd, kh, Bool.not_true, Bool.not_false, Bool.true_and, Bool.false_and, Bool.or_true, Bool.true_or, Bool.or_false, Bool.and_false, Bool.and_true], rfl⟩
                · skip
                  rw [kh] at gD
                  have GD := Aside0.mk gD
                  clear gD
                  go_wp2_with (go_at_call 54; first | ((with_reducible refine GU.out.mono ?_); rintro r w3 ⟨rfl, rfl⟩) | ((with_reducible refine GD.out.mono ?_); rintro r w3 ⟨rfl, rfl⟩))
                  go_meet
                  case rel => exact ⟨by rw [HU.out]; simp only [kb, ku, ke2, kd, kh, Bool.not_true, Bool.not_false, Bool.true_and, Bool.false_and, Bool.or_true, Bool.true_or, Bool.or_false, Bool.and_false, Bool.and_true], rfl⟩
          · skip
            cases kg : good e.user
            · skip
              rw [kg] at gU
              have GU := Aside0.mk gU
              clear gU
              have GD := Aside0.mk gD
              clear gD
              go_wp2_with (go_at_call 54; first | ((with_reducible refine GU.out.mono ?_); rintro r w3 ⟨rfl, rfl⟩) | ((with_reducible refine GD.out.mono ?_); rintro r w3 ⟨rfl, rfl⟩))
              go_meet
              case rel => exact ⟨by rw [HU.out]; simp only [kb, ku, kg, Bool.not_true, Bool.not_false, Bool.true_and, Bool.false_and, Bool.or_true, Bool.true_or, Bool.or_false], rfl⟩
            · skip
              rw [kg] at gU
              have GU := Aside0.mk gU
              clear gU
              cases kd : isDev e
              · skip
                cases kf : e.device.toList.isEmpty
                · have kf1 : ¬ (e.device.toList = []) := by intro h; rw [h] at kf; cases kf
                  have kf2 : (e.device.toList != ([] : List UInt8)) = true := by simpa using kf1
                  have GD := Aside0.mk gD
                  clear gD
                  go_wp2_with (go_at_call 54; first | ((with_reducible refine GU.out.mono ?_); rintro r w3 ⟨rfl, rfl⟩) | ((with_reducible refine GD.out.mono ?_); rintro r w3 ⟨rfl, rfl⟩))
                  go_meet
                  case rel => exact ⟨by rw [HU.out]; simp only [kb, ku, kg, kd, kf2, Bool.not_true, Bool.not_false, Bool.true_and, Bool.false_and, Bool.or_true, Bool.true_or, Bool.or_false, Bool.and_false, Bool.and_true], rfl⟩
                · have kf1 : e.device.toList = [] := List.isEmpty_iff.1 kf
                  have kf2 : (e.device.toList != ([] : List UInt8)) = false := by rw [kf1]; rfl
                  have GD := Aside0.mk gD
                  clear gD
                  cases ki : e.id.toList.isEmpty
                  · have ki1 : ¬ (e.id.toList = []) := by intro h; rw [h] at ki; cases ki
                    have ki2 : (e.id.toList != ([] : List UInt8)) = true := by simpa using ki1
                    go_wp2_with (go_at_call 54; first | ((with_reducible refine GU.out.mono ?_); rintro r w3 ⟨rfl, rfl⟩) | ((with_reducible refine GD.out.mono ?_); rintro r w3 ⟨rfl, rfl⟩))
                    go_meet
                    case rel => exact ⟨by rw [HU.out]; simp only [kb, ku, kg, kd, kf2, Bool.not_true, Bool.not_false, Bool.true_and, Bool.false_and, Bool.or_true, Bool.true_or, Bool.or_false, Bool.and_false, Bool.and_true, ki2], rfl⟩
                  · have ki1 : e.id.toList = [] := List.isEmpty_iff.1 ki
                    have ki2 : (e.id.toList != ([] : List UInt8)) = false := by rw [ki1]; rfl
                    go_wp2_with (go_at_call 54; first | ((with_reducible refine GU.out.mono ?_); rintro r w3 ⟨rfl, rfl⟩) | ((with_reducible refine GD.out.mono ?_); rintro r w3 ⟨rfl, rfl⟩))
                    go_meet
                    case rel => exact ⟨by rw [HU.out]; simp only [kb, ku, kg, kd, kf2, Bool.not_true, Bool.not_false, Bool.true_and, Bool.false_and, Bool.or_true, Bool.true_or, Bool.or_false, Bool.and_false, Bool.and_true, ki2], rfl⟩
              · skip
                cases kh : good e.device
                · skip
                  rw [kh] at gD
                  have GD := Aside0.mk gD
                  clear gD
                  go_wp2_with (go_at_call 54; first | ((with_reducible refine GU.out.mono ?_); rintro r w3 ⟨rfl, rfl⟩) | ((with_reducible refine GD.out.mono ?_); rintro r w3 ⟨rfl, rfl⟩))
                  go_meet
                  case rel => exact ⟨by rw [HU.out]; simp only [kb, ku, kg, kd, kh, Bool.not_true, Bool.not_false, Bool.true_and, Bool.false_and, Bool.or_true, Bool.true_or, Bool.or_false, Bool.and_false, Bool.and_true], rfl⟩
                · skip
                  rw [kh] at gD
                  have GD := Aside0.mk gD
                  clear gD
                  cases ki : e.id.toList.isEmpty
                  · have ki1 : ¬ (e.id.toList = []) := by intro h; rw [h] at ki; cases ki
                    have ki2 : (e.id.toList != ([] : List UInt8)) = true := by simpa using ki1
                    go_wp2_with (go_at_call 54; first | ((with_reducible refine GU.out.mono ?_); rintro r w3 ⟨rfl, rfl⟩) | ((with_reducible refine GD.out.mono ?_); rintro r w3 ⟨rfl, rfl⟩))
                    go_meet
                    case rel => exact ⟨by rw [HU.out]; simp only [kb, ku, kg, kd, kh, Bool.not_true, Bool.not_false, Bool.true_and, Bool.false_and, Bool.or_true, Bool.true_or, Bool.or_false, Bool.and_false, Bool.and_true, ki2], rfl⟩
                  · have ki1 : e.id.toList = [] := List.isEmpty_iff.1 ki
                    have ki2 : (e.id.toList != ([] : List UInt8)) = false := by rw [ki1]; rfl
                    go_wp2_with (go_at_call 54; first | ((with_reducible refine GU.out.mono ?_); rintro r w3 ⟨rfl, rfl⟩) | ((with_reducible refine GD.out.mono ?_); rintro r w3 ⟨rfl, rfl⟩))
                    go_meet
                    case rel => exact ⟨by rw [HU.out]; simp only [kb, ku, kg, kd, kh, Bool.not_true, Bool.not_false, Bool.true_and, Bool.false_and, Bool.or_true, Bool.true_or, Bool.or_false, Bool.and_false, Bool.and_true, ki2], rfl⟩
        · skip
          have GU := Aside0.mk gU
          have GD := Aside0.mk gD
          clear gU gD
          go_wp2_with (go_at_call 54; first | ((with_reducible refine GU.out.mono ?_); rintro r w3 ⟨rfl, rfl⟩) | ((with_reducible refine GD.out.mono ?_); rintro r w3 ⟨rfl, rfl⟩))
          go_meet
          case rel => exact ⟨by rw [HU.out]; simp only [kb, Bool.true_or], rfl⟩
      case rest =>
        obtain ⟨rfl, rfl⟩ := hcut
        clear HU gU gD
        cases hbad : bad e
        · have HBad := Aside0.mk hbad
          by_cases htm : e.time < s.now
          · have htm2 : decide (e.time < s.now) = true := decide_eq_true htm
            have HTm := Aside0.mk htm
            have p3 := blk_cell HC.out.srel.blk 3
            simp only [List.getElem?_toArray, List.getElem?_cons_zero, List.getElem?_cons_succ] at p3
            go_upto_region 8 with (go_quiet (fail))
            obtain ⟨w2, hw2⟩ : ∃ w2, w2 = wc.drewN nq := ⟨_, rfl⟩
            have HC2 := Aside0.mk (HC.out.drewN nq)
            rw [← hw2] at HC2 ⊢
            clear hw2 HC
            clear e0 e1 e2 e3 e4 p3
            have f31 : ∀ j, w2.frozen? ⟨g1 + 1, j, none⟩ = false := fun j => by simp [World.frozen?, HC2.out.rp]
            have q0 := blk_cell HC2.out.rp 0
            have q1 := blk_cell HC2.out.rp 1
            have q2 := blk_cell HC2.out.rp 2
            have q3 := blk_cell HC2.out.rp 3
            simp only [List.getElem?_toArray, List.getElem?_cons_zero, List.getElem?_cons_succ] at q0 q1 q2 q3
            go_wp2_with fail
            have hs := Sets.reply rfl (Sets.first HC2.out.rp) 2 0 none_ none_
            refine end_do (.inl rfl) hs ?_ ?_ ?_
            · rfl
            · rfl
            have hst : step s e = (s, err 2) := by unfold step; rw [HBad.out, if_neg (by simp), if_pos HTm.out]
            rw [hst]
            exact ⟨rfl, HC2.out.fin hs⟩
          · skip
            have htm2 : decide (e.time < s.now) = false := decide_eq_false htm
            have HTm := Aside0.mk htm
            obtain ⟨hk1, hk5, ht0, ht1⟩ := bad_false hbad
            have p3 := blk_cell HC.out.srel.blk 3
            simp only [List.getElem?_toArray, List.getElem?_cons_zero, List.getElem?_cons_succ] at p3
            go_upto_region 9 with (go_quiet (fail))
            obtain ⟨w2, hw2⟩ : ∃ w2, w2 = wc.drewN nq := ⟨_, rfl⟩
            have HC2 := Aside0.mk (HC.out.drewN nq)
            rw [← hw2] at HC2 ⊢
            clear hw2 HC
            clear e0 e1 e2 e3 e4 p3
            have e0 := blk_cell HC2.out.ev 0
            have e1 := blk_cell HC2.out.ev 1
            have e2 := blk_cell HC2.out.ev 2
            have e3 := blk_cell HC2.out.ev 3
            have e4 := blk_cell HC2.out.ev 4
            simp only [EvCells, List.getElem?_toArray, List.getElem?_cons_zero, List.getElem?_cons_succ] at e0 e1 e2 e3 e4
            have fp : ∀ j, w2.frozen? ⟨p, j, none⟩ = false := fun j => by simp [World.frozen?, HC2.out.srel.blk]
            have p3 := blk_cell HC2.out.srel.blk 3
            simp only [List.getElem?_toArray, List.getElem?_cons_zero, List.getElem?_cons_succ] at p3
            obtain ⟨s1, hs1⟩ : ∃ s1 : St, s1 = { s with now := e.time } := ⟨_, rfl⟩
            have hst : step s e = step2 s1 e := by unfold step; rw [HBad.out, if_neg (by simp), if_neg HTm.out, hs1]
            have HSt := Aside0.mk hst
            have HO1 := Aside0.mk (show s1.Ok m by rw [hs1]; exact HO.out.at_time ht0 ht1)
            go_upto_region 10 with (fail)
            obtain ⟨w3, hw3⟩ : ∃ w3, w3 = w2.setCell ⟨p, 3, none⟩ (.int .i64 e.time) := ⟨_, rfl⟩
            have hs3 : Sets w2 w3 p (.cells #[.slice A s1.key.length c, .int .i64 s1.idle, .int .i64 s1.most, .int .i64 s1.now, .int .i64 s1.n, L, R] 63 (0, 0)) := by
              rw [hw3, hs1]; simpa using (Sets.first HC2.out.srel.blk).set 3 (.int .i64 e.time)
            have HC3 := Aside0.mk (HC2.out.put (s' := s1) (by rw [hs1]) (by rw [hs1]) hs3)
            have HR1 := Aside0.mk (show Kd.C (Kd.int .u8) w0 A s1.key.length s1.key by rw [hs1]; exact HR.out)
            have hc1 : s1.key.length ≤ c := by rw [hs1]; exact hc
            rw [← hw3]
            clear hs3 hw3 hst hs1 HC2 HO HTm HBad e0 e1 e2 e3 e4 p3 fp hbad htm htm2 HR hc
            obtain hk | hk | hk : e.kind = 1 ∨ e.kind = 5 ∨ (e.kind ≠ 1 ∧ e.kind ≠ 5) := by omega
            · have HK := Aside0.mk hk
              have e0 := blk_cell HC3.out.ev 0
              have e1 := blk_cell HC3.out.ev 1
              have e2 := blk_cell HC3.out.ev 2
              have e3 := blk_cell HC3.out.ev 3
              have e4 := blk_cell HC3.out.ev 4
              simp only [EvCells, List.getElem?_toArray, List.getElem?_cons_zero, List.getElem?_cons_succ] at e0 e1 e2 e3 e4
              rw [hk] at e0
              clear hk
              go_upto_region 12 with (fail)
              have p3 := blk_cell HC3.out.srel.blk 3
              simp only [List.getElem?_toArray, List.getElem?_cons_zero, List.getElem?_cons_succ] at p3
              clear e0 e1 e4
              go_region_held3 (fun W => W.cell? ⟨g1, 2, none⟩ = some (.string e.user) ∧ W.cell? ⟨g1, 3, none⟩ = some (.string e.device) ∧ W.cell? ⟨p, 3, none⟩ = some (.int .i64 s1.now)) (first | exact ⟨e2, e3, p3⟩ | exact hC.loads | go_keep)
                (first | (go_at_call 55; (with_reducible refine ((HC3.out.below (below_drew (Below.refl _ _))).next_calls HO1.out hm HR1.out hB0 hc1 HT.out).mono ?_); rintro r w4 ⟨rfl, hC⟩))
              obtain ⟨w5, hw5⟩ : ∃ w5, w5 = (w4.alloc (.cells #[.string s1.next] 9)).alloc (.cells #[.slice (some ⟨w4.heap.size, 0, none⟩) 1 1, .string e.user, .string e.device, .int .i64 1, .int .i64 s1.now, .int .i64 s1.now, .bool false] 71) := ⟨_, rfl⟩
              rw [← hw5]
              have hb5 : Below w4.heap.size w4 w5 := by rw [hw5]; exact ((Below.refl _ _).alloc (Nat.le_refl _) _).alloc (by simp) _
              have hsz := hC.sz
              have hx5 : w5.heap[w4.heap.size + 1]? = some (.cells (SesCells (.slice (some ⟨w4.heap.size, 0, none⟩) 1 1) ⟨[s1.next], e.user, e.device, 1, s1.now, s1.now, false⟩) 71 (0, 0)) := by
                have := blk_new (w4.alloc (.cells #[.string s1.next] 9)) (.cells #[.slice (some ⟨w4.heap.size, 0, none⟩) 1 1, .string e.user, .string e.device, .int .i64 1, .int .i64 s1.now, .int .i64 s1.now, .bool false] 71)
                rw [World.size_alloc] at this
                rw [hw5]; exact this
              have hv5 : Kd.R Kd.string 9 w5 B (fun _ => True) (.slice (some ⟨w4.heap.size, 0, none⟩) 1 1) [s1.next] := by
                rw [hw5]; exact Kd.R_alloc (R_laidS w4 hsz 9 [s1.next] _ rfl (by simp [maxLen])) _
              have hap := hC.srel.rel.fresh (fun x hx => (HO1.out.all x hx).ne) (w4.heap.size + 1) w4.heap.size 1 1 (by omega) (by omega)
              have HC5 := Aside0.mk (hC.below hb5)
              have HX5 := Aside0.mk hx5
              have HV5 := Aside0.mk hv5
              have HAp := Aside0.mk hap
              have hgb : B ≤ w4.heap.size := hsz
              generalize w4.heap.size = g4 at HX5 HV5 HAp hgb ⊢
              clear hw5 hb5 hsz hx5 hv5 hap hC e2 e3 p3 HC3
              have p5 := blk_cell HC5.out.srel.blk 5
              simp only [List.getElem?_toArray, List.getElem?_cons_zero, List.getElem?_cons_succ] at p5
              have hp5 := blk_lt HC5.out.srel.blk
              have hnl := HO1.out.len
              have hown : w5.ownsRow B 68 1 L s1.list.length (ps.map ptr) := HC5.out.srel.own
              have HOwn := Aside0.mk hown
              clear hown
              obtain ⟨i0, hi, hz0, hz1, hz2⟩ := info_parts info_ptr
              have hsz5 := HC5.out.sz
              go_upto_region 14 with (at_builtin; refine wpList_append_own _ rfl (.tmp 127) (.tmp 129) 61 rfl B 68 i0 (.pointer none) 1 8 Tryd.underlying61 hi hz0 hz1 hz2 rfl (by decide) _ _ _ rfl (HOwn.out.alloc _) ⟨w5.heap.size, 0, none⟩ 1 1 [.pointer (some ⟨g4 + 1, 0, none⟩)] rfl rfl ?c1 ?c2 ?c3 ?c4 ?c5 ?_; (case c1 => exact one_at w5 _ _); (case c2 => (intro u hu; simp at hu; subst hu; rfl)); (case c3 => (simp only [maxLen]; omega)); (case c4 => omega); (case c5 => (simp; omega)); intro L' w6 hown' hgrow _; clear hsz5; obtain ⟨g6, cap6, rfl⟩ := own_form hown'; have hg2 : w5.grownBy w6 L.ownBlock := World.grownBy.trans (World.grownBy_alloc w5 _ _) hgrow; have HP6 := Aside0.mk (grown_keep HOwn.out hg2 HC5.out.srel.blk (by decide)); have HX6 := Aside0.mk (grown_keep HOwn.out hg2 HX5.out (by decide)); have HC7 := Aside0.mk (HC5.out.push (q := ⟨g4 + 1, .slice (some ⟨g4, 0, none⟩) 1 1⟩) HX5.out HV5.out (by show B ≤ g4 + 1; omega) HAp.out (by simpa using hown') hg2); have p5 := blk_cell HP6.out 5; (simp only [List.getElem?_toArray, List.getElem?_cons_zero, List.getElem?_cons_succ] at p5); have fp : ∀ j, w6.frozen? ⟨p, j, none⟩ = false := (fun j => by simp [World.frozen?, HP6.out]); clear hg2 hgrow hown' HC5 HV5 HAp HOwn)
              obtain ⟨w7, hw7⟩ : ∃ w7, w7 = w6.setCell ⟨p, 5, none⟩ (.slice (some ⟨g6, 0, none⟩) (s1.list.length + 1) cap6) := ⟨_, rfl⟩
              rw [← hw7] at HC7 ⊢
              clear hw7 p5 fp HP6 HX6 hp5
              have hX7 := HC7.out.srel.rel.blk ps.length ⟨g4 + 1, .slice (some ⟨g4, 0, none⟩) 1 1⟩ ⟨[s1.next], e.user, e.device, 1, s1.now, s1.now, false⟩ (by simp) (by have := HC7.out.srel.rel.len; simp at this; simp [this])
              have hV7 := HC7.out.srel.rel.row ps.length ⟨g4 + 1, .slice (some ⟨g4, 0, none⟩) 1 1⟩ ⟨[s1.next], e.user, e.device, 1, s1.now, s1.now, false⟩ (by simp) (by have := HC7.out.srel.rel.len; simp at this; simp [this])
              have HX7 := Aside0.mk hX7
              have HV7 := Aside0.mk hV7
              clear hX7 hV7 HX5
              have x1 := blk_cell HX7.out 1
              have x3 := blk_cell HX7.out 3
              simp only [SesCells, List.getElem?_toArray, List.getElem?_cons_zero, List.getElem?_cons_succ] at x1 x3
              have HID := Aside0.mk (id_calls (g4 + 1) (.slice (some ⟨g4, 0, none⟩) 1 1) ⟨[s1.next], e.user, e.device, 1, s1.now, s1.now, false⟩ B w7.drew HX7.out (Kd.R_drew HV7.out) (by first | assumption | simp))
              have hne := blk_ne HX7.out HC7.out.rp (by decide)
              have f31 : ∀ j, w7.frozen? ⟨g1 + 1, j, none⟩ = false := fun j => by simp [World.frozen?, HC7.out.rp]
              have q0 := blk_cell HC7.out.rp 0
              have q1 := blk_cell HC7.out.rp 1
              have q2 := blk_cell HC7.out.rp 2
              have q3 := blk_cell HC7.out.rp 3
              simp only [List.getElem?_toArray, List.getElem?_cons_zero, List.getElem?_cons_succ] at q0 q1 q2 q3
              go_region_held3 (fun W => W.cell? ⟨g4 + 1, 1, none⟩ = some (.string (e.user)) ∧ W.cell? ⟨g4 + 1, 3, none⟩ = some (.int .i64 (1))) (first | exact ⟨x1, x3⟩ | exact ⟨far4 x1 hne, far4 x3 hne⟩ | go_keep)
                (first | (go_at_call 30; (with_reducible refine HID.out.mono ?_); rintro r w8 ⟨rfl, m8, rfl⟩))
              go_wp2_with fail
              have hs := Sets.reply rfl ((Sets.first HC7.out.rp).drewN (1 + m8)) 0 (1) (Ses.last_ ⟨[s1.next], e.user, e.device, 1, s1.now, s1.now, false⟩) (e.user)
              refine end_do (.inl rfl) hs ?_ ?_ ?_
              · rfl
              · rfl
              have hst : step s e = ({ s1 with n := s1.n + 1, list := s1.list ++ [⟨[s1.next], e.user, e.device, 1, s1.now, s1.now, false⟩] }, ⟨0, s1.next, e.user, 1⟩) := by
                rw [HSt.out]; unfold step2; rw [if_pos HK.out]
              rw [hst]
              exact ⟨rfl, HC7.out.fin hs⟩
            · have HK := Aside0.mk hk
              have e0 := blk_cell HC3.out.ev 0
              have e1 := blk_cell HC3.out.ev 1
              have e2 := blk_cell HC3.out.ev 2
              have e3 := blk_cell HC3.out.ev 3
              have e4 := blk_cell HC3.out.ev 4
              simp only [EvCells, List.getElem?_toArray, List.getElem?_cons_zero, List.getElem?_cons_succ] at e0 e1 e2 e3 e4
              rw [hk] at e0
              clear hk
              obtain ⟨A5, cap5, rfl⟩ := HC3.out.form
              have p5 := blk_cell HC3.out.srel.blk 5
              simp only [List.getElem?_toArray, List.getElem?_cons_zero, List.getElem?_cons_succ] at p5
              have hnl : s1.list.length ≤ 200 := by have := HO1.out.len; omega
              obtain ⟨n1, hn1⟩ : ∃ n, n = s1.list.length := ⟨_, rfl⟩
              rw [← hn1] at p5 hnl HC3
              have HN1 := Aside0.mk hn1
              clear hn1
              go_wp2_with fail
              clear p5 e0 e1 e2 e3 e4
              go_loopw [151] (fun i wr => ∃ k : Nat, k ≤ n1 ∧ i = .int .i64 k ∧ Aside0 (CI B w0 w p A c R e g1 wr { s1 with list := outs e.user s1.list k } (.slice A5 n1 cap5) ps)) (fun i _ => n1 - (intOf i).toNat)
              case atStart => exact ⟨0, Nat.zero_le _, rfl, HC3⟩
              case round =>
                clear HC3
                obtain ⟨k, hkn, rfl, HC⟩ := hrel
                by_cases hlt : k < n1
                · obtain ⟨x, hx⟩ : ∃ x, s1.list[k]? = some x := ⟨_, List.getElem?_eq_getElem (by rw [← HN1.out]; exact hlt)⟩
                  have hx2 : (outs e.user s1.list k)[k]? = some x := (outs_at _ _ _ (by rw [← HN1.out]; exact hlt)).trans hx
                  obtain ⟨q, hq⟩ : ∃ q, ps[k]? = some q := ⟨_, List.getElem?_eq_getElem (by have := HC.out.srel.rel.len; rw [this]; show k < (outs e.user s1.list k).length; rw [outs_len, ← HN1.out]; exact hlt)⟩
                  obtain ⟨g5, rfl, hcl⟩ := HC.out.at_ hq
                  have hqb := HC.out.srel.rel.blk k q x hq hx2
                  have x1 := blk_cell hqb 1
                  have x6 := blk_cell hqb 6
                  simp only [SesCells, List.getElem?_toArray, List.getElem?_cons_zero, List.getElem?_cons_succ] at x1 x6
                  have fx : ∀ j, wr.frozen? ⟨q.b, j, none⟩ = false := fun j => by simp [World.frozen?, hqb]
                  have e2 := blk_cell HC.out.ev 2
                  simp only [EvCells, List.getElem?_toArray, List.getElem?_cons_zero, List.getElem?_cons_succ] at e2
                  have HX := Aside0.mk hx
                  have HX2 := Aside0.mk hx2
                  have HQ := Aside0.mk hq
                  have HQB := Aside0.mk hqb
                  clear hx hx2 hq hqb
                  have hdef : out1 e.user x = { x with dead := x.dead || (x.user.toList == e.user.toList) } := rfl
                  have HDef := Aside0.mk hdef
                  clear hdef
                  have HM : ∀ v, v = (x.dead || (x.user.toList == e.user.toList)) → CI B w0 w p A c R e g1 (wr.setCell ⟨q.b, 6, none⟩ (.bool v)).drew { s1 with list := outs e.user s1.list (k + 1) } (.slice (some ⟨g5, 0, none⟩) n1 cap5) ps := fun v hv => by
                    subst hv
                    have h1 := HC.out.set (i := k) (x' := out1 e.user x) HQ.out HX2.out rfl (Sets.set (Sets.first HQB.out) 6 (.bool (x.dead || (x.user.toList == e.user.toList))))
                    simp only [outs_succ _ _ _ _ HX.out] at h1
                    exact h1.below (below_drew (Below.refl _ _))
                  have HM2 := Aside0.mk HM
                  clear HM
                  cases hdd : x.dead
                  · go_wp2_with fail
                    go_region
                    go_wp2_with fail
                    refine ⟨⟨k + 1, by omega, by go_num, ⟨HM2.out _ (by rw [hdd]; rfl)⟩⟩, by simp [intOf]; omega⟩
                  · go_wp2_with fail
                    go_region
                    go_wp2_with fail
                    refine ⟨⟨k + 1, by omega, by go_num, ⟨HM2.out _ (by rw [hdd]; rfl)⟩⟩, by simp [intOf]; omega⟩
                · have hkk : k = n1 := by omega
                  rw [hkk, HN1.out, outs_all] at HC
                  have e2 := blk_cell HC.out.ev 2
                  simp only [EvCells, List.getElem?_toArray, List.getElem?_cons_zero, List.getElem?_cons_succ] at e2
                  have f31 : ∀ j, wr.frozen? ⟨g1 + 1, j, none⟩ = false := fun j => by simp [World.frozen?, HC.out.rp]
                  have q0 := blk_cell HC.out.rp 0
                  have q1 := blk_cell HC.out.rp 1
                  have q2 := blk_cell HC.out.rp 2
                  have q3 := blk_cell HC.out.rp 3
                  simp only [List.getElem?_toArray, List.getElem?_cons_zero, List.getElem?_cons_succ] at q0 q1 q2 q3
                  go_wp2_with fail
                  have hs := Sets.reply rfl (Sets.first HC.out.rp) 0 0 none_ e.user
                  refine end_do (.inl rfl) hs ?_ ?_ ?_
                  · rfl
                  · rfl
                  have hst : step s e = ({ s1 with list := s1.list.map (out1 e.user) }, ⟨0, none_, e.user, 0⟩) := by
                    rw [HSt.out]; unfold step2; rw [if_neg (by have := HK.out; omega), if_pos HK.out]
                  rw [hst]
                  exact ⟨rfl, HC.out.fin hs⟩
            · have HK := Aside0.mk hk
              have e0 := blk_cell HC3.out.ev 0
              have e1 := blk_cell HC3.out.ev 1
              have e2 := blk_cell HC3.out.ev 2
              have e3 := blk_cell HC3.out.ev 3
              have e4 := blk_cell HC3.out.ev 4
              simp only [EvCells, List.getElem?_toArray, List.getElem?_cons_zero, List.getElem?_cons_succ] at e0 e1 e2 e3 e4
              obtain ⟨hn1, hn5⟩ := hk
              have hk1' : (e.kind == 1) = false := by simpa using hn1
              have hk5' : (e.kind == 5) = false := by simpa using hn5
              clear hn1 hn5
              obtain ⟨A5, cap5, rfl⟩ := HC3.out.form
              have p5 := blk_cell HC3.out.srel.blk 5
              simp only [List.getElem?_toArray, List.getElem?_cons_zero, List.getElem?_cons_succ] at p5
              have hnl : s1.list.length ≤ 200 := by have := HO1.out.len; omega
              have HI := index_calls g1 _ ps s1.list e B w3 HC3.out.srel.own HC3.out.srel.rel (fun x hx => (HO1.out.all x hx).ne) (by omega) HC3.out.ev
              clear e1 e2 e3 e4
              cases hat : at_ s1.list e.id
              · skip
                have f31 : ∀ j, w3.frozen? ⟨g1 + 1, j, none⟩ = false := fun j => by simp [World.frozen?, HC3.out.rp]
                have q0 := blk_cell HC3.out.rp 0
                have q1 := blk_cell HC3.out.rp 1
                have q2 := blk_cell HC3.out.rp 2
                have q3 := blk_cell HC3.out.rp 3
                simp only [List.getElem?_toArray, List.getElem?_cons_zero, List.getElem?_cons_succ] at q0 q1 q2 q3
                rw [hat, show place none = -1 from rfl] at HI
                have HAt := Aside0.mk hat
                clear hat
                go_wp2_with ((go_at_call 56; (with_reducible refine HI.mono ?_); rintro r w4 ⟨rfl, m4, rfl⟩; clear HI p5 e0))
                have hs := Sets.reply rfl ((Sets.first HC3.out.rp).drewN m4) 3 0 none_ none_
                refine end_do (.inl rfl) hs ?_ ?_ ?_
                · rfl
                · rfl
                have hst : step s e = (s1, err 3) := by
                  rw [HSt.out]; unfold step2; rw [if_neg HK.out.1, if_neg HK.out.2, HAt.out]
                rw [hst]
                exact ⟨rfl, HC3.out.fin hs⟩
              · rename_i i0
                rw [hat, show place (some i0) = (i0 : Int) from rfl] at HI
                obtain ⟨x, hx⟩ := at_is hat
                have hil : i0 < s1.list.length := (List.getElem?_eq_some_iff.1 hx).1
                obtain ⟨q, hq⟩ : ∃ q, ps[i0]? = some q := ⟨_, List.getElem?_eq_getElem (by rw [HC3.out.srel.rel.len]; exact hil)⟩
                obtain ⟨g5, rfl, hcl⟩ := HC3.out.at_ hq
                have HAt := Aside0.mk hat
                have HX := Aside0.mk hx
                have HQ := Aside0.mk hq
                clear hat hx hq
                obtain ⟨n1, hn1⟩ : ∃ n, n = s1.list.length := ⟨_, rfl⟩
                rw [← hn1] at p5 hnl HC3 hil HI
                have HN1 := Aside0.mk hn1
                clear hn1
                go_wp2_with ((go_at_call 56; (with_reducible refine HI.mono ?_); rintro r w4 ⟨rfl, m4, rfl⟩; clear HI))
                obtain ⟨w4, hw4⟩ : ∃ w4, w4 = w3.drewN m4 := ⟨_, rfl⟩
                have HC4 := Aside0.mk (HC3.out.drewN m4)
                rw [← hw4] at HC4 ⊢
                clear hw4 HC3 p5 hcl e0
                have hqb := HC4.out.srel.rel.blk i0 q x HQ.out HX.out
                have HRow := Aside0.mk (HC4.out.srel.rel.row i0 q x HQ.out HX.out)
                have HXO := Aside0.mk (HO1.out.all x (List.mem_of_getElem? HX.out))
                have HID := Aside0.mk (fun k => id_calls q.b q.v x B (w4.drewN k) hqb (Kd.R_drewN HRow.out k) HXO.out.ne)
                have HQB := Aside0.mk hqb
                clear hqb
                have e0 := blk_cell HC4.out.ev 0
                have e1 := blk_cell HC4.out.ev 1
                have e2 := blk_cell HC4.out.ev 2
                have e3 := blk_cell HC4.out.ev 3
                have e4 := blk_cell HC4.out.ev 4
                simp only [EvCells, List.getElem?_toArray, List.getElem?_cons_zero, List.getElem?_cons_succ] at e0 e1 e2 e3 e4
                clear e1 e2
                have x2 := blk_cell HQB.out 2
                simp only [SesCells, List.getElem?_toArray, List.getElem?_cons_zero, List.getElem?_cons_succ] at x2
                have fx : ∀ j, w4.frozen? ⟨q.b, j, none⟩ = false := fun j => by simp [World.frozen?, HQB.out]
                cases hA : (x.last_.toList != e.id.toList)
                · have hA2 : x.last_.toList = e.id.toList := by simpa using hA
                  cases hD : (x.device.toList != e.device.toList)
                  · have hD2 : x.device.toList = e.device.toList := by simpa using hD
                    go_quiet ((go_at_call 30; exact Calls.quiet_of (HID.out _)))
                    obtain ⟨w5, hw2⟩ : ∃ w2, w2 = w4.drewN nq := ⟨_, rfl⟩
                    have HC5 := Aside0.mk (HC4.out.drewN nq)
                    rw [← hw2] at HC5 ⊢
                    clear hw2 HC4
                    have hqb := HC5.out.srel.rel.blk i0 q x HQ.out HX.out
                    have HRow5 := Aside0.mk (HC5.out.srel.rel.row i0 q x HQ.out HX.out)
                    clear HQB HRow HID e0 e3 e4 x2
                    have HQB := Aside0.mk hqb
                    clear hqb
                    have HA := Aside0.mk hA
                    have HD := Aside0.mk hD
                    clear hA hD hA2 hD2
                    have x6 := blk_cell HQB.out 6
                    simp only [SesCells, List.getElem?_toArray, List.getElem?_cons_zero, List.getElem?_cons_succ] at x6
                    have fx : ∀ j, w5.frozen? ⟨q.b, j, none⟩ = false := fun j => by simp [World.frozen?, HQB.out]
                    have f31 : ∀ j, w5.frozen? ⟨g1 + 1, j, none⟩ = false := fun j => by simp [World.frozen?, HC5.out.rp]
                    have q0 := blk_cell HC5.out.rp 0
                    have q1 := blk_cell HC5.out.rp 1
                    have q2 := blk_cell HC5.out.rp 2
                    have q3 := blk_cell HC5.out.rp 3
                    simp only [List.getElem?_toArray, List.getElem?_cons_zero, List.getElem?_cons_succ] at q0 q1 q2 q3
                    cases hdd : x.dead
                    · have p3 := blk_cell HC5.out.srel.blk 3
                      simp only [List.getElem?_toArray, List.getElem?_cons_zero, List.getElem?_cons_succ] at p3
                      have HOv := Aside0.mk (over_calls p q.b _ _ _ q.v x s1.idle s1.most s1.now s1.n s1.now w5 HC5.out.srel.blk HQB.out HXO.out.log0 HXO.out.log1 HXO.out.las0 HXO.out.las1 HO1.out.i0 HO1.out.i1 HO1.out.m0 HO1.out.m1)
                      cases hov : over s1.idle s1.most x s1.now
                      · skip
                        rw [hov] at HOv
                        have HOV := Aside0.mk hov
                        clear hov
                        go_upto_region 33 with (go_at_call 29; (with_reducible refine HOv.out.mono ?_); rintro r w6 ⟨rfl, m6, rfl⟩; clear HOv)
                        obtain ⟨w6, hw6⟩ : ∃ w6, w6 = w5.drewN m6 := ⟨_, rfl⟩
                        have HC6 := Aside0.mk (HC5.out.drewN m6)
                        have hqb6 : w6.heap[q.b]? = some (.cells (SesCells q.v x) 71 (0, 0)) := by rw [hw6]; exact HQB.out
                        rw [← hw6] at HC6 ⊢
                        have HDd := Aside0.mk hdd
                        clear hw6 HC5 p3 x6 q0 q1 q2 q3 f31 HQB HRow5 hdd
                        have HQB := Aside0.mk hqb6
                        clear hqb6
                        have p3 := blk_cell HC6.out.srel.blk 3
                        simp only [List.getElem?_toArray, List.getElem?_cons_zero, List.getElem?_cons_succ] at p3
                        have e0 := blk_cell HC6.out.ev 0
                        simp only [EvCells, List.getElem?_toArray, List.getElem?_cons_zero, List.getElem?_cons_succ] at e0
                        have x5 := blk_cell HQB.out 5
                        have x6 := blk_cell HQB.out 6
                        simp only [SesCells, List.getElem?_toArray, List.getElem?_cons_zero, List.getElem?_cons_succ] at x5 x6
                        have fx : ∀ j, w6.frozen? ⟨q.b, j, none⟩ = false := fun j => by simp [World.frozen?, HQB.out]
                        obtain ⟨x7, hx7⟩ : ∃ x7 : Ses, x7 = { x with last := s1.now } := ⟨_, rfl⟩
                        obtain ⟨w7, hw7⟩ : ∃ w7, w7 = w6.setCell ⟨q.b, 5, none⟩ (.int .i64 s1.now) := ⟨_, rfl⟩
                        have HC7 := Aside0.mk (HC6.out.set (i := i0) (x' := x7) (w' := w7) HQ.out HX.out (by rw [hx7]) (by rw [hx7, hw7]; exact Sets.set (Sets.first HQB.out) 5 (.int .i64 s1.now)))
                        have hx7i : (s1.list.set i0 x7)[i0]? = some x7 := List.getElem?_set_self (by rw [← HN1.out]; exact hil)
                        have HX7 := Aside0.mk (HC7.out.srel.rel.blk i0 q x7 HQ.out hx7i)
                        have HV7 := Aside0.mk (HC7.out.srel.rel.row i0 q x7 HQ.out hx7i)
                        have hxo7 : Ses.Ok m x7 := by rw [hx7]; exact ⟨HXO.out.ne, HXO.out.len, HXO.out.lev0, HXO.out.lev1, HXO.out.log0, HXO.out.log1, HO1.out.t0, HO1.out.t1⟩
                        have hxids : x7.ids ≠ [] := hxo7.ne
                        have hbase : step s e = (if e.kind = 3 then ({ s1 with n := s1.n + 1, list := s1.list.set i0 { x with last := s1.now, level := if x.level + 1 < 9 then x.level + 1 else 9, ids := x.ids ++ [s1.next] } }, ⟨0, s1.next, x.user, if x.level + 1 < 9 then x.level + 1 else 9⟩)
                            else if e.kind = 4 then ({ s1 with list := s1.list.set i0 { x with last := s1.now, dead := true } }, told x) else ({ s1 with list := s1.list.set i0 { x with last := s1.now } }, told x)) := by
                          rw [HSt.out]; unfold step2; simp only [if_neg HK.out.1, if_neg HK.out.2, HAt.out, HX.out]; rw [if_neg (by rw [HA.out, HD.out]; simp), if_neg (by rw [HDd.out]; simp), if_neg (by rw [HOV.out]; simp)]
                        have HBase := Aside0.mk hbase
                        have HXi := Aside0.mk hx7i
                        have HXO7 := Aside0.mk hxo7
                        have HDef := Aside0.mk hx7
                        clear hbase hx7i hx7 hxo7
                        by_cases hk3 : e.kind = 3
                        · have HK3 := Aside0.mk hk3
                          have hk3' : (e.kind == 3) = true := by simpa using hk3
                          clear hk3
                          go_upto_region 36 with (fail)
                          rw [← hw7]
                          clear hw7 HC6 HQB e0 p3 x5 x6 fx
                          have x3 := blk_cell HX7.out 3
                          simp only [SesCells, List.getElem?_toArray, List.getElem?_cons_zero, List.getElem?_cons_succ] at x3
                          have fx : ∀ j, w7.frozen? ⟨q.b, j, none⟩ = false := fun j => by simp [World.frozen?, HX7.out]
                          have hl0 := HXO7.out.lev0
                          have hl1 := HXO7.out.lev1
                          go_upto_region 37 with (fail)
                          obtain ⟨x8, hx8⟩ : ∃ x8 : Ses, x8 = { x7 with level := min 9 (x7.level + 1) } := ⟨_, rfl⟩
                          obtain ⟨w8, hw8⟩ : ∃ w8, w8 = w7.setCell ⟨q.b, 3, none⟩ (.int .i64 (min 9 (x7.level + 1))) := ⟨_, rfl⟩
                          have HC8 := Aside0.mk (HC7.out.set (i := i0) (x' := x8) (w' := w8) HQ.out HXi.out (by rw [hx8]) (by rw [hx8, hw8]; exact Sets.set (Sets.first HX7.out) 3 (.int .i64 (min 9 (x7.level + 1)))))
                          have hx8i : ((s1.list.set i0 x7).set i0 x8)[i0]? = some x8 := List.getElem?_set_self (by rw [List.length_set, ← HN1.out]; exact hil)
                          have HXi8 := Aside0.mk hx8i
                          have HDef8 := Aside0.mk hx8
                          have hO8 : St.Ok m { s1 with list := (s1.list.set i0 x7).set i0 x8 } := by
                            have h8 : Ses.Ok m x8 := by rw [hx8]; exact ⟨HXO7.out.ne, HXO7.out.len, by show 1 ≤ min 9 (x7.level + 1); omega, by show min 9 (x7.level + 1) ≤ 9; omega, HXO7.out.log0, HXO7.out.log1, HXO7.out.las0, HXO7.out.las1⟩
                            exact HO1.out.with_list (by simp) (fun y hy => by
                              rcases List.mem_or_eq_of_mem_set hy with hy | hy
                              · rcases List.mem_or_eq_of_mem_set hy with hy | hy
                                · exact HO1.out.all y hy
                                · rw [hy]; exact HXO7.out
                              · rw [hy]; exact h8)
                          have HO8 := Aside0.mk hO8
                          rw [← hw8]
                          clear hO8 hw8 hx8 hx8i HC7 HX7 HV7 x3 fx hl0 hl1
                          have x0 := blk_cell (HC8.out.srel.rel.blk i0 q x8 HQ.out HXi8.out) 0
                          simp only [SesCells, List.getElem?_toArray, List.getElem?_cons_zero, List.getElem?_cons_succ] at x0
                          have hn8 : x8.ids.length ≤ 200 := by have h1 := (HO8.out.all x8 (List.mem_of_getElem? HXi8.out)).len; omega
                          obtain ⟨i9, hi9, hz0, hz1, hz2⟩ := info_parts info_str
                          go_region_law
                            (first
                              | (refine step_append_lies _ rfl (.tmp 249) (.tmp 252) 69 rfl B 9 i9 (.string none_) 1 16 Tryd.underlying69 hi9 hz0 hz1 hz2 rfl (by decide) q.v x8.ids.length (encs Value.string x8.ids) rfl (HOw9.out.alloc _) ⟨w9.heap.size, 0, none⟩ 1 1 [.string (St.next { s1 with list := (s1.list.set i0 x7).set i0 x8 })] rfl rfl (one_at w9 _ _) (by intro u hu; simp at hu; subst hu; rfl) (by decide) (by simp only [maxLen]; omega) (by omega) (by simp; omega) (w9.heap.size + 1) (by simp) ?_; intro g9 cap9 w10 hown hgrow hat _; have HC10 := Aside0.mk (raise_alloc HC9.out HQ.out HXi8.out hown hgrow hat); have hX10 := raise_cell HC9.out HQ.out HXi8.out hgrow; have fx10 := raise_frozen HC9.out HQ.out HXi8.out hgrow; clear hown hgrow hat HC9 HOw9 hX0 hnw)
                              | (go_simp; go_at_call 55; (with_reducible refine ((HC8.out.below (below_drew (Below.refl _ _))).next_calls HO8.out hm HR1.out hB0 hc1 HT.out).mono ?_); rintro r w9 ⟨rfl, hC⟩; have hX0 : w9.cell? ⟨q.b, 0, none⟩ = some q.v := blk_cell (hC.srel.rel.blk i0 q x8 HQ.out HXi8.out) 0; have hs9 := hC.sz; have hnw : ∀ o, (w9.alloc o).cell? ⟨q.b, 0, none⟩ = some q.v := (fun o => (World.cell?_alloc_some w9 _ o (by rw [hX0]; rfl)).trans hX0); have HOw9 := Aside0.mk (Kd.own_of_R (hC.srel.rel.row i0 q x8 HQ.out HXi8.out)); have HC9 := Aside0.mk hC; clear hC))
                          · skip
                            obtain ⟨v9, hv9⟩ : ∃ v9 : Value, v9 = .slice (some ⟨g9, 0, none⟩) (x8.ids.length + 1) cap9 := ⟨_, rfl⟩
                            obtain ⟨x9, hx9⟩ : ∃ x9 : Ses, x9 = { x8 with ids := x8.ids ++ [s1.next] } := ⟨_, rfl⟩
                            rw [← hv9] at HC10 ⊢
                            obtain ⟨w11, hw11⟩ : ∃ w11, w11 = w10.setCell ⟨q.b, 0, none⟩ v9 := ⟨_, rfl⟩
                            have HC11 : Aside0 (CI B w0 w p A c R e g1 w11 { s1 with n := s1.n + 1, list := ((s1.list.set i0 x7).set i0 x8).set i0 x9 } (.slice (some ⟨g5, 0, none⟩) n1 cap5) (ps.set i0 ⟨q.b, v9⟩)) := by rw [hx9, hw11]; exact HC10
                            rw [← hw11]
                            have hq11 : (ps.set i0 ⟨q.b, v9⟩)[i0]? = some ⟨q.b, v9⟩ := List.getElem?_set_self (List.getElem?_eq_some_iff.1 HQ.out).1
                            have hx11 : (((s1.list.set i0 x7).set i0 x8).set i0 x9)[i0]? = some x9 := List.getElem?_set_self (List.getElem?_eq_some_iff.1 HXi8.out).1
                            have HX11 := Aside0.mk (HC11.out.srel.rel.blk i0 _ x9 hq11 hx11)
                            have HV11 := Aside0.mk (HC11.out.srel.rel.row i0 _ x9 hq11 hx11)
                            have hxids : x9.ids ≠ [] := by rw [hx9]; simp
                            have HDef9 := Aside0.mk hx9
                            clear hw11 hv9 hx9 hq11 hx11 HC10 hX10 fx10
                            go_upto_region 40 with (fail)
                            have x1 := blk_cell HX11.out 1
                            have x3 := blk_cell HX11.out 3
                            simp only [SesCells, List.getElem?_toArray, List.getElem?_cons_zero, List.getElem?_cons_succ] at x1 x3
                            have HID := Aside0.mk (id_calls (q.b) v9 x9 B w11.drew HX11.out (Kd.R_drew HV11.out) (by first | assumption | simp))
                            have hne := blk_ne HX11.out HC11.out.rp (by decide)
                            have f31 : ∀ j, w11.frozen? ⟨g1 + 1, j, none⟩ = false := fun j => by simp [World.frozen?, HC11.out.rp]
                            have q0 := blk_cell HC11.out.rp 0
                            have q1 := blk_cell HC11.out.rp 1
                            have q2 := blk_cell HC11.out.rp 2
                            have q3 := blk_cell HC11.out.rp 3
                            simp only [List.getElem?_toArray, List.getElem?_cons_zero, List.getElem?_cons_succ] at q0 q1 q2 q3
                            go_region_held3 (fun W => W.cell? ⟨q.b, 1, none⟩ = some (.string (x9.user)) ∧ W.cell? ⟨q.b, 3, none⟩ = some (.int .i64 (x9.level))) (first | exact ⟨x1, x3⟩ | exact ⟨far4 x1 hne, far4 x3 hne⟩ | go_keep)
                              (first | (go_at_call 30; (with_reducible refine HID.out.mono ?_); rintro r w8 ⟨rfl, m8, rfl⟩))
                            go_wp2_with fail
                            have hs := Sets.reply rfl ((Sets.first HC11.out.rp).drewN (1 + m8)) 0 (x9.level) (Ses.last_ x9) (x9.user)
                            refine end_do (.inl rfl) hs ?_ ?_ ?_
                            · rfl
                            · rfl
                            have hst : step s e = ({ s1 with n := s1.n + 1, list := ((s1.list.set i0 x7).set i0 x8).set i0 x9 }, ⟨0, x9.last_, x9.user, x9.level⟩) := by
                              have hl : x9.last_ = s1.next := by rw [HDef9.out]; exact last_snoc _ _
                              rw [HBase.out, if_pos HK3.out, List.set_set, List.set_set, hl, HDef9.out, HDef8.out, HDef.out]
                              simp only [min_lev]
                            rw [hst]
                            exact ⟨rfl, HC11.out.fin hs⟩
                          · skip
                            obtain ⟨v9, hv9⟩ : ∃ v9 : Value, v9 = .slice (some ⟨g9, 0, none⟩) (x8.ids.length + 1) cap9 := ⟨_, rfl⟩
                            obtain ⟨x9, hx9⟩ : ∃ x9 : Ses, x9 = { x8 with ids := x8.ids ++ [s1.next] } := ⟨_, rfl⟩
                            rw [← hv9] at HC10 ⊢
                            obtain ⟨w11, hw11⟩ : ∃ w11, w11 = w10.setCell ⟨q.b, 0, none⟩ v9 := ⟨_, rfl⟩
                            have HC11 : Aside0 (CI B w0 w p A c R e g1 w11 { s1 with n := s1.n + 1, list := ((s1.list.set i0 x7).set i0 x8).set i0 x9 } (.slice (some ⟨g5, 0, none⟩) n1 cap5) (ps.set i0 ⟨q.b, v9⟩)) := by rw [hx9, hw11]; exact HC10
                            rw [← hw11]
                            have hq11 : (ps.set i0 ⟨q.b, v9⟩)[i0]? = some ⟨q.b, v9⟩ := List.getElem?_set_self (List.getElem?_eq_some_iff.1 HQ.out).1
                            have hx11 : (((s1.list.set i0 x7).set i0 x8).set i0 x9)[i0]? = some x9 := List.getElem?_set_self (List.getElem?_eq_some_iff.1 HXi8.out).1
                            have HX11 := Aside0.mk (HC11.out.srel.rel.blk i0 _ x9 hq11 hx11)
                            have HV11 := Aside0.mk (HC11.out.srel.rel.row i0 _ x9 hq11 hx11)
                            have hxids : x9.ids ≠ [] := by rw [hx9]; simp
                            have HDef9 := Aside0.mk hx9
                            clear hw11 hv9 hx9 hq11 hx11 HC10 hX10 fx10
                            go_upto_region 40 with (fail)
                            have x1 := blk_cell HX11.out 1
                            have x3 := blk_cell HX11.out 3
                            simp only [SesCells, List.getElem?_toArray, List.getElem?_cons_zero, List.getElem?_cons_succ] at x1 x3
                            have HID := Aside0.mk (id_calls (q.b) v9 x9 B w11.drew HX11.out (Kd.R_drew HV11.out) (by first | assumption | simp))
                            have hne := blk_ne HX11.out HC11.out.rp (by decide)
                            have f31 : ∀ j, w11.frozen? ⟨g1 + 1, j, none⟩ = false := fun j => by simp [World.frozen?, HC11.out.rp]
                            have q0 := blk_cell HC11.out.rp 0
                            have q1 := blk_cell HC11.out.rp 1
                            have q2 := blk_cell HC11.out.rp 2
                            have q3 := blk_cell HC11.out.rp 3
                            simp only [List.getElem?_toArray, List.getElem?_cons_zero, List.getElem?_cons_succ] at q0 q1 q2 q3
                            go_region_held3 (fun W => W.cell? ⟨q.b, 1, none⟩ = some (.string (x9.user)) ∧ W.cell? ⟨q.b, 3, none⟩ = some (.int .i64 (x9.level))) (first | exact ⟨x1, x3⟩ | exact ⟨far4 x1 hne, far4 x3 hne⟩ | go_keep)
                              (first | (go_at_call 30; (with_reducible refine HID.out.mono ?_); rintro r w8 ⟨rfl, m8, rfl⟩))
                            go_wp2_with fail
                            have hs := Sets.reply rfl ((Sets.first HC11.out.rp).drewN (1 + m8)) 0 (x9.level) (Ses.last_ x9) (x9.user)
                            refine end_do (.inl rfl) hs ?_ ?_ ?_
                            · rfl
                            · rfl
                            have hst : step s e = ({ s1 with n := s1.n + 1, list := ((s1.list.set i0 x7).set i0 x8).set i0 x9 }, ⟨0, x9.last_, x9.user, x9.level⟩) := by
                              have hl : x9.last_ = s1.next := by rw [HDef9.out]; exact last_snoc _ _
                              rw [HBase.out, if_pos HK3.out, List.set_set, List.set_set, hl, HDef9.out, HDef8.out, HDef.out]
                              simp only [min_lev]
                            rw [hst]
                            exact ⟨rfl, HC11.out.fin hs⟩
                          · skip
                            obtain ⟨v9, hv9⟩ : ∃ v9 : Value, v9 = .slice (some ⟨g9, 0, none⟩) (x8.ids.length + 1) cap9 := ⟨_, rfl⟩
                            obtain ⟨x9, hx9⟩ : ∃ x9 : Ses, x9 = { x8 with ids := x8.ids ++ [s1.next] } := ⟨_, rfl⟩
                            rw [← hv9] at HC10 ⊢
                            obtain ⟨w11, hw11⟩ : ∃ w11, w11 = w10.setCell ⟨q.b, 0, none⟩ v9 := ⟨_, rfl⟩
                            have HC11 : Aside0 (CI B w0 w p A c R e g1 w11 { s1 with n := s1.n + 1, list := ((s1.list.set i0 x7).set i0 x8).set i0 x9 } (.slice (some ⟨g5, 0, none⟩) n1 cap5) (ps.set i0 ⟨q.b, v9⟩)) := by rw [hx9, hw11]; exact HC10
                            rw [← hw11]
                            have hq11 : (ps.set i0 ⟨q.b, v9⟩)[i0]? = some ⟨q.b, v9⟩ := List.getElem?_set_self (List.getElem?_eq_some_iff.1 HQ.out).1
                            have hx11 : (((s1.list.set i0 x7).set i0 x8).set i0 x9)[i0]? = some x9 := List.getElem?_set_self (List.getElem?_eq_some_iff.1 HXi8.out).1
                            have HX11 := Aside0.mk (HC11.out.srel.rel.blk i0 _ x9 hq11 hx11)
                            have HV11 := Aside0.mk (HC11.out.srel.rel.row i0 _ x9 hq11 hx11)
                            have hxids : x9.ids ≠ [] := by rw [hx9]; simp
                            have HDef9 := Aside0.mk hx9
                            clear hw11 hv9 hx9 hq11 hx11 HC10 hX10 fx10
                            go_upto_region 40 with (fail)
                            have x1 := blk_cell HX11.out 1
                            have x3 := blk_cell HX11.out 3
                            simp only [SesCells, List.getElem?_toArray, List.getElem?_cons_zero, List.getElem?_cons_succ] at x1 x3
                            have HID := Aside0.mk (id_calls (q.b) v9 x9 B w11.drew HX11.out (Kd.R_drew HV11.out) (by first | assumption | simp))
                            have hne := blk_ne HX11.out HC11.out.rp (by decide)
                            have f31 : ∀ j, w11.frozen? ⟨g1 + 1, j, none⟩ = false := fun j => by simp [World.frozen?, HC11.out.rp]
                            have q0 := blk_cell HC11.out.rp 0
                            have q1 := blk_cell HC11.out.rp 1
                            have q2 := blk_cell HC11.out.rp 2
                            have q3 := blk_cell HC11.out.rp 3
                            simp only [List.getElem?_toArray, List.getElem?_cons_zero, List.getElem?_cons_succ] at q0 q1 q2 q3
                            go_region_held3 (fun W => W.cell? ⟨q.b, 1, none⟩ = some (.string (x9.user)) ∧ W.cell? ⟨q.b, 3, none⟩ = some (.int .i64 (x9.level))) (first | exact ⟨x1, x3⟩ | exact ⟨far4 x1 hne, far4 x3 hne⟩ | go_keep)
                              (first | (go_at_call 30; (with_reducible refine HID.out.mono ?_); rintro r w8 ⟨rfl, m8, rfl⟩))
                            go_wp2_with fail
                            have hs := Sets.reply rfl ((Sets.first HC11.out.rp).drewN (1 + m8)) 0 (x9.level) (Ses.last_ x9) (x9.user)
                            refine end_do (.inl rfl) hs ?_ ?_ ?_
                            · rfl
                            · rfl
                            have hst : step s e = ({ s1 with n := s1.n + 1, list := ((s1.list.set i0 x7).set i0 x8).set i0 x9 }, ⟨0, x9.last_, x9.user, x9.level⟩) := by
                              have hl : x9.last_ = s1.next := by rw [HDef9.out]; exact last_snoc _ _
                              rw [HBase.out, if_pos HK3.out, List.set_set, List.set_set, hl, HDef9.out, HDef8.out, HDef.out]
                              simp only [min_lev]
                            rw [hst]
                            exact ⟨rfl, HC11.out.fin hs⟩
                        · have HK3 := Aside0.mk hk3
                          have hk3' : (e.kind == 3) = false := by simpa using hk3
                          clear hk3
                          by_cases hk4 : e.kind = 4
                          · have HK4 := Aside0.mk hk4
                            have hk4' : (e.kind == 4) = true := by simpa using hk4
                            clear hk4
                            go_upto_region 40 with (fail)
                            rw [← hw7]
                            obtain ⟨x8, hx8⟩ : ∃ x8 : Ses, x8 = { x7 with dead := true } := ⟨_, rfl⟩
                            obtain ⟨w8, hw8⟩ : ∃ w8, w8 = w7.setCell ⟨q.b, 6, none⟩ (.bool true) := ⟨_, rfl⟩
                            have HC8 := Aside0.mk (HC7.out.set (i := i0) (x' := x8) (w' := w8) HQ.out HXi.out (by rw [hx8]) (by rw [hx8, hw8]; exact Sets.set (Sets.first HX7.out) 6 (.bool true)))
                            have hx8i : ((s1.list.set i0 x7).set i0 x8)[i0]? = some x8 := List.getElem?_set_self (by rw [List.length_set, ← HN1.out]; exact hil)
                            have HX8 := Aside0.mk (HC8.out.srel.rel.blk i0 q x8 HQ.out hx8i)
                            have HV8 := Aside0.mk (HC8.out.srel.rel.row i0 q x8 HQ.out hx8i)
                            have hxids : x8.ids ≠ [] := by rw [hx8]; exact hxids
                            have HDef8 := Aside0.mk hx8
                            rw [← hw8]
                            clear hw7 hw8 hx8 HC6 HC7 HQB HX7 HV7 e0 p3 x5 x6 fx
                            have x1 := blk_cell HX8.out 1
                            have x3 := blk_cell HX8.out 3
                            simp only [SesCells, List.getElem?_toArray, List.getElem?_cons_zero, List.getElem?_cons_succ] at x1 x3
                            have HID := Aside0.mk (id_calls (q.b) q.v x8 B w8.drew HX8.out (Kd.R_drew HV8.out) (by first | assumption | simp))
                            have hne := blk_ne HX8.out HC8.out.rp (by decide)
                            have f31 : ∀ j, w8.frozen? ⟨g1 + 1, j, none⟩ = false := fun j => by simp [World.frozen?, HC8.out.rp]
                            have q0 := blk_cell HC8.out.rp 0
                            have q1 := blk_cell HC8.out.rp 1
                            have q2 := blk_cell HC8.out.rp 2
                            have q3 := blk_cell HC8.out.rp 3
                            simp only [List.getElem?_toArray, List.getElem?_cons_zero, List.getElem?_cons_succ] at q0 q1 q2 q3
                            go_region_held3 (fun W => W.cell? ⟨q.b, 1, none⟩ = some (.string (x8.user)) ∧ W.cell? ⟨q.b, 3, none⟩ = some (.int .i64 (x8.level))) (first | exact ⟨x1, x3⟩ | exact ⟨far4 x1 hne, far4 x3 hne⟩ | go_keep)
                              (first | (go_at_call 30; (with_reducible refine HID.out.mono ?_); rintro r w8 ⟨rfl, m8, rfl⟩))
                            go_wp2_with fail
                            have hs := Sets.reply rfl ((Sets.first HC8.out.rp).drewN (1 + m8)) 0 (x8.level) (Ses.last_ x8) (x8.user)
                            refine end_do (.inl rfl) hs ?_ ?_ ?_
                            · rfl
                            · rfl
                            have hst : step s e = ({ s1 with list := (s1.list.set i0 x7).set i0 x8 }, ⟨0, x8.last_, x8.user, x8.level⟩) := by
                              rw [HBase.out, if_neg HK3.out, if_pos HK4.out, List.set_set, HDef8.out, HDef.out]; rfl
                            rw [hst]
                            exact ⟨rfl, HC8.out.fin hs⟩
                          · have HK4 := Aside0.mk hk4
                            have hk4' : (e.kind == 4) = false := by simpa using hk4
                            clear hk4
                            go_upto_region 40 with (fail)
                            rw [← hw7]
                            clear hw7 HC6 HQB e0 p3 x5 x6 fx
                            have x1 := blk_cell HX7.out 1
                            have x3 := blk_cell HX7.out 3
                            simp only [SesCells, List.getElem?_toArray, List.getElem?_cons_zero, List.getElem?_cons_succ] at x1 x3
                            have HID := Aside0.mk (id_calls (q.b) q.v x7 B w7.drew HX7.out (Kd.R_drew HV7.out) (by first | assumption | simp))
                            have hne := blk_ne HX7.out HC7.out.rp (by decide)
                            have f31 : ∀ j, w7.frozen? ⟨g1 + 1, j, none⟩ = false := fun j => by simp [World.frozen?, HC7.out.rp]
                            have q0 := blk_cell HC7.out.rp 0
                            have q1 := blk_cell HC7.out.rp 1
                            have q2 := blk_cell HC7.out.rp 2
                            have q3 := blk_cell HC7.out.rp 3
                            simp only [List.getElem?_toArray, List.getElem?_cons_zero, List.getElem?_cons_succ] at q0 q1 q2 q3
                            go_region_held3 (fun W => W.cell? ⟨q.b, 1, none⟩ = some (.string (x7.user)) ∧ W.cell? ⟨q.b, 3, none⟩ = some (.int .i64 (x7.level))) (first | exact ⟨x1, x3⟩ | exact ⟨far4 x1 hne, far4 x3 hne⟩ | go_keep)
                              (first | (go_at_call 30; (with_reducible refine HID.out.mono ?_); rintro r w8 ⟨rfl, m8, rfl⟩))
                            go_wp2_with fail
                            have hs := Sets.reply rfl ((Sets.first HC7.out.rp).drewN (1 + m8)) 0 (x7.level) (Ses.last_ x7) (x7.user)
                            refine end_do (.inl rfl) hs ?_ ?_ ?_
                            · rfl
                            · rfl
                            have hst : step s e = ({ s1 with list := s1.list.set i0 x7 }, ⟨0, x7.last_, x7.user, x7.level⟩) := by
                              rw [HBase.out, if_neg HK3.out, if_neg HK4.out, HDef.out]; rfl
                            rw [hst]
                            exact ⟨rfl, HC7.out.fin hs⟩
                      · skip
                        rw [hov] at HOv
                        have HOV := Aside0.mk hov
                        clear hov
                        go_wp2_with (go_at_call 29; (with_reducible refine HOv.out.mono ?_); rintro r w6 ⟨rfl, m6, rfl⟩; clear HOv)
                        have hs := Sets.reply rfl ((Sets.first HC5.out.rp).drewN m6) 6 0 none_ none_
                        refine end_do (.inl rfl) hs ?_ ?_ ?_
                        · rfl
                        · rfl
                        have hst : step s e = (s1, err 6) := by
                          rw [HSt.out]; unfold step2; simp only [if_neg HK.out.1, if_neg HK.out.2, HAt.out, HX.out]; rw [if_neg (by rw [HA.out, HD.out]; simp), if_neg (by rw [hdd]; simp), if_pos HOV.out]
                        rw [hst]
                        exact ⟨rfl, HC5.out.fin hs⟩
                    · go_wp2_with fail
                      have hs := Sets.reply rfl (Sets.first HC5.out.rp) 5 0 none_ none_
                      refine end_do (.inl rfl) hs ?_ ?_ ?_
                      · rfl
                      · rfl
                      have hst : step s e = (s1, err 5) := by
                        rw [HSt.out]; unfold step2; simp only [if_neg HK.out.1, if_neg HK.out.2, HAt.out, HX.out]; rw [if_neg (by rw [HA.out, HD.out]; simp), if_pos hdd]
                      rw [hst]
                      exact ⟨rfl, HC5.out.fin hs⟩
                  · have hD2 : (x.device.toList == e.device.toList) = false := by simpa using hD
                    go_quiet ((go_at_call 30; exact Calls.quiet_of (HID.out _)))
                    obtain ⟨w5, hw2⟩ : ∃ w2, w2 = w4.drewN nq := ⟨_, rfl⟩
                    have HC5 := Aside0.mk (HC4.out.drewN nq)
                    rw [← hw2] at HC5 ⊢
                    clear hw2 HC4
                    have hqb := HC5.out.srel.rel.blk i0 q x HQ.out HX.out
                    have HRow5 := Aside0.mk (HC5.out.srel.rel.row i0 q x HQ.out HX.out)
                    clear HQB HRow HID e0 e3 e4 x2
                    have HQB := Aside0.mk hqb
                    clear hqb
                    have x6 := blk_cell HQB.out 6
                    simp only [SesCells, List.getElem?_toArray, List.getElem?_cons_zero, List.getElem?_cons_succ] at x6
                    have fx : ∀ j, w5.frozen? ⟨q.b, j, none⟩ = false := fun j => by simp [World.frozen?, HQB.out]
                    have f31 : ∀ j, w5.frozen? ⟨g1 + 1, j, none⟩ = false := fun j => by simp [World.frozen?, HC5.out.rp]
                    have q0 := blk_cell HC5.out.rp 0
                    have q1 := blk_cell HC5.out.rp 1
                    have q2 := blk_cell HC5.out.rp 2
                    have q3 := blk_cell HC5.out.rp 3
                    simp only [List.getElem?_toArray, List.getElem?_cons_zero, List.getElem?_cons_succ] at q0 q1 q2 q3
                    go_wp2_with fail
                    have HCk := Aside0.mk (HC5.out.set (i := i0) (x' := x.kill) HQ.out HX.out rfl (Sets.set (Sets.first HQB.out) 6 (.bool true)))
                    have hs := Sets.reply rfl (Sets.first HCk.out.rp) 4 0 none_ none_
                    refine end_do (.inl rfl) hs ?_ ?_ ?_
                    · rfl
                    · rfl
                    have hst : step s e = ({ s1 with list := s1.list.set i0 x.kill }, err 4) := by
                      rw [HSt.out]; unfold step2; simp only [if_neg HK.out.1, if_neg HK.out.2, HAt.out, HX.out]; rw [if_pos (by rw [hA, hD]; simp)]
                    rw [hst]
                    exact ⟨rfl, HCk.out.fin hs⟩
                · have hA2 : ¬ (x.last_.toList = e.id.toList) := by simpa using hA
                  have hA3 : (x.last_.toList == e.id.toList) = false := by simpa using hA
                  go_quiet ((go_at_call 30; exact Calls.quiet_of (HID.out _)))
                  obtain ⟨w5, hw2⟩ : ∃ w2, w2 = w4.drewN nq := ⟨_, rfl⟩
                  have HC5 := Aside0.mk (HC4.out.drewN nq)
                  rw [← hw2] at HC5 ⊢
                  clear hw2 HC4
                  have hqb := HC5.out.srel.rel.blk i0 q x HQ.out HX.out
                  have HRow5 := Aside0.mk (HC5.out.srel.rel.row i0 q x HQ.out HX.out)
                  clear HQB HRow HID e0 e3 e4 x2
                  have HQB := Aside0.mk hqb
                  clear hqb
                  have x6 := blk_cell HQB.out 6
                  simp only [SesCells, List.getElem?_toArray, List.getElem?_cons_zero, List.getElem?_cons_succ] at x6
                  have fx : ∀ j, w5.frozen? ⟨q.b, j, none⟩ = false := fun j => by simp [World.frozen?, HQB.out]
                  have f31 : ∀ j, w5.frozen? ⟨g1 + 1, j, none⟩ = false := fun j => by simp [World.frozen?, HC5.out.rp]
                  have q0 := blk_cell HC5.out.rp 0
                  have q1 := blk_cell HC5.out.rp 1
                  have q2 := blk_cell HC5.out.rp 2
                  have q3 := blk_cell HC5.out.rp 3
                  simp only [List.getElem?_toArray, List.getElem?_cons_zero, List.getElem?_cons_succ] at q0 q1 q2 q3
                  go_wp2_with fail
                  have HCk := Aside0.mk (HC5.out.set (i := i0) (x' := x.kill) HQ.out HX.out rfl (Sets.set (Sets.first HQB.out) 6 (.bool true)))
                  have hs := Sets.reply rfl (Sets.first HCk.out.rp) 4 0 none_ none_
                  refine end_do (.inl rfl) hs ?_ ?_ ?_
                  · rfl
                  · rfl
                  have hst : step s e = ({ s1 with list := s1.list.set i0 x.kill }, err 4) := by
                    rw [HSt.out]; unfold step2; simp only [if_neg HK.out.1, if_neg HK.out.2, HAt.out, HX.out]; rw [if_pos (by rw [hA]; simp)]
                  rw [hst]
                  exact ⟨rfl, HCk.out.fin hs⟩
        · skip
          have f31 : ∀ j, wc.frozen? ⟨g1 + 1, j, none⟩ = false := fun j => by simp [World.frozen?, HC.out.rp]
          have q0 := blk_cell HC.out.rp 0
          have q1 := blk_cell HC.out.rp 1
          have q2 := blk_cell HC.out.rp 2
          have q3 := blk_cell HC.out.rp 3
          simp only [List.getElem?_toArray, List.getElem?_cons_zero, List.getElem?_cons_succ] at q0 q1 q2 q3
          go_wp2_with fail
          have hs := Sets.reply rfl (Sets.first HC.out.rp) 1 0 none_ none_
          refine end_do (.inl rfl) hs ?_ ?_ ?_
          · rfl
          · rfl
          have hst : step s e = (s, err 1) := by unfold step; rw [hbad, if_pos rfl]
          rw [hst]
          exact ⟨rfl, HC.out.fin hs⟩
end Go.Proofs.YtpfjboioeidecaaDoor.HS
end
section
namespace Go.Proofs.YtpfjboioeidecaaDoor.HS
open Go.RowKit Go.Proofs.YtpfjboioeidecaaDoorW.PrintWords Go.Proofs.YtpfjboioeidecaaDoor.HP Go.Proofs.YtpfjboioeidecaaDoor.HDig
theorem Ses.Ok.mono {m n : Nat} {x : Ses} (h : x.Ok m) (hm : m ≤ n) : x.Ok n := ⟨h.ne, Nat.le_trans h.len hm, h.lev0, h.lev1, h.log0, h.log1, h.las0, h.las1⟩
theorem St.Ok.mono {m n : Nat} {s : St} (h : s.Ok m) (hm : m ≤ n) : s.Ok n :=
  ⟨h.key, h.keyl, h.i0, h.i1, h.m0, h.m1, h.t0, h.t1, h.n0, by have := h.n1; omega, Nat.le_trans h.len hm, fun x hx => (h.all x hx).mono hm⟩
theorem St.Ok.set {m : Nat} {s : St} (h : s.Ok m) {i : Nat} {x : Ses} (hx : x.Ok m) : St.Ok m { s with list := s.list.set i x } :=
  h.with_list (by simp) (fun y hy => by
    rcases List.mem_or_eq_of_mem_set hy with h1 | h1
    · exact h.all y h1
    · rw [h1]; exact hx)
theorem lev_in (a : Int) (h : 1 ≤ a) : 1 ≤ (if a + 1 < 9 then a + 1 else 9) ∧ (if a + 1 < 9 then a + 1 else 9) ≤ 9 := by split <;> omega
theorem step2_ok {m : Nat} {s : St} (h : s.Ok m) (e : Ev) : (step2 s e).1.Ok (m + 1) := by
  have hM := h.mono (Nat.le_succ m)
  unfold step2
  split
  · refine ⟨h.key, h.keyl, h.i0, h.i1, h.m0, h.m1, h.t0, h.t1, ?_, ?_, ?_, ?_⟩
    · have := h.n0; show 0 ≤ s.n + 1; omega
    · have := h.n1; show s.n + 1 ≤ ((m + 1 : Nat) : Int); omega
    · have := h.len; show (s.list ++ _).length ≤ m + 1; simp; omega
    · intro x hx
      rcases List.mem_append.1 hx with h1 | h1
      · exact (h.all x h1).mono (Nat.le_succ m)
      · rw [List.mem_singleton] at h1
        rw [h1]
        have := h.t0
        have := h.t1
        exact ⟨by simp, by simp, by show (1 : Int) ≤ 1; omega, by show (1 : Int) ≤ 9; omega, h.t0, h.t1, h.t0, h.t1⟩
  · split
    · exact hM.with_list (by simp) (fun y hy => by
        obtain ⟨z, hz, rfl⟩ := List.mem_map.1 hy
        have := hM.all z hz
        exact ⟨this.ne, this.len, this.lev0, this.lev1, this.log0, this.log1, this.las0, this.las1⟩)
    · split
      · exact hM
      · rename_i i hi
        split
        · exact hM
        · rename_i x hx
          have hxo := h.all x (List.mem_of_getElem? hx)
          have hxm := hxo.mono (Nat.le_succ m)
          split
          · exact hM.set ⟨hxm.ne, hxm.len, hxm.lev0, hxm.lev1, hxm.log0, hxm.log1, hxm.las0, hxm.las1⟩
          · split
            · exact hM
            · split
              · exact hM
              · split
                · have hs : St.Ok (m + 1) { s with n := s.n + 1 } := ⟨h.key, h.keyl, h.i0, h.i1, h.m0, h.m1, h.t0, h.t1, by have := h.n0; show 0 ≤ s.n + 1; omega, by have := h.n1; show s.n + 1 ≤ ((m + 1 : Nat) : Int); omega, hM.len, hM.all⟩
                  refine hs.set (i := i) (x := { x with last := s.now, level := if x.level + 1 < 9 then x.level + 1 else 9, ids := x.ids ++ [s.next] }) ⟨by simp, by have := hxo.len; simp; omega, ?_, ?_, hxm.log0, hxm.log1, h.t0, h.t1⟩
                  · exact (lev_in x.level hxo.lev0).1
                  · exact (lev_in x.level hxo.lev0).2
                · split
                  · exact hM.set ⟨hxm.ne, hxm.len, hxm.lev0, hxm.lev1, hxm.log0, hxm.log1, h.t0, h.t1⟩
                  · exact hM.set ⟨hxm.ne, hxm.len, hxm.lev0, hxm.lev1, hxm.log0, hxm.log1, h.t0, h.t1⟩
theorem step_ok {m : Nat} {s : St} (h : s.Ok m) (e : Ev) : (step s e).1.Ok (m + 1) := by
  unfold step
  cases hb : bad e
  · rw [if_neg (by simp)]
    split
    · exact h.mono (Nat.le_succ m)
    · obtain ⟨_, _, h3, h4⟩ := bad_false hb
      exact step2_ok (h.at_time h3 h4) e
  · rw [if_pos rfl]; exact h.mono (Nat.le_succ m)
theorem steps_ok_at {m : Nat} {s : St} (h : s.Ok m) (l : List Ev) : (steps s l).1.Ok (m + l.length) := by
  induction l generalizing s m with
  | nil => exact h
  | cons e l ih =>
    have := ih (step_ok h e)
    simp only [steps, List.length_cons]
    rw [show m + (l.length + 1) = m + 1 + l.length by omega]
    exact this
theorem steps_ok {s : St} (h : s.Ok 0) (l : List Ev) : (steps s l).1.Ok l.length := by
  have := steps_ok_at h l
  rwa [Nat.zero_add] at this
structure Same (s t : St) : Prop where
  key : t.key = s.key
  idle : t.idle = s.idle
  most : t.most = s.most
theorem step2_same (s : St) (e : Ev) : Same s (step2 s e).1 := by
  unfold step2
  split
  · exact ⟨rfl, rfl, rfl⟩
  · split
    · exact ⟨rfl, rfl, rfl⟩
    · split
      · exact ⟨rfl, rfl, rfl⟩
      · split
        · exact ⟨rfl, rfl, rfl⟩
        · split
          · exact ⟨rfl, rfl, rfl⟩
          · split
            · exact ⟨rfl, rfl, rfl⟩
            · split
              · exact ⟨rfl, rfl, rfl⟩
              · split
                · exact ⟨rfl, rfl, rfl⟩
                · split
                  · exact ⟨rfl, rfl, rfl⟩
                  · exact ⟨rfl, rfl, rfl⟩
theorem step_same (s : St) (e : Ev) : Same s (step s e).1 := by
  unfold step
  split
  · exact ⟨rfl, rfl, rfl⟩
  · split
    · exact ⟨rfl, rfl, rfl⟩
    · have := step2_same { s with now := e.time } e
      exact ⟨this.key, this.idle, this.most⟩
theorem steps_same (s : St) (l : List Ev) : Same s (steps s l).1 := by
  induction l generalizing s with
  | nil => exact ⟨rfl, rfl, rfl⟩
  | cons e l ih =>
    have h1 := step_same s e
    have h2 := ih (step s e).1
    exact ⟨h2.key.trans h1.key, h2.idle.trans h1.idle, h2.most.trans h1.most⟩
theorem steps_key (s : St) (l : List Ev) : (steps s l).1.key = s.key := (steps_same s l).key
end Go.Proofs.YtpfjboioeidecaaDoor.HS
end
section
namespace Go.Proofs.YtpfjboioeidecaaDoor.HS
open Go.RowKit Go.Proofs.YtpfjboioeidecaaDoorW.PrintWords Go.Proofs.YtpfjboioeidecaaDoorW.PrintLast Go.Proofs.YtpfjboioeidecaaDoor.HP Go.Proofs.YtpfjboioeidecaaDoor.HDig
def start (key : List Int) (idle most : Int) : St := ⟨key, idle, most, 0, 0, []⟩
theorem start_ok {key : List Int} {idle most : Int} (h : conf key.length idle most = true) (hk : Byt key) : (start key idle most).Ok 0 := by
  unfold conf at h
  simp only [Bool.and_eq_true, decide_eq_true_eq] at h
  exact ⟨hk, by show key.length ≤ 64; omega, by show 1 ≤ idle; omega, by show idle ≤ 1000000; omega, by show 1 ≤ most; omega, by show most ≤ 1000000; omega, by show (0 : Int) ≤ 0; omega, by show (0 : Int) ≤ 100000000000; omega, by show (0 : Int) ≤ 0; omega, by show (0 : Int) ≤ ((0 : Nat) : Int); omega, by show 0 ≤ 0; omega, fun x hx => by cases hx⟩
def Run (B : Nat) (w0 w : World) (p : Nat) (A : Option Addr) (c : Nat) (s : St) (rs : List Rp) : Prop :=
  ∃ R L ps, SRel B w p A c R s L ps ∧ w.ownsRow B 31 4 R rs.length (rpCells rs) ∧ Below B w0 w
theorem SRel.put {B : Nat} {w0 w9 w10 : World} {p : Nat} {A : Option Addr} {c : Nat} {R v' : Value} {s : St} {L : Value} {ps : List Pl} {n m : Nat} {xs ys : List Value} {o : Obj}
    (hS : SRel B w9 p A c R s L ps) (hO : w9.ownsRow B 31 4 R n xs) (hb : Below B w0 w9) (hB : B ≤ w9.heap.size) (hown : w10.ownsRow B 31 4 v' m ys) (hg : (w9.alloc o).grownBy w10 R.ownBlock) :
    SRel B (w10.setCell ⟨p, 6, none⟩ v') p A c v' s L ps ∧ (w10.setCell ⟨p, 6, none⟩ v').ownsRow B 31 4 v' m ys ∧ Below B w0 (w10.setCell ⟨p, 6, none⟩ v') := by
  have hg2 : w9.grownBy w10 R.ownBlock := World.grownBy.trans (World.grownBy_alloc w9 _ _) hg
  have hk : ∀ (k : Nat) (cells : Array Value) (t : Nat), w9.heap[k]? = some (.cells cells t (0, 0)) → t ≠ 31 → w10.heap[k]? = w9.heap[k]? := fun k cells t hc ht =>
    (grown_keep hO hg2 hc ht).trans hc.symm
  have hp := (hk _ _ _ hS.blk (by decide)).trans hS.blk
  have hs : Sets w10 (w10.setCell ⟨p, 6, none⟩ v') p (.cells #[.slice A s.key.length c, .int .i64 s.idle, .int .i64 s.most, .int .i64 s.now, .int .i64 s.n, L, v'] 63 (0, 0)) := by
    simpa using (Sets.first hp).set 6 v'
  have hL : LRel w10 B ps s.list := hS.rel.keep (fun k cells hc => hk k cells _ hc (by decide)) (fun k cells hc => hk k cells _ hc (by decide))
  have hOwn : w10.ownsRow B 68 1 L s.list.length (ps.map ptr) := own_move hS.own (fun k hk1 => by
    obtain ⟨cells, hc⟩ := own_typed hS.own k hk1
    exact hk k cells _ hc (by decide))
  refine ⟨⟨hs.at_, hS.base, own_sets hOwn hs hp (by decide), hL.sets hs hp (by decide) (by decide)⟩, own_sets hown hs hp (by decide), ?_⟩
  exact hs.below (hb.grown hg2 hB (fun k hk1 => (hO.lt k hk1).1)) hS.base
theorem take_snoc {α : Type} {l : List α} {k : Nat} {e : α} (h : l[k]? = some e) : l.take (k + 1) = l.take k ++ [e] := by
  obtain ⟨hl, rfl⟩ := List.getElem?_eq_some_iff.1 h
  exact List.take_succ_eq_append_getElem hl
theorem steps_snoc (s : St) (l : List Ev) (e : Ev) : steps s (l ++ [e]) = ((step (steps s l).1 e).1, (steps s l).2 ++ [(step (steps s l).1 e).2]) := by
  induction l generalizing s with
  | nil => rfl
  | cons a l ih => simp [steps, ih]
theorem steps_len (s : St) (l : List Ev) : (steps s l).2.length = l.length := by
  induction l generalizing s with
  | nil => rfl
  | cons e l ih => simp [steps, ih]
theorem four_at (w : World) (a b c d : Value) (e : TypeId) : ∀ j u, ([a, b, c, d] : List Value)[j]? = some u → (w.alloc (.cells #[a, b, c, d] e)).cell? ((⟨w.heap.size, 0, none⟩ : Addr).add j) = some u := by
  intro j u hj
  match j, hj with
  | 0, hj => simp at hj; subst hj; simp [Addr.add]
  | 1, hj => simp at hj; subst hj; simp [Addr.add]
  | 2, hj => simp at hj; subst hj; simp [Addr.add]
  | 3, hj => simp at hj; subst hj; simp [Addr.add]
theorem put_keep {B : Nat} {w9 w10 : World} {p : Nat} {A : Option Addr} {c : Nat} {R : Value} {s : St} {L : Value} {ps : List Pl} {n : Nat} {xs : List Value} {o : Obj}
    (hS : SRel B w9 p A c R s L ps) (hO : w9.ownsRow B 31 4 R n xs) (hg : (w9.alloc o).grownBy w10 R.ownBlock) : w10.heap[p]? = some (.cells #[.slice A s.key.length c, .int .i64 s.idle, .int .i64 s.most, .int .i64 s.now, .int .i64 s.n, L, R] 63 (0, 0)) :=
  grown_keep hO (World.grownBy.trans (World.grownBy_alloc w9 _ _) hg) hS.blk (by decide)
theorem put_cell {B : Nat} {w9 w10 : World} {p : Nat} {A : Option Addr} {c : Nat} {R : Value} {s : St} {L : Value} {ps : List Pl} {n : Nat} {xs : List Value} {o : Obj}
    (hS : SRel B w9 p A c R s L ps) (hO : w9.ownsRow B 31 4 R n xs) (hg : (w9.alloc o).grownBy w10 R.ownBlock) : w10.cell? ⟨p, 6, none⟩ = some R := blk_cell (put_keep hS hO hg) 6
theorem put_frozen {B : Nat} {w9 w10 : World} {p : Nat} {A : Option Addr} {c : Nat} {R : Value} {s : St} {L : Value} {ps : List Pl} {n : Nat} {xs : List Value} {o : Obj}
    (hS : SRel B w9 p A c R s L ps) (hO : w9.ownsRow B 31 4 R n xs) (hg : (w9.alloc o).grownBy w10 R.ownBlock) : ∀ j, w10.frozen? ⟨p, j, none⟩ = false := fun j => by
  simp [World.frozen?, put_keep hS hO hg]
set_option maxHeartbeats 8000000 in
set_option maxRecDepth 100000 in
theorem yrun_calls (w : World) (A : Option Addr) (c : Nat) (key : List Int) (idle most : Int) (AE : Option Addr) (cE : Nat) (evs : List Ev)
    (hr : Kd.C (Kd.int .u8) w A key.length key) (hc : key.length ≤ c) (hk : Byt key) (hev : Kd.C kEv w AE evs.length evs) (hcE : evs.length ≤ cE) (hT : Tabs w)
    (hsz : ∀ e ∈ evs, e.user.size ≤ 140737488351232 ∧ e.device.size ≤ 140737488351232) (hg : conf key.length idle most = true) (hn : evs.length ≤ 200) :
    Calls Tryd.prog 26 #[.agg #[.slice A key.length c, .int .i64 idle, .int .i64 most], .slice AE evs.length cE] w fun r w' =>
      ∃ p, r = .returned (.tuple #[.pointer (some ⟨p, 0, none⟩), .bool true]) ∧ Run w.heap.size w w' p A c (steps (start key idle most) evs).1 (steps (start key idle most) evs).2 := by
  have HR := Aside0.mk hr
  have HE := Aside0.mk hev
  have HT := Aside0.mk hT
  have HG := Aside0.mk (conf_calls A key.length c idle most)
  have hkl : key.length ≤ 9223372036854775807 := Kd.C_max hr
  clear hr hev hT
  rw [hg] at HG
  go_enter Tryd.func26, Tryd.ntmps26
  go_wp2_with (go_at_call 49; (with_reducible refine (HG.out _ hkl).mono ?_); rintro r w1 ⟨rfl, o1, rfl⟩; clear HG)
  obtain ⟨B, hB⟩ : ∃ B, B = w.heap.size := ⟨_, rfl⟩
  obtain ⟨p, hp⟩ : ∃ p, p = w.heap.size + 1 + 1 := ⟨_, rfl⟩
  obtain ⟨s0, hs0⟩ : ∃ s0, s0 = start key idle most := ⟨_, rfl⟩
  obtain ⟨wl, hwl⟩ : ∃ wl, wl = ((w.alloc (.cells #[.slice A key.length c, .int .i64 idle, .int .i64 most] 24)).alloc o1).alloc (.cells #[.slice A key.length c, .int .i64 idle, .int .i64 most, .int .i64 0, .int .i64 0, .slice none 0 0, .slice none 0 0] 63) := ⟨_, rfl⟩
  have hrun : Run B w wl p A c s0 [] := by
    refine ⟨.slice none 0 0, .slice none 0 0, [], ⟨?_, by omega, ?_, ?_⟩, ?_, ?_⟩
    · rw [hwl, hp, hs0]
      have := blk_new ((w.alloc (.cells #[.slice A key.length c, .int .i64 idle, .int .i64 most] 24)).alloc o1) (.cells #[.slice A key.length c, .int .i64 idle, .int .i64 most, .int .i64 0, .int .i64 0, .slice none 0 0, .slice none 0 0] 63)
      simpa [start] using this
    · rw [hs0]; exact ⟨rfl, .inl ⟨rfl, rfl⟩⟩
    · rw [hs0]
      exact ⟨rfl, by simp, by simp, by simp, by simp⟩
    · exact ⟨rfl, .inl ⟨rfl, rfl⟩⟩
    · rw [hwl, hB]
      exact (((Below.refl _ _).alloc (Nat.le_refl _) _).alloc (by simp) _).alloc (by simp; omega) _
  have HRun := Aside0.mk hrun
  have HS0 := Aside0.mk hs0
  obtain ⟨n, hnn⟩ : ∃ n, n = evs.length := ⟨_, rfl⟩
  have HN := Aside0.mk hnn
  rw [← hwl, ← hp, ← hB, ← hnn]
  rw [← hnn] at hcE hn HE
  have HBe := Aside0.mk hB
  clear hwl hrun hs0 hnn hp hB
  go_loopw [22] (fun i wr => ∃ k : Nat, k ≤ n ∧ i = .int .i64 k ∧ Aside0 (Run B w wr p A c (steps s0 (evs.take k)).1 (steps s0 (evs.take k)).2)) (fun i _ => n - (intOf i).toNat)
  case atStart => exact ⟨0, Nat.zero_le _, rfl, HRun⟩
  case round =>
    clear HRun
    obtain ⟨k, hkn, rfl, HRun⟩ := hrel
    by_cases hlt : k < n
    · obtain ⟨e, he⟩ : ∃ e, evs[k]? = some e := ⟨_, List.getElem?_eq_getElem (by rw [← HN.out]; exact hlt)⟩
      obtain ⟨R, L, ps, hS, hO, hBl⟩ := HRun.out
      obtain ⟨ad, rfl, e0, e1, e2, e3, e4⟩ := ev_at (Kd.C_below HE.out (hBl.mono (Nat.le_of_eq HBe.out.symm))) he hlt
      have HSr := Aside0.mk hS
      have HOr := Aside0.mk hO
      have HBl := Aside0.mk hBl
      have HEv := Aside0.mk he
      clear hS hO hBl he
      go_upto_region 7 with (fail)
      obtain ⟨s1, hs1⟩ : ∃ s1, s1 = (steps s0 (evs.take k)).1 := ⟨_, rfl⟩
      obtain ⟨rs, hrs⟩ : ∃ rs, rs = (steps s0 (evs.take k)).2 := ⟨_, rfl⟩
      rw [← hs1] at HSr
      rw [← hrs] at HOr
      obtain ⟨w1, hw1⟩ : ∃ w1, w1 = wr.alloc (.cells (EvCells e) 34) := ⟨_, rfl⟩
      obtain ⟨g8, hg8⟩ : ∃ g8, g8 = wr.heap.size := ⟨_, rfl⟩
      have hb1 : Below wr.heap.size wr w1 := by rw [hw1]; exact (Below.refl _ _).alloc (Nat.le_refl _) _
      have hev : w1.heap[g8]? = some (.cells (EvCells e) 34 (0, 0)) := by rw [hw1, hg8]; exact blk_new _ _
      have HS1 := Aside0.mk (HSr.out.below hb1)
      have HO1 := Aside0.mk (own_move HOr.out (fun k hk => hb1.block k (HOr.out.lt k hk).2))
      have hB1 : B ≤ w1.heap.size := by have := HBl.out.size; have := hb1.size; have := HBe.out; omega
      have hBr : B ≤ wr.heap.size := by have := HBl.out.size; have := HBe.out; omega
      have HB1 := Aside0.mk (HBl.out.trans (hb1.mono hBr))
      have HEV := Aside0.mk hev
      have hok : s1.Ok k := by
        rw [hs1]
        have := steps_ok (start_ok hg hk) (evs.take k)
        rw [HS0.out]
        simpa [Nat.min_eq_left (show k ≤ evs.length by rw [← HN.out]; exact hkn)] using this
      have hkey : s1.key = key := by rw [hs1, HS0.out]; exact steps_key _ _
      obtain ⟨hu, hd⟩ := hsz e (List.mem_of_getElem? HEv.out)
      obtain ⟨rp, hrp⟩ : ∃ rp, rp = (step s1 e).2 := ⟨_, rfl⟩
      obtain ⟨s2, hs2⟩ : ∃ s2, s2 = (step s1 e).1 := ⟨_, rfl⟩
      have hdo := do_calls B w w1.drew p A c R s1 L ps e k (HS1.out.below (below_drew (Below.refl _ _))) hok (by omega) (HB1.out.trans ((below_drew (Below.refl _ _)).mono hB1)) (Nat.le_of_eq HBe.out.symm) hB1 (by rw [hkey]; exact HR.out) (by rw [hkey]; exact hc) HT.out hu hd
      rw [← hrp, ← hs2] at hdo
      have HDo := Aside0.mk (show Calls Tryd.prog 50 #[.pointer (some ⟨p, 0, none⟩), .agg #[.int .i64 e.kind, .int .i64 e.time, .string e.user, .string e.device, .string e.id]] w1.drew fun r w' => r = .returned (.agg #[.int .i64 rp.err, .string rp.id, .string rp.user, .int .i64 rp.level]) ∧
        ∃ L' ps', SRel B w' p A c R s2 L' ps' ∧ Below B w w' ∧ Kt w1.drew w' from hdo)
      clear hdo
      have p6 := blk_cell HS1.out.blk 6
      have d0 := blk_cell HEV.out 0
      have d1 := blk_cell HEV.out 1
      have d2 := blk_cell HEV.out 2
      have d3 := blk_cell HEV.out 3
      have d4 := blk_cell HEV.out 4
      simp only [EvCells, List.getElem?_toArray, List.getElem?_cons_zero, List.getElem?_cons_succ] at p6 d0 d1 d2 d3 d4
      have hw1' : w1 = wr.alloc (.cells #[.int .i64 e.kind, .int .i64 e.time, .string e.user, .string e.device, .string e.id] 34) := hw1
      have hrl : rs.length ≤ 200 := by rw [hrs]; have := steps_len s0 (evs.take k); simp at this; omega
      have HS1d := Aside0.mk hs1
      have HRs := Aside0.mk hrs
      have HS2 := Aside0.mk hs2
      have HRp := Aside0.mk hrp
      obtain ⟨i9, hi9, hz0, hz1, hz2⟩ := info_parts info_rp
      rw [← hw1', ← hg8]
      clear hw1 hw1' hg8 hev hb1 hs1 hrs hs2 hrp e0 e1 e2 e3 e4 hok hkey hu hd HSr HOr hBr HRun
      go_region_law
        (first
          | (refine step_append_lies _ rfl (.tmp 30) (.tmp 34) 28 rfl B 31 i9 (.agg #[.int .i64 0, .string none_, .string none_, .int .i64 0]) 4 48 Tryd.underlying28 hi9 hz0 hz1 hz2 rfl (by decide) R rs.length (rpCells rs) rfl (HO9.out.alloc _) ⟨w9.heap.size, 0, none⟩ 1 1 [.int .i64 rp.err, .string rp.id, .string rp.user, .int .i64 rp.level] rfl rfl (four_at w9 _ _ _ _ _) (by intro u hu; simp at hu; rcases hu with rfl | rfl | rfl | rfl <;> rfl) (by decide) (by simp only [maxLen]; omega) (by omega) (by simp; omega) (w9.heap.size + 1) (by simp) ?_; intro g9 cap9 w10 hown hgrow hat _; have HP := Aside0.mk (HS9.out.put HO9.out HB9.out hB9 hown hgrow); have hX10 := put_cell HS9.out HO9.out hgrow; have fx10 := put_frozen HS9.out HO9.out hgrow; clear hown hgrow hat HS9 HO9 HB9 hX0 hnw)
          | (go_simp; go_at_call 50; (with_reducible refine HDo.out.mono ?_); rintro r w9 ⟨rfl, L9, ps9, hS9, hb9, hkt⟩; have hX0 : w9.cell? ⟨p, 6, none⟩ = some R := blk_cell hS9.blk 6; have hB9 : B ≤ w9.heap.size := (by have := hb9.size; have := HBe.out; omega); have hnw : ∀ o, (w9.alloc o).cell? ⟨p, 6, none⟩ = some R := (fun o => (World.cell?_alloc_some w9 _ o (by rw [hX0]; rfl)).trans hX0); have HO9 := Aside0.mk (own_move HO1.out (fun k hk => by obtain ⟨cells, hc⟩ := own_typed HO1.out k hk; exact hkt.blk k cells hc)); have HS9 := Aside0.mk hS9; have HB9 := Aside0.mk hb9; clear hS9 hb9 hkt))
      all_goals
        go_wp2_with fail
        go_roundw
        case rel =>
          refine ⟨k + 1, by omega, by go_num, ⟨?_⟩⟩
          rw [take_snoc HEv.out, steps_snoc, ← HS1d.out, ← HRs.out, ← HS2.out, ← HRp.out]
          obtain ⟨h1, h2, h3⟩ := HP.out
          exact ⟨_, _, _, h1, by simpa [rpCells, RpCells] using h2, h3⟩
        case measure => simp [intOf]; omega
    · obtain rfl : k = n := by omega
      have HRun2 : Aside0 (Run B w wr p A c (steps s0 evs).1 (steps s0 evs).2) := by
        have h := HRun
        rw [List.take_of_length_le (by rw [← HN.out]; exact Nat.le_refl _)] at h
        exact h
      clear HRun
      go_wp2_with fail
      go_ret2
      rw [HS0.out] at HRun2
      rw [← HBe.out]
      exact ⟨p, rfl, HRun2.out⟩
set_option maxHeartbeats 2000000 in
set_option maxRecDepth 100000 in
theorem yrun_bad (w : World) (A : Option Addr) (n c : Nat) (idle most : Int) (AE : Option Addr) (m cE : Nat) (hn : n ≤ 9223372036854775807) (hm : m ≤ 9223372036854775807)
    (hg : conf n idle most = false ∨ 200 < m) :
    Calls Tryd.prog 26 #[.agg #[.slice A n c, .int .i64 idle, .int .i64 most], .slice AE m cE] w fun r w' =>
      r = .returned (.tuple #[.pointer none, .bool false]) ∧ Below w.heap.size w w' := by
  have HG := Aside0.mk (conf_calls A n c idle most)
  cases hc : conf n idle most
  · rw [hc] at HG
    clear hg hc
    go_enter Tryd.func26, Tryd.ntmps26
    go_wp2_with (go_at_call 49; (with_reducible refine (HG.out _ hn).mono ?_); rintro r w1 ⟨rfl, o1, rfl⟩; clear HG)
    go_ret2
    exact ⟨rfl, ((Below.refl _ _).alloc (Nat.le_refl _) _).alloc (by simp) _⟩
  · have hm2 : 200 < m := by
      rcases hg with h | h
      · rw [hc] at h; cases h
      · exact h
    rw [hc] at HG
    clear hg hc
    go_enter Tryd.func26, Tryd.ntmps26
    go_wp2_with (go_at_call 49; (with_reducible refine (HG.out _ hn).mono ?_); rintro r w1 ⟨rfl, o1, rfl⟩; clear HG)
    go_ret2
    exact ⟨rfl, ((Below.refl _ _).alloc (Nat.le_refl _) _).alloc (by simp) _⟩
end Go.Proofs.YtpfjboioeidecaaDoor.HS
end
