/- The tied card of FnExactSignedIn: for every input the law returns true and its arguments read as before; the listed tables are as the program lays them. -/
import Derived.Test.YtpfjboioeidecaaDoorE14
import Derived.Test.YtpfjboioeidecaaDoorRows
import Derived.Test.YtpfjboioeidecaaDoorCards
import Derived.Test.YtpfjboioeidecaaDoorTie
import Derived.WalkKit
import Derived.ProofKit
import Derived.LaidMore
import Derived.OpenShut
import Derived.ShutString
import Derived.ChangeOld
import Derived.Below
import Derived.Stop.Joined
import Derived.SevenTiedAt
import Derived.Carry
section
namespace Go.Proofs.YtpfjboioeidecaaDoor.FnExactSignedIn
open Go.ChangeShapes Go.WideShapes Go.ChangeAt Go.RowKit Go.Joins Go.Proofs.YtpfjboioeidecaaDoor.PQ Go.Proofs.YtpfjboioeidecaaDoor.HDig Go.Proofs.YtpfjboioeidecaaDoor.HO Go.Proofs.YtpfjboioeidecaaDoor.HL Go.Proofs.YtpfjboioeidecaaDoor.HS
open Go.ChangeMaps (open_string shut_string)
theorem own : ownKnob Tryd.prog.godebug = none := by kernel_rfl
theorem laidOut : laidOutB Tryd.prog = true := by kernel_rfl
def laid3 : List (String × DataW Unit) := Rows.fnExactSignedInRow.laid
theorem tabs_of_laid {W : World} (h : laidMetH Tryd.prog laid3 W) : Tabs W := by
  rw [MakeChecks.laidMetH_plain _ _ _ (by kernel_rfl)] at h
  obtain ⟨ps, ⟨g0, t0, cs0, f0, p0, q0, hg0, ht0, hv0, hd0, ⟨g1, t1, cs1, f1, p1, q1, hg1, ht1, hv1, hd1, ⟨g2, t2, cs2, f2, p2, q2, hg2, ht2, hv2, hd2, _, _⟩, _⟩, _⟩, hn, hr⟩ := h
  have e : Tryd.prog.globalNamed "internal/strconv.uint64pow10" = some 0 := by kernel_rfl
  have et : (Tryd.prog.globals[(0 : Nat)]?).map (·.type) = some 130 := by kernel_rfl
  obtain rfl := Option.some.inj (e.symm.trans hg2)
  obtain rfl := Option.some.inj (et.symm.trans ht2)
  unfold Tabs Lib.TabIs
  rw [hv2, ← Lib.cells_of_tab (k := .u64) (zs := Lib.pow10Tab) Tryd.underlying130 Tryd.underlying51 (by kernel_rfl) (by kernel_rfl) hd2]
theorem door_met (os : Os) (args : Array Value) : laidMetH Tryd.prog laid3 ((World.doorLaid Tryd.prog 400 os).forCall (fun _ _ => 0) ⟨#[], args, []⟩).memory :=
  laidMetH_of_parts3 (fuel := 8) (laidMet_of_run' 8 (by kernel_rfl) (by kernel_rfl)) (by kernel_rfl) (by kernel_rfl)
set_option maxRecDepth 100000 in
theorem lifted (os : Os) (started : os.Started) (H : Type) (enc : TypeId × Value → H) :
    ReturnsInHanded {} Tryd.checked os 4 .any (fun w args => (Rows.fnExactSignedInSpec.pre enc Tryd.prog Tryd.f4 [] false w args ∧ laidMetH Tryd.prog laid3 w) ∧ sizedMet enc Tryd.prog Tryd.f4 (OpenSpec.ofChange Rows.fnExactSignedInSpec) false w args)
      (Rows.fnExactSignedInSpec.post enc Tryd.prog Tryd.f4 false true false false) := by
  refine returnsInHanded_of_change_and (C := Tryd.checked) (X := fun w _ => laidMetH Tryd.prog laid3 w) (fun _ _ _ hh h => h.of_heap hh) own started (by kernel_rfl) Tryd.func4
    (ChangeSpec.witness_shaped (enc := enc) (C := Tryd.checked) (os := os) (X := fun w _ => laidMetH Tryd.prog laid3 w) false (World.doorLaid Tryd.prog 400 os) #[.agg #[.slice none 0 0, .int .i64 0, .int .i64 0], .slice none 0 0, .int .i64 0] 8 rfl (World.shaped_of_RefB (by kernel_rfl) (by kernel_rfl)) (by kernel_rfl) (by kernel_rfl) (by kernel_rfl) (door_met os _)) ?_
  intro W base args ds gs before hval0 hW _ hsz0 hL _
  have hsz : (DataW.weightsEach Tryd.prog (Tryd.f4.params.toList ++ Rows.fnExactSignedInSpec.plain.varTypes Tryd.prog) (ds ++ gs)).all (· ≤ reachBytes) = true := hsz0
  have hval : ∀ (j : Nat) t v, Tryd.f4.params[j]? = some t → args[j]? = some v → Value.okWide Tryd.prog W .any base t v := hval0
  have hW' := hW
  obtain ⟨p, q, hA0, hV, rfl, hfz, hnd⟩ := hW
  have hA : DataW.TrodAll enc Tryd.prog W 0 (fun _ => true) true Tryd.f4.params.toList args.toList ds p := hA0
  rw [Tryd.params4] at hA hval hsz
  obtain ⟨v0, vs0, d0, ds0, p0, q0, hargs, rfl, rfl, h0, r0⟩ := trodAll_cons hA
  obtain ⟨v1, vs1, d1, ds1, p1, q1, rfl, rfl, rfl, h1, r1⟩ := trodAll_cons r0
  obtain ⟨v2, vs2, d2, ds2, p2, q2, rfl, rfl, rfl, h2, r2⟩ := trodAll_cons r1
  obtain ⟨rfl, rfl, rfl⟩ := trodAll_nil r2
  obtain rfl : args = #[v0, v1, v2] := by cases args; simp_all
  obtain ⟨rfl, rfl⟩ := trodVars_none hV
  have lt0 : ∀ x ∈ p0, x.block < W.heap.size := by obtain ⟨m, hm⟩ := h0; exact DataW.trod_lt m _ _ _ hm
  have lt1 : ∀ x ∈ p1, x.block < W.heap.size := by obtain ⟨m, hm⟩ := h1; exact DataW.trod_lt m _ _ _ hm
  have k0 := h0
  have k1 := h1
  have wts : ∀ (j : Nat) (t : TypeId) (d : DataW H), [(37 : TypeId), 38, 3][j]? = some t → [d0, d1, d2][j]? = some d → ∀ m ∈ d.weights Tryd.prog t, m ≤ reachBytes := by
    intro j t d ht hd m hm
    have := List.all_eq_true.1 hsz m (DataW.weights_mem_each (j := j) (t := t) (d := d) (by
      rw [List.getElem?_append_left (by have := (List.getElem?_eq_some_iff.1 ht).1; simpa using this)]; exact ht) (by
      rw [List.getElem?_append_left (by have := (List.getElem?_eq_some_iff.1 hd).1; simpa using this)]; exact hd) m hm)
    simpa using this
  obtain ⟨c0, c1, c2, y0, y1, y2, n, rfl, rfl, rfl, t0, t1, t2⟩ := open_agg3 Tryd.underlying37 (by kernel_rfl) (by kernel_rfl) (hval 0 37 v0 rfl rfl) h0
  obtain ⟨A, c, l, rfl, hC, hc, hb, hl⟩ := open_key Tryd.underlying22 Tryd.underlying5 (by kernel_rfl) (by kernel_rfl) t0 (fun m hm => wts 0 37 _ rfl rfl m (by
    simp only [DataW.weights, Tryd.underlying37]
    exact DataW.weights_mem_each (j := 0) (t := 22) (d := y0.1) rfl rfl m hm))
  obtain ⟨a, ea, _, _⟩ := DataW.trod_int Tryd.underlying3 t1
  obtain ⟨b, eb, _, _⟩ := DataW.trod_int Tryd.underlying3 t2
  obtain rfl : c1 = .int .i64 a := by simpa using ea
  obtain rfl : c2 = .int .i64 b := by simpa using eb
  obtain ⟨AE0, nE0, cE0, rfl⟩ := okWide_slice Tryd.underlying38 (hval 1 38 v1 rfl rfl)
  obtain ⟨AE, cE, lE, heq, hCE, hcE, hlE, hs⟩ : ∃ (A : Option Addr) (c : Nat) (l : List SL), Value.slice AE0 nE0 cE0 = .slice A l.length c ∧ Go.Proofs.YtpfjboioeidecaaDoorW.PrintWords.Kd.C k83 W A l.length l ∧ l.length ≤ c ∧ l.length ≤ 140737488351232 ∧ ∀ x ∈ l, x.f2.size ≤ 140737488351232 ∧ x.f3.size ≤ 140737488351232 ∧ x.f4.size ≤ 140737488351232 := by
    obtain ⟨fuel, hf⟩ := h1
    obtain ⟨y, hy⟩ : ∃ y, y = (d1, p1) := ⟨_, rfl⟩
    rw [← hy] at hf
    exact open_events Tryd.underlying38 Tryd.underlying83 (by kernel_rfl) (by kernel_rfl) (by rw [show Tryd.prog.bytesOf 83 = 64 by kernel_rfl]; decide) Tryd.underlying3 Tryd.underlying9 rfl rfl rfl rfl rfl (by simpa [Value.cells] using hf) (fun m hm => wts 1 38 _ rfl rfl m (by rw [hy] at hm; exact hm))
  rw [heq] at k1 hW' ⊢
  obtain ⟨t, rfl, rfl, rfl, w2⟩ := open_int Tryd.underlying3 (hval 2 3 v2 rfl rfl) h2
  have hT := tabs_of_laid hL
  clear hA0 hval0 hsz0 hsz hA hval h0 h1 wts
  refine (law_all W A c l a b AE cE lE t hC hc hb hCE hcE hT hl hlE hs).mono fun e W' ⟨he, bel⟩ => ?_
  subst he
  exact ⟨_, rfl, _, _, _, [], _, [], hW', trodAll_mk1 (shut_bool Tryd.underlying4 _), (trodAll_cons_mk (Below.trod laidOut (by kernel_rfl) (of_decide_eq_true (by kernel_rfl)) k0 bel lt0) (trodAll_cons_mk (Below.trod laidOut (by kernel_rfl) (of_decide_eq_true (by kernel_rfl)) k1 bel lt1) (trodAll_cons_mk (shut_int Tryd.underlying3 w2) trodAll_mk0))), rfl, bel.frame _, fun h => by cases h⟩
theorem over : Rows.fnExactSignedInRow.holds Tryd.pinned (OpenSpec.ofChange Rows.fnExactSignedInSpec) :=
  OpenClaim.holds_of_wide 4 Tryd.f4 rfl rfl rfl rfl rfl rfl rfl ⟨rfl, rfl, rfl, rfl, rfl⟩ rfl rfl rfl rfl rfl (by kernel_rfl) Tryd.func4 (by kernel_rfl)
    (of_decide_eq_true (by kernel_rfl)) (by unfold Func.isWrapper; first | (rw [if_pos (by decide +kernel)]; kernel_rfl) | (rw [if_neg (by decide +kernel)]; exact ⟨rfl, rfl⟩))
    (fun os started H enc _ => lifted os started H enc)
theorem card_holds : Rows.FnExactSignedInCardSaid :=
  Claim7.holds_tied_plain_at .later [] [.data, .data, .data] true (true, "7b8eebcff705b4ebb3ef9004c2f1b26ac1b9b325c13b602507963b32359ddc20") false
    over (fun _ h => by cases h) (by kernel_rfl) (fun _ h => by cases h) fnExactSignedIn_row_tie rfl ⟨rfl, rfl⟩ (by kernel_rfl) rfl
    (fun f fn hf hfn => by
      obtain rfl : f = 4 := Option.some.inj ((show Tryd.prog.funcNamed "loop.example/g00036/laws.FnExactSignedIn" = some 4 by kernel_rfl).symm.trans hf) |>.symm
      obtain rfl : fn = Tryd.f4 := (Option.some.inj (Tryd.func4.symm.trans hfn)).symm
      exact ⟨by kernel_rfl, fun j t ht => by
        rw [Tryd.params4] at ht
        have hm : t ∈ [(37 : TypeId), 38, 3] := by simpa using Array.mem_of_getElem? ht
        have hall : ([(37 : TypeId), 38, 3].all fun u => !Tryd.prog.wantsStandIn u) = true := by kernel_rfl
        exact (show Tryd.prog.wantsStandIn t = false by simpa using List.all_eq_true.1 hall t hm)⟩)
    (by kernel_rfl)
#print axioms card_holds
end Go.Proofs.YtpfjboioeidecaaDoor.FnExactSignedIn
end
