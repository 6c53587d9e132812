/- The program's sessions in memory, and the moves on them; the conditions stand at each theorem. -/
import Derived.Test.YtpfjboioeidecaaDoorE3
import Derived.StillTailTactics
import Derived.Deep.Cut
import Derived.Deep.CutBlock
import Derived.Deep.AppendLies
import Derived.Deep.RegionHeld3
import Derived.Deep.RegionLaw
section
namespace Go.Proofs.YtpfjboioeidecaaDoor.HS
open Go.RowKit Go.Proofs.YtpfjboioeidecaaDoorW.PrintWords Go.Proofs.YtpfjboioeidecaaDoorW.PrintLast Go.Proofs.YtpfjboioeidecaaDoor.HP Go.Proofs.YtpfjboioeidecaaDoor.HDig
def SesCells (v : Value) (x : Ses) : Array Value := #[v, .string x.user, .string x.device, .int .i64 x.level, .int .i64 x.login, .int .i64 x.last, .bool x.dead]
theorem ids_last {w : World} {B : Nat} {ok : Nat → Prop} {A : Option Addr} {n c : Nat} {l : List ByteArray} (h : Kd.R Kd.string 9 w B ok (.slice A n c) l) (hne : l ≠ []) :
    ∃ ad, A = some ad ∧ n = l.length ∧ 0 < n ∧ n ≤ c ∧ n ≤ 9223372036854775807 ∧ w.cell? (ad.add (n - 1)) = some (.string (l.getD (l.length - 1) none_)) := by
  obtain ⟨rfl, hc, hC⟩ := Kd.R_reads' h
  have hp : 0 < l.length := List.length_pos_iff.2 hne
  obtain ⟨g, cap, hv, _, _, _⟩ := Kd.R_form h hp
  injection hv with h1 h2 h3
  subst h1
  obtain ⟨ad, e1, e2⟩ := (Kd.reads_of_C (d := none_) hC).at_ ((l.length - 1 : Nat) : Int) (by omega) (by omega)
  injection e1 with e1
  subst e1
  exact ⟨_, rfl, rfl, hp, hc, Kd.C_max hC, by simpa [rdOf] using e2⟩
set_option maxHeartbeats 1000000 in
set_option maxRecDepth 100000 in
theorem id_calls (b : Nat) (v : Value) (x : Ses) (B : Nat) (w : World) (hb : w.heap[b]? = some (.cells (SesCells v x) 71 (0, 0))) (hr : Kd.R Kd.string 9 w B (fun _ => True) v x.ids) (hne : x.ids ≠ []) :
    Calls Tryd.prog 30 #[.pointer (some ⟨b, 0, none⟩)] w fun e w' => e = .returned (.string x.last_) ∧ ∃ m, w' = w.drewN m := by
  obtain ⟨A, c, rfl⟩ := Kd.R_slice hr
  obtain ⟨ad, rfl, _, hn, hc, hm, hcl⟩ := ids_last hr hne
  have c0 := blk_cell hb 0
  simp only [SesCells, List.getElem?_toArray, List.getElem?_cons_zero, List.getElem?_cons_succ] at c0
  have hL : x.ids.getD (x.ids.length - 1) none_ = x.last_ := rfl
  rw [hL] at hcl
  clear hL
  generalize x.last_ = y at *
  generalize x.ids.length = N at *
  clear hr hb hne
  go_enter Tryd.func30, Tryd.ntmps30
  go_wp2_with fail
  go_quiet (fail)
  go_wp2_with fail
  go_ret
  exact ⟨rfl, _, rfl⟩
set_option maxHeartbeats 2000000 in
set_option maxRecDepth 100000 in
theorem over_calls (p b : Nat) (K R L : Value) (v : Value) (x : Ses) (idle most now n t : Int) (w : World) (hp : w.heap[p]? = some (.cells #[K, .int .i64 idle, .int .i64 most, .int .i64 now, .int .i64 n, L, R] 63 (0, 0))) (hb : w.heap[b]? = some (.cells (SesCells v x) 71 (0, 0)))
    (h0 : 0 ≤ x.login) (h1 : x.login ≤ 100000000000) (h2 : 0 ≤ x.last) (h3 : x.last ≤ 100000000000) (h4 : 1 ≤ idle) (h5 : idle ≤ 1000000) (h6 : 1 ≤ most) (h7 : most ≤ 1000000) :
    Calls Tryd.prog 29 #[.pointer (some ⟨p, 0, none⟩), .pointer (some ⟨b, 0, none⟩), .int .i64 t] w fun e w' => e = .returned (.bool (over idle most x t)) ∧ ∃ m, w' = w.drewN m := by
  have c4 := blk_cell hb 4
  have c5 := blk_cell hb 5
  have d1 := blk_cell hp 1
  have d2 := blk_cell hp 2
  simp only [SesCells, List.getElem?_toArray, List.getElem?_cons_zero, List.getElem?_cons_succ] at c4 c5 d1 d2
  unfold over
  generalize x.login = lg at *
  generalize x.last = ls at *
  clear hb hp
  cases ht : decide (ls + idle < t)
  · go_enter Tryd.func29, Tryd.ntmps29
    go_wp2_with fail
    go_quiet (fail)
    go_wp2_with fail
    go_ret
    exact ⟨by simp, _, rfl⟩
  · go_enter Tryd.func29, Tryd.ntmps29
    go_wp2_with fail
    go_quiet (fail)
    go_wp2_with fail
    go_ret
    exact ⟨by simp, _, rfl⟩
end Go.Proofs.YtpfjboioeidecaaDoor.HS
end
section
namespace Go.Proofs.YtpfjboioeidecaaDoor.HS
open Go.RowKit Go.Proofs.YtpfjboioeidecaaDoorW.PrintWords Go.Proofs.YtpfjboioeidecaaDoorW.PrintLast Go.Proofs.YtpfjboioeidecaaDoor.HP Go.Proofs.YtpfjboioeidecaaDoor.HDig
theorem sess_good (w : World) : Calls Tryd.prog 54 #[.string sess] w fun e w' => e = .returned (.bool true) ∧ Below w.heap.size w w' :=
  (good_calls sess w (by decide)).mono fun e w' ⟨h1, h2⟩ => ⟨by rw [h1]; rfl, by rw [h2]; exact Below.refl _ _⟩
set_option maxHeartbeats 2000000 in
set_option maxRecDepth 100000 in
theorem next_calls (p : Nat) (A : Option Addr) (c : Nat) (key : List Int) (R L : Value) (idle most now n : Int) (w : World) (hp : w.heap[p]? = some (.cells #[.slice A key.length c, .int .i64 idle, .int .i64 most, .int .i64 now, .int .i64 n, L, R] 63 (0, 0)))
    (hr : Kd.C (Kd.int .u8) w A key.length key) (hfar : ∀ ad, A = some ad → 0 < key.length → ad.block ≠ p) (hc : key.length ≤ c) (hb : Byt key) (hl : key.length ≤ 64) (h0 : 0 ≤ n) (h1 : n < 1000000) (hT : Tabs w) (hp1 : (0 : Nat) ≠ p) :
    Calls Tryd.prog 55 #[.pointer (some ⟨p, 0, none⟩)] w fun e w' => e = .returned (.string (handle key sess (n + 1))) ∧
      ∃ w1, Sets w w1 p (.cells #[.slice A key.length c, .int .i64 idle, .int .i64 most, .int .i64 now, .int .i64 (n + 1), L, R] 63 (0, 0)) ∧ Below w1.heap.size w1 w' := by
  have S0 := Aside0.mk (Sets.first hp)
  have c0 := blk_cell hp 0
  have c4 := blk_cell hp 4
  simp only [List.getElem?_toArray, List.getElem?_cons_zero, List.getElem?_cons_succ] at c0 c4
  have fa : ∀ j, w.frozen? ⟨p, j, none⟩ = false := fun j => by simp [World.frozen?, hp]
  have HR := Aside0.mk hr
  have HF := Aside0.mk hfar
  have HBy := Aside0.mk hb
  have HT := Aside0.mk hT
  clear hp hr hb hT hfar
  go_enter Tryd.func55, Tryd.ntmps55
  go_wp2_with fail
  obtain ⟨w1, hw1⟩ : ∃ w1, w1 = w.setCell ⟨p, 4, none⟩ (.int .i64 (n + 1)) := ⟨_, rfl⟩
  have hs1 : Sets w (w.setCell ⟨p, 4, none⟩ (.int .i64 (n + 1))) p (.cells #[.slice A key.length c, .int .i64 idle, .int .i64 most, .int .i64 now, .int .i64 (n + 1), L, R] 63 (0, 0)) := by simpa using S0.out.set 4 (.int .i64 (n + 1))
  have S1 := Aside0.mk hs1
  clear hs1
  have d0 : w1.cell? ⟨p, 0, none⟩ = some (.slice A key.length c) := by rw [hw1]; simpa [World.cell?_setCell_other] using c0
  have d4 : w1.cell? ⟨p, 4, none⟩ = some (.int .i64 (n + 1)) := by rw [hw1]; exact World.cell?_setCell_same _ _ _ c4
  rw [← hw1] at S1 ⊢
  clear hw1 c0 c4 fa
  go_still_tail 9, (by kernel_rfl)
  have S2 := Aside0.mk S1.out.drew
  change wpList _ _ _ _ _ w1.drew
  generalize w1.drew = w2 at S2 ⊢
  have HR2 := Aside0.mk (show Kd.C (Kd.int .u8) w2 A key.length key from Kd.C_keep (0 : Int) HR.out S2.out.keep HF.out)
  have HT2 := Aside0.mk (HT.out.blk (S2.out.other _ hp1))
  clear S1 d0 d4 HR HT S0
  go_wp2_with (go_at_call 64; (with_reducible refine (handle_calls A c key sess (n + 1) w2 HR2.out hc HBy.out hl sess_good (by decide) (by omega) (by omega) HT2.out).mono ?_); rintro e w3 ⟨rfl, hb3⟩)
  go_ret
  exact ⟨rfl, w2, S2.out, hb3⟩
end Go.Proofs.YtpfjboioeidecaaDoor.HS
end
section
namespace Go.Proofs.YtpfjboioeidecaaDoor.HS
open Go.RowKit Go.Proofs.YtpfjboioeidecaaDoorW.PrintWords Go.Proofs.YtpfjboioeidecaaDoorW.PrintLast Go.Proofs.YtpfjboioeidecaaDoor.HP Go.Proofs.YtpfjboioeidecaaDoor.HDig
structure Pl where
  b : Nat
  v : Value
abbrev ptr (q : Pl) : Value := .pointer (some ⟨q.b, 0, none⟩)
structure LRel (w : World) (B : Nat) (ps : List Pl) (xs : List Ses) : Prop where
  len : ps.length = xs.length
  blk : ∀ (i : Nat) (q : Pl) (x : Ses), ps[i]? = some q → xs[i]? = some x → w.heap[q.b]? = some (.cells (SesCells q.v x) 71 (0, 0))
  row : ∀ (i : Nat) (q : Pl) (x : Ses), ps[i]? = some q → xs[i]? = some x → Kd.R Kd.string 9 w B (fun _ => True) q.v x.ids
  base : ∀ (i : Nat) (q : Pl), ps[i]? = some q → B ≤ q.b
  apart : ∀ (i j : Nat) (q r : Pl), i ≠ j → ps[i]? = some q → ps[j]? = some r → q.b ≠ r.b ∧ q.v.ownBlock ≠ r.v.ownBlock
theorem LRel.drewN {w : World} {B : Nat} {ps : List Pl} {xs : List Ses} (h : LRel w B ps xs) (m : Nat) : LRel (w.drewN m) B ps xs :=
  ⟨h.len, h.blk, fun i q x h1 h2 => Kd.R_drewN (h.row i q x h1 h2) m, h.base, h.apart⟩
abbrev EvCells (e : Ev) : Array Value := #[.int .i64 e.kind, .int .i64 e.time, .string e.user, .string e.device, .string e.id]
set_option maxHeartbeats 2000000 in
set_option maxRecDepth 100000 in
theorem has_calls (b ge : Nat) (v : Value) (x : Ses) (e : Ev) (B : Nat) (w : World) (hb : w.heap[b]? = some (.cells (SesCells v x) 71 (0, 0))) (hr : Kd.R Kd.string 9 w B (fun _ => True) v x.ids) (hne : x.ids ≠ [])
    (hg : w.heap[ge]? = some (.cells (EvCells e) 34 (0, 0))) :
    Calls Tryd.prog 57 #[.pointer (some ⟨b, 0, none⟩), .pointer (some ⟨ge, 0, none⟩)] w fun r w' => r = .returned (.bool (x.has e.id)) ∧ ∃ m, w' = w.drewN m := by
  obtain ⟨g, cap, rfl, _, _, _⟩ := Kd.R_form hr (List.length_pos_iff.2 hne)
  obtain ⟨_, hcap, hC⟩ := Kd.R_reads' hr
  have c0 := blk_cell hb 0
  have d4 := blk_cell hg 4
  simp only [SesCells, EvCells, List.getElem?_toArray, List.getElem?_cons_zero, List.getElem?_cons_succ] at c0 d4
  have hco : ∀ m, Calls Tryd.prog 58 #[.slice (some ⟨g, 0, none⟩) x.ids.length cap, .string e.id] (w.drewN m) fun r w' => r = .returned (.bool (x.has e.id)) ∧ w' = w.drewN m := by
    intro m
    have h := Tryd.slices_Contains_string g 0 x.ids.length cap x.ids e.id (w.drewN m) (Nat.le_refl _) (Kd.C_max hC) (fun j hj => by
      obtain ⟨ad, e1, e2⟩ := (Kd.reads_of_C (d := ByteArray.empty) hC).at_ (j : Int) (by omega) (by omega)
      injection e1 with e1
      subst e1
      rw [add_plain] at e2; simpa [rdOf] using e2)
    rw [List.take_length] at h
    exact h
  have HCo := Aside0.mk hco
  generalize x.has e.id = r at HCo ⊢
  generalize x.ids.length = N at *
  clear hb hg hr hC hco
  go_enter Tryd.func57, Tryd.ntmps57
  go_wp2_with fail
  go_quiet ((go_at_call 58; exact Calls.quiet_of_same (HCo.out _)))
  go_wp2_with fail
  go_ret
  exact ⟨rfl, _, rfl⟩
theorem at_none {xs : List Ses} {id : ByteArray} (h : ∀ (j : Nat) (x : Ses), xs[j]? = some x → x.has id = false) : at_ xs id = none := by
  unfold at_
  rw [List.findIdx?_eq_none_iff]
  intro x hx
  obtain ⟨j, hj⟩ := List.getElem?_of_mem hx
  simpa using h j x hj
theorem at_some {xs : List Ses} {id : ByteArray} {k : Nat} {y : Ses} (h : ∀ (j : Nat) (x : Ses), j < k → xs[j]? = some x → x.has id = false) (hk : xs[k]? = some y) (hy : y.has id = true) : at_ xs id = some k := by
  unfold at_
  obtain ⟨hl, rfl⟩ := List.getElem?_eq_some_iff.1 hk
  rw [List.findIdx?_eq_some_iff_getElem]
  refine ⟨hl, hy, fun j hj => ?_⟩
  have := h j xs[j] hj (List.getElem?_eq_getElem (by omega))
  simpa using this
theorem at_is {xs : List Ses} {id : ByteArray} {i : Nat} (h : at_ xs id = some i) : ∃ x, xs[i]? = some x := by
  unfold at_ at h
  rw [List.findIdx?_eq_some_iff_getElem] at h
  obtain ⟨hl, _⟩ := h
  exact ⟨_, List.getElem?_eq_getElem hl⟩
def place (o : Option Nat) : Int := match o with | none => -1 | some i => i
set_option maxHeartbeats 2000000 in
set_option maxRecDepth 100000 in
theorem index_calls (ge : Nat) (L : Value) (ps : List Pl) (xs : List Ses) (e : Ev) (B : Nat) (w : World) (hL : w.ownsRow B 68 1 L xs.length (ps.map ptr)) (hX : LRel w B ps xs) (hne : ∀ x ∈ xs, x.ids ≠ []) (hm : xs.length ≤ 1000)
    (hg : w.heap[ge]? = some (.cells (EvCells e) 34 (0, 0))) :
    Calls Tryd.prog 56 #[L, .func (.func 57) #[] #[.pointer (some ⟨ge, 0, none⟩)]] w fun r w' => r = .returned (.int .i64 (place (at_ xs e.id))) ∧ ∃ m, w' = w.drewN m := by
  obtain ⟨A, cap, rfl⟩ : ∃ A cap, L = .slice A xs.length cap := by
    rcases hL.2 with ⟨h1, h2⟩ | ⟨g, cap, cur, h1, _⟩
    · exact ⟨none, 0, by rw [h1, h2]⟩
    · exact ⟨_, _, h1⟩
  have HL := Aside0.mk hL
  have HX := Aside0.mk hX
  have HN := Aside0.mk hne
  have HG := Aside0.mk hg
  clear hL hX hne hg
  go_enter Tryd.func56, Tryd.ntmps56
  go_wp2_with fail
  go_loopw [8] (fun i wr => ∃ k : Nat, k ≤ xs.length ∧ i = .int .i64 k ∧ Aside0 (∀ (j : Nat) (x : Ses), j < k → xs[j]? = some x → x.has e.id = false) ∧ ∃ m, wr = w.drewN m) (fun i _ => xs.length - (intOf i).toNat)
  case atStart => exact ⟨0, Nat.zero_le _, rfl, ⟨fun j x h => absurd h (Nat.not_lt_zero _)⟩, 0, rfl⟩
  case round =>
    obtain ⟨k, hk, rfl, HA, m, rfl⟩ := hrel
    by_cases hlt : k < xs.length
    · obtain ⟨x, hx⟩ : ∃ x, xs[k]? = some x := ⟨_, List.getElem?_eq_getElem hlt⟩
      obtain ⟨q, hq⟩ : ∃ q, ps[k]? = some q := ⟨_, List.getElem?_eq_getElem (by rw [HX.out.len]; exact hlt)⟩
      have hcl : ∃ g, A = some ⟨g, 0, none⟩ ∧ (w.drewN m).cell? ⟨g, k, none⟩ = some (ptr q) := by
        rcases HL.out.2 with ⟨_, h2⟩ | ⟨g, cap', cur, h1, _⟩
        · omega
        · injection h1 with h3 h4 h5
          subst h3
          subst h5
          refine ⟨g, rfl, ?_⟩
          have h := HL.out.cellAt k (by omega)
          rw [List.getElem?_map, hq] at h
          exact h
      obtain ⟨g, rfl, hcl⟩ := hcl
      have hh := has_calls q.b ge q.v x e B (w.drewN m) (HX.out.blk k q x hq hx) (Kd.R_drewN (HX.out.row k q x hq hx) m) (HN.out x (List.mem_of_getElem? hx)) HG.out
      have HXk := Aside0.mk hx
      cases hb : x.has e.id
      · rw [hb] at hh
        have HB := Aside0.mk hb
        have HH := Aside0.mk hh
        clear hh hb hx hq
        go_wp2_with (go_at_call 57; (with_reducible refine HH.out.mono ?_); rintro r w1 ⟨rfl, m1, rfl⟩)
        go_roundw
        case rel =>
          refine ⟨k + 1, by omega, by go_num, ⟨fun j y hj hy => ?_⟩, _, rfl⟩
          rcases Nat.lt_succ_iff_lt_or_eq.1 hj with h | rfl
          · exact HA.out j y h hy
          · rw [HXk.out] at hy
            injection hy with hy
            rw [← hy]; exact HB.out
        case measure => simp [intOf]; omega
      · rw [hb] at hh
        have HB := Aside0.mk hb
        have HH := Aside0.mk hh
        clear hh hb hx hq
        go_wp2_with (go_at_call 57; (with_reducible refine HH.out.mono ?_); rintro r w1 ⟨rfl, m1, rfl⟩)
        go_ret
        refine ⟨?_, _, rfl⟩
        rw [at_some HA.out HXk.out HB.out]
        rfl
    · obtain rfl : k = xs.length := by omega
      go_wp2_with fail
      go_ret
      refine ⟨?_, _, rfl⟩
      rw [at_none (fun j x hj => HA.out j x (by have := (List.getElem?_eq_some_iff.1 hj).1; omega) hj)]
      rfl
end Go.Proofs.YtpfjboioeidecaaDoor.HS
end
section
namespace Go.Proofs.YtpfjboioeidecaaDoor.HS
open Go.RowKit Go.Proofs.YtpfjboioeidecaaDoorW.PrintWords Go.Proofs.YtpfjboioeidecaaDoorW.PrintLast Go.Proofs.YtpfjboioeidecaaDoor.HP Go.Proofs.YtpfjboioeidecaaDoor.HDig
def RpCells (r : Rp) : Array Value := #[.int .i64 r.err, .string r.id, .string r.user, .int .i64 r.level]
structure SRel (B : Nat) (w : World) (p : Nat) (A : Option Addr) (c : Nat) (R : Value) (s : St) (L : Value) (ps : List Pl) : Prop where
  blk : w.heap[p]? = some (.cells #[.slice A s.key.length c, .int .i64 s.idle, .int .i64 s.most, .int .i64 s.now, .int .i64 s.n, L, R] 63 (0, 0))
  base : B ≤ p
  own : w.ownsRow B 68 1 L s.list.length (ps.map ptr)
  rel : LRel w B ps s.list
structure Kt (w w' : World) : Prop where
  size : w.heap.size ≤ w'.heap.size
  blk : ∀ (k : Nat) (cells : Array Value), w.heap[k]? = some (.cells cells 31 (0, 0)) → w'.heap[k]? = w.heap[k]?
theorem Kt.of_below {w w' : World} (h : Below w.heap.size w w') : Kt w w' := ⟨h.size, fun k cells hk => h.block k (blk_lt hk)⟩
theorem Kt.trans {a b c : World} (h : Kt a b) (k : Kt b c) : Kt a c := ⟨Nat.le_trans h.size k.size, fun i cells hi => (k.blk i cells ((h.blk i cells hi).trans hi)).trans (h.blk i cells hi)⟩
theorem Kt.sets {w w' : World} {b t : Nat} {o : Obj} {cs : Array Value} (h : Sets w w' b o) (hb : w.heap[b]? = some (.cells cs t (0, 0))) (ht : t ≠ 31) : Kt w w' :=
  ⟨Nat.le_of_eq h.size.symm, fun k cells hk => h.other k (fun e => by subst e; rw [hb] at hk; injection hk with hk; injection hk with _ hk; exact ht hk)⟩
theorem LRel.keep {w w' : World} {B : Nat} {ps : List Pl} {xs : List Ses} (h : LRel w B ps xs)
    (h1 : ∀ (k : Nat) (cells : Array Value), w.heap[k]? = some (.cells cells 71 (0, 0)) → w'.heap[k]? = w.heap[k]?) (h2 : ∀ (k : Nat) (cells : Array Value), w.heap[k]? = some (.cells cells 9 (0, 0)) → w'.heap[k]? = w.heap[k]?) : LRel w' B ps xs :=
  ⟨h.len, fun i q x hq hx => (h1 _ _ (h.blk i q x hq hx)).trans (h.blk i q x hq hx),
   fun i q x hq hx => Kd.R_of_own (own_move (Kd.own_of_R (h.row i q x hq hx)) (fun k hk => by obtain ⟨cells, hc⟩ := Kd.R_typed (h.row i q x hq hx) k hk; exact h2 k cells hc)) (fun _ _ => trivial), h.base, h.apart⟩
theorem LRel.below {w w' : World} {B : Nat} {ps : List Pl} {xs : List Ses} (h : LRel w B ps xs) (hb : Below w.heap.size w w') : LRel w' B ps xs :=
  h.keep (fun k cells hk => hb.block k (blk_lt hk)) (fun k cells hk => hb.block k (blk_lt hk))
theorem LRel.sets {w w' : World} {B b t : Nat} {o : Obj} {cs : Array Value} {ps : List Pl} {xs : List Ses} (h : LRel w B ps xs) (hs : Sets w w' b o) (hb : w.heap[b]? = some (.cells cs t (0, 0))) (h1 : t ≠ 71) (h2 : t ≠ 9) : LRel w' B ps xs :=
  h.keep (fun k cells hk => hs.other k (fun e => by subst e; rw [hb] at hk; injection hk with hk; injection hk with _ hk; exact h1 hk))
    (fun k cells hk => hs.other k (fun e => by subst e; rw [hb] at hk; injection hk with hk; injection hk with _ hk; exact h2 hk))
theorem SRel.below {B : Nat} {w w' : World} {p : Nat} {A : Option Addr} {c : Nat} {R : Value} {s : St} {L : Value} {ps : List Pl} (h : SRel B w p A c R s L ps) (hb : Below w.heap.size w w') : SRel B w' p A c R s L ps :=
  ⟨(hb.block _ (blk_lt h.blk)).trans h.blk, h.base, own_move h.own (fun k hk => hb.block k (h.own.lt k hk).2), h.rel.below hb⟩
theorem Kt.new {w wc W : World} {b : Nat} {o : Obj} (hk : Kt w wc) (hs : Sets wc W b o) (hb : w.heap.size ≤ b) : Kt w W :=
  ⟨by rw [hs.size]; exact hk.size, fun k cells h => (hs.other k (by have := blk_lt h; omega)).trans (hk.blk k cells h)⟩
theorem blk_ne {w : World} {a b t u : Nat} {cs ds : Array Value} (ha : w.heap[a]? = some (.cells cs t (0, 0))) (hb : w.heap[b]? = some (.cells ds u (0, 0))) (h : t ≠ u) : a ≠ b := fun e => by
  subst e
  rw [ha] at hb
  injection hb with hb
  injection hb with _ hb
  exact h hb
theorem own_sets {w W : World} {B e size n b t : Nat} {v : Value} {xs : List Value} {cs : Array Value} {o : Obj} (h : w.ownsRow B e size v n xs) (hs : Sets w W b o) (hb : w.heap[b]? = some (.cells cs t (0, 0))) (ht : t ≠ e) : W.ownsRow B e size v n xs :=
  own_move h (fun k hk => by obtain ⟨cells, hc⟩ := own_typed h k hk; exact hs.other k (blk_ne hc hb (Ne.symm ht)))
theorem SRel.sets {B : Nat} {w W : World} {p b t : Nat} {cs : Array Value} {o : Obj} {A : Option Addr} {c : Nat} {R : Value} {s : St} {L : Value} {ps : List Pl} (h : SRel B w p A c R s L ps) (hs : Sets w W b o) (hb : w.heap[b]? = some (.cells cs t (0, 0)))
    (h1 : t ≠ 63) (h2 : t ≠ 68) (h3 : t ≠ 71) (h4 : t ≠ 9) : SRel B W p A c R s L ps :=
  ⟨(hs.other _ (blk_ne h.blk hb (Ne.symm h1))).trans h.blk, h.base, own_sets h.own hs hb h2, h.rel.sets hs hb h3 h4⟩
theorem Sets.reply {wA w : World} {g : Nat} {cs : Array Value} (hc : cs.size = 4) (h : Sets wA w g (.cells cs 31 (0, 0))) (n l : Int) (i u : ByteArray) :
    Sets wA ((((w.setCell ⟨g, 0, none⟩ (.int .i64 n)).setCell ⟨g, 1, none⟩ (.string i)).setCell ⟨g, 2, none⟩ (.string u)).setCell ⟨g, 3, none⟩ (.int .i64 l)) g (.cells (RpCells ⟨n, i, u, l⟩) 31 (0, 0)) := by
  have e : (((cs.setIfInBounds 0 (.int .i64 n)).setIfInBounds 1 (.string i)).setIfInBounds 2 (.string u)).setIfInBounds 3 (.int .i64 l) = RpCells ⟨n, i, u, l⟩ := by
    match cs, hc with
    | ⟨[a, b, c, d]⟩, _ => rfl
  rw [← e]
  exact (((h.set 0 _).set 1 _).set 2 _).set 3 _
theorem end_do {R : Ending → World → Prop} {a : Act} {W : World} {g : Nat} {r : Rp} {wA : World} {x : Exit} (hx : x = .ret ∨ x = .normal) (hs : Sets wA W g (.cells (RpCells r) 31 (0, 0))) (hslot : a.tmps.getD 4 undef = .pointer (some ⟨g, 0, none⟩)) (hd : a.defers = []) (h : R (.returned (.agg (RpCells r))) W) :
    bodyPost Tryd.prog Tryd.f50 R x a W := by
  have q0 := blk_cell hs.at_ 0
  have q1 := blk_cell hs.at_ 1
  have q2 := blk_cell hs.at_ 2
  have q3 := blk_cell hs.at_ 3
  simp only [RpCells, List.getElem?_toArray, List.getElem?_cons_zero, List.getElem?_cons_succ] at q0 q1 q2 q3
  have hr : (results Tryd.f50 a.tmps).run Tryd.prog W = .ok (.agg (RpCells r)) W := by
    have hslot2 : a.tmps[4]?.getD undef = .pointer (some ⟨g, 0, none⟩) := by simpa using hslot
    simp [results, Tryd.results50, hslot2, go_sem, q0, q1, q2, q3, RpCells]
  rcases hx with rfl | rfl
  · exact bodyPost_ret hr hd h
  · exact bodyPost_end hr hd h
theorem R_laidS (w : World) {B : Nat} (hB : B ≤ w.heap.size) (e : TypeId) (l : List ByteArray) (cs : Array Value) (hcs : cs = (encs Value.string l).toArray) (hl : l.length ≤ maxLen) :
    Kd.R Kd.string e (w.alloc (.cells cs e)) B (fun _ => True) (.slice (some ⟨w.heap.size, 0, none⟩) l.length l.length) l := by
  subst hcs
  refine Kd.R_of_own ?_ (fun _ _ => trivial)
  have := World.ownsRow_lit (base := B) (e := e) (size := 1) w (encs Value.string l).toArray l.length hB hl (by simp [encs])
  simpa using this
theorem one_at (w : World) (x : Value) (e : TypeId) : ∀ j u, ([x] : List Value)[j]? = some u → (w.alloc (.cells #[x] e)).cell? ((⟨w.heap.size, 0, none⟩ : Addr).add j) = some u := by
  intro j u hj
  match j, hj with
  | 0, hj => simp at hj; subst hj; simp [Addr.add]
theorem own_form {w : World} {B e size n : Nat} {v : Value} {xs : List Value} (h : w.ownsRow B e size v (n + 1) xs) : ∃ g cap, v = .slice (some ⟨g, 0, none⟩) (n + 1) cap := by
  rcases h.2 with ⟨_, h0⟩ | ⟨g, cap, cur, hv, _⟩
  · omega
  · exact ⟨g, cap, hv⟩
theorem grown_keep {w w6 : World} {B e size n : Nat} {v : Value} {xs : List Value} (h : w.ownsRow B e size v n xs) (hg : w.grownBy w6 v.ownBlock) {k t : Nat} {cs : Array Value} (hk : w.heap[k]? = some (.cells cs t (0, 0))) (ht : t ≠ e) : w6.heap[k]? = some (.cells cs t (0, 0)) :=
  (hg.block k (blk_lt hk) (fun e1 => by
    obtain ⟨ds, h2⟩ := own_typed h k e1.symm
    exact blk_ne hk h2 ht rfl)).trans hk
theorem far4 {w : World} {b g j n : Nat} {u v0 v1 v2 v3 : Value} (h : w.cell? ⟨b, j, none⟩ = some u) (hne : b ≠ g) : (((((w.drewN n).setCell ⟨g, 0, none⟩ v0).setCell ⟨g, 1, none⟩ v1).setCell ⟨g, 2, none⟩ v2).setCell ⟨g, 3, none⟩ v3).cell? ⟨b, j, none⟩ = some u := by
  have e : ∀ k, (⟨b, j, none⟩ : Addr) ≠ ⟨g, k, none⟩ := fun k e => by injection e with e; exact hne e
  rw [World.cell?_setCell_other _ _ _ _ (Ne.symm (e 3)), World.cell?_setCell_other _ _ _ _ (Ne.symm (e 2)), World.cell?_setCell_other _ _ _ _ (Ne.symm (e 1)), World.cell?_setCell_other _ _ _ _ (Ne.symm (e 0))]
  exact h
theorem LRel.fresh {w : World} {B : Nat} {ps : List Pl} {xs : List Ses} (h : LRel w B ps xs) (hne : ∀ x ∈ xs, x.ids ≠ []) (b g : Nat) (n c : Nat) (hb : w.heap.size ≤ b) (hg : w.heap.size ≤ g) :
    ∀ (i : Nat) (r : Pl), ps[i]? = some r → r.b ≠ b ∧ r.v.ownBlock ≠ (Value.slice (some ⟨g, 0, none⟩) n c).ownBlock := by
  intro i r hr
  have hi := (List.getElem?_eq_some_iff.1 hr).1
  obtain ⟨y, hx⟩ : ∃ y, xs[i]? = some y := ⟨_, List.getElem?_eq_getElem (by rw [← h.len]; exact hi)⟩
  have h1 := blk_lt (h.blk i r _ hr hx)
  refine ⟨by omega, fun e1 => ?_⟩
  have h2 := Kd.R_lt (h.row i r _ hr hx) g e1
  omega
structure CI (B : Nat) (w0 wA : World) (p : Nat) (A : Option Addr) (c : Nat) (R : Value) (e : Ev) (g : Nat) (w : World) (s : St) (L : Value) (ps : List Pl) : Prop where
  srel : SRel B w p A c R s L ps
  bel : Below B w0 w
  kt : Kt wA w
  ev : w.heap[g]? = some (.cells (EvCells e) 34 (0, 0))
  rp : w.heap[g + 1]? = some (.cells #[.int .i64 0, .string none_, .string none_, .int .i64 0] 31 (0, 0))
  gs : wA.heap.size = g
  Bg : B ≤ g
section
variable {B : Nat} {w0 wA : World} {p : Nat} {A : Option Addr} {c : Nat} {R : Value} {e : Ev} {g : Nat} {w : World} {s : St} {L : Value} {ps : List Pl}
theorem CI.sz (h : CI B w0 wA p A c R e g w s L ps) : B ≤ w.heap.size := by have := blk_lt h.ev; have := h.Bg; omega
theorem CI.below (h : CI B w0 wA p A c R e g w s L ps) {w' : World} (hb : Below w.heap.size w w') : CI B w0 wA p A c R e g w' s L ps :=
  ⟨h.srel.below hb, h.bel.trans (hb.mono h.sz), h.kt.trans (Kt.of_below hb), (hb.block _ (blk_lt h.ev)).trans h.ev, (hb.block _ (blk_lt h.rp)).trans h.rp, h.gs, h.Bg⟩
theorem CI.drewN (h : CI B w0 wA p A c R e g w s L ps) (n : Nat) : CI B w0 wA p A c R e g (w.drewN n) s L ps := h.below (pw_below_drewN (Below.refl _ _) n)
theorem CI.put (h : CI B w0 wA p A c R e g w s L ps) {w' : World} {s' : St} (hk : s'.key = s.key) (hl : s'.list = s.list)
    (hs : Sets w w' p (.cells #[.slice A s'.key.length c, .int .i64 s'.idle, .int .i64 s'.most, .int .i64 s'.now, .int .i64 s'.n, L, R] 63 (0, 0))) : CI B w0 wA p A c R e g w' s' L ps :=
  ⟨⟨hs.at_, h.srel.base, by rw [hl]; exact own_sets h.srel.own hs h.srel.blk (by decide), by rw [hl]; exact h.srel.rel.sets hs h.srel.blk (by decide) (by decide)⟩,
   hs.below h.bel h.srel.base, h.kt.trans (Kt.sets hs h.srel.blk (by decide)), (hs.other _ (blk_ne h.ev h.srel.blk (by decide))).trans h.ev, (hs.other _ (blk_ne h.rp h.srel.blk (by decide))).trans h.rp, h.gs, h.Bg⟩
theorem CI.fin (h : CI B w0 wA p A c R e g w s L ps) {W : World} {r : Rp} (hs : Sets w W (g + 1) (.cells (RpCells r) 31 (0, 0))) : ∃ L' ps', SRel B W p A c R s L' ps' ∧ Below B w0 W ∧ Kt wA W :=
  ⟨L, ps, h.srel.sets hs h.rp (by decide) (by decide) (by decide) (by decide), hs.below h.bel (by have := h.Bg; omega), h.kt.new hs (by have := h.gs; omega)⟩
theorem CI.loads (h : CI B w0 wA p A c R e g w s L ps) : w.cell? ⟨g, 2, none⟩ = some (.string e.user) ∧ w.cell? ⟨g, 3, none⟩ = some (.string e.device) ∧ w.cell? ⟨p, 3, none⟩ = some (.int .i64 s.now) :=
  ⟨blk_cell h.ev 2, blk_cell h.ev 3, blk_cell h.srel.blk 3⟩
theorem CI.far (h : CI B w0 wA p A c R e g w s L ps) (hr : Kd.C (Kd.int .u8) w0 A s.key.length s.key) (hB : w0.heap.size ≤ B) : ∀ ad, A = some ad → 0 < s.key.length → ad.block ≠ p := by
  intro ad ha hp
  obtain ⟨ad', e1, hx⟩ := at_int hr 0 hp
  rw [ha] at e1
  injection e1 with e1
  subst e1
  have h1 := World.block_lt_of_cell? w0 _ hx
  have h2 := h.srel.base
  have h3 : (ad.add 0).block = ad.block := by unfold Addr.add; split <;> rfl
  omega
theorem CI.next_calls (h : CI B w0 wA p A c R e g w s L ps) {m : Nat} (hO : s.Ok m) (hm : m < 200) (hr : Kd.C (Kd.int .u8) w0 A s.key.length s.key) (hB : w0.heap.size ≤ B) (hc : s.key.length ≤ c) (hT : Tabs w0) :
    Calls Tryd.prog 55 #[.pointer (some ⟨p, 0, none⟩)] w fun r w' => r = .returned (.string s.next) ∧ CI B w0 wA p A c R e g w' { s with n := s.n + 1 } L ps := by
  have hb : Below w0.heap.size w0 w := h.bel.mono hB
  have h0 := hO.n0
  have h1 := hO.n1
  refine (HS.next_calls p A c s.key R L s.idle s.most s.now s.n w h.srel.blk (Kd.C_below hr hb) (h.far hr hB) hc hO.key hO.keyl h0 (by omega) (hT.below hb) (by have := hT.lt; have := h.srel.base; omega)).mono ?_
  rintro r w' ⟨rfl, w1, hs, hb1⟩
  exact ⟨rfl, (h.put (s' := { s with n := s.n + 1 }) rfl rfl hs).below hb1⟩
theorem info_ptr : (Tryd.prog.info? 68).map (fun i => (i.zero, i.size, i.bytes)) = some (some (.pointer none), 1, 8) := by kernel_rfl
theorem CI.push (h : CI B w0 wA p A c R e g w s L ps) {q : Pl} {x : Ses} (hq : w.heap[q.b]? = some (.cells (SesCells q.v x) 71 (0, 0))) (hv : Kd.R Kd.string 9 w B (fun _ => True) q.v x.ids) (hB : B ≤ q.b)
    (hap : ∀ (i : Nat) (r : Pl), ps[i]? = some r → r.b ≠ q.b ∧ r.v.ownBlock ≠ q.v.ownBlock) {w6 : World} {L' : Value} (hown : w6.ownsRow B 68 1 L' (s.list.length + 1) (ps.map ptr ++ [ptr q])) (hg : w.grownBy w6 L.ownBlock) :
    CI B w0 wA p A c R e g (w6.setCell ⟨p, 5, none⟩ L') { s with list := s.list ++ [x] } L' (ps ++ [q]) := by
  have hk : ∀ (k : Nat) (cells : Array Value) (t : Nat), w.heap[k]? = some (.cells cells t (0, 0)) → t ≠ 68 → w6.heap[k]? = w.heap[k]? := fun k cells t hc ht =>
    hg.block k (blk_lt hc) (fun e1 => by
      obtain ⟨cs, h2⟩ := own_typed h.srel.own k e1.symm
      rw [hc] at h2
      injection h2 with h2
      injection h2 with _ h2
      exact ht h2)
  have hp6 := (hk _ _ _ h.srel.blk (by decide)).trans h.srel.blk
  have hs : Sets w6 (w6.setCell ⟨p, 5, none⟩ L') p (.cells #[.slice A s.key.length c, .int .i64 s.idle, .int .i64 s.most, .int .i64 s.now, .int .i64 s.n, L', R] 63 (0, 0)) := by
    simpa using (Sets.first hp6).set 5 L'
  have hlen := h.srel.rel.len
  have h6 : LRel w6 B ps s.list := h.srel.rel.keep (fun k cells hc => hk k cells _ hc (by decide)) (fun k cells hc => hk k cells _ hc (by decide))
  have hq6 := (hk _ _ _ hq (by decide)).trans hq
  have hv6 : Kd.R Kd.string 9 w6 B (fun _ => True) q.v x.ids := Kd.R_of_own (own_move (Kd.own_of_R hv) (fun k hk1 => by obtain ⟨cells, hc⟩ := Kd.R_typed hv k hk1; exact hk k cells _ hc (by decide))) (fun _ _ => trivial)
  have hsplit : ∀ (i : Nat) (r : Pl), (ps ++ [q])[i]? = some r → (ps[i]? = some r ∧ i < ps.length) ∨ (i = ps.length ∧ r = q) := by
    intro i r hi
    rcases Nat.lt_trichotomy i ps.length with h1 | h1 | h1
    · rw [List.getElem?_append_left h1] at hi; exact .inl ⟨hi, h1⟩
    · subst h1; simp at hi; exact .inr ⟨rfl, hi.symm⟩
    · rw [List.getElem?_eq_none (by simp; omega)] at hi; cases hi
  have hsplitx : ∀ (i : Nat) (y : Ses), (s.list ++ [x])[i]? = some y → (s.list[i]? = some y ∧ i < ps.length) ∨ (i = ps.length ∧ y = x) := by
    intro i y hi
    rw [hlen]
    rcases Nat.lt_trichotomy i s.list.length with h1 | h1 | h1
    · rw [List.getElem?_append_left h1] at hi; exact .inl ⟨hi, h1⟩
    · subst h1; simp at hi; exact .inr ⟨rfl, hi.symm⟩
    · rw [List.getElem?_eq_none (by simp; omega)] at hi; cases hi
  have h7 : LRel w6 B (ps ++ [q]) (s.list ++ [x]) := by
    refine ⟨by simp [hlen], ?_, ?_, ?_, ?_⟩
    · intro i r y hr hy
      rcases hsplit i r hr with ⟨hr, h1⟩ | ⟨h1, hrq⟩
      · rcases hsplitx i y hy with ⟨hy, h2⟩ | ⟨h2, hyx⟩
        · exact h6.blk i r y hr hy
        · omega
      · rcases hsplitx i y hy with ⟨hy, h2⟩ | ⟨h2, hyx⟩
        · omega
        · rw [hrq, hyx]; exact hq6
    · intro i r y hr hy
      rcases hsplit i r hr with ⟨hr, h1⟩ | ⟨h1, hrq⟩
      · rcases hsplitx i y hy with ⟨hy, h2⟩ | ⟨h2, hyx⟩
        · exact h6.row i r y hr hy
        · omega
      · rcases hsplitx i y hy with ⟨hy, h2⟩ | ⟨h2, hyx⟩
        · omega
        · rw [hrq, hyx]; exact hv6
    · intro i r hr
      rcases hsplit i r hr with ⟨hr, h1⟩ | ⟨h1, hrq⟩
      · exact h6.base i r hr
      · rw [hrq]; exact hB
    · intro i j r t hij hr ht
      rcases hsplit i r hr with ⟨hr, h1⟩ | ⟨h1, hrq⟩
      · rcases hsplit j t ht with ⟨ht, h2⟩ | ⟨h2, htq⟩
        · exact h6.apart i j r t hij hr ht
        · rw [htq]; exact hap i r hr
      · rcases hsplit j t ht with ⟨ht, h2⟩ | ⟨h2, htq⟩
        · rw [hrq]; exact ⟨Ne.symm (hap j t ht).1, Ne.symm (hap j t ht).2⟩
        · omega
  have hev := (hk _ _ _ h.ev (by decide)).trans h.ev
  have hrp := (hk _ _ _ h.rp (by decide)).trans h.rp
  have hbel : Below B w0 w6 := h.bel.grown hg h.sz (fun k hk1 => (h.srel.own.lt k hk1).1)
  refine ⟨⟨hs.at_, h.srel.base, ?_, h7.sets hs hp6 (by decide) (by decide)⟩, hs.below hbel h.srel.base, ?_, (hs.other _ (blk_ne hev hp6 (by decide))).trans hev, (hs.other _ (blk_ne hrp hp6 (by decide))).trans hrp, h.gs, h.Bg⟩
  · have := own_sets hown hs hp6 (by decide)
    simpa using this
  · refine Kt.trans (b := w6) (h.kt.trans ⟨hg.size, fun k cells hc => hk k cells _ hc (by decide)⟩) (Kt.sets hs hp6 (by decide))
theorem CI.set (h : CI B w0 wA p A c R e g w s L ps) {i : Nat} {q : Pl} {x x' : Ses} (hq : ps[i]? = some q) (hx : s.list[i]? = some x) (hids : x'.ids = x.ids) {w' : World}
    (hs : Sets w w' q.b (.cells (SesCells q.v x') 71 (0, 0))) : CI B w0 wA p A c R e g w' { s with list := s.list.set i x' } L ps := by
  have hqb := h.srel.rel.blk i q x hq hx
  have hil : i < s.list.length := (List.getElem?_eq_some_iff.1 hx).1
  have hrow : ∀ (v : Value) (l : List ByteArray), Kd.R Kd.string 9 w B (fun _ => True) v l → Kd.R Kd.string 9 w' B (fun _ => True) v l := fun v l hv =>
    Kd.R_of_own (own_sets (Kd.own_of_R hv) hs hqb (by decide)) (fun _ _ => trivial)
  have hrel : LRel w' B ps (s.list.set i x') := by
    refine ⟨by simp [h.srel.rel.len], ?_, ?_, h.srel.rel.base, h.srel.rel.apart⟩
    · intro j r y hr hy
      by_cases hji : i = j
      · subst hji
        rw [hq] at hr
        injection hr with hr
        subst hr
        rw [List.getElem?_set_self hil] at hy
        injection hy with hy
        subst hy
        exact hs.at_
      · rw [List.getElem?_set_ne hji] at hy
        exact (hs.other _ (h.srel.rel.apart j i r q (Ne.symm hji) hr hq).1).trans (h.srel.rel.blk j r y hr hy)
    · intro j r y hr hy
      by_cases hji : i = j
      · subst hji
        rw [hq] at hr
        injection hr with hr
        subst hr
        rw [List.getElem?_set_self hil] at hy
        injection hy with hy
        subst hy
        rw [hids]
        exact hrow _ _ (h.srel.rel.row i q x hq hx)
      · rw [List.getElem?_set_ne hji] at hy
        exact hrow _ _ (h.srel.rel.row j r y hr hy)
  refine ⟨⟨(hs.other _ (blk_ne h.srel.blk hqb (by decide))).trans h.srel.blk, h.srel.base, ?_, hrel⟩, hs.below h.bel (h.srel.rel.base i q hq), h.kt.trans (Kt.sets hs hqb (by decide)), (hs.other _ (blk_ne h.ev hqb (by decide))).trans h.ev, (hs.other _ (blk_ne h.rp hqb (by decide))).trans h.rp, h.gs, h.Bg⟩
  simpa using own_sets h.srel.own hs hqb (by decide)
theorem CI.raise (h : CI B w0 wA p A c R e g w s L ps) {i : Nat} {q : Pl} {x : Ses} {id : ByteArray} (hq : ps[i]? = some q) (hx : s.list[i]? = some x) {w6 : World} {v' : Value}
    (hown : w6.ownsRow B 9 1 v' (x.ids.length + 1) (encs Value.string x.ids ++ [.string id])) (hg : w.grownBy w6 q.v.ownBlock) (hbl : v'.ownBlock = q.v.ownBlock ∨ ∃ k, v'.ownBlock = some k ∧ w.heap.size ≤ k) :
    CI B w0 wA p A c R e g (w6.setCell ⟨q.b, 0, none⟩ v') { s with list := s.list.set i { x with ids := x.ids ++ [id] } } L (ps.set i ⟨q.b, v'⟩) := by
  have hrowi := h.srel.rel.row i q x hq hx
  have hk : ∀ (k : Nat) (cells : Array Value) (t : Nat), w.heap[k]? = some (.cells cells t (0, 0)) → t ≠ 9 → w6.heap[k]? = w.heap[k]? := fun k cells t hc ht =>
    hg.block k (blk_lt hc) (fun e1 => by
      obtain ⟨cs, h2⟩ := own_typed (Kd.own_of_R hrowi) k e1.symm
      rw [hc] at h2
      injection h2 with h2
      injection h2 with _ h2
      exact ht h2)
  have hqb := h.srel.rel.blk i q x hq hx
  have hil : i < s.list.length := (List.getElem?_eq_some_iff.1 hx).1
  have hip : i < ps.length := (List.getElem?_eq_some_iff.1 hq).1
  have hqb6 := (hk _ _ _ hqb (by decide)).trans hqb
  have hs : Sets w6 (w6.setCell ⟨q.b, 0, none⟩ v') q.b (.cells (SesCells v' { x with ids := x.ids ++ [id] }) 71 (0, 0)) := Sets.set (Sets.first hqb6) 0 v'
  have hrow6 : ∀ (j : Nat) (r : Pl) (y : Ses), i ≠ j → ps[j]? = some r → s.list[j]? = some y → Kd.R Kd.string 9 w6 B (fun _ => True) r.v y.ids := fun j r y hij hr hy =>
    have hv := h.srel.rel.row j r y hr hy
    Kd.R_of_own (own_move (Kd.own_of_R hv) (fun k hk1 => by
      obtain ⟨cells, hc⟩ := Kd.R_typed hv k hk1
      exact hg.block k (blk_lt hc) (fun e1 => (h.srel.rel.apart i j q r hij hq hr).2 (e1.symm.trans hk1.symm)))) (fun _ _ => trivial)
  have hrow7 : ∀ (v : Value) (l : List ByteArray), Kd.R Kd.string 9 w6 B (fun _ => True) v l → Kd.R Kd.string 9 (w6.setCell ⟨q.b, 0, none⟩ v') B (fun _ => True) v l := fun v l hv =>
    Kd.R_of_own (own_sets (Kd.own_of_R hv) hs hqb6 (by decide)) (fun _ _ => trivial)
  have hnewrow : Kd.R Kd.string 9 w6 B (fun _ => True) v' (x.ids ++ [id]) := Kd.R_of_own (by
    have e1 : (x.ids ++ [id]).length = x.ids.length + 1 := by simp
    have e2 : encs Value.string (x.ids ++ [id]) = encs Value.string x.ids ++ [.string id] := by simp [encs]
    rw [e1, e2]; exact hown) (fun _ _ => trivial)
  have hget : ∀ (j : Nat) (r : Pl), (ps.set i ⟨q.b, v'⟩)[j]? = some r → (i = j ∧ r = ⟨q.b, v'⟩) ∨ (i ≠ j ∧ ps[j]? = some r) := fun j r hr => by
    by_cases hji : i = j
    · subst hji
      rw [List.getElem?_set_self hip] at hr
      injection hr with hr
      exact .inl ⟨rfl, hr.symm⟩
    · rw [List.getElem?_set_ne hji] at hr
      exact .inr ⟨hji, hr⟩
  have hsame : ∀ (j : Nat) (r : Pl), i ≠ j → ps[j]? = some r → r.b ≠ q.b ∧ r.v.ownBlock ≠ v'.ownBlock := fun j r hij hr => by
    have ha := h.srel.rel.apart i j q r hij hq hr
    refine ⟨Ne.symm ha.1, ?_⟩
    rcases hbl with e1 | ⟨k, e1, hk2⟩
    · rw [e1]; exact Ne.symm ha.2
    · rw [e1]
      intro e2
      obtain ⟨y, hy⟩ : ∃ y, s.list[j]? = some y := ⟨_, List.getElem?_eq_getElem (by rw [← h.srel.rel.len]; exact (List.getElem?_eq_some_iff.1 hr).1)⟩
      have := Kd.R_lt (h.srel.rel.row j r y hr hy) k e2
      omega
  have hrel : LRel (w6.setCell ⟨q.b, 0, none⟩ v') B (ps.set i ⟨q.b, v'⟩) (s.list.set i { x with ids := x.ids ++ [id] }) := by
    refine ⟨by simp [h.srel.rel.len], ?_, ?_, ?_, ?_⟩
    · intro j r y hr hy
      rcases hget j r hr with ⟨rfl, rfl⟩ | ⟨hij, hr⟩
      · rw [List.getElem?_set_self hil] at hy
        injection hy with hy
        subst hy
        exact hs.at_
      · rw [List.getElem?_set_ne hij] at hy
        have hb := h.srel.rel.blk j r y hr hy
        exact (hs.other _ (hsame j r hij hr).1).trans ((hk _ _ _ hb (by decide)).trans hb)
    · intro j r y hr hy
      rcases hget j r hr with ⟨rfl, rfl⟩ | ⟨hij, hr⟩
      · rw [List.getElem?_set_self hil] at hy
        injection hy with hy
        subst hy
        exact hrow7 _ _ hnewrow
      · rw [List.getElem?_set_ne hij] at hy
        exact hrow7 _ _ (hrow6 j r y hij hr hy)
    · intro j r hr
      rcases hget j r hr with ⟨rfl, rfl⟩ | ⟨hij, hr⟩
      · exact h.srel.rel.base i q hq
      · exact h.srel.rel.base j r hr
    · intro j k r t hjk hr ht
      rcases hget j r hr with ⟨rfl, rfl⟩ | ⟨hij, hr⟩
      · rcases hget k t ht with ⟨rfl, rfl⟩ | ⟨hik, ht⟩
        · exact absurd rfl hjk
        · exact ⟨Ne.symm (hsame k t hik ht).1, Ne.symm (hsame k t hik ht).2⟩
      · rcases hget k t ht with ⟨rfl, rfl⟩ | ⟨hik, ht⟩
        · exact hsame j r hij hr
        · exact h.srel.rel.apart j k r t hjk hr ht
  have hp6 := (hk _ _ _ h.srel.blk (by decide)).trans h.srel.blk
  have hev := (hk _ _ _ h.ev (by decide)).trans h.ev
  have hrp := (hk _ _ _ h.rp (by decide)).trans h.rp
  have hown6 : w6.ownsRow B 68 1 L s.list.length (ps.map ptr) := own_move h.srel.own (fun k hk1 => by
    obtain ⟨cells, hc⟩ := own_typed h.srel.own k hk1
    exact hk k cells _ hc (by decide))
  have hbel : Below B w0 w6 := h.bel.grown hg h.sz (fun k hk1 => ((Kd.own_of_R hrowi).lt k hk1).1)
  have hmap : (ps.set i ⟨q.b, v'⟩).map ptr = ps.map ptr := by
    apply List.ext_getElem?
    intro j
    rw [List.getElem?_map, List.getElem?_map]
    by_cases hji : i = j
    · subst hji
      rw [List.getElem?_set_self hip, hq]
      rfl
    · rw [List.getElem?_set_ne hji]
  refine ⟨⟨(hs.other _ (blk_ne hp6 hqb6 (by decide))).trans hp6, h.srel.base, ?_, hrel⟩, hs.below hbel (h.srel.rel.base i q hq), ?_, (hs.other _ (blk_ne hev hqb6 (by decide))).trans hev, (hs.other _ (blk_ne hrp hqb6 (by decide))).trans hrp, h.gs, h.Bg⟩
  · rw [hmap]
    simpa using own_sets hown6 hs hqb6 (by decide)
  · exact Kt.trans (b := w6) (h.kt.trans ⟨hg.size, fun k cells hc => hk k cells _ hc (by decide)⟩) (Kt.sets hs hqb6 (by decide))
theorem CI.form (h : CI B w0 wA p A c R e g w s L ps) : ∃ A' cap, L = .slice A' s.list.length cap := by
  rcases h.srel.own.2 with ⟨h1, h2⟩ | ⟨g', cap, cur, h1, _⟩
  · exact ⟨none, 0, by rw [h1, h2]⟩
  · exact ⟨_, _, h1⟩
theorem CI.at_ {A' : Option Addr} {n cap : Nat} (h : CI B w0 wA p A c R e g w s (.slice A' n cap) ps) {i : Nat} {q : Pl} (hq : ps[i]? = some q) :
    ∃ g', A' = some ⟨g', 0, none⟩ ∧ w.cell? ⟨g', i, none⟩ = some (.pointer (some ⟨q.b, 0, none⟩)) := by
  have hi : i < s.list.length := by rw [← h.srel.rel.len]; exact (List.getElem?_eq_some_iff.1 hq).1
  have ho := h.srel.own
  rcases ho.2 with ⟨_, h2⟩ | ⟨g', cap', cur, h1, _⟩
  · omega
  · injection h1 with h3 h4 h5
    subst h3
    subst h4
    refine ⟨g', rfl, ?_⟩
    have h6 := ho.cellAt i (by omega)
    rw [List.getElem?_map, hq] at h6
    exact h6
end
theorem info_str : (Tryd.prog.info? 9).map (fun i => (i.zero, i.size, i.bytes)) = some (some (.string none_), 1, 16) := by kernel_rfl
section
variable {B : Nat} {w0 wA : World} {p : Nat} {A : Option Addr} {c : Nat} {R : Value} {e : Ev} {g : Nat} {w : World} {s : St} {L : Value} {ps : List Pl} {i : Nat} {q : Pl} {x : Ses} {u : Value} {t : TypeId}
theorem raise_keep (h : CI B w0 wA p A c R e g w s L ps) (hq : ps[i]? = some q) (hx : s.list[i]? = some x) {w6 : World} (hg : (w.alloc (.cells #[u] t)).grownBy w6 q.v.ownBlock) : w6.heap[q.b]? = some (.cells (SesCells q.v x) 71 (0, 0)) :=
  grown_keep (Kd.own_of_R (h.srel.rel.row i q x hq hx)) (World.grownBy.trans (World.grownBy_alloc w _ _) hg) (h.srel.rel.blk i q x hq hx) (by decide)
theorem raise_cell (h : CI B w0 wA p A c R e g w s L ps) (hq : ps[i]? = some q) (hx : s.list[i]? = some x) {w6 : World} (hg : (w.alloc (.cells #[u] t)).grownBy w6 q.v.ownBlock) : w6.cell? ⟨q.b, 0, none⟩ = some q.v :=
  blk_cell (raise_keep h hq hx hg) 0
theorem raise_frozen (h : CI B w0 wA p A c R e g w s L ps) (hq : ps[i]? = some q) (hx : s.list[i]? = some x) {w6 : World} (hg : (w.alloc (.cells #[u] t)).grownBy w6 q.v.ownBlock) : ∀ j, w6.frozen? ⟨q.b, j, none⟩ = false := fun j => by
  simp [World.frozen?, raise_keep h hq hx hg]
theorem raise_alloc (h : CI B w0 wA p A c R e g w s L ps) (hq : ps[i]? = some q) (hx : s.list[i]? = some x) {w6 : World} {id : ByteArray} {g9 cap9 : Nat}
    (hown : w6.ownsRow B 9 1 (.slice (some ⟨g9, 0, none⟩) (x.ids.length + 1) cap9) (x.ids.length + 1) (encs Value.string x.ids ++ [.string id])) (hg : (w.alloc (.cells #[u] t)).grownBy w6 q.v.ownBlock) (hat : q.v.ownBlock = some g9 ∨ g9 = w.heap.size + 1) :
    CI B w0 wA p A c R e g (w6.setCell ⟨q.b, 0, none⟩ (.slice (some ⟨g9, 0, none⟩) (x.ids.length + 1) cap9)) { s with list := s.list.set i { x with ids := x.ids ++ [id] } } L (ps.set i ⟨q.b, .slice (some ⟨g9, 0, none⟩) (x.ids.length + 1) cap9⟩) :=
  (h.below ((Below.refl _ _).alloc (Nat.le_refl _) (.cells #[u] t))).raise hq hx hown hg (by
    rcases hat with h1 | h1
    · exact .inl h1.symm
    · exact .inr ⟨g9, rfl, by simp; omega⟩)
end
end Go.Proofs.YtpfjboioeidecaaDoor.HS
end
section
namespace Go.Proofs.YtpfjboioeidecaaDoor.HS
open Go.RowKit Go.Proofs.YtpfjboioeidecaaDoorW.PrintWords Go.Proofs.YtpfjboioeidecaaDoorW.PrintLast Go.Proofs.YtpfjboioeidecaaDoor.HP Go.Proofs.YtpfjboioeidecaaDoor.HDig
def conf (n : Nat) (idle most : Int) : Bool := decide (n ≤ 64) && decide (1 ≤ idle) && decide (idle ≤ 1000000) && decide (1 ≤ most) && decide (most ≤ 1000000)
set_option maxHeartbeats 2000000 in
theorem conf_calls (A : Option Addr) (n c : Nat) (idle most : Int) (w : World) (hn : n ≤ 9223372036854775807) :
    Calls Tryd.prog 49 #[.agg #[.slice A n c, .int .i64 idle, .int .i64 most]] w fun e w' => e = .returned (.bool (conf n idle most)) ∧ ∃ W, w' = (w.alloc W) := by
  unfold conf
  by_cases h1 : n ≤ 64 <;> by_cases h2 : 1 ≤ idle <;> by_cases h3 : idle ≤ 1000000 <;> by_cases h4 : 1 ≤ most <;> by_cases h5 : most ≤ 1000000 <;> (try omega)
  all_goals
    go_enter Tryd.func49, Tryd.ntmps49
    go_wp2_with fail
    go_ret
    refine ⟨by simp [*], _, rfl⟩
def kEv : Kd Ev := Kd.iso (Kd.pair (Kd.int .i64) (Kd.pair (Kd.int .i64) (Kd.pair Kd.string (Kd.pair Kd.string Kd.string)))) (fun x : Ev => (x.kind, x.time, x.user, x.device, x.id))
theorem kEv_open {w : World} {x : Ev} {cs : List Value} (h : kEv.K w x cs) : cs = [.int .i64 x.kind, .int .i64 x.time, .string x.user, .string x.device, .string x.id] := by
  obtain ⟨_, _, rfl, rfl, ⟨_, _, rfl, rfl, ⟨_, _, rfl, rfl, ⟨_, _, rfl, rfl, rfl⟩⟩⟩⟩ := h
  exact rfl
theorem ev_at {w : World} {A : Option Addr} {n : Nat} {xs : List Ev} (h : Kd.C kEv w A n xs) {i : Nat} {x : Ev} (hx : xs[i]? = some x) (hi : i < n) :
    ∃ ad, A = some ad ∧ w.cell? (ad.add (i * 5)) = some (.int .i64 x.kind) ∧ w.cell? ⟨(ad.add (i * 5)).block, (ad.add (i * 5)).off + 1, none⟩ = some (.int .i64 x.time) ∧ w.cell? ⟨(ad.add (i * 5)).block, (ad.add (i * 5)).off + 2, none⟩ = some (.string x.user) ∧ w.cell? ⟨(ad.add (i * 5)).block, (ad.add (i * 5)).off + 3, none⟩ = some (.string x.device) ∧ w.cell? ⟨(ad.add (i * 5)).block, (ad.add (i * 5)).off + 4, none⟩ = some (.string x.id) := by
  obtain ⟨ad, c, e, _, hK, hc0⟩ := Kd.C_get h (⟨0, 0, none_, none_, none_⟩ : Ev) (i : Int) (by omega) (by omega)
  have hg : xs.getD (i : Int).toNat ⟨0, 0, none_, none_, none_⟩ = x := by simp [hx]
  rw [hg] at hK
  obtain rfl := kEv_open hK
  have hc : ∀ j u, ([.int .i64 x.kind, .int .i64 x.time, .string x.user, .string x.device, .string x.id] : List Value)[j]? = some u → w.cell? (ad.add (i * 5 + j)) = some u := hc0
  exact ⟨ad, e, hc 0 _ rfl, by rw [← add_field _ _ 1 (by omega)]; exact hc 1 _ rfl, by rw [← add_field _ _ 2 (by omega)]; exact hc 2 _ rfl, by rw [← add_field _ _ 3 (by omega)]; exact hc 3 _ rfl, by rw [← add_field _ _ 4 (by omega)]; exact hc 4 _ rfl⟩
def rpCells (l : List Rp) : List Value := l.flatMap fun r => (RpCells r).toList
theorem info_rp : (Tryd.prog.info? 31).map (fun i => (i.zero, i.size, i.bytes)) = some (some (.agg #[.int .i64 0, .string none_, .string none_, .int .i64 0]), 4, 48) := by kernel_rfl
end Go.Proofs.YtpfjboioeidecaaDoor.HS
end
