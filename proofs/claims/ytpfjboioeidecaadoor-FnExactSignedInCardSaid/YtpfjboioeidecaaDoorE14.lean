/- The law FnExactSignedIn returns true, walked; the conditions are that its arguments can be read and the table of powers of ten. -/
import Derived.Test.YtpfjboioeidecaaDoorE11
import Derived.Test.YtpfjboioeidecaaDoorE13
import Derived.Deep.RegionHeld3
import Derived.Outline
import Derived.SizedLaws
import Derived.KernelRfl
import Derived.ChangeSame
import Derived.ChangeSlices
import Derived.Deep.Slices
import Derived.Deep.Fields
import Derived.Lib.SmallJoins
import Derived.Lib.LaidTab
section
namespace Go.Proofs.YtpfjboioeidecaaDoor.HL
open Go.RowKit Go.Proofs.YtpfjboioeidecaaDoorW.PrintWords Go.Proofs.YtpfjboioeidecaaDoorW.PrintLast Go.Proofs.YtpfjboioeidecaaDoor.HP Go.Proofs.YtpfjboioeidecaaDoor.HDig Go.Proofs.YtpfjboioeidecaaDoor.HS Go.Proofs.YtpfjboioeidecaaDoor.HPl Go.Proofs.YtpfjboioeidecaaDoor.PQ Go.Proofs.YtpfjboioeidecaaDoorW
def ev (e : SE) : HS.Ev := ⟨e.f0, e.f1, e.f2, e.f3, e.f4⟩
theorem evC {w : World} {A : Option Addr} {n : Nat} {xs : List SE} (h : Kd.C k34 w A n xs) : Kd.C kEv w A n (xs.map ev) :=
  ⟨by simpa using h.1, h.2.1, fun hn => by
    obtain ⟨ad, e, hc⟩ := h.2.2 hn
    refine ⟨ad, e, fun j p hj => ?_⟩
    rw [List.getElem?_map] at hj
    obtain ⟨q, hq, rfl⟩ := Option.map_eq_some_iff.1 hj
    exact hc j q hq⟩
def out (l : List Int) (a b : Int) (l1 : List SE) (t : Int) : List SR := (signedP l a b (l1.map ev) t).map rp
def FitE (l : List SE) : Prop := ∀ e ∈ l, e.f2.size ≤ 1048576 ∧ e.f3.size ≤ 1048576 ∧ e.f4.size ≤ 1048576
theorem steps_list_len (s : St) (l : List HS.Ev) : (steps s l).1.list.length ≤ s.list.length + l.length := by
  induction l generalizing s with
  | nil => simp [steps]
  | cons e l ih =>
    have h1 := ih (HS.step s e).1
    have h2 : (HS.step s e).1.list.length ≤ s.list.length + 1 := by
      unfold HS.step
      split
      · show s.list.length ≤ _; omega
      · split
        · show s.list.length ≤ _; omega
        · unfold step2
          split
          · simp
          · split
            · simp
            · split
              · show s.list.length ≤ _; omega
              · split
                · show s.list.length ≤ _; omega
                · split
                  · simp
                  · split
                    · show s.list.length ≤ _; omega
                    · split
                      · show s.list.length ≤ _; omega
                      · split
                        · simp
                        · split
                          · simp
                          · simp
    simp only [steps, List.length_cons]
    omega
theorem out_len (l : List Int) (a b : Int) (l1 : List SE) (t : Int) : (out l a b l1 t).length ≤ 200 := by
  unfold out
  rw [List.length_map]
  unfold signedP
  split
  · rename_i h
    split
    · unfold signed
      have h1 := signedL_len (steps (HS.start l a b) (l1.map ev)).1.idle (steps (HS.start l a b) (l1.map ev)).1.most t (steps (HS.start l a b) (l1.map ev)).1.list
      have h2 := steps_list_len (HS.start l a b) (l1.map ev)
      have h3 : (HS.start l a b).list.length = 0 := rfl
      omega
    · simp
  · simp
section
variable (w : World)
theorem c11 (A : Option Addr) (c : Nat) (l : List Int) (a b : Int) (hr : Kd.C (Kd.int .u8) w A l.length l) (hc : l.length ≤ c) (hl : l.length ≤ 140737488351232) :
    Calls Tryd.prog 11 #[.agg #[.slice A l.length c, .int .i64 a, .int .i64 b], .int .i64 1048576] w fun e w' => e = .returned (.int .i64 (if 1048576 < l.length then -1 else 1048576 - (l.length : Int))) ∧ Below w.heap.size w w' :=
  laws_szSessConf.calls A c l a b 1048576 _ w hr hc (szConf_at l a b hl)
theorem c13 (A : Option Addr) (n c : Nat) (l : List Int) (a b : Int) (hn : n = l.length) (hr : Kd.C (Kd.int .u8) w A l.length l) (hc : l.length ≤ c) (hl : l.length ≤ 1048576) :
    Calls Tryd.prog 13 #[.agg #[.slice A n c, .int .i64 a, .int .i64 b]] w fun e w' => ∃ A' c', e = .returned (.agg #[.slice A' n c', .int .i64 a, .int .i64 b]) ∧ Kd.R (Kd.int .u8) 5 w' w.heap.size (fun _ => True) (.slice A' n c') l ∧ Below w.heap.size w w' := by
  subst hn
  obtain ⟨k, hk⟩ := toConf_at l a b (by omega)
  refine (laws_toSessConf.calls k A c l a b l a b w hr hc hk).mono ?_
  rintro e w' ⟨v, rfl, hR, hb⟩
  obtain ⟨A', c', rfl⟩ := Kd.R_slice hR
  exact ⟨A', c', rfl, hR, hb⟩
theorem c14 (A : Option Addr) (n c : Nat) (l : List SL) (l1 : List SE) (hl1 : l1 = l.map e34) (hn : n = l.length) (hr : Kd.C k83 w A l.length l) (hc : l.length ≤ c) (hl : l.length ≤ 1048576) :
    Calls Tryd.prog 14 #[.slice A n c] w fun e w' => ∃ A' c', e = .returned (.slice A' n c') ∧ Kd.R k34 34 w' w.heap.size (fun _ => True) (.slice A' n c') l1 ∧ Below w.heap.size w w' := by
  subst hn
  subst hl1
  obtain ⟨k, hk⟩ := toEv_at l hl
  refine (laws_toSessEventS.calls k A c l _ w hr hc hk).mono ?_
  rintro e w' ⟨v, rfl, hR, hb⟩
  obtain ⟨A', c', rfl⟩ := Kd.R_slice hR
  rw [List.length_map] at hR ⊢
  exact ⟨A', c', rfl, hR, hb⟩
theorem c15 (A : Option Addr) (n c : Nat) (A' : Option Addr) (n' c' : Nat) (l : List SR) (hn : n = l.length) (hn' : n' = l.length) (hr : Kd.C k31 w A l.length l) (hc : l.length ≤ c) (hr' : Kd.C k31 w A' l.length l) (hc' : l.length ≤ c') (hl : l.length ≤ 200) :
    Calls Tryd.prog 15 #[.slice A n c, .slice A' n' c'] w fun e w' => e = .returned (.bool true) ∧ Below w.heap.size w w' := by
  subst hn
  subst hn'
  obtain ⟨k, hk⟩ := eqR_at l (by omega)
  exact laws_eqSessReplyS.calls k A c l A' c' l _ w hr hc hr' hc' hk
theorem c16 (A : Option Addr) (n c : Nat) (A' : Option Addr) (n' c' : Nat) (l : List Int) (a b : Int) (hn : n = l.length) (hn' : n' = l.length) (hr : Kd.C (Kd.int .u8) w A l.length l) (hc : l.length ≤ c) (hr' : Kd.C (Kd.int .u8) w A' l.length l) (hc' : l.length ≤ c') (hl : l.length ≤ 1048576) :
    Calls Tryd.prog 16 #[.agg #[.slice A n c, .int .i64 a, .int .i64 b], .agg #[.slice A' n' c', .int .i64 a, .int .i64 b]] w fun e w' => e = .returned (.bool true) ∧ Below w.heap.size w w' := by
  subst hn
  subst hn'
  obtain ⟨k, hk⟩ := eqC_at l a b hl
  exact laws_eqSessConf.calls k A c l a b A' c' l a b _ w hr hc hr' hc' hk
theorem c17 (A : Option Addr) (n c : Nat) (A' : Option Addr) (n' c' : Nat) (l : List SE) (hn : n = l.length) (hn' : n' = l.length) (hr : Kd.C k34 w A l.length l) (hc : l.length ≤ c) (hr' : Kd.C k34 w A' l.length l) (hc' : l.length ≤ c') (hl : l.length ≤ 1048576) :
    Calls Tryd.prog 17 #[.slice A n c, .slice A' n' c'] w fun e w' => e = .returned (.bool true) ∧ Below w.heap.size w w' := by
  subst hn
  subst hn'
  obtain ⟨k, hk⟩ := eqE_at l hl
  exact laws_eqSessEventS.calls k A c l A' c' l _ w hr hc hr' hc' hk
theorem c18 (w0 : World) (P : Nat → Prop) (v : Value) (l : List Int) (a b : Int) (hB : Below w0.heap.size w0 w) (hr : Kd.R (Kd.int .u8) 5 w w0.heap.size P v l) (hl : l.length ≤ 1048576) :
    Calls Tryd.prog 18 #[.agg #[v, .int .i64 a, .int .i64 b], .int .i64 1] w fun e w' => e = .returned (.int .i64 (1 + (l.length : Int))) ∧ Below w0.heap.size w0 w' ∧ Kept w w' P := by
  obtain ⟨k, r2, hk⟩ := markC_at l a b hl
  refine (laws_markSessConf.calls k P v l a b 1 _ r2 w0 w hB hr hk).mono ?_
  rintro e w' ⟨rfl, _, h1, h2⟩
  exact ⟨rfl, h1, h2⟩
theorem c19 (w0 : World) (P : Nat → Prop) (v : Value) (l : List SE) (m : Int) (h0 : 0 ≤ m) (h1 : m ≤ 1048577) (hB : Below w0.heap.size w0 w) (hr : Kd.R k34 34 w w0.heap.size P v l) (hl : l.length ≤ 1048576) :
    Calls Tryd.prog 19 #[v, .int .i64 m] w fun e w' => e = .returned (.int .i64 (m + 5 * (l.length : Int))) ∧ Below w0.heap.size w0 w' ∧ Kept w w' P := by
  obtain ⟨k, r2, hk⟩ := markE_at l m h0 h1 hl
  refine (laws_markSessEventS.calls k P v l m _ r2 w0 w hB hr hk).mono ?_
  rintro e w' ⟨rfl, _, h1, h2⟩
  exact ⟨rfl, h1, h2⟩
theorem c20 (w0 : World) (P : Nat → Prop) (v : Value) (l : List SR) (hB : Below w0.heap.size w0 w) (hr : Kd.R k31 31 w w0.heap.size P v l) (hl : l.length ≤ 200) :
    Calls Tryd.prog 20 #[v, .int .i64 1] w fun e w' => e = .returned (.int .i64 (1 + 4 * (l.length : Int))) ∧ Kd.R k31 31 w' w0.heap.size (fun k_ => (P k_ ∨ w.heap.size ≤ k_)) v (mk l.length 1) ∧ Below w0.heap.size w0 w' ∧ Kept w w' P := by
  obtain ⟨k, hk⟩ := markR_at l (by omega)
  exact laws_markSessReplyS.calls k P v l 1 _ _ w0 w hB hr hk
theorem c21 (A : Option Addr) (n c : Nat) (m : Nat) (hn : n = m) (hr : Kd.C k31 w A m (mk m 1)) (hc : m ≤ c) (hl : m ≤ 200) :
    Calls Tryd.prog 21 #[.slice A n c, .int .i64 1] w fun e w' => e = .returned (.int .i64 (1 + 4 * (m : Int))) ∧ Below w.heap.size w w' := by
  subst hn
  obtain ⟨k, hk⟩ := heldR_at n (by omega)
  have h := laws_heldSessReplyS.calls k A c (mk n 1) 1 _ w (by rw [mk_len]; exact hr) (by rw [mk_len]; exact hc) hk
  rw [mk_len] at h
  exact h
theorem fit_ev {l1 : List SE} (hf : FitE l1) : ∀ e ∈ l1.map ev, e.user.size ≤ 140737488351232 ∧ e.device.size ≤ 140737488351232 := by
  intro e he
  obtain ⟨q, hq, rfl⟩ := List.mem_map.1 he
  have := hf q hq
  exact ⟨by show q.f2.size ≤ _; omega, by show q.f3.size ≤ _; omega⟩
theorem c8 (A : Option Addr) (n c : Nat) (l : List Int) (a b : Int) (A1 : Option Addr) (n1 c1 : Nat) (l1 : List SE) (t : Int) (hn : n = l.length) (hn1 : n1 = l1.length) (hr : Kd.C (Kd.int .u8) w A l.length l) (hc : l.length ≤ c) (hb : Byt l)
    (hr1 : Kd.C k34 w A1 l1.length l1) (hc1 : l1.length ≤ c1) (hf : FitE l1) (hT : Tabs w) :
    Calls Tryd.prog 8 #[.agg #[.slice A n c, .int .i64 a, .int .i64 b], .slice A1 n1 c1, .int .i64 t] w fun e w' => ∃ A' n' c', n' = (out l a b l1 t).length ∧ e = .returned (.slice A' n' c') ∧ Kd.R k31 31 w' w.heap.size (fun _ => True) (.slice A' n' c') (out l a b l1 t) ∧ Below w.heap.size w w' := by
  subst hn
  subst hn1
  have h := signed_all w A c l a b A1 c1 (l1.map ev) t hr hc hb (by rw [List.length_map]; exact evC hr1) (by rw [List.length_map]; exact hc1) hT (fit_ev hf)
  rw [List.length_map] at h
  refine h.mono ?_
  rintro e w' ⟨v, rfl, hR, hb⟩
  obtain ⟨A', c', rfl⟩ := Kd.R_slice hR
  exact ⟨A', _, c', rfl, rfl, hR, hb⟩
theorem c9 (A : Option Addr) (n c : Nat) (l : List Int) (a b : Int) (A1 : Option Addr) (n1 c1 : Nat) (l1 : List SE) (t : Int) (hn : n = l.length) (hn1 : n1 = l1.length) (hr : Kd.C (Kd.int .u8) w A l.length l) (hc : l.length ≤ c) (hb : Byt l)
    (hr1 : Kd.C k34 w A1 l1.length l1) (hc1 : l1.length ≤ c1) (hf : FitE l1) :
    Calls Tryd.prog 9 #[.agg #[.slice A n c, .int .i64 a, .int .i64 b], .slice A1 n1 c1, .int .i64 t] w fun e w' => ∃ A' n' c', n' = (out l a b l1 t).length ∧ e = .returned (.slice A' n' c') ∧ Kd.R k31 31 w' w.heap.size (fun _ => True) (.slice A' n' c') (out l a b l1 t) ∧ Below w.heap.size w w' := by
  subst hn
  subst hn1
  have h := HT.tsigned_all w A c l a b A1 c1 (l1.map ev) t hr hc hb (by rw [List.length_map]; exact evC hr1) (by rw [List.length_map]; exact hc1) (fit_ev hf)
  rw [List.length_map] at h
  refine h.mono ?_
  rintro e w' ⟨v, rfl, hR, hb⟩
  obtain ⟨A', c', rfl⟩ := Kd.R_slice hR
  exact ⟨A', _, c', rfl, rfl, hR, hb⟩
end
structure G (w W : World) (b3 : Nat) (C3 : Array Value) (vw vg : Value) (lw lg : List SR) (N1 N3 : Nat) : Prop where
  bel : Below w.heap.size w W
  c3 : W.heap[b3]? = some (.cells C3 37 (0, 0))
  rw_ : Kd.R k31 31 W w.heap.size (fun k => k < N1) vw lw
  rg : Kd.R k31 31 W w.heap.size (fun k => N3 ≤ k) vg lg
  b3l : b3 < N1
  n13 : N1 ≤ N3
  n3 : N3 ≤ W.heap.size
section
variable {w W W' : World} {b3 : Nat} {C3 : Array Value} {vw vg : Value} {lw lg lg' : List SR} {N1 N3 : Nat}
theorem G.below (h : G w W b3 C3 vw vg lw lg N1 N3) (hb : Below W.heap.size W W') : G w W' b3 C3 vw vg lw lg N1 N3 :=
  ⟨h.bel.trans (hb.mono h.bel.size), (hb.block _ (blk_lt h.c3)).trans h.c3, Kd.R_below h.rw_ hb, Kd.R_below h.rg hb, h.b3l, h.n13, Nat.le_trans h.n3 hb.size⟩
theorem G.kept {P : Nat → Prop} (h : G w W b3 C3 vw vg lw lg N1 N3) (hk : Kept W W' P) (hP : ∀ k, P k → N1 ≤ k ∧ k < N3) (hb : Below w.heap.size w W') : G w W' b3 C3 vw vg lw lg N1 N3 :=
  ⟨hb, blk_kept h.c3 hk (fun hp => by have := hP _ hp; have := h.b3l; omega), Kd.R_kept h.rw_ hk (fun k hk1 hp => by have := hP _ hp; omega), Kd.R_kept h.rg hk (fun k hk1 hp => by have := hP _ hp; omega), h.b3l, h.n13, Nat.le_trans h.n3 hk.1⟩
theorem G.marked (h : G w W b3 C3 vw vg lw lg N1 N3) (hk : Kept W W' (fun k => N3 ≤ k)) (hb : Below w.heap.size w W') (hr : Kd.R k31 31 W' w.heap.size (fun k => N3 ≤ k ∨ W.heap.size ≤ k) vg lg') : G w W' b3 C3 vw vg lw lg' N1 N3 :=
  ⟨hb, blk_kept h.c3 hk (fun hp => by have := h.b3l; have := h.n13; omega), Kd.R_kept h.rw_ hk (fun k hk1 hp => by have := h.n13; omega), Kd.R_mono hr (fun k hk1 => by have := h.n3; omega), h.b3l, h.n13, Nat.le_trans h.n3 hk.1⟩
end
end Go.Proofs.YtpfjboioeidecaaDoor.HL
end
section
namespace Go.Proofs.YtpfjboioeidecaaDoor.HL
open Go.RowKit Go.Proofs.YtpfjboioeidecaaDoorW.PrintWords Go.Proofs.YtpfjboioeidecaaDoorW.PrintLast Go.Proofs.YtpfjboioeidecaaDoor.HP Go.Proofs.YtpfjboioeidecaaDoor.HDig Go.Proofs.YtpfjboioeidecaaDoor.HS Go.Proofs.YtpfjboioeidecaaDoor.HPl Go.Proofs.YtpfjboioeidecaaDoor.PQ Go.Proofs.YtpfjboioeidecaaDoorW
theorem R_ivl {α : Type} {d : Kd α} {e : Nat} {w w' : World} {base : Nat} {v : Value} {xs : List α} (h : Kd.R d e w' w.heap.size (fun _ => True) v xs) (hb : base ≤ w.heap.size) : Kd.R d e w' base (fun k => w.heap.size ≤ k ∧ k < w'.heap.size) v xs :=
  Kd.R_lower (Kd.R_mono (Kd.R_bound h) (fun _ hk => ⟨hk.2.1, hk.2.2.1⟩)) hb
theorem six {W : World} {N2 b3 : Nat} {x0 x1 x2 y0 y1 y2 : Value} {τ9 τ3 : TypeId} (h9 : W.heap[N2]? = some (.cells #[x0, x1, x2] τ9 (0, 0))) (h3 : W.heap[b3]? = some (.cells #[y0, y1, y2] τ3 (0, 0))) :
    W.cell? ⟨N2, 0, none⟩ = some x0 ∧ W.cell? ⟨N2, 1, none⟩ = some x1 ∧ W.cell? ⟨N2, 2, none⟩ = some x2 ∧ W.cell? ⟨b3, 0, none⟩ = some y0 ∧ W.cell? ⟨b3, 1, none⟩ = some y1 ∧ W.cell? ⟨b3, 2, none⟩ = some y2 :=
  ⟨by rw [blk_cell h9 0]; rfl, by rw [blk_cell h9 1]; rfl, by rw [blk_cell h9 2]; rfl, by rw [blk_cell h3 0]; rfl, by rw [blk_cell h3 1]; rfl, by rw [blk_cell h3 2]; rfl⟩
theorem mk_C {W : World} {A : Option Addr} {n : Nat} (h : Kd.C k31 W A (mk n 1).length (mk n 1)) : Kd.C k31 W A n (mk n 1) := by
  have h2 := mk_len n 1
  rw [h2] at h
  exact h
theorem mk_c {W : World} {base : Nat} {ok : Nat → Prop} {A : Option Addr} {n m c : Nat} {e : TypeId} (h : Kd.R k31 e W base ok (.slice A n c) (mk m 1)) : m ≤ c := by
  have h1 := Kd.R_reads' h
  have h2 := mk_len m 1
  omega
set_option maxHeartbeats 8000000 in
set_option maxRecDepth 100000 in
theorem law_main (w : World) (A : Option Addr) (c : Nat) (l : List Int) (a b : Int) (AE : Option Addr) (cE : Nat) (lE : List SL) (t : Int)
    (hr : Kd.C (Kd.int .u8) w A l.length l) (hc : l.length ≤ c) (hb : Byt l) (hrE : Kd.C k83 w AE lE.length lE) (hcE : lE.length ≤ cE) (hT : Tabs w) (hl : l.length ≤ 1048576) (hlE : lE.length ≤ 1048576) (hf : Fits lE)
    (k0 : Nat) (r0 : Int) (h0 : 0 ≤ r0) (hk0 : laws_szSessEventS.f k0 lE (1048576 - (l.length : Int)) = some r0) :
    Calls Tryd.prog 4 #[.agg #[.slice A l.length c, .int .i64 a, .int .i64 b], .slice AE lE.length cE, .int .i64 t] w fun e w' => e = .returned (.bool true) ∧ Below w.heap.size w w' := by
  have h11 := fun W (h : Kd.C (Kd.int .u8) W A l.length l) => c11 W A c l a b h hc (by omega)
  rw [if_neg (show ¬ 1048576 < l.length by omega)] at h11
  have h12 := fun W (h : Kd.C k83 W AE lE.length lE) => laws_szSessEventS.calls k0 AE cE lE _ _ W h hcE hk0
  obtain ⟨lf, hlf⟩ : ∃ lf : Int, lf = 1048576 - (l.length : Int) := ⟨_, rfl⟩
  rw [← hlf] at h11 h12
  have hlf0 : ¬ lf < 0 := by omega
  have hr00 : ¬ r0 < 0 := by omega
  obtain ⟨l1, hl1⟩ : ∃ l1, l1 = lE.map e34 := ⟨_, rfl⟩
  have hn1 : lE.length = l1.length := by rw [hl1, List.length_map]
  have hf1 : FitE l1 := by
    intro e he
    rw [hl1] at he
    obtain ⟨q, hq, rfl⟩ := List.mem_map.1 he
    exact hf q hq
  obtain ⟨lw, hlw⟩ : ∃ lw, lw = out l a b l1 t := ⟨_, rfl⟩
  have hlw2 : lw.length ≤ 200 := by rw [hlw]; exact out_len l a b l1 t
  have HR := Aside0.mk hr
  have HRE := Aside0.mk hrE
  have HBy := Aside0.mk hb
  have HT := Aside0.mk hT
  have HF1 := Aside0.mk hf1
  have HL1 := Aside0.mk hl1
  have HLw := Aside0.mk hlw
  have HN1 := Aside0.mk hn1
  have H11 := Aside0.mk h11
  have H12 := Aside0.mk h12
  have HB := Aside0.mk (show Below w.heap.size w (w.alloc (.cells #[.slice A l.length c, .int .i64 a, .int .i64 b] 37)) from (Below.refl _ _).alloc (Nat.le_refl _) _)
  have Hm := Aside0.mk (blk_new w (.cells #[.slice A l.length c, .int .i64 a, .int .i64 b] 37))
  clear hr hrE hb hT hf1 hf hl1 hlw hlf hk0 h11 h12 hn1
  go_enter Tryd.func4, Tryd.ntmps4
  go_upto_region 5 with (go_at_call 11; (with_reducible refine (H11.out _ (Kd.C_below HR.out HB.out)).mono ?_); rintro r w1 ⟨rfl, hb⟩; replace HB := Aside0.mk (HB.out.trans (hb.mono HB.out.size)); replace Hm := Aside0.mk ((hb.block _ (blk_lt Hm.out)).trans Hm.out); clear hb)
  go_upto_region 8 with (go_at_call 12; (with_reducible refine (H12.out _ (Kd.C_below HRE.out HB.out)).mono ?_); rintro r w2 ⟨rfl, hb⟩; replace HB := Aside0.mk (HB.out.trans (hb.mono HB.out.size)); replace Hm := Aside0.mk ((hb.block _ (blk_lt Hm.out)).trans Hm.out); clear hb)
  have m0 := blk_cell Hm.out 0
  have m1 := blk_cell Hm.out 1
  have m2 := blk_cell Hm.out 2
  simp only [List.getElem?_toArray, List.getElem?_cons_zero, List.getElem?_cons_succ] at m0 m1 m2
  go_upto_region 9 with (first | (go_at_call 13; (with_reducible refine (c13 _ A l.length c l a b rfl (Kd.C_below HR.out HB.out) hc hl).mono ?_); rintro r w3 ⟨A3, c3, rfl, hR, hb⟩; have HK := Aside0.mk (R_ivl hR HB.out.size); clear hR; replace HB := Aside0.mk (HB.out.trans (hb.mono HB.out.size)); replace Hm := Aside0.mk ((hb.block _ (blk_lt Hm.out)).trans Hm.out); clear hb) | (go_at_call 14; (with_reducible refine (c14 _ AE lE.length cE lE l1 HL1.out rfl (Kd.C_below HRE.out HB.out) hcE hlE).mono ?_); rintro r w4 ⟨A4, c4, rfl, hR, hb⟩; have HE := Aside0.mk (R_ivl hR HB.out.size); clear hR; replace HB := Aside0.mk (HB.out.trans (hb.mono HB.out.size)); replace Hm := Aside0.mk ((hb.block _ (blk_lt Hm.out)).trans Hm.out); replace HK := Aside0.mk (Kd.R_below HK.out hb); clear hb) | (go_at_call 9; (with_reducible refine (c9 _ A3 l.length c3 l a b A4 lE.length c4 l1 t rfl HN1.out (Kd.R_reads' HK.out).2.2 (by have h := Kd.R_reads' HK.out; omega) HBy.out (Kd.R_reads' HE.out).2.2 (by have h := Kd.R_reads' HE.out; omega) HF1.out).mono ?_); rintro r w5 ⟨Aw, nw, cw, hn, rfl, hR, hb⟩; rw [← HLw.out] at hR hn; have HW := Aside0.mk (R_ivl hR HB.out.size); have HWn := Aside0.mk hn; clear hR hn; replace HB := Aside0.mk (HB.out.trans (hb.mono HB.out.size)); replace Hm := Aside0.mk ((hb.block _ (blk_lt Hm.out)).trans Hm.out); replace HK := Aside0.mk (Kd.R_below HK.out hb); replace HE := Aside0.mk (Kd.R_below HE.out hb); clear hb))
  clear m0 m1 m2 HK HE
  have hb3 : w.heap.size < w5.heap.size := by have := blk_lt Hm.out; omega
  obtain ⟨N1, hN1⟩ : ∃ N1, N1 = w5.heap.size := ⟨_, rfl⟩
  rw [← hN1] at HW hb3
  replace HW := Aside0.mk (Kd.R_mono HW.out (fun k hk => (hk.2 : k < N1)))
  have m0 := blk_cell Hm.out 0
  have m1 := blk_cell Hm.out 1
  have m2 := blk_cell Hm.out 2
  simp only [List.getElem?_toArray, List.getElem?_cons_zero, List.getElem?_cons_succ] at m0 m1 m2
  go_upto_region 10 with (go_at_call 13; (with_reducible refine (c13 _ A l.length c l a b rfl (Kd.C_below HR.out HB.out) hc hl).mono ?_); rintro r w6 ⟨A6, c6, rfl, hR, hb⟩; have H0 := Aside0.mk (R_ivl hR HB.out.size); clear hR; have hle6 := hb.size; replace HB := Aside0.mk (HB.out.trans (hb.mono HB.out.size)); replace Hm := Aside0.mk ((hb.block _ (blk_lt Hm.out)).trans Hm.out); replace HW := Aside0.mk (Kd.R_below HW.out hb); clear hb)
  obtain ⟨N2, hN2⟩ : ∃ N2, N2 = w6.heap.size := ⟨_, rfl⟩
  rw [← hN1, ← hN2] at H0
  obtain ⟨w7, hw7⟩ : ∃ w7, w7 = w6.alloc (.cells #[.slice A6 l.length c6, .int .i64 a, .int .i64 b] 24) := ⟨_, rfl⟩
  have h12 : N1 ≤ N2 := by
    rw [hN1, hN2]; exact hle6
  have hb : Below w6.heap.size w6 w7 := by rw [hw7]; exact (Below.refl _ _).alloc (Nat.le_refl _) _
  have H9 := Aside0.mk (show w7.heap[N2]? = some (.cells #[.slice A6 l.length c6, .int .i64 a, .int .i64 b] 24 (0, 0)) by rw [hw7, hN2]; exact blk_new _ _)
  have hs7 : w7.heap.size = N2 + 1 := by rw [hw7, hN2, World.size_alloc]
  replace HB := Aside0.mk (HB.out.trans (hb.mono HB.out.size)); replace Hm := Aside0.mk ((hb.block _ (blk_lt Hm.out)).trans Hm.out); replace HW := Aside0.mk (Kd.R_below HW.out hb); replace H0 := Aside0.mk (Kd.R_below H0.out hb)
  rw [← hw7, ← hN2]
  clear hb hw7 m0 m1 m2 hN1 hN2 hle6
  go_upto_region 11 with (go_at_call 14; (with_reducible refine (c14 _ AE lE.length cE lE l1 HL1.out rfl (Kd.C_below HRE.out HB.out) hcE hlE).mono ?_); rintro r w8 ⟨A8, cc8, rfl, hR, hb⟩; have H1 := Aside0.mk (R_ivl hR HB.out.size); clear hR; have hle8 := hb.size; replace HB := Aside0.mk (HB.out.trans (hb.mono HB.out.size)); replace Hm := Aside0.mk ((hb.block _ (blk_lt Hm.out)).trans Hm.out); replace HW := Aside0.mk (Kd.R_below HW.out hb); replace H0 := Aside0.mk (Kd.R_below H0.out hb); replace H9 := Aside0.mk ((hb.block _ (blk_lt H9.out)).trans H9.out); clear hb)
  obtain ⟨N3, hN3⟩ : ∃ N3, N3 = w8.heap.size := ⟨_, rfl⟩
  rw [hs7] at H1 hle8
  rw [← hN3] at H1 hle8
  have HN3 := Aside0.mk hN3
  clear hs7 hN3
  have n0 := blk_cell H9.out 0
  have n1 := blk_cell H9.out 1
  have n2 := blk_cell H9.out 2
  simp only [List.getElem?_toArray, List.getElem?_cons_zero, List.getElem?_cons_succ] at n0 n1 n2
  go_upto_region 12 with (go_at_call 8; (with_reducible refine (c8 _ A6 l.length c6 l a b A8 lE.length cc8 l1 t rfl HN1.out (Kd.R_reads' H0.out).2.2 (by have h := Kd.R_reads' H0.out; omega) HBy.out (Kd.R_reads' H1.out).2.2 (by have h := Kd.R_reads' H1.out; omega) HF1.out (HT.out.below HB.out)).mono ?_); rintro r w9 ⟨Ag, ng, cg, hn, rfl, hR, hb⟩; rw [← HLw.out] at hR hn; have HG := Aside0.mk (R_ivl hR HB.out.size); have HGn := Aside0.mk hn; have hle9 := hb.size; clear hR hn; replace HB := Aside0.mk (HB.out.trans (hb.mono HB.out.size)); replace Hm := Aside0.mk ((hb.block _ (blk_lt Hm.out)).trans Hm.out); replace HW := Aside0.mk (Kd.R_below HW.out hb); replace H0 := Aside0.mk (Kd.R_below H0.out hb); replace H9 := Aside0.mk ((hb.block _ (blk_lt H9.out)).trans H9.out); replace H1 := Aside0.mk (Kd.R_below H1.out hb); clear hb)
  have HS := Aside0.mk (show G w w9 w.heap.size #[.slice A l.length c, .int .i64 a, .int .i64 b] (.slice Aw nw cw) (.slice Ag ng cg) lw lw N1 N3 from ⟨HB.out, Hm.out, HW.out, Kd.R_mono HG.out (fun k hk => by rw [HN3.out]; exact hk.1), hb3, by omega, by rw [HN3.out]; exact hle9⟩)
  clear HB Hm HW HG n0 n1 n2 hb3 hle9 HN3
  go_upto_region 14 with (go_at_call 15; (with_reducible refine (c15 _ Ag ng cg Aw nw cw lw HGn.out HWn.out (Kd.R_reads' HS.out.rg).2.2 (by have h := (Kd.R_reads' HS.out.rg); omega) (Kd.R_reads' HS.out.rw_).2.2 (by have h := (Kd.R_reads' HS.out.rw_); omega) hlw2).mono ?_); rintro r w10 ⟨rfl, hb⟩; replace HS := Aside0.mk (HS.out.below hb); replace H0 := Aside0.mk (Kd.R_below H0.out hb); replace H1 := Aside0.mk (Kd.R_below H1.out hb); replace H9 := Aside0.mk ((hb.block _ (blk_lt H9.out)).trans H9.out); clear hb)
  have sx := six H9.out HS.out.c3
  obtain ⟨n0, n1, n2, m0, m1, m2⟩ := sx
  go_region_held3 (fun W => W.cell? ⟨N2, 0, none⟩ = some (.slice A6 l.length c6) ∧ W.cell? ⟨N2, 1, none⟩ = some (.int .i64 a) ∧ W.cell? ⟨N2, 2, none⟩ = some (.int .i64 b) ∧ W.cell? ⟨w.heap.size, 0, none⟩ = some (.slice A l.length c) ∧ W.cell? ⟨w.heap.size, 1, none⟩ = some (.int .i64 a) ∧ W.cell? ⟨w.heap.size, 2, none⟩ = some (.int .i64 b)) (first | (with_reducible exact ⟨n0, n1, n2, m0, m1, m2⟩) | (with_reducible exact six H9.out HS.out.c3) | go_keep)
    (first | (go_at_call 13; (with_reducible refine (c13 _ A l.length c l a b rfl (Kd.C_drew (Kd.C_below HR.out HS.out.bel)) hc hl).mono ?_); rintro r w11 ⟨A3, c3, rfl, hR, hb⟩; replace hb := Below.trans (below_drew (Below.refl _ w10)) hb; have HK := Aside0.mk (R_ivl hR HS.out.bel.size); clear hR; replace HS := Aside0.mk (HS.out.below hb); replace H0 := Aside0.mk (Kd.R_below H0.out hb); replace H1 := Aside0.mk (Kd.R_below H1.out hb); replace H9 := Aside0.mk ((hb.block _ (blk_lt H9.out)).trans H9.out); clear hb) | (go_at_call 13; (with_reducible refine (c13 _ A l.length c l a b rfl (Kd.C_below HR.out HS.out.bel) hc hl).mono ?_); rintro r w11 ⟨A3, c3, rfl, hR, hb⟩; have HK := Aside0.mk (R_ivl hR HS.out.bel.size); clear hR; replace HS := Aside0.mk (HS.out.below hb); replace H0 := Aside0.mk (Kd.R_below H0.out hb); replace H1 := Aside0.mk (Kd.R_below H1.out hb); replace H9 := Aside0.mk ((hb.block _ (blk_lt H9.out)).trans H9.out); clear hb) | (go_at_call 16; (with_reducible refine (c16 _ A6 l.length c6 A3 l.length c3 l a b rfl rfl (Kd.C_drew (Kd.R_reads' H0.out).2.2) (by have h := Kd.R_reads' H0.out; omega) (Kd.C_drew (Kd.R_reads' HK.out).2.2) (by have h := Kd.R_reads' HK.out; omega) hl).mono ?_); rintro r w12 ⟨rfl, hb⟩; replace hb := Below.trans (below_drew (Below.refl _ w11)) hb; replace HS := Aside0.mk (HS.out.below hb); replace H0 := Aside0.mk (Kd.R_below H0.out hb); replace H1 := Aside0.mk (Kd.R_below H1.out hb); replace H9 := Aside0.mk ((hb.block _ (blk_lt H9.out)).trans H9.out); replace HK := Aside0.mk (Kd.R_below HK.out hb); clear hb) | (go_at_call 16; (with_reducible refine (c16 _ A6 l.length c6 A3 l.length c3 l a b rfl rfl (Kd.R_reads' H0.out).2.2 (by have h := Kd.R_reads' H0.out; omega) (Kd.R_reads' HK.out).2.2 (by have h := Kd.R_reads' HK.out; omega) hl).mono ?_); rintro r w12 ⟨rfl, hb⟩; replace HS := Aside0.mk (HS.out.below hb); replace H0 := Aside0.mk (Kd.R_below H0.out hb); replace H1 := Aside0.mk (Kd.R_below H1.out hb); replace H9 := Aside0.mk ((hb.block _ (blk_lt H9.out)).trans H9.out); replace HK := Aside0.mk (Kd.R_below HK.out hb); clear hb))
  go_wp2_with fail
  clear HK n0 n1 n2 m0 m1 m2
  go_upto_region 16 with fail
  go_upto_region 19 with (first | (go_at_call 14; (with_reducible refine (c14 _ AE lE.length cE lE l1 HL1.out rfl (Kd.C_below HRE.out HS.out.bel) hcE hlE).mono ?_); rintro r w13 ⟨A4, c4, rfl, hR, hb⟩; have HE := Aside0.mk (R_ivl hR HS.out.bel.size); clear hR; replace HS := Aside0.mk (HS.out.below hb); replace H0 := Aside0.mk (Kd.R_below H0.out hb); replace H1 := Aside0.mk (Kd.R_below H1.out hb); replace H9 := Aside0.mk ((hb.block _ (blk_lt H9.out)).trans H9.out); clear hb) | (go_at_call 17; (with_reducible refine (c17 _ A8 lE.length cc8 A4 lE.length c4 l1 HN1.out HN1.out (Kd.R_reads' H1.out).2.2 (by have h := Kd.R_reads' H1.out; omega) (Kd.R_reads' HE.out).2.2 (by have h := Kd.R_reads' HE.out; omega) (by have := HN1.out; omega)).mono ?_); rintro r w14 ⟨rfl, hb⟩; replace HS := Aside0.mk (HS.out.below hb); replace H0 := Aside0.mk (Kd.R_below H0.out hb); replace H1 := Aside0.mk (Kd.R_below H1.out hb); replace H9 := Aside0.mk ((hb.block _ (blk_lt H9.out)).trans H9.out); replace HE := Aside0.mk (Kd.R_below HE.out hb); clear hb))
  clear HE
  have n0 := blk_cell H9.out 0
  have n1 := blk_cell H9.out 1
  have n2 := blk_cell H9.out 2
  simp only [List.getElem?_toArray, List.getElem?_cons_zero, List.getElem?_cons_succ] at n0 n1 n2
  go_upto_region 20 with (go_at_call 18; (with_reducible refine (c18 _ w (fun k => N1 ≤ k ∧ k < N2) _ l a b HS.out.bel H0.out hl).mono ?_); rintro r w15 ⟨rfl, hb, hk⟩; replace HS := Aside0.mk (HS.out.kept hk (fun k hk => ⟨hk.1, by omega⟩) hb); replace H1 := Aside0.mk (Kd.R_kept H1.out hk (fun k h1 h2 => by omega)); clear hb hk)
  clear H0 H9 n0 n1 n2
  go_upto_region 21 with (go_at_call 19; (with_reducible refine (c19 _ w (fun k => N2 + 1 ≤ k ∧ k < N3) _ l1 (1 + (l.length : Int)) (by omega) (by omega) HS.out.bel H1.out (by have := HN1.out; omega)).mono ?_); rintro r w16 ⟨rfl, hb, hk⟩; replace HS := Aside0.mk (HS.out.kept hk (fun k hk => ⟨by omega, hk.2⟩) hb); clear hb hk)
  clear H1
  have hk0 : ¬ (1 + (l.length : Int) + 5 * (l1.length : Int) < 0) := by omega
  go_upto_region 24 with (go_at_call 15; (with_reducible refine (c15 _ Ag ng cg Aw nw cw lw HGn.out HWn.out (Kd.R_reads' HS.out.rg).2.2 (by have h := (Kd.R_reads' HS.out.rg); omega) (Kd.R_reads' HS.out.rw_).2.2 (by have h := (Kd.R_reads' HS.out.rw_); omega) hlw2).mono ?_); rintro r w17 ⟨rfl, hb⟩; replace HS := Aside0.mk (HS.out.below hb); clear hb)
  go_upto_region 26 with (go_at_call 20; (with_reducible refine (c20 _ w (fun k => N3 ≤ k) _ lw HS.out.bel HS.out.rg hlw2).mono ?_); rintro r w18 ⟨rfl, hR, hb, hk⟩; replace HS := Aside0.mk (HS.out.marked hk hb hR); clear hb hk hR)
  have hk1 : ¬ (1 + 4 * (lw.length : Int) < 0) := by omega
  go_upto_region 31 with (go_at_call 21; (with_reducible refine (c21 _ Ag ng cg lw.length HGn.out (mk_C ((Kd.R_reads' HS.out.rg)).2.2) (mk_c HS.out.rg) hlw2).mono ?_); rintro r w19 ⟨rfl, hb⟩; replace HS := Aside0.mk (HS.out.below hb); clear hb)
  have sx := blk_cell HS.out.c3 0; have sy := blk_cell HS.out.c3 1; have sz := blk_cell HS.out.c3 2
  simp only [List.getElem?_toArray, List.getElem?_cons_zero, List.getElem?_cons_succ] at sx sy sz
  go_upto_region 32 with (first | (go_at_call 13; (with_reducible refine (c13 _ A l.length c l a b rfl (Kd.C_below HR.out HS.out.bel) hc hl).mono ?_); rintro r w20 ⟨A3, c3, rfl, hR, hb⟩; have HK := Aside0.mk (R_ivl hR HS.out.bel.size); clear hR; replace HS := Aside0.mk (HS.out.below hb); clear hb) | (go_at_call 14; (with_reducible refine (c14 _ AE lE.length cE lE l1 HL1.out rfl (Kd.C_below HRE.out HS.out.bel) hcE hlE).mono ?_); rintro r w21 ⟨A4, c4, rfl, hR, hb⟩; have HE := Aside0.mk (R_ivl hR HS.out.bel.size); clear hR; replace HS := Aside0.mk (HS.out.below hb); replace HK := Aside0.mk (Kd.R_below HK.out hb); clear hb) | (go_at_call 8; (with_reducible refine (c8 _ A3 l.length c3 l a b A4 lE.length c4 l1 t rfl HN1.out (Kd.R_reads' HK.out).2.2 (by have h := Kd.R_reads' HK.out; omega) HBy.out (Kd.R_reads' HE.out).2.2 (by have h := Kd.R_reads' HE.out; omega) HF1.out (HT.out.below HS.out.bel)).mono ?_); rintro r w22 ⟨Ah, nh, ch, hn, rfl, hR, hb⟩; rw [← HLw.out] at hR hn; have HH := Aside0.mk (R_ivl hR HS.out.bel.size); have HHn := Aside0.mk hn; clear hR hn; replace HS := Aside0.mk (HS.out.below hb); replace HK := Aside0.mk (Kd.R_below HK.out hb); replace HE := Aside0.mk (Kd.R_below HE.out hb); clear hb))
  go_upto_region 34 with (go_at_call 15; (with_reducible refine (c15 _ Ah nh ch Aw nw cw lw HHn.out HWn.out (Kd.R_reads' HH.out).2.2 (by have h := (Kd.R_reads' HH.out); omega) (Kd.R_reads' HS.out.rw_).2.2 (by have h := (Kd.R_reads' HS.out.rw_); omega) hlw2).mono ?_); rintro r w23 ⟨rfl, hb⟩; replace HS := Aside0.mk (HS.out.below hb); clear hb)
  clear HH HK HE
  go_wp2_with (go_at_call 21; (with_reducible refine (c21 _ Ag ng cg lw.length HGn.out (mk_C ((Kd.R_reads' HS.out.rg)).2.2) (mk_c HS.out.rg) hlw2).mono ?_); rintro r w24 ⟨rfl, hb⟩; replace HS := Aside0.mk (HS.out.below hb); clear hb)
  go_ret
  exact ⟨rfl, HS.out.bel⟩
end Go.Proofs.YtpfjboioeidecaaDoor.HL
end
section
namespace Go.Proofs.YtpfjboioeidecaaDoor.HL
open Go.RowKit Go.Proofs.YtpfjboioeidecaaDoorW.PrintWords Go.Proofs.YtpfjboioeidecaaDoorW.PrintLast Go.Proofs.YtpfjboioeidecaaDoor.HP Go.Proofs.YtpfjboioeidecaaDoor.HDig Go.Proofs.YtpfjboioeidecaaDoor.HS Go.Proofs.YtpfjboioeidecaaDoor.HPl Go.Proofs.YtpfjboioeidecaaDoor.PQ Go.Proofs.YtpfjboioeidecaaDoorW
set_option maxHeartbeats 8000000 in
set_option maxRecDepth 100000 in
theorem law_big (w : World) (A : Option Addr) (c : Nat) (l : List Int) (a b : Int) (AE : Option Addr) (cE : Nat) (lE : List SL) (t : Int)
    (hr : Kd.C (Kd.int .u8) w A l.length l) (hc : l.length ≤ c) (hrE : Kd.C k83 w AE lE.length lE) (hcE : lE.length ≤ cE) (hl : 1048576 < l.length) (hl2 : l.length ≤ 140737488351232) :
    Calls Tryd.prog 4 #[.agg #[.slice A l.length c, .int .i64 a, .int .i64 b], .slice AE lE.length cE, .int .i64 t] w fun e w' => e = .returned (.bool true) ∧ Below w.heap.size w w' := by
  have h11 := fun W (h : Kd.C (Kd.int .u8) W A l.length l) => c11 W A c l a b h hc (by omega)
  rw [if_pos hl] at h11
  have HR := Aside0.mk hr
  have HRE := Aside0.mk hrE
  have H11 := Aside0.mk h11
  have HB := Aside0.mk (show Below w.heap.size w (w.alloc (.cells #[.slice A l.length c, .int .i64 a, .int .i64 b] 37)) from (Below.refl _ _).alloc (Nat.le_refl _) _)
  have Hm := Aside0.mk (blk_new w (.cells #[.slice A l.length c, .int .i64 a, .int .i64 b] 37))
  clear hr hrE h11
  go_enter Tryd.func4, Tryd.ntmps4
  go_wp2_with (go_at_call 11; (with_reducible refine (H11.out _ (Kd.C_below HR.out HB.out)).mono ?_); rintro r w1 ⟨rfl, hb⟩; replace HB := Aside0.mk (HB.out.trans (hb.mono HB.out.size)); clear hb)
  go_ret
  exact ⟨rfl, HB.out⟩
set_option maxHeartbeats 8000000 in
set_option maxRecDepth 100000 in
theorem law_evs (w : World) (A : Option Addr) (c : Nat) (l : List Int) (a b : Int) (AE : Option Addr) (cE : Nat) (lE : List SL) (t : Int)
    (hr : Kd.C (Kd.int .u8) w A l.length l) (hc : l.length ≤ c) (hrE : Kd.C k83 w AE lE.length lE) (hcE : lE.length ≤ cE) (hl : l.length ≤ 1048576) (k0 : Nat) (hk0 : laws_szSessEventS.f k0 lE (1048576 - (l.length : Int)) = some (-1)) :
    Calls Tryd.prog 4 #[.agg #[.slice A l.length c, .int .i64 a, .int .i64 b], .slice AE lE.length cE, .int .i64 t] w fun e w' => e = .returned (.bool true) ∧ Below w.heap.size w w' := by
  have h11 := fun W (h : Kd.C (Kd.int .u8) W A l.length l) => c11 W A c l a b h hc (by omega)
  rw [if_neg (show ¬ 1048576 < l.length by omega)] at h11
  have h12 := fun W (h : Kd.C k83 W AE lE.length lE) => laws_szSessEventS.calls k0 AE cE lE _ _ W h hcE hk0
  obtain ⟨lf, hlf⟩ : ∃ lf : Int, lf = 1048576 - (l.length : Int) := ⟨_, rfl⟩
  rw [← hlf] at h11 h12
  have hlf0 : ¬ lf < 0 := by omega
  have H12 := Aside0.mk h12
  clear hlf hk0 h12
  have HR := Aside0.mk hr
  have HRE := Aside0.mk hrE
  have H11 := Aside0.mk h11
  have HB := Aside0.mk (show Below w.heap.size w (w.alloc (.cells #[.slice A l.length c, .int .i64 a, .int .i64 b] 37)) from (Below.refl _ _).alloc (Nat.le_refl _) _)
  have Hm := Aside0.mk (blk_new w (.cells #[.slice A l.length c, .int .i64 a, .int .i64 b] 37))
  clear hr hrE h11
  go_enter Tryd.func4, Tryd.ntmps4
  go_upto_region 5 with (go_at_call 11; (with_reducible refine (H11.out _ (Kd.C_below HR.out HB.out)).mono ?_); rintro r w1 ⟨rfl, hb⟩; replace HB := Aside0.mk (HB.out.trans (hb.mono HB.out.size)); clear hb)
  go_wp2_with (go_at_call 12; (with_reducible refine (H12.out _ (Kd.C_below HRE.out HB.out)).mono ?_); rintro r w2 ⟨rfl, hb⟩; replace HB := Aside0.mk (HB.out.trans (hb.mono HB.out.size)); clear hb)
  go_ret
  exact ⟨rfl, HB.out⟩
theorem law_all (w : World) (A : Option Addr) (c : Nat) (l : List Int) (a b : Int) (AE : Option Addr) (cE : Nat) (lE : List SL) (t : Int)
    (hr : Kd.C (Kd.int .u8) w A l.length l) (hc : l.length ≤ c) (hb : Byt l) (hrE : Kd.C k83 w AE lE.length lE) (hcE : lE.length ≤ cE) (hT : Tabs w)
    (hl : l.length ≤ 140737488351232) (hlE : lE.length ≤ 140737488351232) (hs : ∀ e ∈ lE, e.f2.size ≤ 140737488351232 ∧ e.f3.size ≤ 140737488351232 ∧ e.f4.size ≤ 140737488351232) :
    Calls Tryd.prog 4 #[.agg #[.slice A l.length c, .int .i64 a, .int .i64 b], .slice AE lE.length cE, .int .i64 t] w fun e w' => e = .returned (.bool true) ∧ Below w.heap.size w w' := by
  by_cases h : 1048576 < l.length
  · exact law_big w A c l a b AE cE lE t hr hc hrE hcE h hl
  · obtain ⟨k, r, hk, hor⟩ := szEv_at lE (1048576 - (l.length : Int)) (by omega) (by omega) hs hlE
    rcases hor with rfl | ⟨h0, h1, h2⟩
    · exact law_evs w A c l a b AE cE lE t hr hc hrE hcE (by omega) k hk
    · exact law_main w A c l a b AE cE lE t hr hc hb hrE hcE hT (by omega) h1 h2 k r h0 hk
end Go.Proofs.YtpfjboioeidecaaDoor.HL
end
section
namespace Go.Proofs.YtpfjboioeidecaaDoor.HO
open Go.RowKit Go.ChangeShapes Go.WideShapes Go.Deep Go.Joins Go.Proofs.YtpfjboioeidecaaDoorW.PrintWords Go.Proofs.YtpfjboioeidecaaDoorW.PrintLast Go.Proofs.YtpfjboioeidecaaDoor.HP Go.Proofs.YtpfjboioeidecaaDoor.HS Go.Proofs.YtpfjboioeidecaaDoor.PQ Go.Proofs.YtpfjboioeidecaaDoor.HL Go.Proofs.YtpfjboioeidecaaDoorW
section
variable {H : Type} {enc : TypeId × Value → H} {P : Program} {w : World} {base : Nat} {spare : Nat → Bool} {held : Bool}
theorem open_slice_fields {t e : TypeId} {fs : Array Field} {fuel : Nat} {cs : List Value} {x : DataW H × List MemPlace} (ht : P.underlying t = some (.slice e)) (he : P.underlying e = some (.struct fs))
    (hone : oneCellFields P fs = true) (hC : P.cellsOf e = fs.size) (h : DataW.trod enc P w base spare held fuel t cs = some x) :
    (cs = [.slice none 0 0] ∧ x = (.nil, [])) ∨
    ∃ (a : Addr) (len cap m : Nat) (D : Nat → DataW H) (Pl : Nat → List MemPlace), cs = [.slice (some a) len cap] ∧ base ≤ a.block ∧ len ≤ cap ∧ cap ≤ maxLen ∧ m = (if spare a.block then cap else len) ∧
      x = (.slice ((List.range len).map D) ((List.range (m - len)).map fun j => D (len + j)), MemPlace.row a (m * fs.size) ++ (List.range m).flatMap Pl) ∧
      ∀ i, i < m → ∃ (ys : List (DataW H × List MemPlace)) (n : Nat), D i = .agg (ys.map (·.1)) ∧ Pl i = ys.flatMap (·.2) ∧ ys.length = fs.size ∧
        ∀ (j : Nat) (f : Field), fs[j]? = some f → ∃ (v : Value) (y : DataW H × List MemPlace), w.cell? (a.add (i * fs.size + j)) = some v ∧ ys[j]? = some y ∧ DataW.trod enc P w base spare held n f.type [v] = some y := by
  rcases open_slice ht h with h0 | ⟨a, len, cap, m, n, D, Pl, hcs, hb, hl, hm, hmm, hx, hi⟩
  · exact .inl h0
  · refine .inr ⟨a, len, cap, m, D, Pl, hcs, hb, hl, hm, hmm, by rw [hC] at hx; exact hx, fun i him => ?_⟩
    obtain ⟨cs', hc, ht'⟩ := hi i him
    rw [hC] at hc
    obtain ⟨ys, n', hn', hy, hlen, hyl, hf⟩ := DataW.trod_struct he ht'
    obtain ⟨_, hcl, hat⟩ := World.cells?_some hc
    simp only [Prod.mk.injEq] at hy
    refine ⟨ys, n', hy.1, hy.2, hyl, fun j f hj => ?_⟩
    obtain ⟨ho, hk⟩ := hone_of hone j f hj
    have hjl : j < fs.size := (Array.getElem?_eq_some_iff.1 hj).1
    have hcell := hat j hjl
    have hv : cs'[j]? = some (cs'[j]'(by omega)) := List.getElem?_eq_getElem (by omega)
    have h1 := hf j f hj
    rw [ho, hk] at h1
    have hone' : (cs'.drop j).take 1 = [cs'[j]'(by omega)] := by
      rw [List.drop_eq_getElem_cons (by omega)]
      rfl
    rw [hone'] at h1
    have hys : ys[j]? = some (ys[j]'(by omega)) := List.getElem?_eq_getElem (by omega)
    refine ⟨_, _, ?_, hys, h1.trans hys⟩
    rw [← Go.Deep.add_add, hcell, hv]
theorem weightsAll_mem {e : TypeId} : ∀ {ds : List (DataW H)} {d : DataW H}, d ∈ ds → ∀ n ∈ d.weights P e, n ∈ DataW.weightsAll P e ds
  | d0 :: ds, d, hd, n, hn => by
    simp only [DataW.weightsAll, List.mem_append]
    rcases List.mem_cons.1 hd with rfl | hd
    · exact .inl hn
    · exact .inr (weightsAll_mem hd n hn)
theorem open_key {t e : TypeId} {fuel : Nat} {v : Value} {y : DataW H × List MemPlace} (ht : P.underlying t = some (.slice e)) (he : P.underlying e = some (.int .u8)) (hc : P.cellsOf e = 1) (hB : P.bytesOf e = 1)
    (h : DataW.trod enc P w base (fun _ => true) held fuel t [v] = some y) (hw : ∀ m ∈ y.1.weights P t, m ≤ reachBytes) :
    ∃ (A : Option Addr) (c : Nat) (l : List Int), v = .slice A l.length c ∧ Kd.C (Kd.int .u8) w A l.length l ∧ l.length ≤ c ∧ Byt l ∧ l.length ≤ 140737488351232 := by
  have key : ∀ (a : Option Addr) (len cap : Nat) (zs : List Int), ((a = none ∧ len = 0 ∧ cap = 0 ∧ zs = []) ∨ ∃ x, a = some x ∧ len ≤ cap ∧ cap ≤ maxLen ∧ zs.length = cap ∧ (∀ i, i < zs.length → w.cell? (x.add i) = some (.int .u8 (zs.getD i 0))) ∧ ∀ n ∈ zs, (Lit.int .u8 n).wf = true) → len ≤ 140737488351232 →
      ∃ (A : Option Addr) (c : Nat) (l : List Int), Value.slice a len cap = .slice A l.length c ∧ Kd.C (Kd.int .u8) w A l.length l ∧ l.length ≤ c ∧ Byt l ∧ l.length ≤ 140737488351232 := by
    intro a len cap zs h0 hle
    obtain ⟨l, rfl, hr, hm, hwf, hcap⟩ := ReadsInt.ofRowC h0
    refine ⟨a, cap, l, rfl, Kd.C_of_reads (d := (0 : Int)) (h1 := fun _ => rfl) hr, hcap, fun x hx => ?_, hle⟩
    have := hwf x hx
    simp only [Lit.wf, Bool.and_eq_true, decide_eq_true_eq] at this
    exact ⟨this.1, this.2⟩
  rcases open_ints ht he hc h with ⟨hcs, _⟩ | ⟨x, len, cap, zs, hcs, _, hl, hm, hz, hx, hcell, hwz⟩
  · obtain rfl : v = .slice none 0 0 := by simpa using hcs
    exact key none 0 0 [] (.inl ⟨rfl, rfl, rfl, rfl⟩) (by omega)
  · obtain rfl : v = .slice (some x) len cap := by simpa using hcs
    subst hx
    have hz2 : zs.length = cap := by simpa using hz
    have hlen : len ≤ zs.length := by omega
    have hsz := hw ((zs.take len).length + (zs.drop len).length) (by simp [DataW.weights, ht, hB, lits])
    have hr : reachBytes = 140737488351232 := by decide
    have hle : len ≤ 140737488351232 := by
      rw [List.length_take, List.length_drop] at hsz
      omega
    exact key (some x) len cap zs (.inr ⟨x, rfl, hl, hm, by simpa using hz, hcell, hwz⟩) hle
theorem choose_list {α : Type} {Q : Nat → α → Prop} : ∀ (n : Nat), (∀ i, i < n → ∃ e, Q i e) → ∃ l : List α, l.length = n ∧ ∀ i e, l[i]? = some e → Q i e
  | 0, _ => ⟨[], rfl, fun i e h => by simp at h⟩
  | n + 1, h => by
    obtain ⟨l, hl, hq⟩ := choose_list n (fun i hi => h i (by omega))
    obtain ⟨e, he⟩ := h n (by omega)
    refine ⟨l ++ [e], by simp [hl], fun i x hx => ?_⟩
    by_cases hi : i < l.length
    · rw [List.getElem?_append_left hi] at hx
      exact hq i x hx
    · rw [List.getElem?_append_right (by omega)] at hx
      have h1 : i - l.length < 1 := by
        have := (List.getElem?_eq_some_iff.1 hx).1
        simpa using this
      have h2 : i = n := by omega
      subst h2
      rw [hl, Nat.sub_self] at hx
      simp at hx
      rw [← hx]; exact he
def EvAt (w : World) (a : Addr) (i : Nat) (x : SL) : Prop :=
  (w.cell? (a.add (i * 5 + 0)) = some (.int .i64 x.f0) ∧ w.cell? (a.add (i * 5 + 1)) = some (.int .i64 x.f1) ∧ w.cell? (a.add (i * 5 + 2)) = some (.string x.f2) ∧ w.cell? (a.add (i * 5 + 3)) = some (.string x.f3) ∧ w.cell? (a.add (i * 5 + 4)) = some (.string x.f4)) ∧
  x.f2.size ≤ 140737488351232 ∧ x.f3.size ≤ 140737488351232 ∧ x.f4.size ≤ 140737488351232
theorem open_events {t e t3 t9 : TypeId} {n0 n1 n2 n3 n4 : Field} {fuel : Nat} {v : Value} {y : DataW H × List MemPlace} (ht : P.underlying t = some (.slice e)) (he : P.underlying e = some (.struct #[n0, n1, n2, n3, n4]))
    (hone : oneCellFields P #[n0, n1, n2, n3, n4] = true) (hC : P.cellsOf e = 5) (hB : 1 ≤ P.bytesOf e) (h3 : P.underlying t3 = some (.int .i64)) (h9 : P.underlying t9 = some .string)
    (k0 : n0.type = t3) (k1 : n1.type = t3) (k2 : n2.type = t9) (k3 : n3.type = t9) (k4 : n4.type = t9)
    (h : DataW.trod enc P w base (fun _ => true) held fuel t [v] = some y) (hw : ∀ m ∈ y.1.weights P t, m ≤ reachBytes) :
    ∃ (A : Option Addr) (c : Nat) (l : List SL), v = .slice A l.length c ∧ Kd.C k83 w A l.length l ∧ l.length ≤ c ∧ l.length ≤ 140737488351232 ∧ ∀ x ∈ l, x.f2.size ≤ 140737488351232 ∧ x.f3.size ≤ 140737488351232 ∧ x.f4.size ≤ 140737488351232 := by
  have hr : reachBytes = 140737488351232 := by decide
  rcases open_slice_fields ht he hone (by rw [hC]; rfl) h with ⟨hcs, _⟩ | ⟨a, len, cap, m, D, Pl, hcs, _, hl, hm, hmm, hx, hi⟩
  · obtain rfl : v = .slice none 0 0 := by simpa using hcs
    exact ⟨none, 0, [], rfl, ⟨rfl, by simp, fun h => absurd h (Nat.lt_irrefl 0)⟩, Nat.le_refl _, by simp, fun x hx => by simp at hx⟩
  · obtain rfl : v = .slice (some a) len cap := by simpa using hcs
    subst hx
    have hmc : m = cap := by simpa using hmm
    have hsz := hw ((((List.range len).map D).length + ((List.range (m - len)).map fun j => D (len + j)).length) * P.bytesOf e) (by simp [DataW.weights, ht])
    have hlen : len ≤ 140737488351232 := by
      simp only [List.length_map, List.length_range] at hsz
      have h1 : len + (m - len) ≤ (len + (m - len)) * P.bytesOf e := Nat.le_mul_of_pos_right _ hB
      omega
    have each : ∀ i, i < len → ∃ x : SL, EvAt w a i x := by
      intro i hil
      obtain ⟨ys, n, hD, _, hyl, hf⟩ := hi i (by omega)
      obtain ⟨v0, y0, c0, hy0, t0⟩ := hf 0 n0 rfl
      obtain ⟨v1, y1, c1, hy1, t1⟩ := hf 1 n1 rfl
      obtain ⟨v2, y2, c2, hy2, t2⟩ := hf 2 n2 rfl
      obtain ⟨v3, y3, c3, hy3, t3'⟩ := hf 3 n3 rfl
      obtain ⟨v4, y4, c4, hy4, t4⟩ := hf 4 n4 rfl
      rw [k0] at t0
      rw [k1] at t1
      rw [k2] at t2
      rw [k3] at t3'
      rw [k4] at t4
      obtain ⟨i0, e0, x0, _⟩ := DataW.trod_int h3 t0
      obtain ⟨i1, e1, x1, _⟩ := DataW.trod_int h3 t1
      obtain ⟨s2, e2, x2, _⟩ := DataW.trod_string h9 t2
      obtain ⟨s3, e3, x3, _⟩ := DataW.trod_string h9 t3'
      obtain ⟨s4, e4, x4, _⟩ := DataW.trod_string h9 t4
      have hwt : ∀ m ∈ (D i).weights P e, m ≤ reachBytes := fun z hz => by
        refine hw z ?_
        simp only [DataW.weights, ht, List.mem_cons, List.mem_append]
        exact .inr (.inl (weightsAll_mem (List.mem_map.2 ⟨i, List.mem_range.2 hil, rfl⟩) z hz))
      have str : ∀ (j : Nat) (f : Field) (yy : DataW H × List MemPlace) (s : ByteArray), #[n0, n1, n2, n3, n4][j]? = some f → ys[j]? = some yy → yy = (.lit (.string s.data.toList), []) → s.size ≤ 140737488351232 := by
        intro j f yy s hj hyj hyy
        have h1 := hwt s.data.toList.length (by
          rw [hD]
          simp only [DataW.weights, he]
          refine DataW.weights_mem_each (j := j) (t := f.type) (d := yy.1) ?_ ?_ _ ?_
          · rw [List.getElem?_map, Array.getElem?_toList, hj]; rfl
          · rw [List.getElem?_map, hyj]; rfl
          · rw [hyy]; simp [DataW.weights])
        rw [Array.length_toList] at h1
        exact hr ▸ h1
      refine ⟨⟨i0, i1, s2, s3, s4⟩, ⟨?_, ?_, ?_, ?_, ?_⟩, str 2 n2 y2 s2 rfl hy2 x2, str 3 n3 y3 s3 rfl hy3 x3, str 4 n4 y4 s4 rfl hy4 x4⟩
      · rw [show (i * 5 + 0) = i * (#[n0, n1, n2, n3, n4] : Array Field).size + 0 from rfl, c0]; simpa using e0
      · rw [show (i * 5 + 1) = i * (#[n0, n1, n2, n3, n4] : Array Field).size + 1 from rfl, c1]; simpa using e1
      · rw [show (i * 5 + 2) = i * (#[n0, n1, n2, n3, n4] : Array Field).size + 2 from rfl, c2]; simpa using e2
      · rw [show (i * 5 + 3) = i * (#[n0, n1, n2, n3, n4] : Array Field).size + 3 from rfl, c3]; simpa using e3
      · rw [show (i * 5 + 4) = i * (#[n0, n1, n2, n3, n4] : Array Field).size + 4 from rfl, c4]; simpa using e4
    obtain ⟨l, rfl, hq⟩ := choose_list len each
    refine ⟨some a, cap, l, rfl, ⟨rfl, by omega, fun _ => ⟨a, rfl, fun j p hj => ?_⟩⟩, hl, hlen, fun x hx => ?_⟩
    · obtain ⟨⟨q0, q1, q2, q3, q4⟩, _⟩ := hq j p hj
      refine ⟨[.int .i64 p.f0, .int .i64 p.f1, .string p.f2, .string p.f3, .string p.f4], rfl, k83_mk w p, fun i u hu => ?_⟩
      match i, hu with
      | 0, hu => obtain rfl := Option.some.inj hu; exact q0
      | 1, hu => obtain rfl := Option.some.inj hu; exact q1
      | 2, hu => obtain rfl := Option.some.inj hu; exact q2
      | 3, hu => obtain rfl := Option.some.inj hu; exact q3
      | 4, hu => obtain rfl := Option.some.inj hu; exact q4
    · obtain ⟨j, hj⟩ := List.getElem?_of_mem hx
      exact (hq j x hj).2
end
end Go.Proofs.YtpfjboioeidecaaDoor.HO
end
