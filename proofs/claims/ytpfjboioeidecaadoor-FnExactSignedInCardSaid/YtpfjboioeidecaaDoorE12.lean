/- The program's RunSessions and SignedIn are the plain ones; the reference's sessions in memory; the condition is the table of powers of ten. -/
import Derived.Test.YtpfjboioeidecaaDoorE4
import Derived.Test.YtpfjboioeidecaaDoorE5
import Derived.Test.YtpfjboioeidecaaDoorE6
import Derived.Test.YtpfjboioeidecaaDoorE11
import Derived.Outline
section
namespace Go.Proofs.YtpfjboioeidecaaDoor.HT
open Go.RowKit Go.Proofs.YtpfjboioeidecaaDoorW.PrintWords Go.Proofs.YtpfjboioeidecaaDoorW.PrintLast Go.Proofs.YtpfjboioeidecaaDoor.HP Go.Proofs.YtpfjboioeidecaaDoor.HDig Go.Proofs.YtpfjboioeidecaaDoor.PQ Go.Proofs.YtpfjboioeidecaaDoor.HS Go.Proofs.YtpfjboioeidecaaDoor.HPl Go.Proofs.YtpfjboioeidecaaDoorW
theorem num_calls (n : Int) (h0 : 1 ≤ n) (h1 : n ≤ 1000000) (w : World) : Calls Tryd.prog 68 #[.int .i64 n] w fun e w' => e = .returned (.string ⟨(Lib.itoa n).toArray⟩) ∧ Below w.heap.size w w' := by
  obtain ⟨k, hk⟩ := num_at n h0 h1
  exact spec_l1Num.calls k n _ w hk
theorem smac_n (A : Option Addr) (c : Nat) (l : List Int) (A' : Option Addr) (n' c' : Nat) (l' : List Int) (w : World) (hr : Kd.C (Kd.int .u8) w A l.length l) (hc : l.length ≤ c) (hb : Byt l) (hl : l.length ≤ 20000)
    (hn : l'.length = n') (hr' : Kd.C (Kd.int .u8) w A' l'.length l') (hc' : n' ≤ c') (hb' : Byt l') (hl' : n' ≤ 20000) :
    Calls Tryd.prog 70 #[.slice A l.length c, .slice A' n' c'] w fun e w' => ∃ v, e = .returned v ∧ Kd.R (Kd.int .u8) 5 w' w.heap.size (fun _ => True) v (digest (digest l ++ digest l')) ∧ Below w.heap.size w w' := by
  subst hn
  obtain ⟨k, hk⟩ := mac_at l l' hb hb' (by omega) (by omega)
  exact spec_l2Mac.calls k A c l A' c' l' _ w hr hc hr' hc' hk
theorem sarmor_n (A : Option Addr) (n c : Nat) (l : List Int) (w : World) (hn : l.length = n) (h10 : n = 10) (hr : Kd.C (Kd.int .u8) w A l.length l) (hc : n ≤ c) (hb : Byt l) :
    Calls Tryd.prog 69 #[.slice A n c] w fun e w' => e = .returned (.string ⟨(armor l).toArray⟩) ∧ Below w.heap.size w w' := by
  subst hn
  obtain ⟨k, hk⟩ := armor10 l hb h10
  exact spec_l2Armor.calls k A c l _ w hr hc hk
set_option maxHeartbeats 4000000 in
set_option maxRecDepth 100000 in
theorem shandle_calls (A : Option Addr) (c : Nat) (key : List Int) (kind : ByteArray) (n : Int) (w : World) (hr : Kd.C (Kd.int .u8) w A key.length key) (hc : key.length ≤ c) (hb : Byt key) (hl : key.length ≤ 64)
    (hks : kind.size ≤ 30) (hn0 : 1 ≤ n) (hn1 : n ≤ 1000000) :
    Calls Tryd.prog 61 #[.slice A key.length c, .string kind, .int .i64 n] w fun e w' => e = .returned (.string (handle key kind n)) ∧ Below w.heap.size w w' := by
  have HR := Aside0.mk hr
  have HBy := Aside0.mk hb
  clear hr hb
  have hil : (Lib.itoa n).length ≤ 21 := Lib.itoa_length_le n (by omega) (by omega)
  have hst : (stem kind n).size ≤ 51 := by
    unfold stem
    rw [ByteArray.size_append]
    have : (⟨(Lib.itoa n).toArray⟩ : ByteArray).size = (Lib.itoa n).length := by simp [ByteArray.size]
    omega
  have his : (⟨(Lib.itoa n).toArray⟩ : ByteArray).size ≤ 21 := by
    have : (⟨(Lib.itoa n).toArray⟩ : ByteArray).size = (Lib.itoa n).length := by simp [ByteArray.size]
    omega
  obtain ⟨st, hS⟩ : ∃ st, st = stem kind n := ⟨_, rfl⟩
  rw [← hS] at hst
  have HS := Aside0.mk hS
  have hcat : kind ++ ⟨(Lib.itoa n).toArray⟩ = st := hS.symm
  clear hS
  have kb := fun W => print_bytes (P := Tryd.prog) 9 22 5 Tryd.underlying9 Tryd.underlying22 Tryd.underlying5 st W
  go_enter Tryd.func61, Tryd.ntmps61
  go_wp2_with (first | (go_at_call 68; (with_reducible refine (num_calls n (by omega) (by omega) _).mono ?_); rintro e w2 ⟨rfl, hb2⟩; have HB2 := Aside0.mk hb2; clear hb2) | (go_at_call 70; (with_reducible refine (smac_n A c key (some ⟨w2.heap.size, 0, none⟩) st.size (grownCap w2 st.size 0 5) (bytesOf st) (Lib.bytesWorld w2 5 st) (Kd.C_below HR.out (bytes_below HB2.out HB2.out.size _ _)) hc HBy.out (by omega) (bytesOf_length st) (C_bytes w2 _ st (by omega)) (grownCap_ge _ _ _ _) (bytesOf_byt st) (by omega)).mono ?_); rintro e w3 ⟨v3, rfl, hR3, hb3⟩; have HB3 := Aside0.mk (below_step (bytes_below HB2.out HB2.out.size 5 st) hb3); have HR3 := Aside0.mk hR3; obtain ⟨A3, c3, rfl⟩ := Kd.R_slice hR3; have hl3 : (digest (digest key ++ digest (bytesOf st))).length = 16 := rfl; have hc3 := (Kd.R_reads' hR3).2.1; clear hR3 hb3 HB2; rw [hl3] at hc3) | (go_at_call 69; (with_reducible refine (sarmor_n A3 10 c3 ((digest (digest key ++ digest (bytesOf st))).take 10) _ rfl rfl (cut10 HR3.out rfl) (by omega) (byt_take (digest_byt _) 10)).mono ?_); rintro e w4 ⟨rfl, hb4⟩; have HB4 := Aside0.mk (below_step HB3.out hb4); have har := armor10_size (digest (digest key ++ digest (bytesOf st))); clear HB3 hb4))
  go_ret
  refine ⟨?_, HB4.out⟩
  show Ending.returned (.string (st ++ ⟨#[45]⟩ ++ ⟨(armor ((digest (digest key ++ digest (bytesOf st))).take 10)).toArray⟩)) = _
  unfold handle
  rw [← HS.out]
set_option maxHeartbeats 2000000 in
set_option maxRecDepth 100000 in
theorem sid_calls (p : Nat) (A : Option Addr) (c : Nat) (key : List Int) (L : Value) (idle most now n : Int) (w : World) (hp : w.heap[p]? = some (.cells #[.slice A key.length c, .int .i64 idle, .int .i64 most, .int .i64 now, .int .i64 n, L] 76 (0, 0)))
    (hr : Kd.C (Kd.int .u8) w A key.length key) (hfar : ∀ ad, A = some ad → 0 < key.length → ad.block ≠ p) (hc : key.length ≤ c) (hb : Byt key) (hl : key.length ≤ 64) (h0 : 0 ≤ n) (h1 : n < 1000000) :
    Calls Tryd.prog 53 #[.pointer (some ⟨p, 0, none⟩)] w fun e w' => e = .returned (.string (handle key sess (n + 1))) ∧
      ∃ w1, Sets w w1 p (.cells #[.slice A key.length c, .int .i64 idle, .int .i64 most, .int .i64 now, .int .i64 (n + 1), L] 76 (0, 0)) ∧ Below w1.heap.size w1 w' := by
  have S0 := Aside0.mk (Sets.first hp)
  have c0 := blk_cell hp 0
  have c4 := blk_cell hp 4
  simp only [List.getElem?_toArray, List.getElem?_cons_zero, List.getElem?_cons_succ] at c0 c4
  have fa : ∀ j, w.frozen? ⟨p, j, none⟩ = false := fun j => by simp [World.frozen?, hp]
  have HR := Aside0.mk hr
  have HF := Aside0.mk hfar
  have HBy := Aside0.mk hb
  clear hp hr hb hfar
  go_enter Tryd.func53, Tryd.ntmps53
  go_wp2_with fail
  obtain ⟨w1, hw1⟩ : ∃ w1, w1 = w.setCell ⟨p, 4, none⟩ (.int .i64 (n + 1)) := ⟨_, rfl⟩
  have hs1 : Sets w (w.setCell ⟨p, 4, none⟩ (.int .i64 (n + 1))) p (.cells #[.slice A key.length c, .int .i64 idle, .int .i64 most, .int .i64 now, .int .i64 (n + 1), L] 76 (0, 0)) := by simpa using S0.out.set 4 (.int .i64 (n + 1))
  have S1 := Aside0.mk hs1
  clear hs1
  have d0 : w1.cell? ⟨p, 0, none⟩ = some (.slice A key.length c) := by rw [hw1]; simpa [World.cell?_setCell_other] using c0
  have d4 : w1.cell? ⟨p, 4, none⟩ = some (.int .i64 (n + 1)) := by rw [hw1]; exact World.cell?_setCell_same _ _ _ c4
  rw [← hw1] at S1 ⊢
  clear hw1 c0 c4 fa
  go_still_tail 9, (by kernel_rfl)
  have S2 := Aside0.mk S1.out.drew
  change wpList _ _ _ _ _ w1.drew
  generalize w1.drew = w2 at S2 ⊢
  have HR2 := Aside0.mk (show Kd.C (Kd.int .u8) w2 A key.length key from Kd.C_keep (0 : Int) HR.out S2.out.keep HF.out)
  clear S1 d0 d4 HR S0
  go_wp2_with (go_at_call 61; (with_reducible refine (shandle_calls A c key sess (n + 1) w2 HR2.out hc HBy.out hl (by decide) (by omega) (by omega)).mono ?_); rintro e w3 ⟨rfl, hb3⟩)
  go_ret
  exact ⟨rfl, w2, S2.out, hb3⟩
set_option maxHeartbeats 2000000 in
set_option maxRecDepth 100000 in
theorem sover_calls (p : Nat) (K L : Value) (v : Value) (x : Ses) (idle most now n t : Int) (w : World) (hp : w.heap[p]? = some (.cells #[K, .int .i64 idle, .int .i64 most, .int .i64 now, .int .i64 n, L] 76 (0, 0)))
    (h0 : 0 ≤ x.login) (h1 : x.login ≤ 100000000000) (h2 : 0 ≤ x.last) (h3 : x.last ≤ 100000000000) (h4 : 1 ≤ idle) (h5 : idle ≤ 1000000) (h6 : 1 ≤ most) (h7 : most ≤ 1000000) :
    Calls Tryd.prog 31 #[.pointer (some ⟨p, 0, none⟩), .agg (SesCells v x), .int .i64 t] w fun e w' => e = .returned (.bool (over idle most x t)) ∧ Below w.heap.size w w' := by
  have d1 := blk_cell hp 1
  have d2 := blk_cell hp 2
  simp only [List.getElem?_toArray, List.getElem?_cons_zero, List.getElem?_cons_succ] at d1 d2
  unfold over SesCells
  generalize x.login = lg at *
  generalize x.last = ls at *
  have hpl := blk_lt hp
  clear hp
  cases ht : decide (ls + idle < t)
  · go_enter Tryd.func31, Tryd.ntmps31
    go_wp2_with fail
    go_quiet (fail)
    go_wp2_with fail
    go_ret
    exact ⟨by simp, pw_below_drewN ((Below.refl _ _).alloc (Nat.le_refl _) _) _⟩
  · go_enter Tryd.func31, Tryd.ntmps31
    go_wp2_with fail
    go_quiet (fail)
    go_wp2_with fail
    go_ret
    exact ⟨by simp, pw_below_drewN ((Below.refl _ _).alloc (Nat.le_refl _) _) _⟩
end Go.Proofs.YtpfjboioeidecaaDoor.HT
end
section
namespace Go.Proofs.YtpfjboioeidecaaDoor.HT
open Go.RowKit Go.Proofs.YtpfjboioeidecaaDoorW.PrintWords Go.Proofs.YtpfjboioeidecaaDoorW.PrintLast Go.Proofs.YtpfjboioeidecaaDoor.HP Go.Proofs.YtpfjboioeidecaaDoor.HDig Go.Proofs.YtpfjboioeidecaaDoor.PQ Go.Proofs.YtpfjboioeidecaaDoor.HS Go.Proofs.YtpfjboioeidecaaDoor.HPl Go.Proofs.YtpfjboioeidecaaDoorW
def kX : Kd Ses := Kd.iso (Kd.pair (Kd.slice 9 Kd.string) (Kd.pair Kd.string (Kd.pair Kd.string (Kd.pair (Kd.int .i64) (Kd.pair (Kd.int .i64) (Kd.pair (Kd.int .i64) Kd.bool)))))) (fun x : Ses => (x.ids, x.user, x.device, x.level, x.login, x.last, x.dead))
abbrev SesList (v : Value) (x : Ses) : List Value := [v, .string x.user, .string x.device, .int .i64 x.level, .int .i64 x.login, .int .i64 x.last, .bool x.dead]
theorem kX_openM {w : World} {base : Nat} {ok : Nat → Prop} {x : Ses} {cs : List Value} (h : kX.M w base ok x cs) : ∃ v, cs = SesList v x ∧ Kd.R Kd.string 9 w base ok v x.ids := by
  obtain ⟨_, _, rfl, ⟨v, rfl, hv⟩, ⟨_, _, rfl, rfl, ⟨_, _, rfl, rfl, ⟨_, _, rfl, rfl, ⟨_, _, rfl, rfl, ⟨_, _, rfl, rfl, rfl⟩⟩⟩⟩⟩⟩ := h
  exact ⟨v, rfl, hv⟩
theorem kX_mkM {w : World} {base : Nat} {ok : Nat → Prop} {x : Ses} {v : Value} (hv : Kd.R Kd.string 9 w base ok v x.ids) : kX.M w base ok x (SesList v x) :=
  ⟨[v], [.string x.user, .string x.device, .int .i64 x.level, .int .i64 x.login, .int .i64 x.last, .bool x.dead], rfl, ⟨v, rfl, hv⟩, ⟨[.string x.user], [.string x.device, .int .i64 x.level, .int .i64 x.login, .int .i64 x.last, .bool x.dead], rfl, rfl, ⟨[.string x.device], [.int .i64 x.level, .int .i64 x.login, .int .i64 x.last, .bool x.dead], rfl, rfl, ⟨[.int .i64 x.level], [.int .i64 x.login, .int .i64 x.last, .bool x.dead], rfl, rfl, ⟨[.int .i64 x.login], [.int .i64 x.last, .bool x.dead], rfl, rfl, ⟨[.int .i64 x.last], [.bool x.dead], rfl, rfl, rfl⟩⟩⟩⟩⟩⟩
theorem kX_sz : kX.sz = 7 := rfl
theorem kX_E : ∀ q, q ∈ kX.E → q = 9 := by
  intro q hq
  have : kX.E = [9] := rfl
  rw [this] at hq
  simpa using hq
structure TRel (B : Nat) (w : World) (p : Nat) (A : Option Addr) (c : Nat) (s : St) (L : Value) : Prop where
  blk : w.heap[p]? = some (.cells #[.slice A s.key.length c, .int .i64 s.idle, .int .i64 s.most, .int .i64 s.now, .int .i64 s.n, L] 76 (0, 0))
  base : B ≤ p
  row : Kd.S kX 78 w B (fun _ => True) L s.list
theorem TRel.below {B : Nat} {w w' : World} {p : Nat} {A : Option Addr} {c : Nat} {s : St} {L : Value} (h : TRel B w p A c s L) (hb : Below w.heap.size w w') : TRel B w' p A c s L :=
  ⟨(hb.block _ (blk_lt h.blk)).trans h.blk, h.base, Kd.S_below h.row hb⟩
theorem TRel.form {B : Nat} {w : World} {p : Nat} {A : Option Addr} {c : Nat} {s : St} {L : Value} (h : TRel B w p A c s L) : ∃ A' cap, L = .slice A' s.list.length cap := Kd.S_slice h.row
theorem S_sets {w W : World} {B b t : Nat} {L : Value} {l : List Ses} {cs : Array Value} {o : Obj} (h : Kd.S kX 78 w B (fun _ => True) L l) (hs : Sets w W b o) (hb : w.heap[b]? = some (.cells cs t (0, 0)))
    (h1 : t ≠ 78) (h2 : t ≠ 9) : Kd.S kX 78 W B (fun _ => True) L l :=
  Kd.S_mono (Kd.S_step (Kd.S_bound h) (fun k hk _ => by
    obtain ⟨_, _, _, q, hq, cells, hc⟩ := hk
    refine hs.other k (HS.blk_ne hc hb ?_)
    rcases List.mem_cons.1 hq with h3 | h3
    · rw [h3]; exact Ne.symm h1
    · rw [kX_E q h3]; exact Ne.symm h2)) (fun _ hk => hk.1)
theorem TRel.sets {B : Nat} {w W : World} {p b t : Nat} {cs : Array Value} {o : Obj} {A : Option Addr} {c : Nat} {s : St} {L : Value} (h : TRel B w p A c s L) (hs : Sets w W b o) (hb : w.heap[b]? = some (.cells cs t (0, 0)))
    (h1 : t ≠ 76) (h2 : t ≠ 78) (h3 : t ≠ 9) : TRel B W p A c s L :=
  ⟨(hs.other _ (HS.blk_ne h.blk hb (Ne.symm h1))).trans h.blk, h.base, S_sets h.row hs hb h2 h3⟩
structure CT (B : Nat) (w0 wA : World) (p : Nat) (A : Option Addr) (c : Nat) (e : HS.Ev) (g : Nat) (w : World) (s : St) (L : Value) : Prop where
  rel : TRel B w p A c s L
  bel : Below B w0 w
  kt : Kt wA w
  ev : w.heap[g]? = some (.cells (EvCells e) 34 (0, 0))
  rp : w.heap[g + 1]? = some (.cells #[.int .i64 0, .string none_, .string none_, .int .i64 0] 31 (0, 0))
  gs : wA.heap.size = g
  Bg : B ≤ g
section
variable {B : Nat} {w0 wA : World} {p : Nat} {A : Option Addr} {c : Nat} {e : HS.Ev} {g : Nat} {w : World} {s : St} {L : Value}
theorem CT.sz (h : CT B w0 wA p A c e g w s L) : B ≤ w.heap.size := by have := blk_lt h.ev; have := h.Bg; omega
theorem CT.below (h : CT B w0 wA p A c e g w s L) {w' : World} (hb : Below w.heap.size w w') : CT B w0 wA p A c e g w' s L :=
  ⟨h.rel.below hb, h.bel.trans (hb.mono h.sz), h.kt.trans (Kt.of_below hb), (hb.block _ (blk_lt h.ev)).trans h.ev, (hb.block _ (blk_lt h.rp)).trans h.rp, h.gs, h.Bg⟩
theorem CT.drewN (h : CT B w0 wA p A c e g w s L) (n : Nat) : CT B w0 wA p A c e g (w.drewN n) s L := h.below (pw_below_drewN (Below.refl _ _) n)
theorem CT.put (h : CT B w0 wA p A c e g w s L) {w' : World} {s' : St} (hk : s'.key = s.key) (hl : s'.list = s.list)
    (hs : Sets w w' p (.cells #[.slice A s'.key.length c, .int .i64 s'.idle, .int .i64 s'.most, .int .i64 s'.now, .int .i64 s'.n, L] 76 (0, 0))) : CT B w0 wA p A c e g w' s' L :=
  ⟨⟨hs.at_, h.rel.base, by rw [hl]; exact S_sets h.rel.row hs h.rel.blk (by decide) (by decide)⟩,
   hs.below h.bel h.rel.base, h.kt.trans (Kt.sets hs h.rel.blk (by decide)), (hs.other _ (HS.blk_ne h.ev h.rel.blk (by decide))).trans h.ev, (hs.other _ (HS.blk_ne h.rp h.rel.blk (by decide))).trans h.rp, h.gs, h.Bg⟩
theorem CT.fin (h : CT B w0 wA p A c e g w s L) {W : World} {r : Rp} (hs : Sets w W (g + 1) (.cells (RpCells r) 31 (0, 0))) : ∃ L', TRel B W p A c s L' ∧ Below B w0 W ∧ Kt wA W :=
  ⟨L, h.rel.sets hs h.rp (by decide) (by decide) (by decide), hs.below h.bel (by have := h.Bg; omega), h.kt.new hs (by have := h.gs; omega)⟩
theorem CT.loads (h : CT B w0 wA p A c e g w s L) : w.cell? ⟨g, 2, none⟩ = some (.string e.user) ∧ w.cell? ⟨g, 3, none⟩ = some (.string e.device) ∧ w.cell? ⟨p, 3, none⟩ = some (.int .i64 s.now) :=
  ⟨blk_cell h.ev 2, blk_cell h.ev 3, blk_cell h.rel.blk 3⟩
theorem CT.far (h : CT B w0 wA p A c e g w s L) (hr : Kd.C (Kd.int .u8) w0 A s.key.length s.key) (hB : w0.heap.size ≤ B) : ∀ ad, A = some ad → 0 < s.key.length → ad.block ≠ p := by
  intro ad ha hp
  obtain ⟨ad', e1, hx⟩ := at_int hr 0 hp
  rw [ha] at e1
  injection e1 with e1
  subst e1
  have h1 := World.block_lt_of_cell? w0 _ hx
  have h2 := h.rel.base
  have h3 : (ad.add 0).block = ad.block := by unfold Addr.add; split <;> rfl
  omega
theorem CT.id_calls (h : CT B w0 wA p A c e g w s L) {m : Nat} (hO : s.Ok m) (hm : m < 200) (hr : Kd.C (Kd.int .u8) w0 A s.key.length s.key) (hB : w0.heap.size ≤ B) (hc : s.key.length ≤ c) :
    Calls Tryd.prog 53 #[.pointer (some ⟨p, 0, none⟩)] w fun r w' => r = .returned (.string s.next) ∧ CT B w0 wA p A c e g w' { s with n := s.n + 1 } L ∧ w.heap.size ≤ w'.heap.size ∧ ∀ k, k ≠ p → k < w.heap.size → w'.heap[k]? = w.heap[k]? := by
  have hb : Below w0.heap.size w0 w := h.bel.mono hB
  have h0 := hO.n0
  have h1 := hO.n1
  refine (sid_calls p A c s.key L s.idle s.most s.now s.n w h.rel.blk (Kd.C_below hr hb) (h.far hr hB) hc hO.key hO.keyl h0 (by omega)).mono ?_
  rintro r w' ⟨rfl, w1, hs, hb1⟩
  exact ⟨rfl, (h.put (s' := { s with n := s.n + 1 }) rfl rfl hs).below hb1, by have := hb1.size; rw [hs.size] at this; exact this, fun k hk hlt => (hb1.block k (by rw [hs.size]; exact hlt)).trans (hs.other k hk)⟩
theorem CT.elem {g5 n cap : Nat} (h : CT B w0 wA p A c e g w s (.slice (some ⟨g5, 0, none⟩) n cap)) {i : Nat} {x : Ses} (hx : s.list[i]? = some x) :
    ∃ v, (∀ j u, (SesList v x)[j]? = some u → w.cell? ⟨g5, i * 7 + j, none⟩ = some u) ∧ (∀ j, w.frozen? ⟨g5, j, none⟩ = false) ∧ Kd.R Kd.string 9 w B (fun _ => True) v x.ids := by
  have hil := (List.getElem?_eq_some_iff.1 hx).1
  have hn := (Kd.S_reads' h.rel.row).1
  obtain ⟨oki, cs, hcl, hM, hcc, hok, hH⟩ := Kd.S_lend h.rel.row x (i : Int) (by omega) (by omega)
  have hg : s.list.getD (i : Int).toNat x = x := by simp [hx]
  rw [hg] at hM
  obtain ⟨v, rfl, hv⟩ := kX_openM hM
  obtain ⟨cells, hc5⟩ := Kd.S_typed h.rel.row g5 rfl
  exact ⟨v, fun j u hu => by simpa [kX_sz] using hcc j u hu, fun j => by simp [World.frozen?, hc5], Kd.R_mono hv (fun _ _ => trivial)⟩
theorem CT.at_ {A' : Option Addr} {n cap : Nat} (h : CT B w0 wA p A c e g w s (.slice A' n cap)) {i : Nat} {x : Ses} (hx : s.list[i]? = some x) : ∃ g5, A' = some ⟨g5, 0, none⟩ := by
  have hil := (List.getElem?_eq_some_iff.1 hx).1
  obtain ⟨g5, cap5, hv, _⟩ := Kd.S_form h.rel.row (by omega)
  injection hv with h1
  exact ⟨g5, h1⟩
theorem CT.grown (h : CT B w0 wA p A c e g w s L) {w' : World} {row : Option Nat} (hg : w.grownBy w' row) (hty : ∀ k, row = some k → ∃ cells t, w.heap[k]? = some (.cells cells t (0, 0)) ∧ (t = 78 ∨ t = 9)) (hB : ∀ k, row = some k → B ≤ k) {s' : St}
    (hk : s' = { s with list := s'.list }) (hrow : Kd.S kX 78 w' B (fun _ => True) L s'.list) : CT B w0 wA p A c e g w' s' L := by
  have keep : ∀ (k : Nat) (cells : Array Value) (t : Nat), w.heap[k]? = some (.cells cells t (0, 0)) → t ≠ 78 → t ≠ 9 → w'.heap[k]? = w.heap[k]? := fun k cells t hc h1 h2 =>
    hg.block k (blk_lt hc) (fun he => by
      obtain ⟨cells', t', hc', ht'⟩ := hty k he.symm
      rw [hc] at hc'
      injection hc' with hc'
      injection hc' with _ hc'
      rcases ht' with h3 | h3
      · exact h1 (hc'.trans h3)
      · exact h2 (hc'.trans h3))
  have hp := (keep _ _ _ h.rel.blk (by decide) (by decide)).trans h.rel.blk
  refine ⟨⟨?_, h.rel.base, hrow⟩, h.bel.grown hg h.sz hB, h.kt.trans ⟨hg.size, fun k cells hc => keep k cells _ hc (by decide) (by decide)⟩, (keep _ _ _ h.ev (by decide) (by decide)).trans h.ev, (keep _ _ _ h.rp (by decide) (by decide)).trans h.rp, h.gs, h.Bg⟩
  rw [hk]; exact hp
theorem CT.set {g5 n cap : Nat} (h : CT B w0 wA p A c e g w s (.slice (some ⟨g5, 0, none⟩) n cap)) {i j : Nat} {x x' : Ses} {u : Value} (hx : s.list[i]? = some x) (hids : x'.ids = x.ids) (hj : j < 7) (hone : u.oneCell' = true)
    (hcs : ∀ v, SesList v x' = (SesList v x).take j ++ [u] ++ (SesList v x).drop (j + 1)) : CT B w0 wA p A c e g (w.setCell ⟨g5, i * 7 + j, none⟩ u) { s with list := s.list.set i x' } (.slice (some ⟨g5, 0, none⟩) n cap) := by
  have hil := (List.getElem?_eq_some_iff.1 hx).1
  have hn := (Kd.S_reads' h.rel.row).1
  obtain ⟨oki, cs, hcl, hM, hcc, hok, hH⟩ := Kd.S_lend h.rel.row x (i : Int) (by omega) (by omega)
  have hgx : s.list.getD (i : Int).toNat x = x := by simp [hx]
  rw [hgx] at hM
  obtain ⟨v, rfl, hv⟩ := kX_openM hM
  obtain ⟨hH2, hg2⟩ := Kd.H_seg hH (by omega) (by omega) (seg := [u]) (j := j) (by show j + 1 ≤ 7; omega) (by intro q hq; simp at hq; rw [hq]; exact hone)
  have he : w.setCells g5 ((i : Int).toNat * kX.sz + j) [u] = w.setCell ⟨g5, i * 7 + j, none⟩ u := by simp [World.setCells, kX_sz]
  rw [he] at hH2 hg2
  have hv2 : Kd.R Kd.string 9 (w.setCell ⟨g5, i * 7 + j, none⟩ u) B oki v x'.ids := by
    rw [hids]
    exact Kd.R_step hv (fun k hk hlt => hg2.block k hlt (fun he => (hok k hk).2 (by injection he)))
  have hS := Kd.H_back hH2 (x' := x') (okp := oki) (by
    show kX.M _ _ _ x' ((SesList v x).take j ++ [u] ++ (SesList v x).drop (j + [u].length))
    rw [show j + [u].length = j + 1 from rfl, ← hcs v]
    exact kX_mkM hv2) (fun _ hk => hk)
  refine h.grown hg2 (fun k hk => ?_) (fun k hk => ?_) rfl (by simpa using hS)
  · injection hk with hk
    subst hk
    obtain ⟨cells, hc5⟩ := Kd.S_typed h.rel.row g5 rfl
    exact ⟨cells, _, hc5, .inl rfl⟩
  · injection hk with hk
    subst hk
    exact Kd.S_base h.rel.row g5 rfl
theorem CT.raise {g5 n cap : Nat} (h : CT B w0 wA p A c e g w s (.slice (some ⟨g5, 0, none⟩) n cap)) {i : Nat} {x : Ses} {v v' : Value} {id : ByteArray} (hx : s.list[i]? = some x) (hc0 : w.cell? ⟨g5, i * 7, none⟩ = some v) {w6 : World}
    (hown : w6.ownsRow B 9 1 v' (x.ids.length + 1) (encs Value.string x.ids ++ [.string id])) (hg : w.grownBy w6 v.ownBlock) (hbl : v'.ownBlock = v.ownBlock ∨ ∃ k, v'.ownBlock = some k ∧ w.heap.size ≤ k) (hone : v'.oneCell' = true) :
    CT B w0 wA p A c e g (w6.setCell ⟨g5, i * 7, none⟩ v') { s with list := s.list.set i { x with ids := x.ids ++ [id] } } (.slice (some ⟨g5, 0, none⟩) n cap) := by
  have hil := (List.getElem?_eq_some_iff.1 hx).1
  have hn := (Kd.S_reads' h.rel.row).1
  obtain ⟨oki, cs, hcl, hM, hcc, hok, hH⟩ := Kd.S_lend h.rel.row x (i : Int) (by omega) (by omega)
  have hgx : s.list.getD (i : Int).toNat x = x := by simp [hx]
  rw [hgx] at hM
  obtain ⟨v0, rfl, hv⟩ := kX_openM hM
  have hv0 : v0 = v := by
    have := hcc 0 v0 rfl
    rw [show (i : Int).toNat * kX.sz + 0 = i * 7 by simp [kX_sz], hc0] at this
    injection this with this
    exact this.symm
  subst hv0
  have hsz := h.sz
  have hH1 := Kd.H_grown (Kd.H_widen hH) hg (fun k hk => .inl (hv.1 k hk))
  obtain ⟨hH2, hg2⟩ := Kd.H_seg hH1 (by omega) (by omega) (seg := [v']) (j := 0) (by show 0 + 1 ≤ 7; omega) (by intro q hq; simp at hq; rw [hq]; exact hone)
  have he : w6.setCells g5 ((i : Int).toNat * kX.sz + 0) [v'] = w6.setCell ⟨g5, i * 7, none⟩ v' := by simp [World.setCells, kX_sz]
  rw [he] at hH2 hg2
  have hg5 : g5 < w.heap.size := Kd.S_lt h.rel.row g5 rfl
  have hv6 : Kd.R Kd.string 9 w6 B (fun k => oki k ∨ True ∧ w.heap.size ≤ k) v' (x.ids ++ [id]) := Kd.R_of_own (by
    have e1 : (x.ids ++ [id]).length = x.ids.length + 1 := by simp
    have e2 : encs Value.string (x.ids ++ [id]) = encs Value.string x.ids ++ [.string id] := by simp [encs]
    rw [e1, e2]; exact hown) (fun k hk => by
    rcases hbl with e1 | ⟨k', e1, hk'⟩
    · exact .inl (hv.1 k (e1.symm.trans hk))
    · rw [e1] at hk
      injection hk with hk
      exact .inr ⟨trivial, by omega⟩)
  have hv7 := Kd.R_step (w1 := w6.setCell ⟨g5, i * 7, none⟩ v') hv6 (fun k hk hlt => hg2.block k hlt (fun he => by
    injection he with he
    subst he
    rcases hk with hk | hk
    · exact (hok k hk).2 rfl
    · omega))
  have hS := Kd.H_back hH2 (x' := { x with ids := x.ids ++ [id] }) (okp := fun k => oki k ∨ True ∧ w.heap.size ≤ k) (by
    show kX.M _ _ _ _ (SesList v' { x with ids := x.ids ++ [id] })
    exact kX_mkM hv7) (fun _ hk => hk)
  have hS' : Kd.S kX 78 (w6.setCell ⟨g5, i * 7, none⟩ v') B (fun _ => True) (.slice (some ⟨g5, 0, none⟩) n cap) (s.list.set i { x with ids := x.ids ++ [id] }) := by simpa using hS
  have keep : ∀ (k : Nat) (cells : Array Value) (t : Nat), w.heap[k]? = some (.cells cells t (0, 0)) → t ≠ 78 → t ≠ 9 → (w6.setCell ⟨g5, i * 7, none⟩ v').heap[k]? = w.heap[k]? := fun k cells t hc h1 h2 => by
    have hk6 : w6.heap[k]? = w.heap[k]? := hg.block k (blk_lt hc) (fun he => by
      obtain ⟨cells', hc'⟩ := Kd.R_typed hv k he.symm
      rw [hc] at hc'
      injection hc' with hc'
      injection hc' with _ hc'
      exact h2 hc')
    refine (Below.heap_setCell w6 ⟨g5, i * 7, none⟩ v' k (fun he => ?_)).trans hk6
    obtain ⟨cells', hc'⟩ := Kd.S_typed h.rel.row g5 rfl
    have he : k = g5 := he
    subst he
    rw [hc] at hc'
    injection hc' with hc'
    injection hc' with _ hc'
    exact h1 hc'
  have hbel : Below B w0 (w6.setCell ⟨g5, i * 7, none⟩ v') := (h.bel.grown hg hsz (fun k hk => Kd.R_base hv k hk)).setCell (p := ⟨g5, i * 7, none⟩) (Kd.S_base h.rel.row g5 rfl) _
  exact ⟨⟨(keep _ _ _ h.rel.blk (by decide) (by decide)).trans h.rel.blk, h.rel.base, hS'⟩, hbel, h.kt.trans ⟨by have := hg.size; simpa [World.setCell] using this, fun k cells hc => keep k cells _ hc (by decide) (by decide)⟩, (keep _ _ _ h.ev (by decide) (by decide)).trans h.ev, (keep _ _ _ h.rp (by decide) (by decide)).trans h.rp, h.gs, h.Bg⟩
theorem CT.push (h : CT B w0 wA p A c e g w s L) {x : Ses} {w6 : World} {L' : Value} (hS : Kd.S kX 78 w6 B (fun _ => True) L' (s.list ++ [x])) (hg : w.grownBy w6 L.ownBlock) :
    CT B w0 wA p A c e g (w6.setCell ⟨p, 5, none⟩ L') { s with list := s.list ++ [x] } L' := by
  have keep : ∀ (k : Nat) (cells : Array Value) (t : Nat), w.heap[k]? = some (.cells cells t (0, 0)) → t ≠ 78 → w6.heap[k]? = w.heap[k]? := fun k cells t hc h1 =>
    hg.block k (blk_lt hc) (fun he => by
      obtain ⟨cells', hc'⟩ := Kd.S_typed h.rel.row k he.symm
      rw [hc] at hc'
      injection hc' with hc'
      injection hc' with _ hc'
      exact h1 hc')
  have hp := (keep _ _ _ h.rel.blk (by decide)).trans h.rel.blk
  have hs : Sets w6 (w6.setCell ⟨p, 5, none⟩ L') p (.cells #[.slice A s.key.length c, .int .i64 s.idle, .int .i64 s.most, .int .i64 s.now, .int .i64 s.n, L'] 76 (0, 0)) := by
    simpa using (Sets.first hp).set 5 L'
  have hbel : Below B w0 w6 := h.bel.grown hg h.sz (fun k hk => Kd.S_base h.rel.row k hk)
  have hev := (keep _ _ _ h.ev (by decide)).trans h.ev
  have hrp := (keep _ _ _ h.rp (by decide)).trans h.rp
  exact ⟨⟨hs.at_, h.rel.base, S_sets hS hs hp (by decide) (by decide)⟩, hs.below hbel h.rel.base, Kt.trans (b := w6) (h.kt.trans ⟨hg.size, fun k cells hc => keep k cells _ hc (by decide)⟩) (Kt.sets hs hp (by decide)), (hs.other _ (HS.blk_ne hev hp (by decide))).trans hev, (hs.other _ (HS.blk_ne hrp hp (by decide))).trans hrp, h.gs, h.Bg⟩
end
theorem info_x : (Tryd.prog.info? 78).map (fun i => (i.zero, i.size, i.bytes)) = some (some (.agg #[.slice none 0 0, .string none_, .string none_, .int .i64 0, .int .i64 0, .int .i64 0, .bool false]), 7, 88) := by kernel_rfl
theorem tend {R : Ending → World → Prop} {a : Act} {W : World} {g : Nat} {r : Rp} {wA : World} {x : Exit} (hx : x = .ret ∨ x = .normal) (hs : Sets wA W g (.cells (RpCells r) 31 (0, 0))) (hslot : a.tmps.getD 4 undef = .pointer (some ⟨g, 0, none⟩)) (hd : a.defers = []) (h : R (.returned (.agg (RpCells r))) W) :
    bodyPost Tryd.prog Tryd.f46 R x a W := by
  have q0 := blk_cell hs.at_ 0
  have q1 := blk_cell hs.at_ 1
  have q2 := blk_cell hs.at_ 2
  have q3 := blk_cell hs.at_ 3
  simp only [RpCells, List.getElem?_toArray, List.getElem?_cons_zero, List.getElem?_cons_succ] at q0 q1 q2 q3
  have hr : (results Tryd.f46 a.tmps).run Tryd.prog W = .ok (.agg (RpCells r)) W := by
    have hslot2 : a.tmps[4]?.getD undef = .pointer (some ⟨g, 0, none⟩) := by simpa using hslot
    simp [results, Tryd.results46, hslot2, go_sem, q0, q1, q2, q3, RpCells]
  rcases hx with rfl | rfl
  · exact bodyPost_ret hr hd h
  · exact bodyPost_end hr hd h
end Go.Proofs.YtpfjboioeidecaaDoor.HT
end
section
namespace Go.Proofs.YtpfjboioeidecaaDoor.HT
open Go.RowKit Go.Proofs.YtpfjboioeidecaaDoorW.PrintWords Go.Proofs.YtpfjboioeidecaaDoorW.PrintLast Go.Proofs.YtpfjboioeidecaaDoor.HP Go.Proofs.YtpfjboioeidecaaDoor.HDig Go.Proofs.YtpfjboioeidecaaDoor.PQ Go.Proofs.YtpfjboioeidecaaDoor.HS Go.Proofs.YtpfjboioeidecaaDoor.HPl Go.Proofs.YtpfjboioeidecaaDoorW
def atK (xs : List Ses) (id : ByteArray) : Nat → Option Nat
  | 0 => none
  | k + 1 => if (match xs[k]? with | some x => x.has id | none => false) = true then some k else atK xs id k
def atS (xs : List Ses) (id : ByteArray) : Option Nat := atK xs id xs.length
theorem atK_succ {xs : List Ses} {id : ByteArray} {k : Nat} {x : Ses} (h : xs[k]? = some x) : atK xs id (k + 1) = if x.has id = true then some k else atK xs id k := by
  simp only [atK, h]
theorem atK_is {xs : List Ses} {id : ByteArray} {k i : Nat} (h : atK xs id k = some i) : i < k ∧ ∃ x, xs[i]? = some x ∧ x.has id = true := by
  induction k with
  | zero => cases h
  | succ k ih =>
    cases hx : xs[k]? with
    | none =>
      simp only [atK, hx] at h
      rw [if_neg (by simp)] at h
      have := ih h
      exact ⟨by omega, this.2⟩
    | some x =>
      rw [atK_succ hx] at h
      by_cases h1 : x.has id = true
      · rw [if_pos h1] at h
        injection h with h
        subst h
        exact ⟨by omega, x, hx, h1⟩
      · rw [if_neg h1] at h
        have := ih h
        exact ⟨by omega, this.2⟩
def step2S (s : St) (e : HS.Ev) : St × Rp :=
  if e.kind = 1 then
    ({ s with n := s.n + 1, list := s.list ++ [⟨[s.next], e.user, e.device, 1, s.now, s.now, false⟩] }, ⟨0, s.next, e.user, 1⟩)
  else if e.kind = 5 then
    ({ s with list := s.list.map (out1 e.user) }, ⟨0, none_, e.user, 0⟩)
  else match atS s.list e.id with
  | none => (s, err 3)
  | some i =>
    match s.list[i]? with
    | none => (s, err 3)
    | some x =>
      if (x.last_.toList != e.id.toList || x.device.toList != e.device.toList) = true then ({ s with list := s.list.set i x.kill }, err 4)
      else if x.dead = true then (s, err 5)
      else if over s.idle s.most x s.now = true then (s, err 6)
      else if e.kind = 3 then
        let x2 : Ses := { x with last := s.now, level := if x.level + 1 < 9 then x.level + 1 else 9, ids := x.ids ++ [s.next] }
        ({ s with n := s.n + 1, list := s.list.set i x2 }, ⟨0, s.next, x.user, x2.level⟩)
      else if e.kind = 4 then ({ s with list := s.list.set i { x with last := s.now, dead := true } }, told x)
      else ({ s with list := s.list.set i { x with last := s.now } }, told x)
def stepS (s0 : St) (e : HS.Ev) : St × Rp :=
  if bad e then (s0, err 1) else if e.time < s0.now then (s0, err 2) else step2S { s0 with now := e.time } e
theorem bad_calls (e : HS.Ev) (hu : e.user.size ≤ 140737488351232) (hd : e.device.size ≤ 140737488351232) (w : World) :
    Calls Tryd.prog 51 #[.agg #[.int .i64 e.kind, .int .i64 e.time, .string e.user, .string e.device, .string e.id]] w fun r w' => r = .returned (.bool (bad e)) ∧ Below w.heap.size w w' := by
  obtain ⟨k, hk⟩ := bad_at e hu hd
  exact spec_l19Bad.calls k _ _ _ _ _ _ w hk
theorem err_calls (n : Int) (w : World) : Calls Tryd.prog 52 #[.int .i64 n] w fun r w' => r = .returned (.agg #[.int .i64 n, .string none_, .string none_, .int .i64 0]) ∧ Below w.heap.size w w' :=
  spec_l19Err.calls n _ _ _ _ w rfl
theorem has_calls' (A : Option Addr) (n c : Nat) (ids : List ByteArray) (id : ByteArray) (w : World) (hn : n = ids.length) (hr : Kd.C Kd.string w A ids.length ids) (hc : ids.length ≤ c) (hl : ids.length ≤ 1000) :
    Calls Tryd.prog 47 #[.slice A n c, .string id] w fun r w' => r = .returned (.bool (Lib.containsS ids id)) ∧ ∃ m, w' = w.drewN m := by
  subst hn
  obtain ⟨k, hk⟩ := has_at id ids (by omega)
  exact (spec_l3Has.calls k A c ids id _ w hr hc hk).mono fun r w' ⟨h1, ⟨n, h2⟩⟩ => ⟨h1, n, h2⟩
theorem told_calls (A : Option Addr) (n c : Nat) (x : Ses) (w : World) (hn : n = x.ids.length) (hr : Kd.C Kd.string w A x.ids.length x.ids) (hc : x.ids.length ≤ c) (hne : x.ids ≠ []) (hl : x.ids.length ≤ 1000) :
    Calls Tryd.prog 32 #[.agg #[.slice A n c, .string x.user, .string x.device, .int .i64 x.level, .int .i64 x.login, .int .i64 x.last, .bool x.dead]] w fun r w' => r = .returned (.agg #[.int .i64 0, .string x.last_, .string x.user, .int .i64 x.level]) ∧ Below w.heap.size w w' := by
  subst hn
  have hp : 0 < x.ids.length := List.length_pos_iff.2 hne
  refine spec_l19Told.calls A c x.ids x.user x.device x.level x.login x.last x.dead 0 x.last_ x.user x.level w hr hc ?_
  unfold spec_l19Told.f
  rw [wrap_id _ (by omega) (by omega), if_pos (by omega), if_pos (by omega)]
  have : rdOf ByteArray.empty x.ids ((x.ids.length : Int) - 1) = x.last_ := by
    unfold rdOf Ses.last_
    rw [show ((x.ids.length : Int) - 1).toNat = x.ids.length - 1 by omega]
    rfl
  rw [this]
theorem lesser_calls (a b : Int) (w : World) : Calls Tryd.prog 45 #[.int .i64 a, .int .i64 b] w fun r w' => r = .returned (.int .i64 (if a < b then a else b)) ∧ ∃ m, w' = w.drewN m := by
  have h : spec_l15Lesser.f a b = some (if a < b then a else b) := by unfold spec_l15Lesser.f; split <;> rfl
  exact (spec_l15Lesser.calls a b _ w h).mono fun r w' ⟨h1, ⟨n, h2⟩⟩ => ⟨h1, n, h2⟩
end Go.Proofs.YtpfjboioeidecaaDoor.HT
end
section
namespace Go.Proofs.YtpfjboioeidecaaDoor.HS
open Go.RowKit Go.Proofs.YtpfjboioeidecaaDoorW.PrintWords Go.Proofs.YtpfjboioeidecaaDoorW.PrintLast Go.Proofs.YtpfjboioeidecaaDoor.HP Go.Proofs.YtpfjboioeidecaaDoor.HDig
open Go.Proofs.YtpfjboioeidecaaDoor.PQ (S31 k31 k31_mkM)
def rp (r : Rp) : S31 := ⟨r.err, r.id, r.user, r.level⟩
def signedL (idle most t : Int) (l : List Ses) : List Rp := (l.filter fun x => !x.dead && !over idle most x t).map told
def signed (s : St) (t : Int) : List Rp := signedL s.idle s.most t s.list
theorem signedL_snoc {idle most t : Int} {l : List Ses} {k : Nat} {x : Ses} (h : l[k]? = some x) :
    signedL idle most t (l.take (k + 1)) = signedL idle most t (l.take k) ++ (if x.dead = false ∧ over idle most x t = false then [told x] else []) := by
  rw [take_snoc h]
  unfold signedL
  rw [List.filter_append, List.map_append]
  congr 1
  cases h1 : x.dead <;> cases h2 : over idle most x t <;> simp [List.filter_cons, h1, h2]
theorem signedL_len (idle most t : Int) (l : List Ses) : (signedL idle most t l).length ≤ l.length := by
  unfold signedL
  rw [List.length_map]
  exact List.length_filter_le _ _
theorem SRel.grown {B : Nat} {w w' : World} {p : Nat} {A : Option Addr} {c : Nat} {R : Value} {s : St} {L : Value} {ps : List Pl} {v : Value} {b n : Nat} {xs : List Value} {sz : Nat}
    (hS : SRel B w p A c R s L ps) (hO : w.ownsRow b 31 sz v n xs) (hg : w.grownBy w' v.ownBlock) : SRel B w' p A c R s L ps := by
  have hk : ∀ (k : Nat) (cells : Array Value) (t : Nat), w.heap[k]? = some (.cells cells t (0, 0)) → t ≠ 31 → w'.heap[k]? = w.heap[k]? := fun k cells t hc ht =>
    (grown_keep hO hg hc ht).trans hc.symm
  exact ⟨(hk _ _ _ hS.blk (by decide)).trans hS.blk, hS.base, own_move hS.own (fun k hk1 => by
    obtain ⟨cells, hc⟩ := own_typed hS.own k hk1
    exact hk k cells _ hc (by decide)), hS.rel.keep (fun k cells hc => hk k cells _ hc (by decide)) (fun k cells hc => hk k cells _ hc (by decide))⟩
theorem SRel.drewN {B : Nat} {w : World} {p : Nat} {A : Option Addr} {c : Nat} {R : Value} {s : St} {L : Value} {ps : List Pl} (h : SRel B w p A c R s L ps) (m : Nat) : SRel B (w.drewN m) p A c R s L ps :=
  h.below (pw_below_drewN (Below.refl _ _) m)
theorem SRel.form {B : Nat} {w : World} {p : Nat} {A : Option Addr} {c : Nat} {R : Value} {s : St} {L : Value} {ps : List Pl} (h : SRel B w p A c R s L ps) : ∃ A' cap, L = .slice A' s.list.length cap := by
  rcases h.own.2 with ⟨h1, h2⟩ | ⟨g', cap, cur, h1, _⟩
  · exact ⟨none, 0, by rw [h1, h2]⟩
  · exact ⟨_, _, h1⟩
theorem SRel.at_ {B : Nat} {w : World} {p : Nat} {A : Option Addr} {c : Nat} {R : Value} {s : St} {A' : Option Addr} {n cap : Nat} {ps : List Pl} (h : SRel B w p A c R s (.slice A' n cap) ps) {i : Nat} {q : Pl} (hq : ps[i]? = some q) :
    ∃ g', A' = some ⟨g', 0, none⟩ ∧ w.cell? ⟨g', i, none⟩ = some (.pointer (some ⟨q.b, 0, none⟩)) := by
  have hi : i < s.list.length := by rw [← h.rel.len]; exact (List.getElem?_eq_some_iff.1 hq).1
  have ho := h.own
  rcases ho.2 with ⟨_, h2⟩ | ⟨g', cap', cur, h1, _⟩
  · omega
  · injection h1 with h3 h4 h5
    subst h3
    subst h4
    refine ⟨g', rfl, ?_⟩
    have h6 := ho.cellAt i (by omega)
    rw [List.getElem?_map, hq] at h6
    exact h6
section
variable {P : Program} {ops : Array Oper} {o : Oper} {a : Act} {Q : Exit → Act → World → Prop} {Kc : Act → World → Prop} {E : Prop} {α : Type}
theorem app_step (d : Kd α) {w0 W : World} (base : Nat) (hgd : o.guard = none) (s x : Operand) (t e : TypeId) (z : Value) (bytes : Nat)
    (ho : o.op = .call { callee := .builtin .append, args := #[s, x], argTypes := #[t, t] })
    (ht : P.underlying t = some (.slice e)) (hinfo : (P.info? e).map (fun i => (i.zero, i.size, i.bytes)) = some (some z, d.sz, bytes)) (hz : z.cells.size = d.sz) (hs0 : 0 < d.sz) (hb0 : 0 < bytes)
    (v : Value) (xs : List α) (p : α) (cs : List Value) (ok okp : Nat → Prop) (hs : a.eval s = v) (hx : a.eval x = .slice (some ⟨W.heap.size, 0, none⟩) 1 1) (hp : d.M W base okp p cs) (hokp : ∀ k, okp k → ok k ∧ some k ≠ v.ownBlock) (hfresh : ∀ k, W.heap.size ≤ k → ok k)
    (HO : d.R e W base ok v xs) (HB : Below base w0 W) (hbase : base ≤ W.heap.size) (hl : (xs.length + 1) * bytes ≤ 140737488355328)
    (h : ∀ v1 w1, d.R e w1 base ok v1 (xs ++ [p]) → Below base w0 w1 → W.grownBy w1 v.ownBlock → (v1.ownBlock = v.ownBlock ∨ ∃ b, v1.ownBlock = some b ∧ W.heap.size ≤ b) → Kc (a.put o.dst v1) w1) :
    if Region.wanted o (yielded ops a.tmps) = true then Oper.wp P o a (W.alloc (.cells cs.toArray e)) Kc Q else E := by
  have hw : Region.wanted o (yielded ops a.tmps) = true := by simp [Region.wanted, hgd]
  have h1 := Kd.R_append_step (ops := ops) (Q := Q) (Kc := Kc) d base hw s x t e z bytes ho ht hinfo hz hs0 hb0 v xs p cs ok okp hs hx hp hokp hfresh HO HB hbase hl h
  rw [if_pos hw] at h1 ⊢
  exact h1
end
set_option maxHeartbeats 8000000 in
set_option maxRecDepth 100000 in
theorem signed_calls (w : World) (A : Option Addr) (c : Nat) (key : List Int) (idle most : Int) (AE : Option Addr) (cE : Nat) (evs : List Ev) (t : Int)
    (hr : Kd.C (Kd.int .u8) w A key.length key) (hc : key.length ≤ c) (hk : Byt key) (hev : Kd.C kEv w AE evs.length evs) (hcE : evs.length ≤ cE) (hT : Tabs w)
    (hsz : ∀ e ∈ evs, e.user.size ≤ 140737488351232 ∧ e.device.size ≤ 140737488351232) (hg : conf key.length idle most = true) (hn : evs.length ≤ 200)
    (ht : (steps (start key idle most) evs).1.now ≤ t) :
    Calls Tryd.prog 8 #[.agg #[.slice A key.length c, .int .i64 idle, .int .i64 most], .slice AE evs.length cE, .int .i64 t] w fun r w' =>
      ∃ v, r = .returned v ∧ Kd.R k31 31 w' w.heap.size (fun _ => True) v ((signed (steps (start key idle most) evs).1 t).map rp) ∧ Below w.heap.size w w' := by
  have HR := Aside0.mk hr
  have HE := Aside0.mk hev
  have HT := Aside0.mk hT
  have HK := Aside0.mk hk
  have HSZ := Aside0.mk hsz
  have HG := Aside0.mk hg
  have hok := Aside0.mk (steps_ok (start_ok hg hk) evs)
  have hkl : key.length ≤ 9223372036854775807 := Kd.C_max hr
  obtain ⟨s, hs⟩ : ∃ s, s = (steps (start key idle most) evs).1 := ⟨_, rfl⟩
  obtain ⟨rs, hrs⟩ : ∃ rs, rs = (steps (start key idle most) evs).2 := ⟨_, rfl⟩
  rw [← hs] at ht hok ⊢
  have HSs := Aside0.mk hs
  have HRs := Aside0.mk hrs
  have hkey := Aside0.mk (show s.key = key by rw [hs]; exact steps_key _ _)
  clear hr hev hT hk hsz hg hs hrs
  go_enter Tryd.func8, Tryd.ntmps8
  go_wp2_with (go_at_call 26; (with_reducible refine (yrun_calls _ A c key idle most AE cE evs (Kd.C_below HR.out (below_alloc (Below.refl _ _) _)) hc HK.out (Kd.C_below HE.out (below_alloc (Below.refl _ _) _)) hcE (HT.out.below (below_alloc (Below.refl _ _) _)) HSZ.out HG.out hn).mono ?_); rintro r w1 ⟨p, rfl, hrun⟩; rw [← HSs.out, ← HRs.out] at hrun; obtain ⟨R, L, ps, hS, hO, hBl⟩ := hrun; obtain ⟨A5, cap5, rfl⟩ := hS.form; have p3 := blk_cell hS.blk 3; have p5 := blk_cell hS.blk 5; simp only [List.getElem?_toArray, List.getElem?_cons_zero, List.getElem?_cons_succ] at p3 p5; have HS := Aside0.mk hS; have HB := Aside0.mk (((Below.refl w.heap.size w).alloc (Nat.le_refl _) (.cells #[.slice A key.length c, .int .i64 idle, .int .i64 most] 24)).trans (hBl.mono (by simp))); clear hS hO hBl HR HE HT HSZ)
  obtain ⟨n, hnn⟩ : ∃ n, n = s.list.length := ⟨_, rfl⟩
  rw [← hnn] at HS ⊢
  obtain ⟨B, hB⟩ : ∃ B, B = w.heap.size := ⟨_, rfl⟩
  rw [World.size_alloc, ← hB] at HS
  rw [← hB] at HB ⊢
  have HN := Aside0.mk hnn
  have HBe := Aside0.mk hB
  have hid : s.idle = idle := by rw [HSs.out]; exact (steps_same _ _).idle
  have hmo : s.most = most := by rw [HSs.out]; exact (steps_same _ _).most
  have HId := Aside0.mk hid
  have HMo := Aside0.mk hmo
  have hn2 : n ≤ 200 := by have := hok.out.len; omega
  clear hnn hB hid hmo p3 p5
  go_loopw [9, 33] (fun v9 i wr => ∃ k : Nat, k ≤ n ∧ i = .int .i64 k ∧ Aside0 (SRel (B + 1) wr p A c R s (.slice A5 n cap5) ps) ∧ Aside0 (Kd.R k31 31 wr B (fun _ => True) v9 ((signedL idle most t (s.list.take k)).map rp)) ∧ Aside0 (Below B w wr)) (fun _ i _ => n - (intOf i).toNat)
  case atStart => exact ⟨0, Nat.zero_le _, rfl, by simpa using HS, ⟨Kd.R_nil _ _ _ _ _⟩, HB⟩
  case round =>
    clear HS HB
    obtain ⟨k, hkn, rfl, HS, HO, HB⟩ := hrel
    by_cases hlt : k < n
    · obtain ⟨x, hx⟩ : ∃ x, s.list[k]? = some x := ⟨_, List.getElem?_eq_getElem (by rw [← HN.out]; exact hlt)⟩
      obtain ⟨q, hq⟩ : ∃ q, ps[k]? = some q := ⟨_, List.getElem?_eq_getElem (by rw [HS.out.rel.len, ← HN.out]; exact hlt)⟩
      obtain ⟨g5, rfl, hcl⟩ := HS.out.at_ hq
      have hqb := HS.out.rel.blk k q x hq hx
      have hxo := hok.out.all x (List.mem_of_getElem? hx)
      have ho := over_calls p q.b (.slice A s.key.length c) R (.slice (some ⟨g5, 0, none⟩) n cap5) q.v x s.idle s.most s.now s.n t wr HS.out.blk hqb hxo.log0 hxo.log1 hxo.las0 hxo.las1 hok.out.i0 hok.out.i1 hok.out.m0 hok.out.m1
      rw [HId.out, HMo.out] at ho
      have hsn := signedL_snoc (idle := idle) (most := most) (t := t) hx
      have c1 := blk_cell hqb 1
      have c3 := blk_cell hqb 3
      have c6 := blk_cell hqb 6
      simp only [SesCells, List.getElem?_toArray, List.getElem?_cons_zero, List.getElem?_cons_succ] at c1 c3 c6
      have HX := Aside0.mk hx
      have HQ := Aside0.mk hq
      cases hd : x.dead
      · cases hov : over idle most x t
        · rw [hov] at ho
          rw [hd] at c6
          have HSn : Aside0 (signedL idle most t (s.list.take (k + 1)) = signedL idle most t (s.list.take k) ++ [told x]) := ⟨by rw [hsn, hd, hov]; simp⟩
          have HOv := Aside0.mk ho
          have HIc := Aside0.mk (fun m => id_calls q.b q.v x (B + 1) (wr.drewN m) hqb (Kd.R_drewN (HS.out.rel.row k q x hq hx) m) hxo.ne)
          have hlen : (List.map rp (signedL idle most t (List.take k s.list))).length ≤ 200 := by
            rw [List.length_map]
            have := signedL_len idle most t (s.list.take k)
            have := List.length_take_le k s.list
            omega
          clear ho hsn hd hov hx hq hqb hxo
          obtain ⟨ys, hys⟩ : ∃ ys, ys = List.map rp (signedL idle most t (List.take k s.list)) := ⟨_, rfl⟩
          have HYs := Aside0.mk hys
          rw [← hys] at HO hlen
          clear hys
          have hBw : B ≤ wr.heap.size := by have := HB.out.size; have := HBe.out; omega
          go_wp2_with (go_at_call 29; (with_reducible refine (HOv.out).mono ?_); rintro r w2 ⟨rfl, m2, rfl⟩)
          go_region_law
            (first
              | (refine app_step k31 B rfl (.tmp 49) (.tmp 61) 28 31 (.agg #[.int .i64 0, .string none_, .string none_, .int .i64 0]) 48 rfl Tryd.underlying28 info_rp rfl (by decide) (by decide) u9 ys (rp (told x)) [.int .i64 0, .string x.last_, .string x.user, .int .i64 x.level] (fun _ => True) (fun _ => False) rfl rfl (k31_mkM _ _ _ (rp (told x))) (fun _ h => h.elim) (fun _ _ => trivial) HO9.out HB9.out hB9 (by omega) ?_; intro v10 w10 hR10 hB10 hg10 _; have HO10 := Aside0.mk hR10; have HB10 := Aside0.mk hB10; have HS10 := Aside0.mk (by obtain ⟨_, inner, hown, _⟩ := HO9.out; exact HS9.out.grown hown hg10); clear hR10 hB10 hg10)
              | (go_simp; go_at_call 30; (with_reducible refine (HIc.out _).mono ?_); rintro r w9 ⟨rfl, m9, hw9⟩; have HO9 : Aside0 (Kd.R k31 31 w9 B (fun _ => True) u9 ys) := ⟨by rw [hw9]; exact Kd.R_drewN (Kd.R_drewN HO.out _) _⟩; have HS9 : Aside0 (SRel (B + 1) w9 p A c R s (.slice (some ⟨g5, 0, none⟩) n cap5) ps) := ⟨by rw [hw9]; exact (HS.out.drewN _).drewN _⟩; have HB9 : Aside0 (Below B w w9) := ⟨by rw [hw9]; exact pw_below_drewN (pw_below_drewN HB.out _) _⟩; have hB9 : B ≤ w9.heap.size := (by rw [hw9]; exact hBw); have d1 : w9.cell? ⟨q.b, 1, none⟩ = some (.string x.user) := (by rw [hw9]; exact c1); have d3 : w9.cell? ⟨q.b, 3, none⟩ = some (.int .i64 x.level) := (by rw [hw9]; exact c3); clear hw9))
          all_goals
            go_wp2_with fail
            go_roundw
            case rel => exact ⟨k + 1, by omega, by go_num, HS10, ⟨by rw [HSn.out, List.map_append, ← HYs.out]; exact HO10.out⟩, HB10⟩
            case measure => simp [intOf]; omega
        · rw [hov] at ho
          rw [hd] at c6
          have HSn : Aside0 (signedL idle most t (s.list.take (k + 1)) = signedL idle most t (s.list.take k)) := ⟨by rw [hsn, hd, hov]; simp⟩
          have HOv := Aside0.mk ho
          clear ho hsn hd hov hx hq hqb hxo
          go_wp2_with (go_at_call 29; (with_reducible refine (HOv.out).mono ?_); rintro r w2 ⟨rfl, m2, rfl⟩)
          go_roundw
          case rel => exact ⟨k + 1, by omega, by go_num, ⟨HS.out.drewN _⟩, ⟨by rw [HSn.out]; exact Kd.R_drewN HO.out _⟩, ⟨pw_below_drewN HB.out _⟩⟩
          case measure => simp [intOf]; omega
      · rw [hd] at c6
        have HSn : Aside0 (signedL idle most t (s.list.take (k + 1)) = signedL idle most t (s.list.take k)) := ⟨by rw [hsn, hd]; simp⟩
        clear ho hsn hd hx hq hqb hxo
        go_wp2_with fail
        go_roundw
        case rel => exact ⟨k + 1, by omega, by go_num, HS, ⟨by rw [HSn.out]; exact HO.out⟩, HB⟩
        case measure => simp [intOf]; omega
    · obtain rfl : k = n := by omega
      have hall : s.list.take k = s.list := List.take_of_length_le (by rw [← HN.out]; exact Nat.le_refl _)
      rw [hall] at HO
      clear hall
      go_wp2_with fail
      go_ret
      refine ⟨_, rfl, ?_, ?_⟩
      · rw [← HBe.out]
        unfold signed
        rw [HId.out, HMo.out]
        exact HO.out
      · rw [← HBe.out]; exact HB.out
end Go.Proofs.YtpfjboioeidecaaDoor.HS
end
section
namespace Go.Proofs.YtpfjboioeidecaaDoor.HT
open Go.RowKit Go.Proofs.YtpfjboioeidecaaDoorW.PrintWords Go.Proofs.YtpfjboioeidecaaDoorW.PrintLast Go.Proofs.YtpfjboioeidecaaDoor.HP Go.Proofs.YtpfjboioeidecaaDoor.HDig Go.Proofs.YtpfjboioeidecaaDoor.PQ Go.Proofs.YtpfjboioeidecaaDoor.HS Go.Proofs.YtpfjboioeidecaaDoor.HPl Go.Proofs.YtpfjboioeidecaaDoorW
section
variable {P : Program} {ops : Array Oper} {o : Oper} {a : Act} {Q : Exit → Act → World → Prop} {Kc : Act → World → Prop} {E : Prop} {α : Type}
theorem app_stepS (d : Kd α) {w0 W : World} (base : Nat) (hgd : o.guard = none) (s x : Operand) (t e : TypeId) (z : Value) (bytes : Nat)
    (ho : o.op = .call { callee := .builtin .append, args := #[s, x], argTypes := #[t, t] })
    (ht : P.underlying t = some (.slice e)) (hinfo : (P.info? e).map (fun i => (i.zero, i.size, i.bytes)) = some (some z, d.sz, bytes)) (hz : z.cells.size = d.sz) (hs0 : 0 < d.sz) (hb0 : 0 < bytes)
    (v : Value) (xs : List α) (p : α) (cs : List Value) (ok okp : Nat → Prop) (hs : a.eval s = v) (hx : a.eval x = .slice (some ⟨W.heap.size, 0, none⟩) 1 1) (hp : d.M W base okp p cs) (hokp : ∀ k, okp k → ok k ∧ some k ≠ v.ownBlock) (hfresh : ∀ k, W.heap.size ≤ k → ok k)
    (HO : Kd.S d e W base (fun k => ok k ∧ ¬ okp k) v xs) (HB : Below base w0 W) (hbase : base ≤ W.heap.size) (hl : (xs.length + 1) * bytes ≤ 140737488355328)
    (h : ∀ v1 w1, Kd.S d e w1 base ok v1 (xs ++ [p]) → Below base w0 w1 → W.grownBy w1 v.ownBlock → (v1.ownBlock = v.ownBlock ∨ ∃ b, v1.ownBlock = some b ∧ W.heap.size ≤ b) → Kc (a.put o.dst v1) w1) :
    if Region.wanted o (yielded ops a.tmps) = true then Oper.wp P o a (W.alloc (.cells cs.toArray e)) Kc Q else E := by
  have hw : Region.wanted o (yielded ops a.tmps) = true := by simp [Region.wanted, hgd]
  have h1 := Kd.S_append_step (ops := ops) (Q := Q) (Kc := Kc) d base hw s x t e z bytes ho ht hinfo hz hs0 hb0 v xs p cs ok okp hs hx hp hokp hfresh HO HB hbase hl h
  rw [if_pos hw] at h1 ⊢
  exact h1
end
theorem list_set_same {α : Type} {l : List α} {k : Nat} {x : α} (h : l[k]? = some x) : l.set k x = l := by
  apply List.ext_getElem?
  intro j
  by_cases hj : k = j
  · subst hj
    rw [List.getElem?_set_self (List.getElem?_eq_some_iff.1 h).1, h]
  · rw [List.getElem?_set_ne hj]
structure Born (B : Nat) (w0 wA : World) (p : Nat) (A : Option Addr) (c : Nat) (e : HS.Ev) (g : Nat) (W : World) (s : St) (L : Value) (b k9 : Nat) (x : Ses) : Prop where
  ct : CT B w0 wA p A c e g W s L
  blk : W.heap[b]? = some (.cells (SesCells (.slice (some ⟨k9, 0, none⟩) 1 1) x) 78 (0, 0))
  ids : Kd.R Kd.string 9 W B (fun k => k = k9) (.slice (some ⟨k9, 0, none⟩) 1 1) x.ids
  row : Kd.S kX 78 W B (fun k => k ≠ b ∧ ¬ k = k9) L s.list
  lt : b < W.heap.size
  lt9 : k9 < W.heap.size
  ne : k9 ≠ b
variable {B : Nat} {w0 wA : World} {p : Nat} {A : Option Addr} {c : Nat} {e : HS.Ev} {g : Nat} {w : World} {s : St} {L : Value}
theorem R_one (w : World) {B : Nat} (hB : B ≤ w.heap.size) (id : ByteArray) : Kd.R Kd.string 9 (w.alloc (.cells #[.string id] 9)) B (fun k => k = w.heap.size) (.slice (some ⟨w.heap.size, 0, none⟩) 1 1) [id] := by
  refine Kd.R_of_own ?_ (fun k hk => ?_)
  · have := World.ownsRow_lit (base := B) (e := 9) (size := 1) w (encs Value.string [id]).toArray 1 hB (by simp [maxLen]) (by simp [encs])
    simpa [encs] using this
  · simp [Value.ownBlock] at hk
    exact hk.symm
theorem Born.first (h : CT B w0 wA p A c e g w s L) (x : Ses) (id : ByteArray) (hx : x.ids = [id]) :
    Born B w0 wA p A c e g ((w.alloc (.cells #[.string id] 9)).alloc (.cells (SesCells (.slice (some ⟨w.heap.size, 0, none⟩) 1 1) x) 78)) s L (w.heap.size + 1) w.heap.size x := by
  have hb : Below w.heap.size w ((w.alloc (.cells #[.string id] 9)).alloc (.cells (SesCells (.slice (some ⟨w.heap.size, 0, none⟩) 1 1) x) 78)) := ((Below.refl _ _).alloc (Nat.le_refl _) _).alloc (by simp) _
  refine ⟨h.below hb, ?_, ?_, ?_, by simp, by simp; omega, by omega⟩
  · have := blk_new (w.alloc (.cells #[.string id] 9)) (.cells (SesCells (.slice (some ⟨w.heap.size, 0, none⟩) 1 1) x) 78)
    rw [World.size_alloc] at this
    exact this
  · rw [hx]
    exact Kd.R_alloc (R_one w h.sz id) _
  · exact Kd.S_below (Kd.S_mono (Kd.S_bound h.rel.row) (fun k hk => by have := hk.2.2.1; omega)) hb
theorem Born.between (h : CT B w0 wA p A c e g w s L) (x : Ses) (id : ByteArray) (hx : x.ids = [id]) :
    Born B w0 wA p A c e g ((w.alloc (.cells (SesCells (.slice (some ⟨w.heap.size + 1, 0, none⟩) 1 1) x) 78)).alloc (.cells #[.string id] 9)) s L w.heap.size (w.heap.size + 1) x := by
  have hb : Below w.heap.size w ((w.alloc (.cells (SesCells (.slice (some ⟨w.heap.size + 1, 0, none⟩) 1 1) x) 78)).alloc (.cells #[.string id] 9)) := ((Below.refl _ _).alloc (Nat.le_refl _) _).alloc (by simp) _
  refine ⟨h.below hb, ?_, ?_, ?_, by simp; omega, by simp, by omega⟩
  · rw [Go.Deep.blk_alloc_lt _ _ _ (by simp)]
    exact blk_new w _
  · rw [hx]
    have := R_one (w.alloc (.cells (SesCells (.slice (some ⟨w.heap.size + 1, 0, none⟩) 1 1) x) 78)) (B := B) (by have := h.sz; simp; omega) id
    simpa using this
  · exact Kd.S_below (Kd.S_mono (Kd.S_bound h.rel.row) (fun k hk => by have := hk.2.2.1; omega)) hb
theorem Born.second {W : World} (h : CT B w0 wA p A c e g w s L) (h4 : CT B w0 wA p A c e g W { s with n := s.n + 1 } L) (hsz : w.heap.size + 1 ≤ W.heap.size) (hk : ∀ k, k ≠ p → k < w.heap.size + 1 → W.heap[k]? = (w.alloc (.cells #[.slice none 0 0, .string none_, .string none_, .int .i64 0, .int .i64 0, .int .i64 0, .bool false] 78)).heap[k]?)
    (x : Ses) (id : ByteArray) (hx : x.ids = [id]) :
    Born B w0 wA p A c e g ((((((((W.setCell ⟨w.heap.size, 0, none⟩ (.slice (some ⟨W.heap.size, 0, none⟩) 1 1)).setCell ⟨w.heap.size, 1, none⟩ (.string x.user)).setCell ⟨w.heap.size, 2, none⟩ (.string x.device)).setCell ⟨w.heap.size, 3, none⟩ (.int .i64 x.level)).setCell ⟨w.heap.size, 4, none⟩ (.int .i64 x.login)).setCell ⟨w.heap.size, 5, none⟩ (.int .i64 x.last)).setCell ⟨w.heap.size, 6, none⟩ (.bool x.dead)).alloc (.cells #[.string id] 9)) { s with n := s.n + 1 } L w.heap.size W.heap.size x := by
  have hp := blk_lt h.rel.blk
  have hb0 := blk_lt h.ev
  have hb := h.sz
  have hblk : W.heap[w.heap.size]? = some (.cells #[.slice none 0 0, .string none_, .string none_, .int .i64 0, .int .i64 0, .int .i64 0, .bool false] 78 (0, 0)) := (hk _ (by omega) (by omega)).trans (by simpa using blk_new w _)
  have hs := (((((((Sets.first hblk).set 0 (.slice (some ⟨W.heap.size, 0, none⟩) 1 1)).set 1 (.string x.user)).set 2 (.string x.device)).set 3 (.int .i64 x.level)).set 4 (.int .i64 x.login)).set 5 (.int .i64 x.last)).set 6 (.bool x.dead)
  obtain ⟨W2, hW2⟩ : ∃ W2, W2 = (((((((W.setCell ⟨w.heap.size, 0, none⟩ (.slice (some ⟨W.heap.size, 0, none⟩) 1 1)).setCell ⟨w.heap.size, 1, none⟩ (.string x.user)).setCell ⟨w.heap.size, 2, none⟩ (.string x.device)).setCell ⟨w.heap.size, 3, none⟩ (.int .i64 x.level)).setCell ⟨w.heap.size, 4, none⟩ (.int .i64 x.login)).setCell ⟨w.heap.size, 5, none⟩ (.int .i64 x.last)).setCell ⟨w.heap.size, 6, none⟩ (.bool x.dead)) := ⟨_, rfl⟩
  have hs' : Sets W W2 w.heap.size (.cells (SesCells (.slice (some ⟨W.heap.size, 0, none⟩) 1 1) x) 78 (0, 0)) := by rw [hW2]; exact hs
  have hrow0 : Kd.S kX 78 W B (fun k => k < w.heap.size) L s.list := by
    have h1 := Kd.S_bound h.rel.row
    refine Kd.S_mono (Kd.S_step (w1 := W) h1 (fun k hk1 hlt => ?_)) (fun k hk1 => hk1.2.2.1)
    obtain ⟨_, _, _, q, hq, cells, hcl⟩ := hk1
    have hne : k ≠ p := HS.blk_ne hcl h.rel.blk (by
      rcases List.mem_cons.1 hq with h3 | h3
      · rw [h3]; decide
      · rw [kX_E q h3]; decide)
    rw [hk k hne (by omega), Go.Deep.blk_alloc_lt _ _ _ hlt]
  have hrow2 := Kd.S_step hrow0 (fun k hk1 _ => hs'.other k (by omega))
  rw [← hW2]
  have hc2 : CT B w0 wA p A c e g W2 { s with n := s.n + 1 } L :=
    ⟨⟨(hs'.other _ (HS.blk_ne h4.rel.blk hblk (by decide))).trans h4.rel.blk, h4.rel.base, Kd.S_mono hrow2 (fun _ _ => trivial)⟩, hs'.below h4.bel (by omega), h4.kt.trans (Kt.sets hs' hblk (by decide)), (hs'.other _ (HS.blk_ne h4.ev hblk (by decide))).trans h4.ev, (hs'.other _ (HS.blk_ne h4.rp hblk (by decide))).trans h4.rp, h4.gs, h4.Bg⟩
  have hb2 : Below W2.heap.size W2 (W2.alloc (.cells #[.string id] 9)) := (Below.refl _ _).alloc (Nat.le_refl _) _
  have hsz2 : W2.heap.size = W.heap.size := hs'.size
  refine ⟨hc2.below hb2, (hb2.block _ (blk_lt hs'.at_)).trans hs'.at_, ?_, Kd.S_below (Kd.S_mono hrow2 (fun k hk1 => by omega)) hb2, ?_, ?_, by omega⟩
  · rw [hx, ← hsz2]
    exact R_one W2 (by omega) id
  · rw [World.size_alloc, hsz2]; omega
  · rw [World.size_alloc, hsz2]; omega
theorem born_zero {W : World} (h : CT B w0 wA p A c e g w s L) (hk : ∀ k, k ≠ p → k < w.heap.size + 1 → W.heap[k]? = (w.alloc (.cells #[.slice none 0 0, .string none_, .string none_, .int .i64 0, .int .i64 0, .int .i64 0, .bool false] 78)).heap[k]?) :
    (∀ j, W.frozen? ⟨w.heap.size, j, none⟩ = false) ∧ W.cell? ⟨w.heap.size, 0, none⟩ = some (.slice none 0 0) ∧ W.cell? ⟨w.heap.size, 1, none⟩ = some (.string none_) ∧ W.cell? ⟨w.heap.size, 2, none⟩ = some (.string none_) ∧ W.cell? ⟨w.heap.size, 3, none⟩ = some (.int .i64 0) ∧
      W.cell? ⟨w.heap.size, 4, none⟩ = some (.int .i64 0) ∧ W.cell? ⟨w.heap.size, 5, none⟩ = some (.int .i64 0) ∧ W.cell? ⟨w.heap.size, 6, none⟩ = some (.bool false) := by
  have hp := blk_lt h.rel.blk
  have hblk : W.heap[w.heap.size]? = some (.cells #[.slice none 0 0, .string none_, .string none_, .int .i64 0, .int .i64 0, .int .i64 0, .bool false] 78 (0, 0)) := (hk _ (by omega) (by omega)).trans (by simpa using blk_new w _)
  exact ⟨fun j => by simp [World.frozen?, hblk], blk_cell hblk 0, blk_cell hblk 1, blk_cell hblk 2, blk_cell hblk 3, blk_cell hblk 4, blk_cell hblk 5, blk_cell hblk 6⟩
theorem Born.below {W W' : World} {b k9 : Nat} {x : Ses} (h : Born B w0 wA p A c e g W s L b k9 x) (hb : Below W.heap.size W W') : Born B w0 wA p A c e g W' s L b k9 x :=
  ⟨h.ct.below hb, (hb.block _ (blk_lt h.blk)).trans h.blk, Kd.R_below h.ids hb, Kd.S_below h.row hb, by have := h.lt; have := hb.size; omega, by have := h.lt9; have := hb.size; omega, h.ne⟩
theorem Born.okp {W : World} {b k9 : Nat} {x : Ses} (h : Born B w0 wA p A c e g W s L b k9 x) : ∀ k, k = k9 → k ≠ b ∧ some k ≠ L.ownBlock := by
  rintro k rfl
  refine ⟨h.ne, fun he => ?_⟩
  obtain ⟨f, hR⟩ := h.row
  exact (hR.1 k he.symm).2 rfl
theorem Born.pushed {W w6 : World} {b k9 : Nat} {x : Ses} {L' : Value} (h : Born B w0 wA p A c e g W s L b k9 x) (hS : Kd.S kX 78 w6 B (fun k => k ≠ b) L' (s.list ++ [x])) (hg : W.grownBy w6 L.ownBlock) :
    w6.cell? ⟨p, 5, none⟩ = some L ∧ (∀ j, w6.frozen? ⟨p, j, none⟩ = false) ∧ CT B w0 wA p A c e g (w6.setCell ⟨p, 5, none⟩ L') { s with list := s.list ++ [x] } L' ∧
      (w6.setCell ⟨p, 5, none⟩ L').heap[b]? = some (.cells (SesCells (.slice (some ⟨k9, 0, none⟩) 1 1) x) 78 (0, 0)) ∧ Kd.R Kd.string 9 (w6.setCell ⟨p, 5, none⟩ L') B (fun _ => True) (.slice (some ⟨k9, 0, none⟩) 1 1) x.ids := by
  obtain ⟨f, hR⟩ := h.row
  have hLb : ∀ k, L.ownBlock = some k → k ≠ b ∧ ¬ k = k9 := hR.1
  have hp6 : w6.heap[p]? = _ := (hg.block _ (blk_lt h.ct.rel.blk) (fun he => by
    obtain ⟨cells, hc⟩ := Kd.S_typed h.row p he.symm
    exact HS.blk_ne h.ct.rel.blk hc (by decide) rfl)).trans h.ct.rel.blk
  have hb6 : w6.heap[b]? = _ := (hg.block _ h.lt (fun he => (hLb b he.symm).1 rfl)).trans h.blk
  have hbp : b ≠ p := HS.blk_ne h.blk h.ct.rel.blk (by decide)
  have hi6 := Kd.R_step (w1 := w6) h.ids (fun k hk hlt => hg.block k hlt (fun he => (hLb k he.symm).2 hk))
  have h9p : k9 ≠ p := by
    obtain ⟨cells, hc⟩ := Kd.R_typed h.ids k9 (by simp [Value.ownBlock])
    exact HS.blk_ne hc h.ct.rel.blk (by decide)
  refine ⟨blk_cell hp6 5, fun j => by simp [World.frozen?, hp6], h.ct.push (Kd.S_mono hS (fun _ _ => trivial)) hg, (Below.heap_setCell w6 ⟨p, 5, none⟩ L' b hbp).trans hb6, ?_⟩
  exact Kd.R_mono (Kd.R_step hi6 (fun k hk _ => Below.heap_setCell w6 ⟨p, 5, none⟩ L' k (by rw [hk]; exact h9p))) (fun _ _ => trivial)
theorem CT.elem_same {w8 w9 : World} {s8 s9 : St} {g5 n cap : Nat} (h8 : CT B w0 wA p A c e g w8 s8 (.slice (some ⟨g5, 0, none⟩) n cap)) (h9 : CT B w0 wA p A c e g w9 s9 (.slice (some ⟨g5, 0, none⟩) n cap)) {i : Nat} {x : Ses} (hx : s9.list[i]? = some x)
    (hk : ∀ k, k ≠ p → k < w8.heap.size → w9.heap[k]? = w8.heap[k]?) {v : Value} (hc : w8.cell? ⟨g5, i * 7, none⟩ = some v) :
    w9.cell? ⟨g5, i * 7, none⟩ = some v ∧ (∀ j, w9.frozen? ⟨g5, j, none⟩ = false) ∧ Kd.R Kd.string 9 w9 B (fun _ => True) v x.ids := by
  obtain ⟨v9, hc9, hf9, hv9⟩ := h9.elem hx
  obtain ⟨cells, h5⟩ := Kd.S_typed h8.rel.row g5 rfl
  have he := hk g5 (HS.blk_ne h5 h8.rel.blk (by decide)) (blk_lt h5)
  have h0 : w9.cell? ⟨g5, i * 7, none⟩ = some v9 := hc9 0 _ rfl
  have h1 : w9.cell? ⟨g5, i * 7, none⟩ = w8.cell? ⟨g5, i * 7, none⟩ := by simp [World.cell?, he]
  rw [h1, hc] at h0
  injection h0 with h0
  subst h0
  exact ⟨h1.trans hc, hf9, hv9⟩
theorem CT.raise_at {w9 w10 : World} {s9 : St} {g5 n cap : Nat} (h9 : CT B w0 wA p A c e g w9 s9 (.slice (some ⟨g5, 0, none⟩) n cap)) {i : Nat} {v : Value} {l : List ByteArray} (hv : Kd.R Kd.string 9 w9 B (fun _ => True) v l) (hc : w9.cell? ⟨g5, i * 7, none⟩ = some v)
    (hg : w9.grownBy w10 v.ownBlock) : w10.cell? ⟨g5, i * 7, none⟩ = some v ∧ ∀ j, w10.frozen? ⟨g5, j, none⟩ = false := by
  obtain ⟨cells, h5⟩ := Kd.S_typed h9.rel.row g5 rfl
  have he := hg.block g5 (blk_lt h5) (fun he => by
    obtain ⟨cells', hc'⟩ := Kd.R_typed hv g5 he.symm
    exact HS.blk_ne h5 hc' (by decide) rfl)
  refine ⟨?_, fun j => by simp [World.frozen?, he, h5]⟩
  have h1 : w10.cell? ⟨g5, i * 7, none⟩ = w9.cell? ⟨g5, i * 7, none⟩ := by simp [World.cell?, he]
  exact h1.trans hc
end Go.Proofs.YtpfjboioeidecaaDoor.HT
end
section
namespace Go.Proofs.YtpfjboioeidecaaDoor.HT
open Go.RowKit Go.Proofs.YtpfjboioeidecaaDoorW.PrintWords Go.Proofs.YtpfjboioeidecaaDoorW.PrintLast Go.Proofs.YtpfjboioeidecaaDoor.HP Go.Proofs.YtpfjboioeidecaaDoor.HDig Go.Proofs.YtpfjboioeidecaaDoor.PQ Go.Proofs.YtpfjboioeidecaaDoor.HS Go.Proofs.YtpfjboioeidecaaDoor.HPl Go.Proofs.YtpfjboioeidecaaDoorW
theorem dec_mem (n : Nat) : ∀ c ∈ Lib.decDigits n, 48 ≤ c.toNat ∧ c.toNat ≤ 57 := by
  induction n using Nat.strongRecOn with
  | ind n ih =>
    intro c hc
    rw [Lib.decDigits] at hc
    by_cases h : n < 10
    · rw [dif_pos h] at hc
      simp only [List.mem_singleton] at hc
      subst hc
      have : (UInt8.ofNat (48 + n)).toNat = 48 + n := by simp [UInt8.toNat_ofNat]; omega
      omega
    · rw [dif_neg h] at hc
      rcases List.mem_append.1 hc with h1 | h1
      · exact ih (n / 10) (by omega) c h1
      · simp only [List.mem_singleton] at h1
        subst h1
        have : (UInt8.ofNat (48 + n % 10)).toNat = 48 + n % 10 := by simp [UInt8.toNat_ofNat]; omega
        omega
def undec (l : List UInt8) : Nat := l.foldl (fun a c => a * 10 + (c.toNat - 48)) 0
theorem undec_dec (n : Nat) : undec (Lib.decDigits n) = n := by
  induction n using Nat.strongRecOn with
  | ind n ih =>
    rw [Lib.decDigits]
    by_cases h : n < 10
    · rw [dif_pos h]
      have : (UInt8.ofNat (48 + n)).toNat = 48 + n := by simp [UInt8.toNat_ofNat]; omega
      simp only [undec, List.foldl_cons, List.foldl_nil, this]
      omega
    · rw [dif_neg h]
      have h1 := ih (n / 10) (by omega)
      have : (UInt8.ofNat (48 + n % 10)).toNat = 48 + n % 10 := by simp [UInt8.toNat_ofNat]; omega
      unfold undec at h1 ⊢
      rw [List.foldl_append, h1]
      simp only [List.foldl_cons, List.foldl_nil, this]
      omega
theorem cut_dash : ∀ (a b u v : List UInt8), (∀ c ∈ a, c ≠ 45) → (∀ c ∈ b, c ≠ 45) → a ++ 45 :: u = b ++ 45 :: v → a = b
  | [], [], _, _, _, _, _ => rfl
  | [], c :: b, u, v, _, hb, h => by
    simp only [List.nil_append, List.cons_append] at h
    injection h with h1 _
    exact absurd h1.symm (hb c (by simp))
  | c :: a, [], u, v, ha, _, h => by
    simp only [List.nil_append, List.cons_append] at h
    injection h with h1 _
    exact absurd h1 (ha c (by simp))
  | c :: a, d :: b, u, v, ha, hb, h => by
    simp only [List.cons_append] at h
    injection h with h1 h2
    rw [h1, cut_dash a b u v (fun x hx => ha x (by simp [hx])) (fun x hx => hb x (by simp [hx])) h2]
theorem handle_list (key : List Int) (n : Int) : (handle key sess n).data.toList = sess.data.toList ++ (Lib.itoa n ++ 45 :: armor ((digest (digest key ++ digest (bytesOf (stem sess n)))).take 10)) := by
  unfold handle stem
  simp
theorem handle_inj {key : List Int} {m n : Int} (hm : 0 ≤ m) (hn : 0 ≤ n) (h : handle key sess m = handle key sess n) : m = n := by
  have h1 := congrArg (fun b : ByteArray => b.data.toList) h
  simp only [handle_list] at h1
  have h2 := List.append_cancel_left h1
  have hd : ∀ k : Int, 0 ≤ k → Lib.itoa k = Lib.decDigits k.toNat := fun k hk => by unfold Lib.itoa; rw [if_neg (by omega)]
  rw [hd m hm, hd n hn] at h2
  have hx : ∀ k : Nat, ∀ c ∈ Lib.decDigits k, c ≠ 45 := fun k c hc he => by
    have := dec_mem k c hc
    rw [he] at this
    simp at this
  have h3 := cut_dash _ _ _ _ (hx _) (hx _) h2
  have h4 := congrArg undec h3
  rw [undec_dec, undec_dec] at h4
  omega
structure Inv (key : List Int) (n : Int) (L : List (List ByteArray)) : Prop where
  n0 : 0 ≤ n
  form : ∀ l ∈ L, ∀ id ∈ l, ∃ m : Int, 1 ≤ m ∧ m ≤ n ∧ id = handle key sess m
  uniq : ∀ (i j : Nat) (l l' : List ByteArray) (id : ByteArray), L[i]? = some l → L[j]? = some l' → id ∈ l → id ∈ l' → i = j
theorem Inv.fresh {key : List Int} {n : Int} {L : List (List ByteArray)} (h : Inv key n L) : ∀ l ∈ L, handle key sess (n + 1) ∉ l := by
  intro l hl hm
  obtain ⟨m, h1, h2, h3⟩ := h.form l hl _ hm
  have := handle_inj (by have := h.n0; omega) (by omega) h3
  omega
theorem Inv.push {key : List Int} {n : Int} {L : List (List ByteArray)} (h : Inv key n L) : Inv key (n + 1) (L ++ [[handle key sess (n + 1)]]) := by
  have hn := h.n0
  refine ⟨by omega, ?_, ?_⟩
  · intro l hl id hid
    rcases List.mem_append.1 hl with h1 | h1
    · obtain ⟨m, a, b, c⟩ := h.form l h1 id hid
      exact ⟨m, a, by omega, c⟩
    · rw [List.mem_singleton] at h1
      subst h1
      rw [List.mem_singleton] at hid
      exact ⟨n + 1, by omega, by omega, hid⟩
  · have hs : ∀ (i : Nat) (l : List ByteArray), (L ++ [[handle key sess (n + 1)]])[i]? = some l → (L[i]? = some l) ∨ (i = L.length ∧ l = [handle key sess (n + 1)]) := by
      intro i l hi
      rcases Nat.lt_trichotomy i L.length with h1 | h1 | h1
      · rw [List.getElem?_append_left h1] at hi; exact .inl hi
      · subst h1; simp at hi; exact .inr ⟨rfl, hi.symm⟩
      · rw [List.getElem?_eq_none (by simp; omega)] at hi; cases hi
    intro i j l l' id hi hj h1 h2
    rcases hs i l hi with a | ⟨a, b⟩ <;> rcases hs j l' hj with a' | ⟨a', b'⟩
    · exact h.uniq i j l l' id a a' h1 h2
    · rw [b', List.mem_singleton] at h2
      rw [h2] at h1
      exact absurd h1 (h.fresh l (List.mem_of_getElem? a))
    · rw [b, List.mem_singleton] at h1
      rw [h1] at h2
      exact absurd h2 (h.fresh l' (List.mem_of_getElem? a'))
    · omega
theorem Inv.grow {key : List Int} {n : Int} {L : List (List ByteArray)} (h : Inv key n L) {i0 : Nat} {l0 : List ByteArray} (h0 : L[i0]? = some l0) : Inv key (n + 1) (L.set i0 (l0 ++ [handle key sess (n + 1)])) := by
  have hn := h.n0
  have hl := (List.getElem?_eq_some_iff.1 h0).1
  have hs : ∀ (i : Nat) (l : List ByteArray), (L.set i0 (l0 ++ [handle key sess (n + 1)]))[i]? = some l → (i ≠ i0 ∧ L[i]? = some l) ∨ (i = i0 ∧ l = l0 ++ [handle key sess (n + 1)]) := by
    intro i l hi
    by_cases he : i0 = i
    · subst he
      rw [List.getElem?_set_self hl] at hi
      injection hi with hi
      exact .inr ⟨rfl, hi.symm⟩
    · rw [List.getElem?_set_ne he] at hi
      exact .inl ⟨fun h => he h.symm, hi⟩
  refine ⟨by omega, ?_, ?_⟩
  · intro l hl id hid
    obtain ⟨i, hi⟩ := List.getElem?_of_mem hl
    rcases hs i l hi with ⟨_, a⟩ | ⟨_, b⟩
    · obtain ⟨m, a1, b1, c1⟩ := h.form l (List.mem_of_getElem? a) id hid
      exact ⟨m, a1, by omega, c1⟩
    · rw [b] at hid
      rcases List.mem_append.1 hid with h1 | h1
      · obtain ⟨m, a1, b1, c1⟩ := h.form l0 (List.mem_of_getElem? h0) id h1
        exact ⟨m, a1, by omega, c1⟩
      · rw [List.mem_singleton] at h1
        exact ⟨n + 1, by omega, by omega, h1⟩
  · intro i j l l' id hi hj h1 h2
    rcases hs i l hi with ⟨a0, a⟩ | ⟨a, b⟩ <;> rcases hs j l' hj with ⟨a0', a'⟩ | ⟨a', b'⟩
    · exact h.uniq i j l l' id a a' h1 h2
    · rw [b'] at h2
      rcases List.mem_append.1 h2 with h3 | h3
      · rw [a']; exact h.uniq i i0 l l0 id a h0 h1 h3
      · rw [List.mem_singleton] at h3
        rw [h3] at h1
        exact absurd h1 (h.fresh l (List.mem_of_getElem? a))
    · rw [b] at h1
      rcases List.mem_append.1 h1 with h3 | h3
      · rw [a]; exact h.uniq i0 j l0 l' id h0 a' h3 h2
      · rw [List.mem_singleton] at h3
        rw [h3] at h2
        exact absurd h2 (h.fresh l' (List.mem_of_getElem? a'))
    · omega
def St.inv (s : St) : Prop := Inv s.key s.n (s.list.map Ses.ids)
theorem list_same {α : Type} {l : List α} {k : Nat} {x : α} (h : l[k]? = some x) : l.set k x = l := by
  apply List.ext_getElem?
  intro j
  by_cases hj : k = j
  · subst hj
    rw [List.getElem?_set_self (List.getElem?_eq_some_iff.1 h).1, h]
  · rw [List.getElem?_set_ne hj]
theorem map_ids_set {L : List Ses} {i : Nat} {x x' : Ses} (hx : L[i]? = some x) (h : x'.ids = x.ids) : (L.set i x').map Ses.ids = L.map Ses.ids := by
  rw [List.map_set, h]
  exact list_same (by rw [List.getElem?_map, hx]; rfl)
theorem has_mem (x : Ses) (id : ByteArray) : x.has id = true ↔ id ∈ x.ids := Lib.containsS_iff _ _
theorem atK_none {xs : List Ses} {id : ByteArray} (h : ∀ (i : Nat) (x : Ses), xs[i]? = some x → x.has id = false) : ∀ k, atK xs id k = none := by
  intro k
  induction k with
  | zero => rfl
  | succ k ih =>
    cases hx : xs[k]? with
    | none => simp only [atK, hx]; rw [if_neg (by simp)]; exact ih
    | some x => rw [atK_succ hx, h k x hx, if_neg (by simp)]; exact ih
theorem atK_some {xs : List Ses} {id : ByteArray} {i : Nat} {x : Ses} (hx : xs[i]? = some x) (hh : x.has id = true) (hu : ∀ (j : Nat) (y : Ses), xs[j]? = some y → y.has id = true → j = i) : ∀ k, i < k → atK xs id k = some i := by
  intro k
  induction k with
  | zero => intro h; omega
  | succ k ih =>
    intro hk
    cases hy : xs[k]? with
    | none =>
      simp only [atK, hy]; rw [if_neg (by simp)]
      have := (List.getElem?_eq_some_iff.1 hx).1
      have := List.getElem?_eq_none_iff.1 hy
      exact ih (by omega)
    | some y =>
      rw [atK_succ hy]
      by_cases hb : y.has id = true
      · rw [if_pos hb, hu k y hy hb]
      · rw [if_neg hb]
        refine ih ?_
        by_cases he : k = i
        · subst he
          rw [hx] at hy
          injection hy with hy
          rw [← hy] at hb
          exact absurd hh hb
        · omega
theorem at_eq {s : St} (h : St.inv s) (id : ByteArray) : atS s.list id = at_ s.list id := by
  unfold atS
  cases hf : at_ s.list id with
  | none =>
    refine atK_none (fun i x hx => ?_) _
    unfold at_ at hf
    rw [List.findIdx?_eq_none_iff] at hf
    have := hf x (List.mem_of_getElem? hx)
    simpa using this
  | some i =>
    have hf2 := hf
    unfold at_ at hf2
    rw [List.findIdx?_eq_some_iff_getElem] at hf2
    obtain ⟨hl, hh, _⟩ := hf2
    refine atK_some (List.getElem?_eq_getElem hl) (by simpa using hh) (fun j y hy hb => ?_) _ hl
    refine h.uniq j i y.ids s.list[i].ids id (by rw [List.getElem?_map, hy]; rfl) (by rw [List.getElem?_map, List.getElem?_eq_getElem hl]; rfl) ((has_mem _ _).1 hb) ((has_mem _ _).1 (by simpa using hh))
theorem step2_eq {s : St} (h : St.inv s) (e : HS.Ev) : step2S s e = step2 s e := by
  unfold step2S step2
  rw [at_eq h]
  rfl
theorem step2_inv {s : St} (h : St.inv s) (e : HS.Ev) : St.inv (step2 s e).1 := by
  unfold step2
  split
  · unfold St.inv
    show Inv s.key (s.n + 1) ((s.list ++ [_]).map Ses.ids)
    rw [List.map_append]
    exact h.push
  · split
    · unfold St.inv
      have e1 : (s.list.map (out1 e.user)).map Ses.ids = s.list.map Ses.ids := by rw [List.map_map]; rfl
      rw [e1]
      exact h
    · split
      · exact h
      · rename_i i hi
        split
        · exact h
        · rename_i x hx
          have hset : ∀ x' : Ses, x'.ids = x.ids → St.inv { s with list := s.list.set i x' } := fun x' hx' => by
            unfold St.inv
            show Inv s.key s.n ((s.list.set i x').map Ses.ids)
            rw [map_ids_set hx hx']
            exact h
          split
          · exact hset _ rfl
          · split
            · exact h
            · split
              · exact h
              · split
                · unfold St.inv
                  show Inv s.key (s.n + 1) ((s.list.set i _).map Ses.ids)
                  rw [List.map_set]
                  exact h.grow (by rw [List.getElem?_map, hx]; rfl)
                · split
                  · exact hset _ rfl
                  · exact hset _ rfl
theorem step_eq {s : St} (h : St.inv s) (e : HS.Ev) : stepS s e = HS.step s e := by
  unfold stepS HS.step
  have h1 : St.inv { s with now := e.time } := h
  rw [step2_eq h1]
theorem step_inv {s : St} (h : St.inv s) (e : HS.Ev) : St.inv (HS.step s e).1 := by
  unfold HS.step
  split
  · exact h
  · split
    · exact h
    · exact step2_inv (s := { s with now := e.time }) h e
theorem steps_inv {s : St} (h : St.inv s) (l : List HS.Ev) : St.inv (steps s l).1 := by
  induction l generalizing s with
  | nil => exact h
  | cons e l ih => exact ih (step_inv h e)
theorem start_inv (key : List Int) (idle most : Int) : St.inv ⟨key, idle, most, 0, 0, []⟩ := ⟨by show (0 : Int) ≤ 0; omega, by simp, by simp⟩
end Go.Proofs.YtpfjboioeidecaaDoor.HT
end
section
namespace Go.Proofs.YtpfjboioeidecaaDoor.HS
open Go.RowKit Go.Proofs.YtpfjboioeidecaaDoorW.PrintWords Go.Proofs.YtpfjboioeidecaaDoorW.PrintLast Go.Proofs.YtpfjboioeidecaaDoor.HP Go.Proofs.YtpfjboioeidecaaDoor.HDig
open Go.Proofs.YtpfjboioeidecaaDoor.PQ (S31 k31 k31_mkM)
def signedP (key : List Int) (idle most : Int) (evs : List Ev) (t : Int) : List Rp :=
  if conf key.length idle most = true ∧ evs.length ≤ 200 then
    (if (steps (start key idle most) evs).1.now ≤ t then signed (steps (start key idle most) evs).1 t else [])
  else []
set_option maxHeartbeats 4000000 in
set_option maxRecDepth 100000 in
theorem signed_late (w : World) (A : Option Addr) (c : Nat) (key : List Int) (idle most : Int) (AE : Option Addr) (cE : Nat) (evs : List Ev) (t : Int)
    (hr : Kd.C (Kd.int .u8) w A key.length key) (hc : key.length ≤ c) (hk : Byt key) (hev : Kd.C kEv w AE evs.length evs) (hcE : evs.length ≤ cE) (hT : Tabs w)
    (hsz : ∀ e ∈ evs, e.user.size ≤ 140737488351232 ∧ e.device.size ≤ 140737488351232) (hg : conf key.length idle most = true) (hn : evs.length ≤ 200)
    (ht : t < (steps (start key idle most) evs).1.now) :
    Calls Tryd.prog 8 #[.agg #[.slice A key.length c, .int .i64 idle, .int .i64 most], .slice AE evs.length cE, .int .i64 t] w fun r w' =>
      r = .returned (.slice none 0 0) ∧ Below w.heap.size w w' := by
  have HR := Aside0.mk hr
  have HE := Aside0.mk hev
  have HT := Aside0.mk hT
  have HK := Aside0.mk hk
  have HSZ := Aside0.mk hsz
  have HG := Aside0.mk hg
  obtain ⟨s, hs⟩ : ∃ s, s = (steps (start key idle most) evs).1 := ⟨_, rfl⟩
  rw [← hs] at ht
  have HSs := Aside0.mk hs
  clear hr hev hT hk hsz hg hs
  go_enter Tryd.func8, Tryd.ntmps8
  go_wp2_with (go_at_call 26; (with_reducible refine (yrun_calls _ A c key idle most AE cE evs (Kd.C_below HR.out (below_alloc (Below.refl _ _) _)) hc HK.out (Kd.C_below HE.out (below_alloc (Below.refl _ _) _)) hcE (HT.out.below (below_alloc (Below.refl _ _) _)) HSZ.out HG.out hn).mono ?_); rintro r w1 ⟨p, rfl, hrun⟩; rw [← HSs.out] at hrun; obtain ⟨R, L, ps, hS, hO, hBl⟩ := hrun; have p3 := blk_cell hS.blk 3; simp only [List.getElem?_toArray, List.getElem?_cons_zero, List.getElem?_cons_succ] at p3; have HB := Aside0.mk (((Below.refl w.heap.size w).alloc (Nat.le_refl _) (.cells #[.slice A key.length c, .int .i64 idle, .int .i64 most] 24)).trans (hBl.mono (by simp))); clear hS hO hBl HR HE HT HSZ)
  go_ret
  exact ⟨rfl, HB.out⟩
set_option maxHeartbeats 4000000 in
set_option maxRecDepth 100000 in
theorem signed_bad (w : World) (A : Option Addr) (n c : Nat) (idle most : Int) (AE : Option Addr) (m cE : Nat) (t : Int) (hn : n ≤ 9223372036854775807) (hm : m ≤ 9223372036854775807)
    (hg : conf n idle most = false ∨ 200 < m) :
    Calls Tryd.prog 8 #[.agg #[.slice A n c, .int .i64 idle, .int .i64 most], .slice AE m cE, .int .i64 t] w fun r w' =>
      r = .returned (.slice none 0 0) ∧ Below w.heap.size w w' := by
  have HG := Aside0.mk hg
  clear hg
  go_enter Tryd.func8, Tryd.ntmps8
  go_wp2_with (go_at_call 26; (with_reducible refine (yrun_bad _ A n c idle most AE m cE hn hm HG.out).mono ?_); rintro r w1 ⟨rfl, hb⟩; have HB := Aside0.mk (((Below.refl w.heap.size w).alloc (Nat.le_refl _) (.cells #[.slice A n c, .int .i64 idle, .int .i64 most] 24)).trans (hb.mono (by simp))); clear hb)
  go_ret
  exact ⟨rfl, HB.out⟩
theorem signed_all (w : World) (A : Option Addr) (c : Nat) (key : List Int) (idle most : Int) (AE : Option Addr) (cE : Nat) (evs : List Ev) (t : Int)
    (hr : Kd.C (Kd.int .u8) w A key.length key) (hc : key.length ≤ c) (hk : Byt key) (hev : Kd.C kEv w AE evs.length evs) (hcE : evs.length ≤ cE) (hT : Tabs w)
    (hsz : ∀ e ∈ evs, e.user.size ≤ 140737488351232 ∧ e.device.size ≤ 140737488351232) :
    Calls Tryd.prog 8 #[.agg #[.slice A key.length c, .int .i64 idle, .int .i64 most], .slice AE evs.length cE, .int .i64 t] w fun r w' =>
      ∃ v, r = .returned v ∧ Kd.R k31 31 w' w.heap.size (fun _ => True) v ((signedP key idle most evs t).map rp) ∧ Below w.heap.size w w' := by
  unfold signedP
  by_cases hg : conf key.length idle most = true ∧ evs.length ≤ 200
  · rw [if_pos hg]
    by_cases ht : (steps (start key idle most) evs).1.now ≤ t
    · rw [if_pos ht]
      exact signed_calls w A c key idle most AE cE evs t hr hc hk hev hcE hT hsz hg.1 hg.2 ht
    · rw [if_neg ht]
      refine (signed_late w A c key idle most AE cE evs t hr hc hk hev hcE hT hsz hg.1 hg.2 (by omega)).mono ?_
      rintro r w' ⟨rfl, hb⟩
      exact ⟨_, rfl, Kd.R_nil _ _ _ _ _, hb⟩
  · rw [if_neg hg]
    refine (signed_bad w A key.length c idle most AE evs.length cE t (Kd.C_max hr) (Kd.C_max hev) ?_).mono ?_
    · cases h : conf key.length idle most
      · exact .inl rfl
      · exact .inr (by have : ¬ evs.length ≤ 200 := fun h2 => hg ⟨h, h2⟩; omega)
    · rintro r w' ⟨rfl, hb⟩
      exact ⟨_, rfl, Kd.R_nil _ _ _ _ _, hb⟩
end Go.Proofs.YtpfjboioeidecaaDoor.HS
end
