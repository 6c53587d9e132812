/- The program's digest, armour, numerals and names are the plain ones; the condition is the listed table of powers of ten. -/
import Derived.Test.YtpfjboioeidecaaDoorE1
import Derived.Test.YtpfjboioeidecaaDoorE2
import Derived.Test.YtpfjboioeidecaaDoorProg
import Derived.Below
import Derived.OwnWalk
import Derived.WalkKit
import Derived.KernelRfl
import Derived.RowKit3
import Derived.Deep.LoopGhost
import Derived.Deep.QuietTactic
import Derived.BigQuiet
import Derived.BigRegion
import Derived.Deep.OwnRows
import Derived.ArgAppend
import Derived.Shelf.Strings.Builder1
import Derived.Shelf.Strings.BuilderF
import Derived.Shelf.Strings.BuilderK
import Derived.Shelf.Strconv.Itoa0
import Derived.Shelf.Strconv.Itoa1
import Derived.Shelf.LaysM
import Derived.Shelf.Strconv.Itoa2
import Derived.Shelf.Strconv.Itoa3
import Derived.Shelf.Slices.Turned
import Derived.Laws.BitsLemmas
import Derived.Lib.ConvBytes
import Derived.Lib.AppendIntMem
import Derived.Lib.ItoaLen
section
namespace Go.Proofs.YtpfjboioeidecaaDoor.HP
abbrev Q4 := Int × Int × Int × Int
def mixAt (m x a b : Int) : Int := (a * m + x + 1 + b) % 2147483579
def mix (q : Q4) (x : Int) : Q4 :=
  (mixAt 1103515245 x q.1 q.2.1, mixAt 69069 x q.2.1 q.2.2.1, mixAt 1664525 x q.2.2.1 q.2.2.2, mixAt 22695477 x q.2.2.2 (mixAt 1103515245 x q.1 q.2.1))
def b4 (n : Int) : List Int := [n % 256, n / 256 % 256, n / 65536 % 256, n / 16777216 % 256]
def start4 : Q4 := (11, 22, 33, 44)
def mixes (q : Q4) (l : List Int) : Q4 := l.foldl mix q
def out4 (q : Q4) : List Int := b4 q.1 ++ b4 q.2.1 ++ b4 q.2.2.1 ++ b4 q.2.2.2
def digest (l : List Int) : List Int := out4 (mixes (mixes (mixes start4 l) (b4 l.length)) (List.replicate 8 0))
def Byt (l : List Int) : Prop := ∀ x ∈ l, 0 ≤ x ∧ x ≤ 255
def QOk (q : Q4) : Prop := (0 ≤ q.1 ∧ q.1 < 2147483579) ∧ (0 ≤ q.2.1 ∧ q.2.1 < 2147483579) ∧ (0 ≤ q.2.2.1 ∧ q.2.2.1 < 2147483579) ∧ (0 ≤ q.2.2.2 ∧ q.2.2.2 < 2147483579)
theorem mixAt_ok (m x a b : Int) : 0 ≤ mixAt m x a b ∧ mixAt m x a b < 2147483579 := by unfold mixAt; omega
theorem mix_ok (q : Q4) (x : Int) : QOk (mix q x) := ⟨mixAt_ok _ _ _ _, mixAt_ok _ _ _ _, mixAt_ok _ _ _ _, mixAt_ok _ _ _ _⟩
theorem start4_ok : QOk start4 := by simp [QOk, start4]
theorem mixes_ok (l : List Int) : ∀ q, QOk q → QOk (mixes q l) := by
  induction l with
  | nil => exact fun q h => h
  | cons x l ih => exact fun q h => ih _ (mix_ok q x)
theorem b4_byt (n : Int) : Byt (b4 n) := by
  intro x hx
  simp only [b4, List.mem_cons, List.not_mem_nil, or_false] at hx
  omega
theorem byt_append {a b : List Int} (ha : Byt a) (hb : Byt b) : Byt (a ++ b) := fun x hx => (List.mem_append.1 hx).elim (ha x) (hb x)
theorem out4_byt (q : Q4) : Byt (out4 q) := byt_append (byt_append (byt_append (b4_byt _) (b4_byt _)) (b4_byt _)) (b4_byt _)
theorem digest_byt (l : List Int) : Byt (digest l) := out4_byt _
theorem b4_len (n : Int) : (b4 n).length = 4 := rfl
theorem digest_len (l : List Int) : (digest l).length = 16 := rfl
theorem mixes_append (q : Q4) (a b : List Int) : mixes q (a ++ b) = mixes (mixes q a) b := List.foldl_append
theorem mixes_take (q : Q4) (l : List Int) (k : Nat) (h : k < l.length) : mixes q (l.take (k + 1)) = mix (mixes q (l.take k)) (l.getD k 0) := by
  rw [List.take_succ_eq_append_getElem h, mixes_append]
  simp [mixes, List.getD_eq_getElem?_getD, List.getElem?_eq_getElem h]
theorem byt_getD {l : List Int} (h : Byt l) (k : Nat) : 0 ≤ l.getD k 0 ∧ l.getD k 0 ≤ 255 := by
  rw [List.getD_eq_getElem?_getD]
  cases e : l[k]? with
  | none => simp
  | some x => exact h x (List.mem_of_getElem? e)
end Go.Proofs.YtpfjboioeidecaaDoor.HP
end
section
namespace Go.Proofs.YtpfjboioeidecaaDoor.HDig
open Go.RowKit Go.Proofs.YtpfjboioeidecaaDoorW.PrintWords Go.Proofs.YtpfjboioeidecaaDoorW.PrintLast Go.Proofs.YtpfjboioeidecaaDoor.HP
structure Sets (w w' : World) (b : Nat) (o : Obj) : Prop where
  os : w'.os = w.os
  tape : w'.tape = w.tape
  output : w'.output = w.output
  size : w'.heap.size = w.heap.size
  at_ : w'.heap[b]? = some o
  other : ∀ k, k ≠ b → w'.heap[k]? = w.heap[k]?
theorem Sets.first {w : World} {b : Nat} {o : Obj} (h : w.heap[b]? = some o) : Sets w w b o := ⟨rfl, rfl, rfl, rfl, h, fun _ _ => rfl⟩
theorem Sets.drew {w w' : World} {b : Nat} {o : Obj} (h : Sets w w' b o) : Sets w w'.drew b o := ⟨h.os, h.tape, h.output, h.size, h.at_, h.other⟩
theorem Sets.set {w w' : World} {b : Nat} {cs : Array Value} {t : TypeId} {fr : Nat × Nat} (h : Sets w w' b (.cells cs t fr)) (j : Nat) (u : Value) :
    Sets w (w'.setCell ⟨b, j, none⟩ u) b (.cells (cs.setIfInBounds j u) t fr) := by
  refine ⟨h.os, h.tape, h.output, by simp [World.setCell, h.size], ?_, fun k hk => (Below.heap_setCell w' ⟨b, j, none⟩ u k hk).trans (h.other k hk)⟩
  simp [World.setCell, Array.getElem?_modify, h.at_]
theorem Sets.drewN {w w' : World} {b : Nat} {o : Obj} (h : Sets w w' b o) (n : Nat) : Sets w (w'.drewN n) b o := ⟨h.os, h.tape, h.output, h.size, h.at_, h.other⟩
theorem Sets.below {w0 w w' : World} {b B : Nat} {o : Obj} (h : Sets w w' b o) (hb : Below B w0 w) (hB : B ≤ b) : Below B w0 w' :=
  ⟨h.os.trans hb.os, h.tape.trans hb.tape, h.output.trans hb.output, by rw [h.size]; exact hb.size, fun k hk => (h.other k (by omega)).trans (hb.block k hk)⟩
def QCells (q : Q4) : Array Value := #[.int .i64 q.1, .int .i64 q.2.1, .int .i64 q.2.2.1, .int .i64 q.2.2.2]
def MCells : Array Value := #[.int .i64 1103515245, .int .i64 69069, .int .i64 1664525, .int .i64 22695477]
set_option maxHeartbeats 4000000 in
set_option maxRecDepth 100000 in
theorem eat (x a0 a1 a2 a3 : Int) (ba bm : Nat) (w : World)
    (ha : w.heap[ba]? = some (.cells #[.int .i64 a0, .int .i64 a1, .int .i64 a2, .int .i64 a3] 120 (0, 0)))
    (hm : w.heap[bm]? = some (.cells #[.int .i64 1103515245, .int .i64 69069, .int .i64 1664525, .int .i64 22695477] 120 (0, 0)))
    (hne : ba ≠ bm) (hx : 0 ≤ x ∧ x ≤ 255)
    (h0 : 0 ≤ a0 ∧ a0 < 2147483579) (h1 : 0 ≤ a1 ∧ a1 < 2147483579) (h2 : 0 ≤ a2 ∧ a2 < 2147483579) (h3 : 0 ≤ a3 ∧ a3 < 2147483579) :
    Calls Tryd.prog 87 #[.int .u8 x, .pointer (some ⟨ba, 0, none⟩), .pointer (some ⟨bm, 0, none⟩)] w fun e w' => e = .returned (.tuple #[]) ∧
      Sets w w' ba (.cells #[.int .i64 (mixAt 1103515245 x a0 a1), .int .i64 (mixAt 69069 x a1 a2), .int .i64 (mixAt 1664525 x a2 a3), .int .i64 (mixAt 22695477 x a3 (mixAt 1103515245 x a0 a1))] 120 (0, 0)) := by
  obtain ⟨hx0, hx1⟩ := hx
  obtain ⟨h0, h0'⟩ := h0
  obtain ⟨h1, h1'⟩ := h1
  obtain ⟨h2, h2'⟩ := h2
  obtain ⟨h3, h3'⟩ := h3
  have S0 := Aside0.mk (Sets.first ha)
  have c0 := blk_cell ha 0
  have c1 := blk_cell ha 1
  have c2 := blk_cell ha 2
  have c3 := blk_cell ha 3
  have d0 := blk_cell hm 0
  have d1 := blk_cell hm 1
  have d2 := blk_cell hm 2
  have d3 := blk_cell hm 3
  simp only [List.getElem?_toArray, List.getElem?_cons_zero, List.getElem?_cons_succ] at c0 c1 c2 c3 d0 d1 d2 d3
  have fa : ∀ j, w.frozen? ⟨ba, j, none⟩ = false := fun j => by simp [World.frozen?, ha]
  clear ha hm
  go_enter Tryd.func87, Tryd.ntmps87
  go_wp2_with fail
  refine wp_loop_rounds 5 ?_
  rw [rounds_succ]
  go_wp2_with fail
  go_region
  go_wp2_with fail
  rw [rounds_succ]
  go_wp2_with fail
  go_region
  go_wp2_with fail
  rw [rounds_succ]
  go_wp2_with fail
  go_region
  go_wp2_with fail
  rw [rounds_succ]
  go_wp2_with fail
  go_region
  go_wp2_with fail
  rw [rounds_succ]
  go_wp2_with fail
  go_end0
  refine ⟨rfl, ?_⟩
  have hS := ((((S0.out.set 0 (.int .i64 ((a0 * 1103515245 + x + 1 + a1) % 2147483579))).set 1 (.int .i64 ((a1 * 69069 + x + 1 + a2) % 2147483579))).set 2 (.int .i64 ((a2 * 1664525 + x + 1 + a3) % 2147483579))).set 3 (.int .i64 ((a3 * 22695477 + x + 1 + (a0 * 1103515245 + x + 1 + a1)) % 2147483579))).drew.drew.drew.drew
  simpa [mixAt] using hS
theorem eat_q (x : Int) (q : Q4) (ba bm : Nat) (w : World) (ha : w.heap[ba]? = some (.cells (QCells q) 120 (0, 0))) (hm : w.heap[bm]? = some (.cells MCells 120 (0, 0)))
    (hne : ba ≠ bm) (hx : 0 ≤ x ∧ x ≤ 255) (hq : QOk q) :
    Calls Tryd.prog 87 #[.int .u8 x, .pointer (some ⟨ba, 0, none⟩), .pointer (some ⟨bm, 0, none⟩)] w fun e w' => e = .returned (.tuple #[]) ∧
      Sets w w' ba (.cells (QCells (mix q x)) 120 (0, 0)) :=
  eat x q.1 q.2.1 q.2.2.1 q.2.2.2 ba bm w ha hm hne hx hq.1 hq.2.1 hq.2.2.1 hq.2.2.2
theorem info_u8 : (Tryd.prog.info? 5).map (fun i => (i.zero, i.size, i.bytes)) = some (some (.int .u8 0), 1, 1) := by kernel_rfl
theorem at_int {k : IntKind} {w : World} {A : Option Addr} {n : Nat} {l : List Int} (h : Kd.C (Kd.int k) w A n l) (i : Nat) (hi : i < n) :
    ∃ ad, A = some ad ∧ w.cell? (ad.add i) = some (.int k (rd l i)) := by
  obtain ⟨ad, h1, h2⟩ := Kd.at_int h (i : Int) (by omega) (by omega)
  exact ⟨ad, h1, by simpa using h2⟩
theorem rd_byt {l : List Int} (h : Byt l) (i : Nat) : 0 ≤ rd l i ∧ rd l i ≤ 255 := byt_getD h i
theorem mixes_rd (q : Q4) (l : List Int) (k : Nat) (h : k < l.length) : mixes q (l.take (k + 1)) = mix (mixes q (l.take k)) (rd l k) := mixes_take q l k h
theorem R_laid (w : World) (k : IntKind) (e : TypeId) (l : List Int) (cs : Array Value) (hcs : cs = (encs (Value.int k) l).toArray) (hl : l.length ≤ maxLen) :
    Kd.R (Kd.int k) e (w.alloc (.cells cs e)) w.heap.size (fun _ => True) (.slice (some ⟨w.heap.size, 0, none⟩) l.length l.length) l := by
  subst hcs
  refine Kd.R_of_own ?_ (fun _ _ => trivial)
  have := World.ownsRow_lit (base := w.heap.size) (e := e) (size := 1) w (encs (Value.int k) l).toArray l.length (Nat.le_refl _) hl (by simp [encs])
  simpa using this
set_option maxHeartbeats 1000000 in
set_option maxRecDepth 100000 in
theorem bytes4 (n : Int) (w : World) (h0 : 0 ≤ n) (h1 : n < 4294967296) :
    Calls Tryd.prog 88 #[.int .i64 n] w fun e w' => ∃ v, e = .returned v ∧ Kd.R (Kd.int .u8) 5 w' w.heap.size (fun _ => True) v (b4 n) ∧ Below w.heap.size w w' := by
  go_enter Tryd.func88, Tryd.ntmps88
  go_wp2_with fail
  go_ret
  refine ⟨_, rfl, R_laid w .u8 5 (b4 n) _ ?_ (by rw [b4_len]; decide), (Below.refl _ _).alloc (Nat.le_refl _) _⟩
  have : n / 16777216 % 256 = n / 16777216 := by omega
  simp [encs, b4, this]
end Go.Proofs.YtpfjboioeidecaaDoor.HDig
end
section
namespace Go.Proofs.YtpfjboioeidecaaDoor.HDig
open Go.RowKit Go.Proofs.YtpfjboioeidecaaDoorW.PrintWords Go.Proofs.YtpfjboioeidecaaDoorW.PrintLast Go.Proofs.YtpfjboioeidecaaDoor.HP
structure DI (w wr : World) (q : Q4) : Prop where
  a : wr.heap[w.heap.size]? = some (.cells (QCells q) 120 (0, 0))
  m : wr.heap[w.heap.size + 1]? = some (.cells MCells 120 (0, 0))
  b : Below w.heap.size w wr
theorem DI.step {w wr w1 : World} {q : Q4} (h : DI w wr q) (hb : Below wr.heap.size wr w1) : DI w w1 q :=
  ⟨(hb.block _ (blk_lt h.a)).trans h.a, (hb.block _ (blk_lt h.m)).trans h.m, below_step h.b hb⟩
theorem DI.set {w wr w1 : World} {q q' : Q4} (h : DI w wr q) (hS : Sets wr w1 w.heap.size (.cells (QCells q') 120 (0, 0))) : DI w w1 q' :=
  ⟨hS.at_, (hS.other _ (by omega)).trans h.m, hS.below h.b (Nat.le_refl _)⟩
theorem DI.far {w wr : World} {q : Q4} (h : DI w wr q) {v : Value} {l : List Int} {w1 : World} (hR : Kd.R (Kd.int .u8) 5 w1 wr.heap.size (fun _ => True) v l) {A : Option Addr} {n c : Nat} (e : v = .slice A n c) :
    ∀ ad, A = some ad → 0 < n → ad.block ≠ w.heap.size := by
  subst e
  rintro ad rfl _
  have h1 := Kd.R_base hR ad.block rfl
  have h2 := blk_lt h.a
  omega
theorem Sets.keep {w w1 : World} {b : Nat} {o : Obj} (h : Sets w w1 b o) : KeepBut w w1 b none := ⟨Nat.le_of_eq h.size.symm, fun k _ hk _ => h.other k hk⟩
set_option maxHeartbeats 4000000 in
set_option maxRecDepth 100000 in
theorem digest_calls (A : Option Addr) (c : Nat) (l : List Int) (w : World) (hr : Kd.C (Kd.int .u8) w A l.length l) (hc : l.length ≤ c) (hb : Byt l) (hl : l.length ≤ 20000) :
    Calls Tryd.prog 82 #[.slice A l.length c] w fun e w' => ∃ v, e = .returned v ∧ Kd.R (Kd.int .u8) 5 w' w.heap.size (fun _ => True) v (digest l) ∧ Below w.heap.size w w' := by
  have HR := Aside0.mk hr
  have HBy := Aside0.mk hb
  clear hr hb
  go_enter Tryd.func82, Tryd.ntmps82
  go_wp2_with fail
  go_loopw [21] (fun i wr => ∃ k : Nat, k ≤ l.length ∧ i = .int .i64 k ∧ Aside0 (DI w wr (mixes start4 (l.take k)))) (fun i _ => l.length - (intOf i).toNat)
  case atStart =>
    refine ⟨0, Nat.zero_le _, rfl, ⟨⟨?_, ?_, ((Below.refl _ _).alloc (Nat.le_refl _) _).alloc (by simp) _⟩⟩⟩
    · rw [Go.Deep.blk_alloc_lt _ _ _ (by simp)]; exact blk_new w _
    · have := blk_new (w.alloc (.cells (QCells start4) 120)) (.cells MCells 120)
      rw [World.size_alloc] at this
      exact this
  case round =>
    obtain ⟨k, hk, rfl, HD⟩ := hrel
    by_cases hlt : k < l.length
    · have hq := Aside0.mk (mixes_ok (l.take k) start4 start4_ok)
      have hbx := rd_byt HBy.out k
      obtain ⟨ad, rfl, hx⟩ := at_int HR.out k hlt
      have hcl := (HD.out.b.cell (World.block_lt_of_cell? w _ hx)).trans hx
      have ht := Aside0.mk (mixes_rd start4 l k hlt)
      clear hx
      go_wp2_with (go_at_call 87; ((with_reducible refine (eat_q (rd l k) _ _ _ wr HD.out.a HD.out.m (by omega) hbx hq.out).mono ?_)); rintro e w1 ⟨rfl, hS⟩)
      have HD1 : Aside0 (DI w w1 (mixes start4 (l.take (k + 1)))) := ⟨by rw [ht.out]; exact HD.out.set hS⟩
      clear HD hcl hS ht hq
      go_roundw
      case rel => exact ⟨k + 1, by omega, by go_num, HD1⟩
      case measure => simp [intOf]; omega
    · obtain rfl : k = l.length := by omega
      have hS1 := Aside0.mk (mixes_ok l start4 start4_ok)
      rw [List.take_length] at HD
      go_wp2_with (go_at_call 88; (with_reducible refine (bytes4 (l.length : Int) wr (by omega) (by omega)).mono ?_); rintro e w1 ⟨v, rfl, hR, hb1⟩; obtain ⟨A1, c1, rfl⟩ := Kd.R_slice hR)
      have HD1 := Aside0.mk (HD.out.step hb1)
      have HF1 := Aside0.mk (HD.out.far hR rfl)
      have hlen : (b4 (l.length : Int)).length ≤ 4 := Nat.le_of_eq (b4_len _)
      have HR1 := Aside0.mk (Kd.R_reads' hR).2.2
      clear HD hR hb1 hk hlt
      have hby1 := Aside0.mk (b4_byt (l.length : Int))
      go_loopw [33] (fun i wr => ∃ k : Nat, k ≤ (b4 (l.length : Int)).length ∧ i = .int .i64 k ∧ Aside0 (DI w wr (mixes (mixes start4 l) ((b4 (l.length : Int)).take k))) ∧ Aside0 (Kd.C (Kd.int .u8) wr A1 (b4 (l.length : Int)).length (b4 (l.length : Int)))) (fun i _ => (b4 (l.length : Int)).length - (intOf i).toNat)
      case atStart => exact ⟨0, Nat.zero_le _, rfl, HD1, HR1⟩
      case round =>
        clear HD1 HR1
        obtain ⟨k, hk, rfl, HD, HR1⟩ := hrel
        by_cases hlt : k < (b4 (l.length : Int)).length
        · have hq := Aside0.mk (mixes_ok ((b4 (l.length : Int)).take k) (mixes start4 l) hS1.out)
          have hbx := rd_byt hby1.out k
          obtain ⟨ad, rfl, hx⟩ := at_int HR1.out k hlt
          have ht := Aside0.mk (mixes_rd (mixes start4 l) (b4 (l.length : Int)) k hlt)
          go_wp2_with (go_at_call 87; ((with_reducible refine (eat_q (rd (b4 (l.length : Int)) k) _ _ _ wr HD.out.a HD.out.m (by omega) hbx hq.out).mono ?_)); rintro e w2 ⟨rfl, hS⟩)
          have HD2 : Aside0 (DI w w2 (mixes (mixes start4 l) ((b4 (l.length : Int)).take (k + 1)))) := ⟨by rw [ht.out]; exact HD.out.set hS⟩
          have HR2 := Aside0.mk (Kd.C_keep (0 : Int) HR1.out hS.keep HF1.out)
          clear HD hx hS ht hq
          go_roundw
          case rel => exact ⟨k + 1, by omega, by go_num, HD2, HR2⟩
          case measure => simp [intOf]; omega
        · obtain rfl : k = (b4 (l.length : Int)).length := by omega
          have hS2 := Aside0.mk (mixes_ok (b4 (l.length : Int)) _ hS1.out)
          rw [List.take_length] at HD
          generalize hq2 : mixes (mixes start4 l) (b4 (l.length : Int)) = q2 at HD hS2 ⊢
          have HQ2 := Aside0.mk hq2
          clear hq2
          clear HR1 hlt hk HF1 hS1 hby1 hlen
          go_wp2_with fail
          go_loopw [41] (fun i wr => ∃ k : Nat, k ≤ 8 ∧ i = .int .i64 k ∧ Aside0 (DI w wr (mixes q2 (List.replicate k 0)))) (fun i _ => 8 - (intOf i).toNat)
          case atStart => exact ⟨0, Nat.zero_le _, rfl, HD⟩
          case round =>
            clear HD
            obtain ⟨k, hk, rfl, HD⟩ := hrel
            by_cases hlt : k < 8
            · have hq := Aside0.mk (mixes_ok (List.replicate k 0) q2 hS2.out)
              go_wp2_with (go_at_call 87; ((with_reducible refine (eat_q 0 _ _ _ _ HD.out.a HD.out.m (by omega) (by omega) hq.out).mono ?_)); rintro e w2 ⟨rfl, hS⟩)
              have HD2 : Aside0 (DI w w2 (mixes q2 (List.replicate (k + 1) 0))) := ⟨by rw [List.replicate_succ', mixes_append]; exact HD.out.set hS⟩
              clear HD hS hq
              go_roundw
              case rel => exact ⟨k + 1, by omega, by go_num, HD2⟩
              case measure => simp [intOf]; omega
            · obtain rfl : k = 8 := by omega
              have hS3 := Aside0.mk (mixes_ok (List.replicate 8 0) _ hS2.out)
              generalize hq3 : mixes q2 (List.replicate 8 0) = q3 at HD hS3 ⊢
              have HQ3 := Aside0.mk hq3
              clear hq3
              clear hS2 hk hlt
              have c0 := blk_cell HD.out.a 0
              have c1_ := blk_cell HD.out.a 1
              have c2 := blk_cell HD.out.a 2
              have c3 := blk_cell HD.out.a 3
              simp only [QCells, List.getElem?_toArray, List.getElem?_cons_zero, List.getElem?_cons_succ] at c0 c1_ c2 c3
              have HB := Aside0.mk HD.out.b
              have HSz := Aside0.mk HD.out.b.size
              have HO := Aside0.mk (Kd.R_nil (Kd.int .u8) 5 wr w.heap.size (fun _ => True))
              clear HD
              go_wp2_with fail
              clear c0 c1_ c2 c3
              refine wp_loop_rounds 5 ?_
              obtain ⟨⟨p0, p1⟩, ⟨p2, p3⟩, ⟨p4, p5⟩, ⟨p6, p7⟩⟩ := hS3.out
              clear hS3
              obtain ⟨qa, qb, qc, qd⟩ := q3
              simp only at p0 p1 p2 p3 p4 p5 p6 p7 ⊢
              have i0 : ∀ w, (Instr.index 120 (.agg #[.int .i64 qa, .int .i64 qb, .int .i64 qc, .int .i64 qd]) (.int .i64 0)).run Tryd.prog w = .ok (.int .i64 qa) w := fun _ => by kernel_rfl
              have i1 : ∀ w, (Instr.index 120 (.agg #[.int .i64 qa, .int .i64 qb, .int .i64 qc, .int .i64 qd]) (.int .i64 1)).run Tryd.prog w = .ok (.int .i64 qb) w := fun _ => by kernel_rfl
              have i2 : ∀ w, (Instr.index 120 (.agg #[.int .i64 qa, .int .i64 qb, .int .i64 qc, .int .i64 qd]) (.int .i64 2)).run Tryd.prog w = .ok (.int .i64 qc) w := fun _ => by kernel_rfl
              have i3 : ∀ w, (Instr.index 120 (.agg #[.int .i64 qa, .int .i64 qb, .int .i64 qc, .int .i64 qd]) (.int .i64 3)).run Tryd.prog w = .ok (.int .i64 qd) w := fun _ => by kernel_rfl
              rw [rounds_succ]
              go_wp2_with (first | (go_at_call 88; (with_reducible refine (bytes4 qa wr (by omega) (by omega)).mono ?_); rintro e w1a ⟨vb, rfl, hR, hb1⟩; obtain ⟨A1, c1, rfl⟩ := Kd.R_slice hR; have HRb := Aside0.mk (Kd.R_reads' hR).2.2; have HOn := Aside0.mk (Kd.R_below HO.out hb1); have HBn := Aside0.mk (below_step HB.out hb1); clear HO HB hR hb1; have HO := HOn; have HB := HBn; clear HOn HBn) | (at_builtin; refine Kd.R_append_row (Value.int .u8) (0 : Int) (w0 := w) w.heap.size rfl (.tmp 50) (.tmp 52) 22 5 (.int .u8 0) 1 rfl Tryd.underlying22 info_u8 rfl (by omega) (.slice none 0 0) (([] : List Int)) (b4 qa) A1 (b4 qa).length c1 (fun _ => True) rfl rfl (fun _ _ => trivial) HO.out HRb.out HB.out HB.out.size (by simp [b4_len]) ?_; intro v1 w1b hO hB hg hat; clear HO HB HRb hg hat; have HO := Aside0.mk hO; have HB := Aside0.mk hB; clear hO hB))
              rw [rounds_succ]
              go_wp2_with (first | (go_at_call 88; (with_reducible refine (bytes4 qb w1b (by omega) (by omega)).mono ?_); rintro e w2a ⟨vb, rfl, hR, hb1⟩; obtain ⟨A2, c2, rfl⟩ := Kd.R_slice hR; have HRb := Aside0.mk (Kd.R_reads' hR).2.2; have HOn := Aside0.mk (Kd.R_below HO.out hb1); have HBn := Aside0.mk (below_step HB.out hb1); clear HO HB hR hb1; have HO := HOn; have HB := HBn; clear HOn HBn) | (at_builtin; refine Kd.R_append_row (Value.int .u8) (0 : Int) (w0 := w) w.heap.size rfl (.tmp 50) (.tmp 52) 22 5 (.int .u8 0) 1 rfl Tryd.underlying22 info_u8 rfl (by omega) (v1) ([] ++ b4 qa) (b4 qb) A2 (b4 qb).length c2 (fun _ => True) rfl rfl (fun _ _ => trivial) HO.out HRb.out HB.out HB.out.size (by simp [b4_len]) ?_; intro v2 w2b hO hB hg hat; clear HO HB HRb hg hat; have HO := Aside0.mk hO; have HB := Aside0.mk hB; clear hO hB))
              rw [rounds_succ]
              go_wp2_with (first | (go_at_call 88; (with_reducible refine (bytes4 qc w2b (by omega) (by omega)).mono ?_); rintro e w3a ⟨vb, rfl, hR, hb1⟩; obtain ⟨A3, c3, rfl⟩ := Kd.R_slice hR; have HRb := Aside0.mk (Kd.R_reads' hR).2.2; have HOn := Aside0.mk (Kd.R_below HO.out hb1); have HBn := Aside0.mk (below_step HB.out hb1); clear HO HB hR hb1; have HO := HOn; have HB := HBn; clear HOn HBn) | (at_builtin; refine Kd.R_append_row (Value.int .u8) (0 : Int) (w0 := w) w.heap.size rfl (.tmp 50) (.tmp 52) 22 5 (.int .u8 0) 1 rfl Tryd.underlying22 info_u8 rfl (by omega) (v2) ([] ++ b4 qa ++ b4 qb) (b4 qc) A3 (b4 qc).length c3 (fun _ => True) rfl rfl (fun _ _ => trivial) HO.out HRb.out HB.out HB.out.size (by simp [b4_len]) ?_; intro v3 w3b hO hB hg hat; clear HO HB HRb hg hat; have HO := Aside0.mk hO; have HB := Aside0.mk hB; clear hO hB))
              rw [rounds_succ]
              go_wp2_with (first | (go_at_call 88; (with_reducible refine (bytes4 qd w3b (by omega) (by omega)).mono ?_); rintro e w4a ⟨vb, rfl, hR, hb1⟩; obtain ⟨A4, c4, rfl⟩ := Kd.R_slice hR; have HRb := Aside0.mk (Kd.R_reads' hR).2.2; have HOn := Aside0.mk (Kd.R_below HO.out hb1); have HBn := Aside0.mk (below_step HB.out hb1); clear HO HB hR hb1; have HO := HOn; have HB := HBn; clear HOn HBn) | (at_builtin; refine Kd.R_append_row (Value.int .u8) (0 : Int) (w0 := w) w.heap.size rfl (.tmp 50) (.tmp 52) 22 5 (.int .u8 0) 1 rfl Tryd.underlying22 info_u8 rfl (by omega) (v3) ([] ++ b4 qa ++ b4 qb ++ b4 qc) (b4 qd) A4 (b4 qd).length c4 (fun _ => True) rfl rfl (fun _ _ => trivial) HO.out HRb.out HB.out HB.out.size (by simp [b4_len]) ?_; intro v4 w4b hO hB hg hat; clear HO HB HRb hg hat; have HO := Aside0.mk hO; have HB := Aside0.mk hB; clear hO hB))
              rw [rounds_succ]
              go_wp2_with fail
              go_ret
              have e : digest l = [] ++ b4 qa ++ b4 qb ++ b4 qc ++ b4 qd := by
                unfold digest
                rw [HQ2.out, HQ3.out]
                rfl
              exact ⟨v4, rfl, by rw [e]; exact HO.out, HB.out⟩
end Go.Proofs.YtpfjboioeidecaaDoor.HDig
end
section
namespace Go.Proofs.YtpfjboioeidecaaDoor.HDig
open Go.RowKit Go.Proofs.YtpfjboioeidecaaDoorW.PrintWords Go.Proofs.YtpfjboioeidecaaDoorW.PrintLast Go.Proofs.YtpfjboioeidecaaDoor.HP
set_option maxHeartbeats 4000000 in
set_option maxRecDepth 100000 in
theorem mac_calls (A : Option Addr) (c : Nat) (l : List Int) (A' : Option Addr) (c' : Nat) (l' : List Int) (w : World) (hr : Kd.C (Kd.int .u8) w A l.length l) (hc : l.length ≤ c) (hb : Byt l) (hl : l.length ≤ 20000)
    (hr' : Kd.C (Kd.int .u8) w A' l'.length l') (hc' : l'.length ≤ c') (hb' : Byt l') (hl' : l'.length ≤ 20000) :
    Calls Tryd.prog 74 #[.slice A l.length c, .slice A' l'.length c'] w fun e w' => ∃ v, e = .returned v ∧ Kd.R (Kd.int .u8) 5 w' w.heap.size (fun _ => True) v (digest (digest l ++ digest l')) ∧ Below w.heap.size w w' := by
  have HR := Aside0.mk hr
  have HBy := Aside0.mk hb
  have HR' := Aside0.mk hr'
  have HBy' := Aside0.mk hb'
  clear hr hb hr' hb'
  obtain ⟨ll, hll⟩ : ∃ ll, ll = digest l ++ digest l' := ⟨_, rfl⟩
  have HLL := Aside0.mk hll
  have hlen : ll.length ≤ 32 := by rw [hll, List.length_append, digest_len, digest_len]; decide
  have hby : Aside0 (Byt ll) := ⟨by rw [hll]; exact byt_append (digest_byt _) (digest_byt _)⟩
  clear hll
  go_enter Tryd.func74, Tryd.ntmps74
  go_wp2_with (first | (go_at_call 82; (with_reducible refine (digest_calls A c l w HR.out hc HBy.out hl).mono ?_); rintro e w1 ⟨v1, rfl, hR1, hb1⟩; have HO1 := Aside0.mk hR1; have HB1 := Aside0.mk hb1; obtain ⟨A1, c1, rfl⟩ := Kd.R_slice hR1; clear hR1 hb1) | (go_at_call 82; (with_reducible refine (digest_calls A' c' l' w1 (Kd.C_below HR'.out HB1.out) hc' HBy'.out hl').mono ?_); rintro e w2 ⟨v2, rfl, hR2, hb2⟩; have HO2 := Aside0.mk (Kd.R_elder' HO1.out (Kd.R_base hR2) hb2); have HO3 := Aside0.mk hR2; have HB2 := Aside0.mk (below_step HB1.out hb2); obtain ⟨A2, c2, rfl⟩ := Kd.R_slice hR2; clear hR2 hb2 HO1 HB1 HR HR' HBy HBy'; have hd1 := Aside0.mk (digest_len l); have hd2 := Aside0.mk (digest_len l')) | (at_builtin; refine Kd.R_append_row (Value.int .u8) (0 : Int) (w0 := w) w.heap.size rfl (.tmp 14) (.tmp 16) 22 5 (.int .u8 0) 1 rfl Tryd.underlying22 info_u8 rfl (by omega) _ (digest l) (digest l') A2 (digest l').length c2 (fun _ => True) rfl rfl (fun _ _ => trivial) (Kd.R_mono HO2.out (fun _ _ => trivial)) (Kd.R_reads' HO3.out).2.2 HB2.out HB2.out.size (by rw [hd1.out, hd2.out]; decide) ?_; intro v3 w3 hO hB hg hat; rw [← HLL.out] at hO; clear HO2 HO3 HB2 hg hat; have HO := Aside0.mk (show Kd.R (Kd.int .u8) 5 w3 w.heap.size (fun _ => True) v3 ll from hO); have HB := Aside0.mk hB; obtain ⟨A3, c3, rfl⟩ := Kd.R_slice hO; clear hO hB hd1 hd2) | (go_at_call 82; (with_reducible refine (digest_calls A3 c3 ll w3 (Kd.R_reads' HO.out).2.2 (Kd.R_reads' HO.out).2.1 hby.out (Nat.le_trans hlen (by decide))).mono ?_); rintro e w4 ⟨v4, rfl, hR4, hb4⟩))
  go_ret
  rw [← HLL.out]
  exact ⟨v4, rfl, Kd.R_lower hR4 HB.out.size, below_step HB.out hb4⟩
end Go.Proofs.YtpfjboioeidecaaDoor.HDig
end
section
namespace Go.Proofs.YtpfjboioeidecaaDoor.HP
def arm : List Int → Int → Nat → List Int
  | [], v, b => if b = 0 then [] else [v * 2 ^ (5 - b) % 32]
  | x :: l, v, b =>
    if b < 2 then (v * 256 + x) / 2 ^ (b + 3) % 32 :: arm l ((v * 256 + x) % 2 ^ (b + 3)) (b + 3)
    else (v * 256 + x) / 2 ^ (b + 3) % 32 :: (v * 256 + x) / 2 ^ (b - 2) % 32 :: arm l ((v * 256 + x) % 2 ^ (b - 2)) (b - 2)
def letter (n : Int) : UInt8 := if n < 10 then UInt8.ofNat (48 + n.toNat) else UInt8.ofNat (87 + n.toNat)
def armor (l : List Int) : List UInt8 := (arm l 0 0).map letter
theorem arm_len : ∀ (l : List Int) (v : Int) (b : Nat), b < 5 → (arm l v b).length = (l.length * 8 + b + 4) / 5
  | [], v, b, h => by
    unfold arm
    split
    · subst_vars; rfl
    · simp; omega
  | x :: l, v, b, h => by
    unfold arm
    split
    · rw [List.length_cons, arm_len l _ _ (by omega), List.length_cons]; omega
    · rw [List.length_cons, List.length_cons, arm_len l _ _ (by omega), List.length_cons]; omega
end Go.Proofs.YtpfjboioeidecaaDoor.HP
end
section
namespace Go.Proofs
open Go.Shelf
def Tryd.lays169_ren : Go.Shelf.Ren := ⟨fun | 169 => 81 | n => n, fun | 70 => 111 | 9 => 9 | 0 => 0 | 72 => 113 | 37 => 22 | 127 => 119 | 3 => 3 | 5 => 5 | n => n, fun | n => n⟩
theorem Tryd.lays169 : Go.Proofs.Lays.n169 Tryd.prog Tryd.lays169_ren := {
  mixed := by kernel_rfl
  f169 := Tryd.func81.trans (congrArg some (by kernel_rfl))
  t0 := Tryd.underlying0
  a0 := Tryd.isAgg0
  z0 := Tryd.sizeOf0
  v0 := Tryd.zeroValue0
  t3 := Tryd.underlying3
  a3 := Tryd.isAgg3
  z3 := Tryd.sizeOf3
  v3 := Tryd.zeroValue3
  t9 := Tryd.underlying9
  a9 := Tryd.isAgg9
  z9 := Tryd.sizeOf9
  v9 := Tryd.zeroValue9
  t37 := Tryd.underlying22
  a37 := Tryd.isAgg22
  z37 := Tryd.sizeOf22
  v37 := Tryd.zeroValue22
  t70 := Tryd.underlying111
  a70 := Tryd.isAgg111
  z70 := Tryd.sizeOf111
  v70 := Tryd.zeroValue111
  t72 := Tryd.underlying113
  a72 := Tryd.isAgg113
  z72 := Tryd.sizeOf113
  v72 := Tryd.zeroValue113
  t127 := Tryd.underlying119
  a127 := Tryd.isAgg119
  z127 := Tryd.sizeOf119
  v127 := Tryd.zeroValue119 }
theorem Tryd.Builder_Extra_169 : Builder.Extra Tryd.prog Tryd.lays169_ren := {
  sizeBuilder := by kernel_rfl
  liesBuilder := by kernel_rfl
  t5 := Tryd.underlying5
  a5 := Tryd.isAgg5
  z5 := Tryd.sizeOf5
  v5 := Tryd.zeroValue5
  infoByte := by kernel_rfl
  cellsByte := by kernel_rfl
  sizeByte := by kernel_rfl
  neB5 := by decide }
open Go.RowKit in
theorem Tryd.Builder_String_any (B b : Nat) (l : List UInt8) (w : World) (h : Lib.IsBuilder 113 5 B b (Lib.byteCells l) w) (hBw : B ≤ w.heap.size) :
    Calls Tryd.prog 81 #[.pointer (some ⟨b, 0, none⟩)] w fun e w' => e = .returned (.string ⟨l.toArray⟩) ∧ Below B w w' := Any.Builder_String_any Tryd.lays169 Tryd.Builder_Extra_169 B b l w h hBw
def Tryd.laysM246_ren : Go.Shelf.Ren := ⟨fun | 246 => 85 | 283 => 89 | 284 => 90 | 285 => 91 | 286 => 92 | 129 => 95 | 317 => 94 | 318 => 96 | 319 => 97 | 320 => 98 | 337 => 99 | 338 => 100 | n => n, fun | 2 => 2 | 3 => 3 | 9 => 9 | 4 => 4 | 171 => 122 | 0 => 0 | 53 => 51 | 37 => 22 | 5 => 5 | 173 => 125 | 212 => 130 | 51 => 131 | 20 => 20 | 213 => 132 | 46 => 101 | 232 => 135 | 233 => 136 | n => n, fun | 17 => 0 | 18 => 1 | 19 => 2 | n => n⟩
def Tryd.laysM243_ren : Go.Shelf.Ren := ⟨fun | 243 => 79 | 246 => 85 | 283 => 89 | 284 => 90 | 285 => 91 | 286 => 92 | 129 => 95 | 317 => 94 | 318 => 96 | 319 => 97 | 320 => 98 | 337 => 99 | 338 => 100 | n => n, fun | 3 => 3 | 9 => 9 | 2 => 2 | 4 => 4 | 171 => 122 | 0 => 0 | 53 => 51 | 37 => 22 | 5 => 5 | 173 => 125 | 212 => 130 | 51 => 131 | 20 => 20 | 213 => 132 | 46 => 101 | 232 => 135 | 233 => 136 | n => n, fun | 17 => 0 | 18 => 1 | 19 => 2 | n => n⟩
def Tryd.laysM171_ren : Go.Shelf.Ren := ⟨fun | 171 => 72 | 243 => 79 | 246 => 85 | 283 => 89 | 284 => 90 | 285 => 91 | 286 => 92 | 129 => 95 | 317 => 94 | 318 => 96 | 319 => 97 | 320 => 98 | 337 => 99 | 338 => 100 | n => n, fun | 3 => 3 | 9 => 9 | 2 => 2 | 4 => 4 | 171 => 122 | 0 => 0 | 53 => 51 | 37 => 22 | 5 => 5 | 173 => 125 | 212 => 130 | 51 => 131 | 20 => 20 | 213 => 132 | 46 => 101 | 232 => 135 | 233 => 136 | n => n, fun | 17 => 0 | 18 => 1 | 19 => 2 | n => n⟩
theorem Tryd.laysM171 : Go.Proofs.LaysM.n171 Tryd.prog Tryd.laysM171_ren := {
  mixed := by kernel_rfl
  f129 := Tryd.func95.trans (congrArg some (by kernel_rfl))
  f171 := Tryd.func72.trans (congrArg some (by kernel_rfl))
  f243 := Tryd.func79.trans (congrArg some (by kernel_rfl))
  f246 := Tryd.func85.trans (congrArg some (by kernel_rfl))
  f283 := Tryd.func89.trans (congrArg some (by kernel_rfl))
  f284 := Tryd.func90.trans (congrArg some (by kernel_rfl))
  f285 := Tryd.func91.trans (congrArg some (by kernel_rfl))
  f286 := Tryd.func92.trans (congrArg some (by kernel_rfl))
  f317 := Tryd.func94.trans (congrArg some (by kernel_rfl))
  f318 := Tryd.func96.trans (congrArg some (by kernel_rfl))
  f319 := Tryd.func97.trans (congrArg some (by kernel_rfl))
  f320 := Tryd.func98.trans (congrArg some (by kernel_rfl))
  f337 := Tryd.func99.trans (congrArg some (by kernel_rfl))
  f338 := Tryd.func100.trans (congrArg some (by kernel_rfl))
  t0 := Tryd.underlying0
  a0 := Tryd.isAgg0
  z0 := Tryd.sizeOf0
  v0 := Tryd.zeroValue0
  t2 := Tryd.underlying2
  a2 := Tryd.isAgg2
  z2 := Tryd.sizeOf2
  v2 := Tryd.zeroValue2
  t3 := Tryd.underlying3
  a3 := Tryd.isAgg3
  z3 := Tryd.sizeOf3
  v3 := Tryd.zeroValue3
  t4 := Tryd.underlying4
  a4 := Tryd.isAgg4
  z4 := Tryd.sizeOf4
  v4 := Tryd.zeroValue4
  t5 := Tryd.underlying5
  a5 := Tryd.isAgg5
  z5 := Tryd.sizeOf5
  v5 := Tryd.zeroValue5
  t9 := Tryd.underlying9
  a9 := Tryd.isAgg9
  z9 := Tryd.sizeOf9
  v9 := Tryd.zeroValue9
  t20 := Tryd.underlying20
  a20 := Tryd.isAgg20
  z20 := Tryd.sizeOf20
  v20 := Tryd.zeroValue20
  t37 := Tryd.underlying22
  a37 := Tryd.isAgg22
  z37 := Tryd.sizeOf22
  v37 := Tryd.zeroValue22
  t46 := Tryd.underlying101
  a46 := Tryd.isAgg101
  z46 := Tryd.sizeOf101
  v46 := Tryd.zeroValue101
  t51 := Tryd.underlying131
  a51 := Tryd.isAgg131
  z51 := Tryd.sizeOf131
  v51 := Tryd.zeroValue131
  t53 := Tryd.underlying51
  a53 := Tryd.isAgg51
  z53 := Tryd.sizeOf51
  v53 := Tryd.zeroValue51
  t171 := Tryd.underlying122
  a171 := Tryd.isAgg122
  z171 := Tryd.sizeOf122
  v171 := Tryd.zeroValue122
  t173 := Tryd.underlying125
  a173 := Tryd.isAgg125
  z173 := Tryd.sizeOf125
  v173 := Tryd.zeroValue125
  t212 := Tryd.underlying130
  a212 := Tryd.isAgg130
  z212 := Tryd.sizeOf130
  v212 := Tryd.zeroValue130
  t213 := Tryd.underlying132
  a213 := Tryd.isAgg132
  z213 := Tryd.sizeOf132
  t232 := Tryd.underlying135
  a232 := Tryd.isAgg135
  z232 := Tryd.sizeOf135
  v232 := Tryd.zeroValue135
  t233 := Tryd.underlying136
  a233 := Tryd.isAgg136
  z233 := Tryd.sizeOf136
  v233 := Tryd.zeroValue136
  g17 := by kernel_rfl
  g18 := by kernel_rfl
  g19 := by kernel_rfl
  i0 := by kernel_rfl
  i2 := by kernel_rfl
  i3 := by kernel_rfl
  i4 := by kernel_rfl
  i5 := by kernel_rfl
  i9 := by kernel_rfl
  i20 := by kernel_rfl
  i37 := by kernel_rfl
  i46 := by kernel_rfl
  i51 := by kernel_rfl
  i53 := by kernel_rfl
  i171 := by kernel_rfl
  i173 := by kernel_rfl
  i212 := by kernel_rfl
  i232 := by kernel_rfl
  i233 := by kernel_rfl
  m17 := by kernel_rfl
  m18 := by kernel_rfl
  m19 := by kernel_rfl }
open Go.RowKit Go.Sort Go.Lib in
theorem Tryd.strconv_Itoa (n : Int) (h0 : -9223372036854775808 ≤ n) (h1 : n ≤ 9223372036854775807) (w : World) (htab : Lib.TabIs Tryd.prog w "internal/strconv.uint64pow10" .u64 Lib.pow10Tab) :
    Calls Tryd.prog 72 #[.int .i64 n] w fun e w' => e = .returned (.string ⟨(Lib.itoa n).toArray⟩) ∧ ∃ k os, w' = grow (w.drewN k) os := Any.strconv_Itoa Tryd.laysM171 n h0 h1 w htab
def Tryd.lays110_ren : Go.Shelf.Ren := ⟨fun | 110 => 58 | 109 => 65 | n => n, fun | 31 => 69 | 9 => 9 | 4 => 4 | 3 => 3 | 0 => 0 | n => n, fun | n => n⟩
theorem Tryd.lays110 : Go.Proofs.Lays.n110 Tryd.prog Tryd.lays110_ren := {
  mixed := by kernel_rfl
  f109 := Tryd.func65.trans (congrArg some (by kernel_rfl))
  f110 := Tryd.func58.trans (congrArg some (by kernel_rfl))
  t0 := Tryd.underlying0
  a0 := Tryd.isAgg0
  z0 := Tryd.sizeOf0
  v0 := Tryd.zeroValue0
  t3 := Tryd.underlying3
  a3 := Tryd.isAgg3
  z3 := Tryd.sizeOf3
  v3 := Tryd.zeroValue3
  t4 := Tryd.underlying4
  a4 := Tryd.isAgg4
  z4 := Tryd.sizeOf4
  v4 := Tryd.zeroValue4
  t9 := Tryd.underlying9
  a9 := Tryd.isAgg9
  z9 := Tryd.sizeOf9
  v9 := Tryd.zeroValue9
  t31 := Tryd.underlying69
  a31 := Tryd.isAgg69
  z31 := Tryd.sizeOf69
  v31 := Tryd.zeroValue69 }
open Go.Lib in
theorem Tryd.slices_Contains_string (b off n c : Nat) (zs : List ByteArray) (x : ByteArray) (w : World) (hz : n ≤ zs.length) (hbig : n ≤ 9223372036854775807) (hc : ∀ j, j < zs.length → w.cell? ⟨b, off + j, none⟩ = some (.string (zs.getD j ByteArray.empty))) :
    Calls Tryd.prog 58 #[.slice (some ⟨b, off, none⟩) n c, .string x] w fun e w' => e = .returned (.bool (Lib.containsS (zs.take n) x)) ∧ w' = w := Any.slices_Contains_string Tryd.lays110 b off n c zs x w hz hbig hc
end Go.Proofs
end
section
namespace Go.Proofs.YtpfjboioeidecaaDoor.HBld
open Go.RowKit
theorem sizeBuilder : (Tryd.prog.info? 113).map (·.size) = some 2 := by kernel_rfl
theorem liesBuilder : liesAt Tryd.prog Tryd.prog.depth 113 (2 / Tryd.prog.cellsOf 113) 0 113 1 = true := by kernel_rfl
theorem infoByte : (Tryd.prog.info? 5).map (fun i => (i.zero, i.size, i.bytes)) = some (some (.int .u8 0), 1, 1) := by kernel_rfl
set_option maxHeartbeats 1000000 in
set_option maxRecDepth 100000 in
theorem copyCheck_used (b : Nat) (w : World) (h0 : w.cell? ⟨b, 0, none⟩ = some (.pointer (some ⟨b, 0, none⟩))) :
    Calls Tryd.prog 86 #[.pointer (some ⟨b, 0, none⟩)] w fun e w' => e = .returned (.tuple #[]) ∧ w' = w := by
  obtain ⟨j, hj, _⟩ := Option.map_eq_some_iff.1 sizeBuilder
  go_enter Tryd.func86, Tryd.ntmps86
  go_wp2
  rw [Lib.run_neq_ptr_same w _ Tryd.underlying111 hj]
  go_wp2
  go_end0
  exact ⟨rfl, rfl⟩
set_option maxHeartbeats 1000000 in
set_option maxRecDepth 100000 in
theorem copyCheck_fresh (b : Nat) (w : World) (h0 : w.cell? ⟨b, 0, none⟩ = some (.pointer none)) (hsh : w.shape? b = some (113, 2)) (hfz : w.frozen? ⟨b, 0, none⟩ = false) :
    Calls Tryd.prog 86 #[.pointer (some ⟨b, 0, none⟩)] w fun e w' => e = .returned (.tuple #[]) ∧ w' = w.setCell ⟨b, 0, none⟩ (.pointer (some ⟨b, 0, none⟩)) := by
  obtain ⟨j, hj, hjs⟩ := Option.map_eq_some_iff.1 sizeBuilder
  go_enter Tryd.func86, Tryd.ntmps86
  go_wp2
  rw [Lib.run_to_unsafe w ⟨b, 0, none⟩ Tryd.underlying111 Tryd.underlying127 hj (by rw [hjs]; decide) hsh (Nat.zero_lt_succ 1)]
  simp only [Result.andThen]
  rw [Oper.upon_value]
  go_wp2
  rw [run_callFunc_extern Tryd.func93 (by kernel_rfl) (by kernel_rfl) (by kernel_rfl) (e := Extern.AbiNoEscape.same) (by kernel_rfl)]
  rw [Lib.run_noEscape]
  simp only [Result.andThen]
  rw [Oper.upon_value]
  go_wp2
  rw [Lib.run_from_unsafe w ⟨b, 0, none⟩ Tryd.underlying127 Tryd.underlying111 hj hsh liesBuilder]
  simp only [Result.andThen]
  rw [Oper.upon_value]
  go_wp2
  go_end0
  exact ⟨rfl, rfl⟩
theorem copyCheck (B b : Nat) (bs : List Value) (w : World) (h : Lib.IsBuilder 113 5 B b bs w) :
    Calls Tryd.prog 86 #[.pointer (some ⟨b, 0, none⟩)] w fun e w' => e = .returned (.tuple #[]) ∧ (Lib.BuilderAt 113 5 B b (.pointer (some ⟨b, 0, none⟩)) bs w' ∧ Below B w w') := by
  rcases h with h | h
  · refine (copyCheck_fresh b w h.cell0 h.shape h.frozen0).mono ?_
    rintro e w' ⟨rfl, rfl⟩
    exact ⟨rfl, h.used _, (Below.refl B w).setCell (p := ⟨b, 0, none⟩) h.1 _⟩
  · refine (copyCheck_used b w h.cell0).mono ?_
    rintro e w' ⟨rfl, rfl⟩
    exact ⟨rfl, h, Below.refl B _⟩
set_option maxHeartbeats 2000000 in
set_option maxRecDepth 100000 in
theorem writeByte (B b : Nat) (bs : List Value) (c : Int) (w : World) (h : Lib.IsBuilder 113 5 B b bs w) (hlen : bs.length + 1 ≤ 140737488355328) (hBw : B ≤ w.heap.size) :
    Calls Tryd.prog 80 #[.pointer (some ⟨b, 0, none⟩), .int .u8 c] w fun e w' => e = .returned .nilIface ∧ (Lib.BuilderAt 113 5 B b (.pointer (some ⟨b, 0, none⟩)) (bs ++ [.int .u8 c]) w' ∧ Below B w w') := by
  obtain ⟨i0, hi, hz0, hz1, hz2⟩ := info_parts infoByte
  go_enter Tryd.func80, Tryd.ntmps80
  go_wp2_with (go_at_call 86; (with_reducible refine (copyCheck B b bs _ h).mono ?_))
  rintro e w1 ⟨rfl, h1, hb1⟩
  obtain ⟨hB, v, hbk, hown, hne⟩ := h1
  have c0 : w1.cell? ⟨b, 0, none⟩ = some (.pointer (some ⟨b, 0, none⟩)) := by rw [Lib.cell_of_heap hbk]; rfl
  have c1 : w1.cell? ⟨b, 1, none⟩ = some v := by rw [Lib.cell_of_heap hbk]; rfl
  go_wp2_with (at_builtin; refine wpList_append_own _ rfl _ _ 22 rfl B 5 i0 (.int .u8 0) 1 1 Tryd.underlying22 hi hz0 hz1 hz2 rfl (by decide) _ _ _ rfl (hown.alloc _) ⟨w1.heap.size, 0, none⟩ 1 1 [.int .u8 c] rfl rfl ?c1 ?c2 ?c3 ?c4 ?c5 ?_)
  case c1 =>
    intro j u hj
    match j, hj with
    | 0, hj => simp at hj; subst hj; simp [Addr.add]
  case c2 => intro u hu; simp at hu; subst hu; rfl
  case c3 => unfold maxLen; omega
  case c4 => omega
  case c5 => have := hb1.size; simp; omega
  intro v' w2 hown' hgrow _
  have hlt : b < w1.heap.size := by
    rcases Nat.lt_or_ge b w1.heap.size with h' | h'
    · exact h'
    · simp [Array.getElem?_eq_none h'] at hbk
  have hb2 : w2.heap[b]? = some (.cells #[.pointer (some ⟨b, 0, none⟩), v] 113 (0, 0)) := by
    rw [hgrow.block b (by simp; omega) (fun e => hne e.symm), Lib.alloc_old w1 _ b hlt]
    exact hbk
  have d0 : w2.cell? ⟨b, 0, none⟩ = some (.pointer (some ⟨b, 0, none⟩)) := by rw [Lib.cell_of_heap hb2]; rfl
  have d1 : w2.cell? ⟨b, 1, none⟩ = some v := by rw [Lib.cell_of_heap hb2]; rfl
  have f1 : w2.frozen? ⟨b, 1, none⟩ = false := Lib.frozen_of_heap hb2 1
  obtain ⟨g, cap, rfl⟩ : ∃ g cap, v' = .slice (some ⟨g, 0, none⟩) (bs.length + 1) cap := by
    rcases hown'.2 with ⟨_, h0⟩ | ⟨g, cap, cur, hv, _⟩
    · omega
    · exact ⟨g, cap, hv⟩
  go_wp2
  go_ret
  refine ⟨rfl, ?_, ?_⟩
  · exact Lib.BuilderAt.put (T := 113) (e := 5) hB hb2 (bs' := bs ++ [.int .u8 c]) (by simpa using hown') (by decide)
  · exact ((hb1.alloc (by have := hb1.size; omega) _).grown hgrow (by have := hb1.size; simp; omega) (fun k hk => (hown.lt k hk).1)).setCell (p := ⟨b, 1, none⟩) hB _
end Go.Proofs.YtpfjboioeidecaaDoor.HBld
end
section
namespace Go.Proofs.YtpfjboioeidecaaDoor.HDig
open Go.RowKit Go.Proofs.YtpfjboioeidecaaDoorW.PrintWords Go.Proofs.YtpfjboioeidecaaDoorW.PrintLast Go.Proofs.YtpfjboioeidecaaDoor.HP
theorem wraps_i64 (n : Int) (h₀ : 0 ≤ n) (h₁ : n < 2 ^ 40) : IntKind.i64.wrap n = n := by rw [IntKind.wrap_i64]; omega
theorem and_mask (i : Nat) (hi : i ≤ 40) (x : Int) (h0 : 0 ≤ x) (h1 : x < 1099511627776) : Go.bits .and .i64 x (2 ^ i - 1) = x % 2 ^ i := bits_mask .i64 40 (by decide) wraps_i64 i hi x h0 (by omega)
theorem or_byte (x y : Int) (h0 : 0 ≤ x) (h : x % 256 = 0) (h1 : x < 1099511627776) (h2 : 0 ≤ y) (h3 : y < 256) : Go.bits .or .i64 x y = x + y := bits_join .i64 40 (by decide) wraps_i64 8 x y h0 h (by omega) h2 h3 (by omega)
theorem abc_at : ∀ m : Nat, m < 32 → (⟨#[48, 49, 50, 51, 52, 53, 54, 55, 56, 57, 97, 98, 99, 100, 101, 102, 103, 104, 105, 106, 107, 108, 109, 110, 111, 112, 113, 114, 115, 116, 117, 118]⟩ : ByteArray)[m]? = some (letter m) := by decide
theorem abc_index (n : Int) (h0 : 0 ≤ n) (h1 : n < 32) (w : World) : (Instr.index 9 (.string (⟨#[48, 49, 50, 51, 52, 53, 54, 55, 56, 57, 97, 98, 99, 100, 101, 102, 103, 104, 105, 106, 107, 108, 109, 110, 111, 112, 113, 114, 115, 116, 117, 118]⟩ : ByteArray)) (.int .i64 n)).run Tryd.prog w = .ok (.int .u8 ((letter n).toNat : Int)) w := by
  obtain ⟨m, rfl⟩ := Int.eq_ofNat_of_zero_le h0
  have h := abc_at m (by omega)
  have e : (if (0 : Int) ≤ (m : Int) then (⟨#[48, 49, 50, 51, 52, 53, 54, 55, 56, 57, 97, 98, 99, 100, 101, 102, 103, 104, 105, 106, 107, 108, 109, 110, 111, 112, 113, 114, 115, 116, 117, 118]⟩ : ByteArray)[(m : Int).toNat]? else none) = some (letter m) := by rw [if_pos (by omega)]; simpa using h
  simp only [Instr.index, asIntOf, Sem.run_bind, Sem.run_pure, Result.andThen_ok, run_underlying Tryd.underlying9, e]
theorem ByteLen (l : List UInt8) : (Lib.byteCells l).length = l.length := by simp [Lib.byteCells]
theorem cells_snoc (out : List UInt8) (x : UInt8) : Lib.byteCells out ++ [.int .u8 (x.toNat : Int)] = Lib.byteCells (out ++ [x]) := by simp [Lib.byteCells]
set_option maxHeartbeats 4000000 in
set_option maxRecDepth 100000 in
theorem armor_calls (A : Option Addr) (c : Nat) (l : List Int) (w : World) (hr : Kd.C (Kd.int .u8) w A l.length l) (hc : l.length ≤ c) (hb : Byt l) (hl : l.length ≤ 20000) :
    Calls Tryd.prog 73 #[.slice A l.length c] w fun e w' => e = .returned (.string ⟨(armor l).toArray⟩) ∧ Below w.heap.size w w' := by
  have HR := Aside0.mk hr
  have HBy := Aside0.mk hb
  clear hr hb
  go_enter Tryd.func73, Tryd.ntmps73
  go_wp2_with fail
  go_loopw [4, 5, 13] (fun v b i wr => ∃ (k : Nat) (V : Int) (B : Nat) (out : List UInt8), k ≤ l.length ∧ i = .int .i64 k ∧ B < 5 ∧ b = .int .i64 B ∧ 0 ≤ V ∧ V < 2 ^ B ∧ v = .int .i64 V ∧ out.length ≤ 2 * k ∧
      Aside0 (out ++ (arm (l.drop k) V B).map letter = armor l) ∧ Aside0 (Lib.IsBuilder 113 5 w.heap.size w.heap.size (Lib.byteCells out) wr) ∧ Aside0 (Below w.heap.size w wr)) (fun _ _ i _ => l.length - (intOf i).toNat)
  case atStart =>
    refine ⟨0, 0, 0, [], Nat.zero_le _, rfl, by decide, rfl, by decide, by decide, rfl, by decide, ⟨rfl⟩, ⟨.inl ⟨Nat.le_refl _, .slice none 0 0, blk_new w _, World.ownsRow_nil _ _ _ _, by simp [Value.ownBlock]⟩⟩, ⟨(Below.refl _ _).alloc (Nat.le_refl _) _⟩⟩
  case round =>
    obtain ⟨k, V, B, out, hk, rfl, hB, rfl, hV0, hV1, rfl, hol, HE, HI, HB⟩ := hrel
    by_cases hlt : k < l.length
    · obtain ⟨hx0, hx1⟩ := rd_byt HBy.out k
      obtain ⟨ad, rfl, hx⟩ := at_int HR.out k hlt
      have hcl := (HB.out.cell (World.block_lt_of_cell? w _ hx)).trans hx
      clear hx
      have hdr : l.drop k = rd l k :: l.drop (k + 1) := by
        rw [List.drop_eq_getElem_cons hlt]
        simp [rd, List.getD_eq_getElem?_getD, List.getElem?_eq_getElem hlt]
      rw [hdr] at HE
      clear hdr
      generalize rd l k = x at HE hx0 hx1 hcl
      obtain rfl | rfl | rfl | rfl | rfl : B = 0 ∨ B = 1 ∨ B = 2 ∨ B = 3 ∨ B = 4 := by omega
      · have hor := or_byte (V * 256) x (by omega) (by omega) (by omega) (by omega) (by omega)
        have ha1 := and_mask 5 (by decide) ((V * 256 + x) / 8) (by omega) (by omega)
        have ha3 := and_mask 3 (by decide) (V * 256 + x) (by omega) (by omega)
        simp only [Int.reducePow, Int.reduceSub, Int.emod_one] at ha1  ha3
        have hi1 := fun W => abc_index ((V * 256 + x) / 8 % 32) (by omega) (by omega) W
        go_wp2_with fail
        refine wp_loop_rounds 4 ?_
        rw [rounds_succ]
        have e : arm (x :: l.drop (k + 1)) V 0 = (V * 256 + x) / 8 % 32 :: arm (l.drop (k + 1)) ((V * 256 + x) % 8) 3 := by rw [arm]; simp
        rw [e] at HE
        clear e
        go_wp2_with (go_at_call 80; (with_reducible refine (HBld.writeByte w.heap.size w.heap.size (Lib.byteCells (out)) (((letter ((V * 256 + x) / 8 % 32)).toNat : Int)) _ HI.out (by rw [ByteLen]; omega) (by have := HB.out.size; omega)).mono ?_); rintro e w1 ⟨rfl, hI, hb⟩; have HI1 := Aside0.mk (show Lib.IsBuilder 113 5 w.heap.size w.heap.size (Lib.byteCells (out ++ [letter ((V * 256 + x) / 8 % 32)])) w1 from .inr (by rw [← cells_snoc]; exact hI)); have HB1 := Aside0.mk (HB.out.trans hb); clear hI hb HI)
        rw [rounds_succ]
        go_wp2_with fail
        go_roundw
        case rel => exact ⟨k + 1, (V * 256 + x) % 8, 3, out ++ [letter ((V * 256 + x) / 8 % 32)], by omega, by go_num, by decide, rfl, by omega, by omega, rfl, by simp; omega, ⟨by simpa using HE.out⟩, HI1, HB1⟩
        case measure => simp [intOf]; omega
      · have hor := or_byte (V * 256) x (by omega) (by omega) (by omega) (by omega) (by omega)
        have ha1 := and_mask 5 (by decide) ((V * 256 + x) / 16) (by omega) (by omega)
        have ha3 := and_mask 4 (by decide) (V * 256 + x) (by omega) (by omega)
        simp only [Int.reducePow, Int.reduceSub, Int.emod_one] at ha1  ha3
        have hi1 := fun W => abc_index ((V * 256 + x) / 16 % 32) (by omega) (by omega) W
        go_wp2_with fail
        refine wp_loop_rounds 4 ?_
        rw [rounds_succ]
        have e : arm (x :: l.drop (k + 1)) V 1 = (V * 256 + x) / 16 % 32 :: arm (l.drop (k + 1)) ((V * 256 + x) % 16) 4 := by rw [arm]; simp
        rw [e] at HE
        clear e
        go_wp2_with (go_at_call 80; (with_reducible refine (HBld.writeByte w.heap.size w.heap.size (Lib.byteCells (out)) (((letter ((V * 256 + x) / 16 % 32)).toNat : Int)) _ HI.out (by rw [ByteLen]; omega) (by have := HB.out.size; omega)).mono ?_); rintro e w1 ⟨rfl, hI, hb⟩; have HI1 := Aside0.mk (show Lib.IsBuilder 113 5 w.heap.size w.heap.size (Lib.byteCells (out ++ [letter ((V * 256 + x) / 16 % 32)])) w1 from .inr (by rw [← cells_snoc]; exact hI)); have HB1 := Aside0.mk (HB.out.trans hb); clear hI hb HI)
        rw [rounds_succ]
        go_wp2_with fail
        go_roundw
        case rel => exact ⟨k + 1, (V * 256 + x) % 16, 4, out ++ [letter ((V * 256 + x) / 16 % 32)], by omega, by go_num, by decide, rfl, by omega, by omega, rfl, by simp; omega, ⟨by simpa using HE.out⟩, HI1, HB1⟩
        case measure => simp [intOf]; omega
      · have hor := or_byte (V * 256) x (by omega) (by omega) (by omega) (by omega) (by omega)
        have ha1 := and_mask 5 (by decide) ((V * 256 + x) / 32) (by omega) (by omega)
        have ha2 := and_mask 5 (by decide) (V * 256 + x) (by omega) (by omega)
        have ha3 := and_mask 0 (by decide) (V * 256 + x) (by omega) (by omega)
        simp only [Int.reducePow, Int.reduceSub, Int.emod_one] at ha1 ha2 ha3
        have hi1 := fun W => abc_index ((V * 256 + x) / 32 % 32) (by omega) (by omega) W
        have hi2 := fun W => abc_index ((V * 256 + x) % 32) (by omega) (by omega) W
        go_wp2_with fail
        refine wp_loop_rounds 4 ?_
        rw [rounds_succ]
        have e : arm (x :: l.drop (k + 1)) V 2 = (V * 256 + x) / 32 % 32 :: (V * 256 + x) % 32 :: arm (l.drop (k + 1)) (0) 0 := by rw [arm]; simp
        rw [e] at HE
        clear e
        go_wp2_with (go_at_call 80; (with_reducible refine (HBld.writeByte w.heap.size w.heap.size (Lib.byteCells (out)) (((letter ((V * 256 + x) / 32 % 32)).toNat : Int)) _ HI.out (by rw [ByteLen]; omega) (by have := HB.out.size; omega)).mono ?_); rintro e w1 ⟨rfl, hI, hb⟩; have HI1 := Aside0.mk (show Lib.IsBuilder 113 5 w.heap.size w.heap.size (Lib.byteCells (out ++ [letter ((V * 256 + x) / 32 % 32)])) w1 from .inr (by rw [← cells_snoc]; exact hI)); have HB1 := Aside0.mk (HB.out.trans hb); clear hI hb HI)
        rw [rounds_succ]
        go_wp2_with (go_at_call 80; (with_reducible refine (HBld.writeByte w.heap.size w.heap.size (Lib.byteCells (out ++ [letter ((V * 256 + x) / 32 % 32)])) (((letter ((V * 256 + x) % 32)).toNat : Int)) _ HI1.out (by rw [ByteLen]; simp; omega) (by have := HB1.out.size; omega)).mono ?_); rintro e w2 ⟨rfl, hI, hb⟩; have HI2 := Aside0.mk (show Lib.IsBuilder 113 5 w.heap.size w.heap.size (Lib.byteCells (out ++ [letter ((V * 256 + x) / 32 % 32)] ++ [letter ((V * 256 + x) % 32)])) w2 from .inr (by rw [← cells_snoc]; exact hI)); have HB2 := Aside0.mk (HB1.out.trans hb); clear hI hb HI1)
        rw [rounds_succ]
        go_wp2_with fail
        go_roundw
        case rel => exact ⟨k + 1, 0, 0, out ++ [letter ((V * 256 + x) / 32 % 32)] ++ [letter ((V * 256 + x) % 32)], by omega, by go_num, by decide, rfl, by omega, by omega, rfl, by simp; omega, ⟨by simpa using HE.out⟩, HI2, HB2⟩
        case measure => simp [intOf]; omega
      · have hor := or_byte (V * 256) x (by omega) (by omega) (by omega) (by omega) (by omega)
        have ha1 := and_mask 5 (by decide) ((V * 256 + x) / 64) (by omega) (by omega)
        have ha2 := and_mask 5 (by decide) ((V * 256 + x) / 2) (by omega) (by omega)
        have ha3 := and_mask 1 (by decide) (V * 256 + x) (by omega) (by omega)
        simp only [Int.reducePow, Int.reduceSub, Int.emod_one] at ha1 ha2 ha3
        have hi1 := fun W => abc_index ((V * 256 + x) / 64 % 32) (by omega) (by omega) W
        have hi2 := fun W => abc_index ((V * 256 + x) / 2 % 32) (by omega) (by omega) W
        go_wp2_with fail
        refine wp_loop_rounds 4 ?_
        rw [rounds_succ]
        have e : arm (x :: l.drop (k + 1)) V 3 = (V * 256 + x) / 64 % 32 :: (V * 256 + x) / 2 % 32 :: arm (l.drop (k + 1)) ((V * 256 + x) % 2) 1 := by rw [arm]; simp
        rw [e] at HE
        clear e
        go_wp2_with (go_at_call 80; (with_reducible refine (HBld.writeByte w.heap.size w.heap.size (Lib.byteCells (out)) (((letter ((V * 256 + x) / 64 % 32)).toNat : Int)) _ HI.out (by rw [ByteLen]; omega) (by have := HB.out.size; omega)).mono ?_); rintro e w1 ⟨rfl, hI, hb⟩; have HI1 := Aside0.mk (show Lib.IsBuilder 113 5 w.heap.size w.heap.size (Lib.byteCells (out ++ [letter ((V * 256 + x) / 64 % 32)])) w1 from .inr (by rw [← cells_snoc]; exact hI)); have HB1 := Aside0.mk (HB.out.trans hb); clear hI hb HI)
        rw [rounds_succ]
        go_wp2_with (go_at_call 80; (with_reducible refine (HBld.writeByte w.heap.size w.heap.size (Lib.byteCells (out ++ [letter ((V * 256 + x) / 64 % 32)])) (((letter ((V * 256 + x) / 2 % 32)).toNat : Int)) _ HI1.out (by rw [ByteLen]; simp; omega) (by have := HB1.out.size; omega)).mono ?_); rintro e w2 ⟨rfl, hI, hb⟩; have HI2 := Aside0.mk (show Lib.IsBuilder 113 5 w.heap.size w.heap.size (Lib.byteCells (out ++ [letter ((V * 256 + x) / 64 % 32)] ++ [letter ((V * 256 + x) / 2 % 32)])) w2 from .inr (by rw [← cells_snoc]; exact hI)); have HB2 := Aside0.mk (HB1.out.trans hb); clear hI hb HI1)
        rw [rounds_succ]
        go_wp2_with fail
        go_roundw
        case rel => exact ⟨k + 1, (V * 256 + x) % 2, 1, out ++ [letter ((V * 256 + x) / 64 % 32)] ++ [letter ((V * 256 + x) / 2 % 32)], by omega, by go_num, by decide, rfl, by omega, by omega, rfl, by simp; omega, ⟨by simpa using HE.out⟩, HI2, HB2⟩
        case measure => simp [intOf]; omega
      · have hor := or_byte (V * 256) x (by omega) (by omega) (by omega) (by omega) (by omega)
        have ha1 := and_mask 5 (by decide) ((V * 256 + x) / 128) (by omega) (by omega)
        have ha2 := and_mask 5 (by decide) ((V * 256 + x) / 4) (by omega) (by omega)
        have ha3 := and_mask 2 (by decide) (V * 256 + x) (by omega) (by omega)
        simp only [Int.reducePow, Int.reduceSub, Int.emod_one] at ha1 ha2 ha3
        have hi1 := fun W => abc_index ((V * 256 + x) / 128 % 32) (by omega) (by omega) W
        have hi2 := fun W => abc_index ((V * 256 + x) / 4 % 32) (by omega) (by omega) W
        go_wp2_with fail
        refine wp_loop_rounds 4 ?_
        rw [rounds_succ]
        have e : arm (x :: l.drop (k + 1)) V 4 = (V * 256 + x) / 128 % 32 :: (V * 256 + x) / 4 % 32 :: arm (l.drop (k + 1)) ((V * 256 + x) % 4) 2 := by rw [arm]; simp
        rw [e] at HE
        clear e
        go_wp2_with (go_at_call 80; (with_reducible refine (HBld.writeByte w.heap.size w.heap.size (Lib.byteCells (out)) (((letter ((V * 256 + x) / 128 % 32)).toNat : Int)) _ HI.out (by rw [ByteLen]; omega) (by have := HB.out.size; omega)).mono ?_); rintro e w1 ⟨rfl, hI, hb⟩; have HI1 := Aside0.mk (show Lib.IsBuilder 113 5 w.heap.size w.heap.size (Lib.byteCells (out ++ [letter ((V * 256 + x) / 128 % 32)])) w1 from .inr (by rw [← cells_snoc]; exact hI)); have HB1 := Aside0.mk (HB.out.trans hb); clear hI hb HI)
        rw [rounds_succ]
        go_wp2_with (go_at_call 80; (with_reducible refine (HBld.writeByte w.heap.size w.heap.size (Lib.byteCells (out ++ [letter ((V * 256 + x) / 128 % 32)])) (((letter ((V * 256 + x) / 4 % 32)).toNat : Int)) _ HI1.out (by rw [ByteLen]; simp; omega) (by have := HB1.out.size; omega)).mono ?_); rintro e w2 ⟨rfl, hI, hb⟩; have HI2 := Aside0.mk (show Lib.IsBuilder 113 5 w.heap.size w.heap.size (Lib.byteCells (out ++ [letter ((V * 256 + x) / 128 % 32)] ++ [letter ((V * 256 + x) / 4 % 32)])) w2 from .inr (by rw [← cells_snoc]; exact hI)); have HB2 := Aside0.mk (HB1.out.trans hb); clear hI hb HI1)
        rw [rounds_succ]
        go_wp2_with fail
        go_roundw
        case rel => exact ⟨k + 1, (V * 256 + x) % 4, 2, out ++ [letter ((V * 256 + x) / 128 % 32)] ++ [letter ((V * 256 + x) / 4 % 32)], by omega, by go_num, by decide, rfl, by omega, by omega, rfl, by simp; omega, ⟨by simpa using HE.out⟩, HI2, HB2⟩
        case measure => simp [intOf]; omega
    · obtain rfl : k = l.length := by omega
      rw [List.drop_length] at HE
      obtain rfl | rfl | rfl | rfl | rfl : B = 0 ∨ B = 1 ∨ B = 2 ∨ B = 3 ∨ B = 4 := by omega
      · have e : out = armor l := by simpa [arm] using HE.out
        have E := Aside0.mk e
        clear e
        go_wp2_with (go_at_call 81; (with_reducible refine (Tryd.Builder_String_any w.heap.size w.heap.size (out) _ HI.out HB.out.size).mono ?_); rintro e w3 ⟨rfl, hb3⟩)
        go_ret
        exact ⟨by show Ending.returned (.string ⟨out.toArray⟩) = _; rw [E.out], HB.out.trans hb3⟩
      · have e : out ++ [letter (V * 16 % 32)] = armor l := by simpa [arm] using HE.out
        have E := Aside0.mk e
        clear e
        have ha1 := and_mask 5 (by decide) (V * 16) (by omega) (by omega)
        simp only [Int.reducePow, Int.reduceSub] at ha1
        have hi1 := fun W => abc_index (V * 16 % 32) (by omega) (by omega) W
        obtain ⟨o2, ho2⟩ : ∃ o2, o2 = out ++ [letter (V * 16 % 32)] := ⟨_, rfl⟩
        have HO2 := Aside0.mk ho2
        clear ho2
        go_wp2_with (first | (go_at_call 80; (with_reducible refine (HBld.writeByte w.heap.size w.heap.size (Lib.byteCells (out)) (((letter (V * 16 % 32)).toNat : Int)) _ HI.out (by rw [ByteLen]; omega) (by have := HB.out.size; omega)).mono ?_); rintro e w1 ⟨rfl, hI, hb⟩; have HI1 := Aside0.mk (show Lib.IsBuilder 113 5 w.heap.size w.heap.size (Lib.byteCells o2) w1 from .inr (by rw [HO2.out, ← cells_snoc]; exact hI)); have HB1 := Aside0.mk (HB.out.trans hb); clear hI hb HI) | (go_at_call 81; (with_reducible refine (Tryd.Builder_String_any w.heap.size w.heap.size (o2) _ HI1.out HB1.out.size).mono ?_); rintro e w3 ⟨rfl, hb3⟩))
        go_ret
        exact ⟨by show Ending.returned (.string ⟨o2.toArray⟩) = _; rw [HO2.out, E.out], HB1.out.trans hb3⟩
      · have e : out ++ [letter (V * 8 % 32)] = armor l := by simpa [arm] using HE.out
        have E := Aside0.mk e
        clear e
        have ha1 := and_mask 5 (by decide) (V * 8) (by omega) (by omega)
        simp only [Int.reducePow, Int.reduceSub] at ha1
        have hi1 := fun W => abc_index (V * 8 % 32) (by omega) (by omega) W
        obtain ⟨o2, ho2⟩ : ∃ o2, o2 = out ++ [letter (V * 8 % 32)] := ⟨_, rfl⟩
        have HO2 := Aside0.mk ho2
        clear ho2
        go_wp2_with (first | (go_at_call 80; (with_reducible refine (HBld.writeByte w.heap.size w.heap.size (Lib.byteCells (out)) (((letter (V * 8 % 32)).toNat : Int)) _ HI.out (by rw [ByteLen]; omega) (by have := HB.out.size; omega)).mono ?_); rintro e w1 ⟨rfl, hI, hb⟩; have HI1 := Aside0.mk (show Lib.IsBuilder 113 5 w.heap.size w.heap.size (Lib.byteCells o2) w1 from .inr (by rw [HO2.out, ← cells_snoc]; exact hI)); have HB1 := Aside0.mk (HB.out.trans hb); clear hI hb HI) | (go_at_call 81; (with_reducible refine (Tryd.Builder_String_any w.heap.size w.heap.size (o2) _ HI1.out HB1.out.size).mono ?_); rintro e w3 ⟨rfl, hb3⟩))
        go_ret
        exact ⟨by show Ending.returned (.string ⟨o2.toArray⟩) = _; rw [HO2.out, E.out], HB1.out.trans hb3⟩
      · have e : out ++ [letter (V * 4 % 32)] = armor l := by simpa [arm] using HE.out
        have E := Aside0.mk e
        clear e
        have ha1 := and_mask 5 (by decide) (V * 4) (by omega) (by omega)
        simp only [Int.reducePow, Int.reduceSub] at ha1
        have hi1 := fun W => abc_index (V * 4 % 32) (by omega) (by omega) W
        obtain ⟨o2, ho2⟩ : ∃ o2, o2 = out ++ [letter (V * 4 % 32)] := ⟨_, rfl⟩
        have HO2 := Aside0.mk ho2
        clear ho2
        go_wp2_with (first | (go_at_call 80; (with_reducible refine (HBld.writeByte w.heap.size w.heap.size (Lib.byteCells (out)) (((letter (V * 4 % 32)).toNat : Int)) _ HI.out (by rw [ByteLen]; omega) (by have := HB.out.size; omega)).mono ?_); rintro e w1 ⟨rfl, hI, hb⟩; have HI1 := Aside0.mk (show Lib.IsBuilder 113 5 w.heap.size w.heap.size (Lib.byteCells o2) w1 from .inr (by rw [HO2.out, ← cells_snoc]; exact hI)); have HB1 := Aside0.mk (HB.out.trans hb); clear hI hb HI) | (go_at_call 81; (with_reducible refine (Tryd.Builder_String_any w.heap.size w.heap.size (o2) _ HI1.out HB1.out.size).mono ?_); rintro e w3 ⟨rfl, hb3⟩))
        go_ret
        exact ⟨by show Ending.returned (.string ⟨o2.toArray⟩) = _; rw [HO2.out, E.out], HB1.out.trans hb3⟩
      · have e : out ++ [letter (V * 2 % 32)] = armor l := by simpa [arm] using HE.out
        have E := Aside0.mk e
        clear e
        have ha1 := and_mask 5 (by decide) (V * 2) (by omega) (by omega)
        simp only [Int.reducePow, Int.reduceSub] at ha1
        have hi1 := fun W => abc_index (V * 2 % 32) (by omega) (by omega) W
        obtain ⟨o2, ho2⟩ : ∃ o2, o2 = out ++ [letter (V * 2 % 32)] := ⟨_, rfl⟩
        have HO2 := Aside0.mk ho2
        clear ho2
        go_wp2_with (first | (go_at_call 80; (with_reducible refine (HBld.writeByte w.heap.size w.heap.size (Lib.byteCells (out)) (((letter (V * 2 % 32)).toNat : Int)) _ HI.out (by rw [ByteLen]; omega) (by have := HB.out.size; omega)).mono ?_); rintro e w1 ⟨rfl, hI, hb⟩; have HI1 := Aside0.mk (show Lib.IsBuilder 113 5 w.heap.size w.heap.size (Lib.byteCells o2) w1 from .inr (by rw [HO2.out, ← cells_snoc]; exact hI)); have HB1 := Aside0.mk (HB.out.trans hb); clear hI hb HI) | (go_at_call 81; (with_reducible refine (Tryd.Builder_String_any w.heap.size w.heap.size (o2) _ HI1.out HB1.out.size).mono ?_); rintro e w3 ⟨rfl, hb3⟩))
        go_ret
        exact ⟨by show Ending.returned (.string ⟨o2.toArray⟩) = _; rw [HO2.out, E.out], HB1.out.trans hb3⟩
end Go.Proofs.YtpfjboioeidecaaDoor.HDig
end
section
namespace Go.Proofs.YtpfjboioeidecaaDoor.HDig
open Go.RowKit Go.Proofs.YtpfjboioeidecaaDoorW.PrintWords Go.Proofs.YtpfjboioeidecaaDoorW.PrintLast Go.Proofs.YtpfjboioeidecaaDoor.HP
def Tabs (w : World) : Prop := Lib.TabIs Tryd.prog w "internal/strconv.uint64pow10" .u64 Lib.pow10Tab
theorem Tabs.blk {w w' : World} (h : Tabs w) (hb : w'.heap[(0 : Nat)]? = w.heap[(0 : Nat)]?) : Tabs w' := by
  unfold Tabs Lib.TabIs World.var? at h ⊢
  have e : Tryd.prog.globalNamed "internal/strconv.uint64pow10" = some 0 := by kernel_rfl
  rw [e] at h ⊢
  simp only [Option.bind_some] at h ⊢
  rw [hb]
  exact h
theorem Tabs.lt {w : World} (h : Tabs w) : (0 : Nat) < w.heap.size := by
  unfold Tabs Lib.TabIs World.var? at h
  have e : Tryd.prog.globalNamed "internal/strconv.uint64pow10" = some 0 := by kernel_rfl
  rw [e] at h
  simp only [Option.bind_some] at h
  rcases Nat.lt_or_ge 0 w.heap.size with h' | h'
  · exact h'
  · simp [Array.getElem?_eq_none h'] at h
theorem Tabs.below {w w' : World} (h : Tabs w) (hb : Below w.heap.size w w') : Tabs w' := h.blk (hb.block _ h.lt)
def stem (kind : ByteArray) (n : Int) : ByteArray := kind ++ ⟨(Lib.itoa n).toArray⟩
def handle (key : List Int) (kind : ByteArray) (n : Int) : ByteArray :=
  stem kind n ++ ⟨#[45]⟩ ++ ⟨(armor ((digest (digest key ++ digest (bytesOf (stem kind n)))).take 10)).toArray⟩
theorem C_bytes (w : World) (e : TypeId) (s : ByteArray) (hs : s.size ≤ 9223372036854775807) : Kd.C (Kd.int .u8) (Lib.bytesWorld w e s) (some ⟨w.heap.size, 0, none⟩) (bytesOf s).length (bytesOf s) := by
  have h := bytes_reads w e s hs
  rw [← bytesOf_length s] at h
  exact Kd.C_of_reads (d := (0 : Int)) (h1 := fun _ => rfl) h
theorem byt_take {l : List Int} (h : Byt l) (n : Nat) : Byt (l.take n) := fun x hx => h x (List.mem_of_mem_take hx)
theorem cut10 {e : TypeId} {w : World} {b : Nat} {ok : Nat → Prop} {A : Option Addr} {n c : Nat} {l : List Int} (h : Kd.R (Kd.int .u8) e w b ok (.slice A n c) l) (hl : l.length = 16) : Kd.C (Kd.int .u8) w A (l.take 10).length (l.take 10) :=
  (Kd.R_reads' (Kd.R_take h (m := 10) (by omega))).2.2
theorem armor10_size (l : List Int) : (armor (l.take 10)).length ≤ 16 := by
  rw [armor, List.length_map, arm_len _ _ _ (by decide)]
  have := List.length_take_le 10 l
  omega
theorem mac_n (A : Option Addr) (c : Nat) (l : List Int) (A' : Option Addr) (n' c' : Nat) (l' : List Int) (w : World) (hr : Kd.C (Kd.int .u8) w A l.length l) (hc : l.length ≤ c) (hb : Byt l) (hl : l.length ≤ 20000)
    (hn : l'.length = n') (hr' : Kd.C (Kd.int .u8) w A' l'.length l') (hc' : n' ≤ c') (hb' : Byt l') (hl' : n' ≤ 20000) :
    Calls Tryd.prog 74 #[.slice A l.length c, .slice A' n' c'] w fun e w' => ∃ v, e = .returned v ∧ Kd.R (Kd.int .u8) 5 w' w.heap.size (fun _ => True) v (digest (digest l ++ digest l')) ∧ Below w.heap.size w w' := by
  subst hn
  exact mac_calls A c l A' c' l' w hr hc hb hl hr' hc' hb' hl'
theorem armor_n (A : Option Addr) (n c : Nat) (l : List Int) (w : World) (hn : l.length = n) (hr : Kd.C (Kd.int .u8) w A l.length l) (hc : n ≤ c) (hb : Byt l) (hl : n ≤ 20000) :
    Calls Tryd.prog 73 #[.slice A n c] w fun e w' => e = .returned (.string ⟨(armor l).toArray⟩) ∧ Below w.heap.size w w' := by
  subst hn
  exact armor_calls A c l w hr hc hb hl
theorem itoa_calls (n : Int) (h0 : -9223372036854775808 ≤ n) (h1 : n ≤ 9223372036854775807) (w : World) (hT : Tabs w) :
    Calls Tryd.prog 72 #[.int .i64 n] w fun e w' => e = .returned (.string ⟨(Lib.itoa n).toArray⟩) ∧ Below w.heap.size w w' := by
  refine (Tryd.strconv_Itoa n h0 h1 w hT).mono ?_
  rintro e w1 ⟨rfl, k, os, rfl⟩
  exact ⟨rfl, Lib.below_grow _ _ (Nat.le_refl _) _ _⟩
theorem bytesOf_byt (s : ByteArray) : Byt (bytesOf s) := by
  intro x hx
  unfold bytesOf at hx
  obtain ⟨b, _, rfl⟩ := List.mem_map.1 hx
  have := b.toNat_lt
  omega
set_option maxHeartbeats 4000000 in
set_option maxRecDepth 100000 in
theorem handle_calls (A : Option Addr) (c : Nat) (key : List Int) (kind : ByteArray) (n : Int) (w : World) (hr : Kd.C (Kd.int .u8) w A key.length key) (hc : key.length ≤ c) (hb : Byt key) (hl : key.length ≤ 64)
    (hg : ∀ w, Calls Tryd.prog 54 #[.string kind] w fun e w' => e = .returned (.bool true) ∧ Below w.heap.size w w') (hks : kind.size ≤ 30) (hn0 : 1 ≤ n) (hn1 : n ≤ 1000000) (hT : Tabs w) :
    Calls Tryd.prog 64 #[.slice A key.length c, .string kind, .int .i64 n] w fun e w' => e = .returned (.string (handle key kind n)) ∧ Below w.heap.size w w' := by
  have HR := Aside0.mk hr
  have HBy := Aside0.mk hb
  have HT := Aside0.mk hT
  have HG := Aside0.mk hg
  clear hr hb hT hg
  have hil : (Lib.itoa n).length ≤ 21 := Lib.itoa_length_le n (by omega) (by omega)
  have hst : (stem kind n).size ≤ 51 := by
    unfold stem
    rw [ByteArray.size_append]
    have : (⟨(Lib.itoa n).toArray⟩ : ByteArray).size = (Lib.itoa n).length := by simp [ByteArray.size]
    omega
  have his : (⟨(Lib.itoa n).toArray⟩ : ByteArray).size ≤ 21 := by
    have : (⟨(Lib.itoa n).toArray⟩ : ByteArray).size = (Lib.itoa n).length := by simp [ByteArray.size]
    omega
  obtain ⟨st, hS⟩ : ∃ st, st = stem kind n := ⟨_, rfl⟩
  rw [← hS] at hst
  have HS := Aside0.mk hS
  have hcat : kind ++ ⟨(Lib.itoa n).toArray⟩ = st := hS.symm
  clear hS
  have kb := fun W => print_bytes (P := Tryd.prog) 9 22 5 Tryd.underlying9 Tryd.underlying22 Tryd.underlying5 st W
  go_enter Tryd.func64, Tryd.ntmps64
  go_wp2_with (first | (go_at_call 54; (with_reducible refine (HG.out _).mono ?_); rintro e w1 ⟨rfl, hb1⟩; have HB := Aside0.mk hb1; clear hb1) | (go_at_call 72; (with_reducible refine (itoa_calls n (by omega) (by omega) _ (HT.out.below HB.out)).mono ?_); rintro e w2 ⟨rfl, hb2⟩; have HB2 := Aside0.mk (below_step HB.out hb2); clear HB hb2) | (go_at_call 74; (with_reducible refine (mac_n A c key (some ⟨w2.heap.size, 0, none⟩) st.size (grownCap w2 st.size 0 5) (bytesOf st) (Lib.bytesWorld w2 5 st) (Kd.C_below HR.out (bytes_below HB2.out HB2.out.size _ _)) hc HBy.out (by omega) (bytesOf_length st) (C_bytes w2 _ st (by omega)) (grownCap_ge _ _ _ _) (bytesOf_byt st) (by omega)).mono ?_); rintro e w3 ⟨v3, rfl, hR3, hb3⟩; have HB3 := Aside0.mk (below_step (bytes_below HB2.out HB2.out.size 5 st) hb3); have HR3 := Aside0.mk hR3; obtain ⟨A3, c3, rfl⟩ := Kd.R_slice hR3; have hl3 : (digest (digest key ++ digest (bytesOf st))).length = 16 := rfl; have hc3 := (Kd.R_reads' hR3).2.1; clear hR3 hb3 HB2; rw [hl3] at hc3) | (go_at_call 73; (with_reducible refine (armor_n A3 10 c3 ((digest (digest key ++ digest (bytesOf st))).take 10) _ rfl (cut10 HR3.out rfl) (by omega) (byt_take (digest_byt _) 10) (by decide)).mono ?_); rintro e w4 ⟨rfl, hb4⟩; have HB4 := Aside0.mk (below_step HB3.out hb4); have har := armor10_size (digest (digest key ++ digest (bytesOf st))); clear HB3 hb4))
  go_ret
  refine ⟨?_, HB4.out⟩
  show Ending.returned (.string (st ++ ⟨#[45]⟩ ++ ⟨(armor ((digest (digest key ++ digest (bytesOf st))).take 10)).toArray⟩)) = _
  unfold handle
  rw [← HS.out]
end Go.Proofs.YtpfjboioeidecaaDoor.HDig
end
section
namespace Go.Proofs.YtpfjboioeidecaaDoor.HP
def letB (c : Int) : Bool := (decide (97 ≤ c) && decide (c ≤ 122)) || (decide (65 ≤ c) && decide (c ≤ 90))
def digB (c : Int) : Bool := decide (48 ≤ c) && decide (c ≤ 57)
def wordB (c : Int) : Bool := letB c || digB c || (c == 95)
def goodL (l : List Int) : Bool := decide (1 ≤ l.length) && decide (l.length ≤ 30) && !digB (l.getD 0 0) && l.all wordB
end Go.Proofs.YtpfjboioeidecaaDoor.HP
end
section
namespace Go.Proofs.YtpfjboioeidecaaDoor.HDig
open Go.RowKit Go.Proofs.YtpfjboioeidecaaDoorW.PrintWords Go.Proofs.YtpfjboioeidecaaDoorW.PrintLast Go.Proofs.YtpfjboioeidecaaDoor.HP
def good (s : ByteArray) : Bool := goodL (bytesOf s)
set_option maxHeartbeats 1000000 in
theorem digit_calls (c : Int) (w : World) (h0 : 0 ≤ c) (h1 : c ≤ 255) : Calls Tryd.prog 62 #[.int .u8 c] w fun e w' => e = .returned (.bool (digB c)) ∧ w' = w := by
  by_cases h : 48 ≤ c
  · by_cases h2 : c ≤ 57
    · go_enter Tryd.func62, Tryd.ntmps62
      go_wp2
      go_ret
      simp [digB, *]
    · go_enter Tryd.func62, Tryd.ntmps62
      go_wp2
      go_ret
      simp [digB, *]
  · go_enter Tryd.func62, Tryd.ntmps62
    go_wp2
    go_ret
    have e : digB c = false := by simp [digB]; omega
    simp [e]
set_option maxHeartbeats 1000000 in
theorem letter_calls (c : Int) (w : World) (h0 : 0 ≤ c) (h1 : c ≤ 255) : Calls Tryd.prog 71 #[.int .u8 c] w fun e w' => e = .returned (.bool (letB c)) ∧ w' = w := by
  by_cases h : 97 ≤ c <;> by_cases h2 : c ≤ 122 <;> by_cases h3 : 65 ≤ c <;> by_cases h4 : c ≤ 90 <;> (try omega)
  all_goals
    go_enter Tryd.func71, Tryd.ntmps71
    go_wp2
    go_ret
    simp [letB, *]
set_option maxHeartbeats 1000000 in
theorem word_calls (c : Int) (w : World) (h0 : 0 ≤ c) (h1 : c ≤ 255) : Calls Tryd.prog 63 #[.int .u8 c] w fun e w' => e = .returned (.bool (wordB c)) ∧ w' = w := by
  cases hl : letB c <;> cases hd : digB c
  all_goals
    have hll := letter_calls c
    have hdd := digit_calls c
    rw [hl] at hll
    rw [hd] at hdd
    have HL := Aside0.mk hll
    have HD := Aside0.mk hdd
    clear hll hdd
    go_enter Tryd.func63, Tryd.ntmps63
    go_wp2_with (first | (go_at_call 71; (with_reducible refine (HL.out w h0 h1).mono ?_); rintro e w1 ⟨rfl, rfl⟩) | (go_at_call 62; (with_reducible refine (HD.out _ h0 h1).mono ?_); rintro e w1 ⟨rfl, rfl⟩))
    go_ret
    simp [wordB, *]
theorem good_bytes (s : ByteArray) : good s = (decide (1 ≤ s.size) && decide (s.size ≤ 30) && !digB (bt s 0) && (bytesOf s).all wordB) := by
  unfold good goodL
  rw [bytesOf_length]
  have : (bytesOf s).getD 0 0 = bt s 0 := rd_bytesOf s 0
  rw [this]
theorem empty_size (s : ByteArray) : s.toList.isEmpty = decide (s.size = 0) := by
  rw [Bool.eq_iff_iff]
  simp only [List.isEmpty_iff, decide_eq_true_eq]
  rw [← List.length_eq_zero_iff]
  have : s.toList.length = s.size := by rw [Go.ByteArray.toList_eq]; exact data_length s
  rw [this]
set_option maxHeartbeats 2000000 in
theorem good_calls (s : ByteArray) (w : World) (hs : s.size ≤ 140737488351232) : Calls Tryd.prog 54 #[.string s] w fun e w' => e = .returned (.bool (good s)) ∧ w' = w := by
  have he := empty_size s
  have hg := good_bytes s
  by_cases h1 : 1 ≤ s.size
  · have hne : s.toList.isEmpty = false := by rw [he, decide_eq_false_iff_not]; omega
    have hne2 : ¬ s.toList = [] := by intro h; rw [h] at hne; simp at hne
    clear he
    by_cases h2 : s.size ≤ 30
    · have hb0 := fun h => bt_at s 0 h
      have hr0 := bt_range s 0
      obtain ⟨hr0, hr1⟩ := hr0
      have hdd := digit_calls (bt s 0) w hr0 hr1
      simp only [Int.toNat_zero] at hb0
      generalize bt s 0 = x0 at hb0 hr0 hr1 hdd hg
      cases hd : digB x0
      · rw [hd] at hdd hg
        have HD := Aside0.mk hdd
        have HG := Aside0.mk hg
        clear hdd hg
        go_enter Tryd.func54, Tryd.ntmps54
        go_wp2_with (go_at_call 62; (with_reducible refine (HD.out).mono ?_); rintro e w1 ⟨rfl, rfl⟩)
        clear hb0 HD hd
        go_loop [18] (fun i => ∃ k : Nat, k ≤ s.size ∧ i = .int .i64 k ∧ Aside0 (((bytesOf s).take k).all wordB = true)) (fun i => s.size - (intOf i).toNat)
        case atStart => exact ⟨0, Nat.zero_le _, rfl, ⟨rfl⟩⟩
        case round =>
          obtain ⟨k, hk, rfl, HA⟩ := hrel
          by_cases hlt : k < s.size
          · have hbk := fun h => bt_at s k h
            have hrk := bt_range s k
            obtain ⟨hk0, hk1⟩ := hrk
            have hww := word_calls (bt s k) w1 hk0 hk1
            simp only [Int.toNat_natCast] at hbk
            have hsn : ((bytesOf s).take (k + 1)).all wordB = (((bytesOf s).take k).all wordB && wordB (bt s k)) := by
              have hl : k < (bytesOf s).length := by rw [bytesOf_length]; exact hlt
              have e : (bytesOf s)[k] = bt s k := by
                rw [← rd_bytesOf, rd, Int.toNat_natCast, List.getD_eq_getElem?_getD, List.getElem?_eq_getElem hl]; rfl
              rw [List.take_succ_eq_append_getElem hl, List.all_append, e]
              simp
            have hfa : wordB (bt s k) = false → (bytesOf s).all wordB = false := fun h => by
              have hl : k < (bytesOf s).length := by rw [bytesOf_length]; exact hlt
              have e : (bytesOf s)[k] = bt s k := by
                rw [← rd_bytesOf, rd, Int.toNat_natCast, List.getD_eq_getElem?_getD, List.getElem?_eq_getElem hl]; rfl
              rw [List.all_eq_false]
              exact ⟨_, List.getElem_mem hl, by rw [e, h]; simp⟩
            generalize bt s k = x at hbk hk0 hk1 hww hsn hfa
            have HS := Aside0.mk hsn
            have HF := Aside0.mk hfa
            clear hsn hfa
            cases hd : wordB x
            · rw [hd] at hww
              have HW := Aside0.mk hww
              clear hww
              have HDD := Aside0.mk hd
              clear hd
              go_wp2_with (go_at_call 63; (with_reducible refine (HW.out).mono ?_); rintro e w2 ⟨rfl, rfl⟩)
              go_ret
              exact ⟨by rw [HG.out, HF.out HDD.out]; simp, rfl⟩
            · rw [hd] at hww
              have HW := Aside0.mk hww
              clear hww
              have HDD := Aside0.mk hd
              clear hd
              go_wp2_with (go_at_call 63; (with_reducible refine (HW.out).mono ?_); rintro e w2 ⟨rfl, rfl⟩)
              go_round
              case rel => exact ⟨k + 1, by omega, by go_num, ⟨by rw [HS.out, HA.out, HDD.out]; rfl⟩⟩
              case measure => simp [intOf]; omega
          · obtain rfl : k = s.size := by omega
            rw [List.take_of_length_le (by rw [bytesOf_length]; exact Nat.le_refl _)] at HA
            go_wp2_with fail
            go_ret
            have hz1 : decide (1 ≤ s.size) = true := decide_eq_true h1
            have hz2 : decide (s.size ≤ 30) = true := decide_eq_true h2
            exact ⟨by rw [HG.out, HA.out, hz1, hz2]; rfl, rfl⟩
      · rw [hd] at hdd hg
        have HD := Aside0.mk hdd
        have HG := Aside0.mk hg
        clear hdd hg
        go_enter Tryd.func54, Tryd.ntmps54
        go_wp2_with (go_at_call 62; (with_reducible refine (HD.out).mono ?_); rintro e w1 ⟨rfl, rfl⟩)
        go_ret
        exact ⟨by rw [HG.out]; simp, rfl⟩
    · have h3 : decide (s.size ≤ 30) = false := decide_eq_false h2
      rw [h3] at hg
      have HG := Aside0.mk hg
      clear hg h3
      go_enter Tryd.func54, Tryd.ntmps54
      go_wp2_with fail
      go_ret
      exact ⟨by rw [HG.out]; simp, rfl⟩
  · have hne : s.toList.isEmpty = true := by rw [he, decide_eq_true_eq]; omega
    have hne2 : s.toList = [] := by simpa using hne
    have h3 : decide (1 ≤ s.size) = false := decide_eq_false h1
    rw [h3] at hg
    have HG := Aside0.mk hg
    clear hg h3 he
    go_enter Tryd.func54, Tryd.ntmps54
    go_wp2_with fail
    go_ret
    exact ⟨by rw [HG.out]; simp, rfl⟩
end Go.Proofs.YtpfjboioeidecaaDoor.HDig
end
section
namespace Go.Proofs.YtpfjboioeidecaaDoor.HS
open Go.RowKit Go.Proofs.YtpfjboioeidecaaDoorW.PrintWords Go.Proofs.YtpfjboioeidecaaDoor.HP Go.Proofs.YtpfjboioeidecaaDoor.HDig
structure Ses where
  ids : List ByteArray
  user : ByteArray
  device : ByteArray
  level : Int
  login : Int
  last : Int
  dead : Bool
structure St where
  key : List Int
  idle : Int
  most : Int
  now : Int
  n : Int
  list : List Ses
structure Ev where
  kind : Int
  time : Int
  user : ByteArray
  device : ByteArray
  id : ByteArray
structure Rp where
  err : Int
  id : ByteArray
  user : ByteArray
  level : Int
abbrev none_ : ByteArray := ⟨#[]⟩
def err (n : Int) : Rp := ⟨n, none_, none_, 0⟩
abbrev sess : ByteArray := ⟨#[115, 101, 115, 115]⟩
def isUser (e : Ev) : Bool := e.kind == 1 || e.kind == 5
def isDev (e : Ev) : Bool := e.kind != 5
def bad1 (e : Ev) : Bool := decide (e.kind < 1) || decide (5 < e.kind) || decide (e.time < 0) || decide (100000000000 < e.time)
def bad (e : Ev) : Bool :=
  bad1 e || (isUser e && !good e.user) || (!isUser e && (e.user.toList != [])) || (isDev e && !good e.device) || (!isDev e && (e.device.toList != [])) || (isUser e && (e.id.toList != []))
def Ses.last_ (x : Ses) : ByteArray := x.ids.getD (x.ids.length - 1) none_
def over (idle most : Int) (x : Ses) (t : Int) : Bool := decide (x.last + idle < t) || decide (x.login + most < t)
def St.next (s : St) : ByteArray := handle s.key sess (s.n + 1)
def told (x : Ses) : Rp := ⟨0, x.last_, x.user, x.level⟩
def Ses.has (x : Ses) (id : ByteArray) : Bool := Lib.containsS x.ids id
def at_ (l : List Ses) (id : ByteArray) : Option Nat := l.findIdx? fun x => x.has id
def Ses.kill (x : Ses) : Ses := { x with dead := true }
def out1 (u : ByteArray) (x : Ses) : Ses := { x with dead := x.dead || (x.user.toList == u.toList) }
def outs (u : ByteArray) (xs : List Ses) (k : Nat) : List Ses := (xs.take k).map (out1 u) ++ xs.drop k
def step2 (s : St) (e : Ev) : St × Rp :=
  if e.kind = 1 then
    ({ s with n := s.n + 1, list := s.list ++ [⟨[s.next], e.user, e.device, 1, s.now, s.now, false⟩] }, ⟨0, s.next, e.user, 1⟩)
  else if e.kind = 5 then
    ({ s with list := s.list.map (out1 e.user) }, ⟨0, none_, e.user, 0⟩)
  else match at_ s.list e.id with
  | none => (s, err 3)
  | some i =>
    match s.list[i]? with
    | none => (s, err 3)
    | some x =>
      if (x.last_.toList != e.id.toList || x.device.toList != e.device.toList) = true then ({ s with list := s.list.set i x.kill }, err 4)
      else if x.dead = true then (s, err 5)
      else if over s.idle s.most x s.now = true then (s, err 6)
      else if e.kind = 3 then
        let x2 : Ses := { x with last := s.now, level := if x.level + 1 < 9 then x.level + 1 else 9, ids := x.ids ++ [s.next] }
        ({ s with n := s.n + 1, list := s.list.set i x2 }, ⟨0, s.next, x.user, x2.level⟩)
      else if e.kind = 4 then ({ s with list := s.list.set i { x with last := s.now, dead := true } }, told x)
      else ({ s with list := s.list.set i { x with last := s.now } }, told x)
def step (s0 : St) (e : Ev) : St × Rp :=
  if bad e then (s0, err 1) else if e.time < s0.now then (s0, err 2) else step2 { s0 with now := e.time } e
def steps (s : St) : List Ev → St × List Rp
  | [] => (s, [])
  | e :: l => let r := step s e; let t := steps r.1 l; (t.1, r.2 :: t.2)
structure Ses.Ok (m : Nat) (x : Ses) : Prop where
  ne : x.ids ≠ []
  len : x.ids.length ≤ m
  lev0 : 1 ≤ x.level
  lev1 : x.level ≤ 9
  log0 : 0 ≤ x.login
  log1 : x.login ≤ 100000000000
  las0 : 0 ≤ x.last
  las1 : x.last ≤ 100000000000
structure St.Ok (m : Nat) (s : St) : Prop where
  key : Byt s.key
  keyl : s.key.length ≤ 64
  i0 : 1 ≤ s.idle
  i1 : s.idle ≤ 1000000
  m0 : 1 ≤ s.most
  m1 : s.most ≤ 1000000
  t0 : 0 ≤ s.now
  t1 : s.now ≤ 100000000000
  n0 : 0 ≤ s.n
  n1 : s.n ≤ m
  len : s.list.length ≤ m
  all : ∀ x ∈ s.list, x.Ok m
theorem outs_len (u : ByteArray) (xs : List Ses) (k : Nat) : (outs u xs k).length = xs.length := by simp [outs]; omega
theorem outs_at (u : ByteArray) (xs : List Ses) (k : Nat) (h : k < xs.length) : (outs u xs k)[k]? = xs[k]? := by
  unfold outs
  rw [List.getElem?_append_right (by simp; omega)]
  simp
  rw [show min k xs.length = k by omega, Nat.sub_self, Nat.add_zero]
theorem outs_succ (u : ByteArray) (xs : List Ses) (k : Nat) (x : Ses) (h : xs[k]? = some x) : (outs u xs k).set k (out1 u x) = outs u xs (k + 1) := by
  obtain ⟨hl, rfl⟩ := List.getElem?_eq_some_iff.1 h
  unfold outs
  rw [List.take_succ_eq_append_getElem hl, List.map_append, List.append_assoc, List.set_append_right _ _ (by simp; omega)]
  congr 1
  rw [List.length_map, List.length_take, show k - min k xs.length = 0 by omega, List.drop_eq_getElem_cons hl]
  rfl
theorem outs_all (u : ByteArray) (xs : List Ses) : outs u xs xs.length = xs.map (out1 u) := by simp [outs]
theorem bad_false {e : Ev} (h : bad e = false) : 1 ≤ e.kind ∧ e.kind ≤ 5 ∧ 0 ≤ e.time ∧ e.time ≤ 100000000000 := by
  have h1 : bad1 e = false := by
    cases hb : bad1 e
    · rfl
    · unfold bad at h; rw [hb] at h; simp at h
  unfold bad1 at h1
  simp only [Bool.or_eq_false_iff, decide_eq_false_iff_not] at h1
  omega
theorem St.Ok.at_time {m : Nat} {s : St} (h : s.Ok m) {t : Int} (h0 : 0 ≤ t) (h1 : t ≤ 100000000000) : St.Ok m { s with now := t } :=
  ⟨h.key, h.keyl, h.i0, h.i1, h.m0, h.m1, h0, h1, h.n0, h.n1, h.len, h.all⟩
theorem St.Ok.with_list {m : Nat} {s : St} (h : s.Ok m) {l : List Ses} (hl : l.length = s.list.length) (ha : ∀ x ∈ l, x.Ok m) : St.Ok m { s with list := l } :=
  ⟨h.key, h.keyl, h.i0, h.i1, h.m0, h.m1, h.t0, h.t1, h.n0, h.n1, by show l.length ≤ m; rw [hl]; exact h.len, ha⟩
theorem last_snoc {x : Ses} (l : List ByteArray) (a : ByteArray) (h : x.ids = l ++ [a] := by rfl) : x.last_ = a := by
  unfold Ses.last_; rw [h]; simp
theorem min_lev (a : Int) : min 9 (a + 1) = if a + 1 < 9 then a + 1 else 9 := by
  split <;> omega
end Go.Proofs.YtpfjboioeidecaaDoor.HS
end
