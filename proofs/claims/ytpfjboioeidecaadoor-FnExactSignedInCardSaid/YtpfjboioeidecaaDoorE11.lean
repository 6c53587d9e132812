/- What the reference's functions and the law's helpers come to, in plain words; sizes are bounded. -/
import Derived.Test.YtpfjboioeidecaaDoorE3
import Derived.Test.YtpfjboioeidecaaDoorE7
import Derived.Test.YtpfjboioeidecaaDoorE8
import Derived.Test.YtpfjboioeidecaaDoorE9
import Derived.Test.YtpfjboioeidecaaDoorE10

section
namespace Go.Proofs.YtpfjboioeidecaaDoor.HPl
open Go.RowKit Go.Proofs.YtpfjboioeidecaaDoorW.PrintWords Go.Proofs.YtpfjboioeidecaaDoorW.PrintLast Go.Proofs.YtpfjboioeidecaaDoor.HP Go.Proofs.YtpfjboioeidecaaDoor.HDig Go.Proofs.YtpfjboioeidecaaDoor.PQ Go.Proofs.YtpfjboioeidecaaDoor.HS Go.Proofs.YtpfjboioeidecaaDoorW
theorem digit_eq (c : Int) : spec_l1Digit.f c = some (digB c) := by
  unfold spec_l1Digit.f digB
  by_cases h : 48 ≤ c
  · rw [if_pos (by omega)]; simp [h]
  · rw [if_neg (by omega)]; simp [h]
theorem letter_eq (c : Int) : spec_l1Letter.f c = some (letB c) := by
  unfold spec_l1Letter.f letB
  by_cases h : 97 ≤ c <;> by_cases h1 : c ≤ 122 <;> by_cases h2 : 65 ≤ c <;> by_cases h3 : c ≤ 90 <;> simp [h, h1, h2, h3] <;> omega
theorem wrap_nat (i : Nat) (h : i < 4611686018427387904) : wrap64 ((i : Int) + 1) = ((i + 1 : Nat) : Int) := by unfold wrap64; omega
theorem drop_bytes (s : ByteArray) (i : Nat) (h : i < s.size) : (bytesOf s).drop i = bt s i :: (bytesOf s).drop (i + 1) := by
  have hl : i < (bytesOf s).length := by rw [bytesOf_length]; exact h
  rw [List.drop_eq_getElem_cons hl]
  congr 1
  have := rd_bytesOf s (i : Int)
  rw [← this]
  simp [rd, List.getD_eq_getElem?_getD, List.getElem?_eq_getElem hl]
theorem good_loop (s : ByteArray) (hs : s.size ≤ 140737488351232) (d : Nat) : ∀ i : Nat, s.size - i = d → i ≤ s.size → Ev (fun k => spec_GoodName.l0 k s (i : Int)) (((bytesOf s).drop i).all wordB) := by
  induction d with
  | zero =>
    intro i hd hi
    have e : (bytesOf s).drop i = [] := List.drop_of_length_le (by rw [bytesOf_length]; omega)
    rw [e]
    exact Ev.step (f := fun _ => some true) (fun k => by simp only [spec_GoodName.l0]; rw [if_neg (by omega)]) (Ev.now _)
  | succ d ih =>
    intro i hd hi
    have hlt : i < s.size := by omega
    rw [drop_bytes s i hlt, List.all_cons]
    have hw := wrap_nat i (by omega)
    have h := ih (i + 1) (by omega) (by omega)
    cases hl : letB (bt s i)
    · cases hdg : digB (bt s i)
      · by_cases h95 : bt s i = 95
        · have e : wordB (bt s i) = true := by simp [wordB, h95]
          rw [e, Bool.true_and]
          exact Ev.step (f := fun k => spec_GoodName.l0 k s ((i + 1 : Nat) : Int)) (fun k => by simp only [spec_GoodName.l0]; rw [if_pos (by omega), if_pos (by omega), letter_eq, hl, digit_eq, hdg]; simp only [Option.bind_some]; rw [if_neg (by simp), if_neg (by simp), if_pos h95, hw]) h
        · have e : wordB (bt s i) = false := by simp [wordB, hl, hdg, h95]
          rw [e, Bool.false_and]
          exact Ev.step (f := fun _ => some false) (fun k => by simp only [spec_GoodName.l0]; rw [if_pos (by omega), if_pos (by omega), letter_eq, hl, digit_eq, hdg]; simp only [Option.bind_some]; rw [if_neg (by simp), if_neg (by simp), if_neg h95]) (Ev.now _)
      · have e : wordB (bt s i) = true := by simp [wordB, hdg]
        rw [e, Bool.true_and]
        exact Ev.step (f := fun k => spec_GoodName.l0 k s ((i + 1 : Nat) : Int)) (fun k => by simp only [spec_GoodName.l0]; rw [if_pos (by omega), if_pos (by omega), letter_eq, hl, digit_eq, hdg]; simp only [Option.bind_some]; rw [if_neg (by simp), if_pos trivial, hw]) h
    · have e : wordB (bt s i) = true := by simp [wordB, hl]
      rw [e, Bool.true_and]
      exact Ev.step (f := fun k => spec_GoodName.l0 k s ((i + 1 : Nat) : Int)) (fun k => by simp only [spec_GoodName.l0]; rw [if_pos (by omega), if_pos (by omega), letter_eq, hl]; simp only [Option.bind_some]; rw [if_pos trivial, hw]) h
theorem good_ev (s : ByteArray) (hs : s.size ≤ 140737488351232) : Ev (fun k => spec_GoodName.f k s) (good s) := by
  have hg := good_bytes s
  have hj : ∀ b, Ev (fun k => spec_GoodName.j0 k s b) (!b && (bytesOf s).all wordB) := by
    intro b
    cases b
    · have h := good_loop s hs s.size 0 (by omega) (by omega)
      exact Ev.step (f := fun k => spec_GoodName.l0 k s 0) (fun k => by simp only [spec_GoodName.j0]; rw [if_neg (by simp)]) (by simpa using h)
    · exact Ev.step (f := fun _ => some false) (fun k => by simp only [spec_GoodName.j0]; rw [if_pos trivial]) (Ev.now _)
  by_cases h1 : 1 ≤ s.size
  · by_cases h2 : s.size ≤ 30
    · have e : good s = (!digB (bt s 0) && (bytesOf s).all wordB) := by rw [hg]; simp [h1, h2]
      rw [e]
      exact Ev.congr (f := fun k => spec_GoodName.j0 k s (digB (bt s 0))) (fun k => by
        unfold spec_GoodName.f
        rw [if_neg (by omega), if_neg (by omega), if_pos (by omega), digit_eq]; rfl) (hj _)
    · have e : good s = (!true && (bytesOf s).all wordB) := by rw [hg]; simp [h2]
      rw [e]
      exact Ev.congr (f := fun k => spec_GoodName.j0 k s true) (fun k => by unfold spec_GoodName.f; rw [if_neg (by omega), if_pos (by omega)]) (hj _)
  · have e : good s = (!true && (bytesOf s).all wordB) := by rw [hg]; simp [h1]
    rw [e]
    exact Ev.congr (f := fun k => spec_GoodName.j0 k s true) (fun k => by unfold spec_GoodName.f; rw [if_pos (by omega)]) (hj _)
theorem not_eq (a : Bool) (s : ByteArray) (g : Bool) : spec_l15Not.f a s g = some (if a then !g else s.toList != []) := by
  unfold spec_l15Not.f
  cases a <;> rfl
theorem bad_j1 (b : Bool) (e : HS.Ev) (hb : b = isUser e) (hu : e.user.size ≤ 140737488351232) (hd : e.device.size ≤ 140737488351232) :
    PrintWords.Ev (fun k => spec_l19Bad.j1 k b e.kind e.time e.user e.device e.id)
      ((isUser e && !good e.user) || (!isUser e && (e.user.toList != [])) || (isDev e && !good e.device) || (!isDev e && (e.device.toList != [])) || (isUser e && (e.id.toList != []))) := by
  subst hb
  refine Ev.step (f := fun k => (spec_GoodName.f k e.user).bind fun t179 => ((spec_l15Not.f (isUser e) e.user t179).bind fun t180 => (if t180 = true then (some true) else ((spec_GoodName.f k e.device).bind fun t181 => ((spec_l15Not.f (e.kind != 5) e.device t181).bind fun t182 => (if t182 = true then (some true) else (if isUser e = true then (some (e.id.toList != ([] : List UInt8))) else (some false)))))))) (fun k => rfl) ?_
  refine Ev.bind (good_ev _ hu) ?_
  have hI : (e.kind != 5) = isDev e := rfl
  rw [hI]
  refine Ev.congr (f := fun k => if (if isUser e then !good e.user else e.user.toList != []) = true then (some true) else ((spec_GoodName.f k e.device).bind fun t181 => ((spec_l15Not.f (isDev e) e.device t181).bind fun t182 => (if t182 = true then (some true) else (if isUser e = true then (some (e.id.toList != ([] : List UInt8))) else (some false)))))) (fun k => by rw [not_eq]; rfl) ?_
  have h2 : PrintWords.Ev (fun k => ((spec_GoodName.f k e.device).bind fun t181 => ((spec_l15Not.f (isDev e) e.device t181).bind fun t182 => (if t182 = true then (some true) else (if isUser e = true then (some (e.id.toList != ([] : List UInt8))) else (some false))))))
      ((isDev e && !good e.device) || (!isDev e && (e.device.toList != [])) || (isUser e && (e.id.toList != []))) := by
    refine Ev.bind (good_ev _ hd) ?_
    refine Ev.congr (f := fun _ => some ((isDev e && !good e.device) || (!isDev e && (e.device.toList != [])) || (isUser e && (e.id.toList != [])))) (fun k => ?_) (Ev.now _)
    rw [not_eq]
    simp only [Option.bind_some]
    cases isDev e <;> cases good e.device <;> cases isUser e <;> cases (e.device.toList != []) <;> simp
  cases h : (if isUser e then !good e.user else e.user.toList != [])
  · refine Ev.congr (fun k => ?_) (f := fun k => ((spec_GoodName.f k e.device).bind fun t181 => ((spec_l15Not.f (isDev e) e.device t181).bind fun t182 => (if t182 = true then (some true) else (if isUser e = true then (some (e.id.toList != ([] : List UInt8))) else (some false)))))) ?_
    · rw [if_neg (by simp)]
    · have e1 : ((isUser e && !good e.user) || (!isUser e && (e.user.toList != [])) || (isDev e && !good e.device) || (!isDev e && (e.device.toList != [])) || (isUser e && (e.id.toList != []))) = ((isDev e && !good e.device) || (!isDev e && (e.device.toList != [])) || (isUser e && (e.id.toList != []))) := by
        revert h
        cases isDev e <;> cases good e.device <;> cases isUser e <;> cases good e.user <;> cases (e.user.toList != []) <;> cases (e.device.toList != []) <;> simp
      rw [e1]
      exact h2
  · refine Ev.congr (f := fun _ => some true) (fun k => by rw [if_pos rfl]) ?_
    have e1 : ((isUser e && !good e.user) || (!isUser e && (e.user.toList != [])) || (isDev e && !good e.device) || (!isDev e && (e.device.toList != [])) || (isUser e && (e.id.toList != []))) = true := by
      revert h
      cases isDev e <;> cases good e.device <;> cases isUser e <;> cases good e.user <;> cases (e.user.toList != []) <;> cases (e.device.toList != []) <;> simp
    rw [e1]
    exact Ev.now _
theorem bad_j0 (e : HS.Ev) (hu : e.user.size ≤ 140737488351232) (hd : e.device.size ≤ 140737488351232) :
    PrintWords.Ev (fun k => spec_l19Bad.j0 k (bad1 e) e.kind e.time e.user e.device e.id) (bad e) := by
  unfold bad
  cases bad1 e
  · have h := bad_j1 (isUser e) e rfl hu hd
    simp only [Bool.false_or]
    refine Ev.step (f := fun k => spec_l19Bad.j1 k (isUser e) e.kind e.time e.user e.device e.id) (fun k => ?_) h
    simp only [spec_l19Bad.j0]
    rw [if_neg (by simp)]
    unfold isUser
    by_cases h1 : e.kind = 1
    · rw [if_pos h1]; simp [h1]
    · have e1 : (e.kind == 1) = false := by simpa using h1
      rw [if_neg h1, e1, Bool.false_or]
  · simp only [Bool.true_or]
    exact Ev.step (f := fun _ => some true) (fun k => by simp only [spec_l19Bad.j0]; rw [if_pos trivial]) (Ev.now _)
theorem bad_ev (e : HS.Ev) (hu : e.user.size ≤ 140737488351232) (hd : e.device.size ≤ 140737488351232) : PrintWords.Ev (fun k => spec_l19Bad.f k e.kind e.time e.user e.device e.id) (bad e) := by
  refine Ev.congr (fun k => ?_) (bad_j0 e hu hd)
  unfold spec_l19Bad.f bad1
  by_cases h1 : e.kind < 1
  · rw [if_pos h1]; simp [h1]
  · rw [if_neg h1]
    by_cases h2 : e.kind > 5
    · rw [if_pos h2]; simp [h2]
    · rw [if_neg h2]
      by_cases h3 : e.time < 0
      · rw [if_pos h3]; simp [h3]
      · rw [if_neg h3]
        have e1 : decide (5 < e.kind) = false := by simp; omega
        simp [h1, h3, e1]
theorem bad_at (e : HS.Ev) (hu : e.user.size ≤ 140737488351232) (hd : e.device.size ≤ 140737488351232) : ∃ k, spec_l19Bad.f k e.kind e.time e.user e.device e.id = some (bad e) := (bad_ev e hu hd).rounds
theorem text_inj {a b : ByteArray} (h : a.toList = b.toList) : a = b := by
  rw [Go.ByteArray.toList_eq, Go.ByteArray.toList_eq] at h
  cases a; cases b
  congr 1
  exact Array.toList_inj.1 h
def hasB (ids : List ByteArray) (id : ByteArray) : Bool := ids.any fun x => x.toList == id.toList
theorem has_loop (id : ByteArray) (ids : List ByteArray) (hl : ids.length ≤ 4611686018427387903) (d : Nat) : ∀ i : Nat, ids.length - i = d → i ≤ ids.length →
    PrintWords.Ev (fun k => spec_l3Has.l0 k id ids (ids.length : Int) (i : Int)) (hasB (ids.drop i) id) := by
  induction d with
  | zero =>
    intro i hd hi
    have e : ids.drop i = [] := List.drop_of_length_le (by omega)
    rw [e]
    exact Ev.step (f := fun _ => some false) (fun k => by simp only [spec_l3Has.l0]; rw [if_neg (by omega)]) (Ev.now false)
  | succ d ih =>
    intro i hd hi
    have hlt : i < ids.length := by omega
    have hw := wrap_nat i (by omega)
    have h := ih (i + 1) (by omega) (by omega)
    have hr : rdOf ByteArray.empty ids (i : Int) = ids[i] := by simp [rdOf, List.getD_eq_getElem?_getD, List.getElem?_eq_getElem hlt]
    rw [List.drop_eq_getElem_cons hlt]
    by_cases he : ids[i].toList = id.toList
    · have e : hasB (ids[i] :: ids.drop (i + 1)) id = true := by rw [hasB, List.any_cons, he, beq_self_eq_true, Bool.true_or]
      rw [e]
      exact Ev.step (f := fun _ => some true) (fun k => by simp only [spec_l3Has.l0]; rw [if_pos (by omega), if_pos (by omega), if_pos (by omega), hr, if_pos he]) (Ev.now _)
    · have e : hasB (ids[i] :: ids.drop (i + 1)) id = hasB (ids.drop (i + 1)) id := by unfold hasB; rw [List.any_cons, beq_eq_false_iff_ne.2 he, Bool.false_or]
      rw [e]
      exact Ev.step (f := fun k => spec_l3Has.l0 k id ids (ids.length : Int) ((i + 1 : Nat) : Int)) (fun k => by simp only [spec_l3Has.l0]; rw [if_pos (by omega), if_pos (by omega), if_pos (by omega), hr, if_neg he, hw]) h
theorem has_at (id : ByteArray) (ids : List ByteArray) (hl : ids.length ≤ 4611686018427387903) : ∃ k, spec_l3Has.f k ids id = some (Lib.containsS ids id) := by
  have h := has_loop id ids hl ids.length 0 (by omega) (by omega)
  have e : Lib.containsS ids id = hasB ids id := by
    rw [Bool.eq_iff_iff, Lib.containsS_iff, hasB, List.any_eq_true]
    constructor
    · intro h; exact ⟨id, h, by simp⟩
    · rintro ⟨x, hx, he⟩
      have h2 : x.toList = id.toList := by simpa using he
      rw [← text_inj h2]; exact hx
  rw [e]
  have h1 : PrintWords.Ev (fun k => spec_l3Has.l0 k id ids (ids.length : Int) 0) (hasB ids id) := by simpa using h
  exact PrintWords.Ev.rounds (Ev.congr (g := fun k => spec_l3Has.f k ids id) (fun _ => rfl) h1)
end Go.Proofs.YtpfjboioeidecaaDoor.HPl
end
section
namespace Go.Proofs.YtpfjboioeidecaaDoor.HPl
open Go.RowKit Go.Proofs.YtpfjboioeidecaaDoorW.PrintWords Go.Proofs.YtpfjboioeidecaaDoorW.PrintLast Go.Proofs.YtpfjboioeidecaaDoor.HP Go.Proofs.YtpfjboioeidecaaDoor.HDig Go.Proofs.YtpfjboioeidecaaDoor.PQ Go.Proofs.YtpfjboioeidecaaDoor.HS Go.Proofs.YtpfjboioeidecaaDoorW
theorem wrap_id (e : Int) (h0 : -9223372036854775808 ≤ e) (h1 : e ≤ 9223372036854775807) : wrap64 e = e := by unfold wrap64; omega
theorem one_text (c : Int) (h0 : 0 ≤ c) (h1 : c < 256) : strOfNums [c] = ⟨#[UInt8.ofNat c.toNat]⟩ := rfl
theorem num_loop (n : Nat) : ∀ x3 : ByteArray, n + x3.size ≤ 4611686018427387903 →
    PrintWords.Ev (fun k => spec_l1Size.l0 k (n : Int) x3) (if n = 0 then x3 else ⟨(Lib.decDigits n).toArray⟩ ++ x3) := by
  induction n using Nat.strongRecOn with
  | ind n ih =>
    intro x3 hb
    by_cases h0 : n = 0
    · subst h0
      rw [if_pos rfl]
      exact Ev.step (f := fun _ => some x3) (fun k => by simp only [spec_l1Size.l0]; rw [if_pos (by rfl)]) (Ev.now _)
    · rw [if_neg h0]
      have e1 : Int.tmod (n : Int) 10 = ((n % 10 : Nat) : Int) := by rw [Int.tmod_eq_emod_of_nonneg (by omega)]; omega
      have e2 : Int.tdiv (n : Int) 10 = ((n / 10 : Nat) : Int) := by rw [Int.tdiv_eq_ediv_of_nonneg (by omega)]; omega
      have e3 : wrap64 (48 + ((n % 10 : Nat) : Int)) % 256 = 48 + ((n % 10 : Nat) : Int) := by rw [wrap_id _ (by omega) (by omega)]; omega
      have e4 : wrap64 ((n / 10 : Nat) : Int) = ((n / 10 : Nat) : Int) := wrap_id _ (by omega) (by omega)
      have e5 : strOfNums [48 + ((n % 10 : Nat) : Int)] = ⟨#[UInt8.ofNat (48 + n % 10)]⟩ := by
        rw [one_text _ (by omega) (by omega)]
        congr 3
      have e6 : (⟨#[UInt8.ofNat (48 + n % 10)]⟩ : ByteArray).size = 1 := rfl
      have h := ih (n / 10) (by omega) (⟨#[UInt8.ofNat (48 + n % 10)]⟩ ++ x3) (by rw [ByteArray.size_append, e6]; omega)
      have e7 : (if n / 10 = 0 then (⟨#[UInt8.ofNat (48 + n % 10)]⟩ ++ x3 : ByteArray) else ⟨(Lib.decDigits (n / 10)).toArray⟩ ++ (⟨#[UInt8.ofNat (48 + n % 10)]⟩ ++ x3)) = ⟨(Lib.decDigits n).toArray⟩ ++ x3 := by
        by_cases h1 : n < 10
        · have hd : Lib.decDigits n = [UInt8.ofNat (48 + n)] := by rw [Lib.decDigits, dif_pos h1]
          have : n % 10 = n := by omega
          rw [if_pos (by omega), hd, this]
        · have hd : Lib.decDigits n = Lib.decDigits (n / 10) ++ [UInt8.ofNat (48 + n % 10)] := by rw [Lib.decDigits, dif_neg h1]
          rw [if_neg (by omega), hd, ← ByteArray.append_assoc]
          congr 1
      rw [e7] at h
      refine Ev.step (f := fun k => spec_l1Size.l0 k ((n / 10 : Nat) : Int) (⟨#[UInt8.ofNat (48 + n % 10)]⟩ ++ x3)) (fun k => ?_) h
      simp only [spec_l1Size.l0]
      rw [if_neg (by omega), e1, if_neg (by omega)]
      simp only [Option.bind_some]
      rw [e3, e5, e2, e4, if_pos (by rw [e6]; omega)]
theorem num_at (n : Int) (h0 : 1 ≤ n) (h1 : n ≤ 1000000) : ∃ k, spec_l1Num.f k n = some ⟨(Lib.itoa n).toArray⟩ := by
  obtain ⟨m, rfl⟩ : ∃ m : Nat, n = (m : Int) := ⟨n.toNat, by omega⟩
  obtain ⟨k, hk⟩ := (num_loop m ⟨#[]⟩ (by show m + 0 ≤ _; omega)).rounds
  refine ⟨k, ?_⟩
  have hs : spec_l1Size.f k (m : Int) = some ⟨(Lib.itoa m).toArray⟩ := by
    unfold spec_l1Size.f
    rw [if_neg (by omega), hk, if_neg (by omega)]
    congr 1
    unfold Lib.itoa
    rw [if_neg (by omega)]
    apply text_inj
    rw [Go.ByteArray.toList_eq, Go.ByteArray.toList_eq]
    simp
  unfold spec_l1Num.f
  rw [if_neg (by omega), hs]
  rfl
def ql (q : Q4) : List Int := [q.1, q.2.1, q.2.2.1, q.2.2.2]
theorem tmod_of (e : Int) (h : 0 ≤ e) (m : Int) : Int.tmod e m = e % m := Int.tmod_eq_emod_of_nonneg h
theorem mix_val (p x q m : Int) (hp : 0 ≤ p ∧ p < 2147483579) (hx : 0 ≤ x ∧ x ≤ 255) (hq : 0 ≤ q ∧ q < 2147483579) (hm : 0 ≤ m ∧ m ≤ 1103515245) :
    Int.tmod (wrap64 (wrap64 (wrap64 (wrap64 (p * m) + x) + 1) + q)) 2147483579 = mixAt m x p q := by
  have h0 : 0 ≤ p * m := Int.mul_nonneg hp.1 hm.1
  have h1 : p * m ≤ 2147483579 * 1103515245 := Int.mul_le_mul (by omega) hm.2 hm.1 (by omega)
  rw [wrap_id (p * m) (by omega) (by omega), wrap_id (p * m + x) (by omega) (by omega), wrap_id (p * m + x + 1) (by omega) (by omega), wrap_id (p * m + x + 1 + q) (by omega) (by omega), tmod_of _ (by omega)]
  unfold mixAt
  rfl
theorem mix_ev (q : Q4) (x : Int) (hq : QOk q) (hx : 0 ≤ x ∧ x ≤ 255) : PrintWords.Ev (fun k => spec_l2Mix.f k (ql q) x) (ql (mix q x)) := by
  obtain ⟨a, b, c, d⟩ := q
  obtain ⟨ha, hb, hc, hd⟩ := hq
  simp only at ha hb hc hd
  have v0 := mix_val a x b 1103515245 ha hx hb (by omega)
  have v1 := mix_val b x c 69069 hb hx hc (by omega)
  have v2 := mix_val c x d 1664525 hc hx hd (by omega)
  have v3 := mix_val d x (mixAt 1103515245 x a b) 22695477 hd hx (mixAt_ok _ _ _ _) (by omega)
  have i1 : Int.tmod (wrap64 (0 + 1)) 4 = 1 := by rw [wrap_id _ (by omega) (by omega)]; rfl
  have i2 : Int.tmod (wrap64 (1 + 1)) 4 = 2 := by rw [wrap_id _ (by omega) (by omega)]; rfl
  have i3 : Int.tmod (wrap64 (2 + 1)) 4 = 3 := by rw [wrap_id _ (by omega) (by omega)]; rfl
  have i4 : Int.tmod (wrap64 (3 + 1)) 4 = 0 := by rw [wrap_id _ (by omega) (by omega)]; rfl
  have w1 : wrap64 (0 + 1) = 1 := wrap_id _ (by omega) (by omega)
  have w2 : wrap64 (1 + 1) = 2 := wrap_id _ (by omega) (by omega)
  have w3 : wrap64 (2 + 1) = 3 := wrap_id _ (by omega) (by omega)
  have w4 : wrap64 (3 + 1) = 4 := wrap_id _ (by omega) (by omega)
  refine Ev.congr (f := fun k => spec_l2Mix.l0 k [a, b, c, d] x [1103515245, 69069, 1664525, 22695477] 0) (fun _ => rfl) ?_
  refine Ev.step (f := fun k => spec_l2Mix.l0 k [mixAt 1103515245 x a b, b, c, d] x [1103515245, 69069, 1664525, 22695477] 1) (fun k => ?_) ?_
  · simp only [spec_l2Mix.l0]
    rw [i1, if_pos (by decide), if_pos (by decide), if_pos (by simp), if_pos (by simp), if_pos (by decide), if_pos (by simp), w1]
    show spec_l2Mix.l0 k [Int.tmod (wrap64 (wrap64 (wrap64 (wrap64 (a * 1103515245) + x) + 1) + b)) 2147483579, b, c, d] x _ 1 = _
    rw [v0]
  refine Ev.step (f := fun k => spec_l2Mix.l0 k [mixAt 1103515245 x a b, mixAt 69069 x b c, c, d] x [1103515245, 69069, 1664525, 22695477] 2) (fun k => ?_) ?_
  · simp only [spec_l2Mix.l0]
    rw [i2, if_pos (by decide), if_pos (by decide), if_pos (by simp), if_pos (by simp), if_pos (by decide), if_pos (by simp), w2]
    show spec_l2Mix.l0 k [_, Int.tmod (wrap64 (wrap64 (wrap64 (wrap64 (b * 69069) + x) + 1) + c)) 2147483579, c, d] x _ 2 = _
    rw [v1]
  refine Ev.step (f := fun k => spec_l2Mix.l0 k [mixAt 1103515245 x a b, mixAt 69069 x b c, mixAt 1664525 x c d, d] x [1103515245, 69069, 1664525, 22695477] 3) (fun k => ?_) ?_
  · simp only [spec_l2Mix.l0]
    rw [i3, if_pos (by decide), if_pos (by decide), if_pos (by simp), if_pos (by simp), if_pos (by decide), if_pos (by simp), w3]
    show spec_l2Mix.l0 k [_, _, Int.tmod (wrap64 (wrap64 (wrap64 (wrap64 (c * 1664525) + x) + 1) + d)) 2147483579, d] x _ 3 = _
    rw [v2]
  refine Ev.step (f := fun k => spec_l2Mix.l0 k (ql (mix (a, b, c, d) x)) x [1103515245, 69069, 1664525, 22695477] 4) (fun k => ?_) ?_
  · simp only [spec_l2Mix.l0]
    rw [i4, if_pos (by decide), if_pos (by decide), if_pos (by simp), if_pos (by simp), if_pos (by decide), if_pos (by simp), w4]
    show spec_l2Mix.l0 k [_, _, _, Int.tmod (wrap64 (wrap64 (wrap64 (wrap64 (d * 22695477) + x) + 1) + (mixAt 1103515245 x a b))) 2147483579] x _ 4 = _
    rw [v3]
    rfl
  exact Ev.step (f := fun _ => some (ql (mix (a, b, c, d) x))) (fun k => by simp only [spec_l2Mix.l0]; rw [if_neg (by decide)]) (Ev.now _)
theorem rd_nat (l : List Int) (i : Nat) (h : i < l.length) : rd l (i : Int) = l[i] := by simp [rd, List.getD_eq_getElem?_getD, List.getElem?_eq_getElem h]
theorem mixes_nil (q : Q4) : mixes q [] = q := rfl
theorem mixes_cons (q : Q4) (x : Int) (l : List Int) : mixes q (x :: l) = mixes (mix q x) l := rfl
theorem bytes_at {n : Int} (h0 : 0 ≤ n) (h1 : n < 4294967296) : HDig.spec_l2Bytes.f n = some (b4 n) := if_pos ⟨h0, h1⟩
theorem dig3 (q : Q4) (hq : QOk q) : PrintWords.Ev (fun k => spec_l2Digest.l3 k [] (ql q) 4 0) (out4 q) := by
  obtain ⟨a, b, c, d⟩ := q
  obtain ⟨ha, hb, hc, hd⟩ := hq
  simp only at ha hb hc hd
  have w1 : wrap64 (0 + 1) = 1 := wrap_id _ (by omega) (by omega)
  have w2 : wrap64 (1 + 1) = 2 := wrap_id _ (by omega) (by omega)
  have w3 : wrap64 (2 + 1) = 3 := wrap_id _ (by omega) (by omega)
  have w4 : wrap64 (3 + 1) = 4 := wrap_id _ (by omega) (by omega)
  have r0 : rd (ql (a, b, c, d)) 0 = a := rfl
  have r1 : rd (ql (a, b, c, d)) 1 = b := rfl
  have r2 : rd (ql (a, b, c, d)) 2 = c := rfl
  have r3 : rd (ql (a, b, c, d)) 3 = d := rfl
  have hl : ((ql (a, b, c, d)).length : Int) = 4 := rfl
  refine Ev.step (f := fun k => spec_l2Digest.l3 k ([] ++ b4 a) (ql (a, b, c, d)) 4 1) (fun k => ?_) ?_
  · simp only [spec_l2Digest.l3]
    rw [hl, r0, bytes_at (by omega) (by omega), if_pos (by decide), if_pos (by decide), if_pos (by decide), w1]
    simp only [Option.bind_some]
    rw [if_pos (by simp [b4])]
  refine Ev.step (f := fun k => spec_l2Digest.l3 k ([] ++ b4 a ++ b4 b) (ql (a, b, c, d)) 4 2) (fun k => ?_) ?_
  · simp only [spec_l2Digest.l3]
    rw [hl, r1, bytes_at (by omega) (by omega), if_pos (by decide), if_pos (by decide), if_pos (by decide), w2]
    simp only [Option.bind_some]
    rw [if_pos (by simp [b4])]
  refine Ev.step (f := fun k => spec_l2Digest.l3 k ([] ++ b4 a ++ b4 b ++ b4 c) (ql (a, b, c, d)) 4 3) (fun k => ?_) ?_
  · simp only [spec_l2Digest.l3]
    rw [hl, r2, bytes_at (by omega) (by omega), if_pos (by decide), if_pos (by decide), if_pos (by decide), w3]
    simp only [Option.bind_some]
    rw [if_pos (by simp [b4])]
  refine Ev.step (f := fun k => spec_l2Digest.l3 k ([] ++ b4 a ++ b4 b ++ b4 c ++ b4 d) (ql (a, b, c, d)) 4 4) (fun k => ?_) ?_
  · simp only [spec_l2Digest.l3]
    rw [hl, r3, bytes_at (by omega) (by omega), if_pos (by decide), if_pos (by decide), if_pos (by decide), w4]
    simp only [Option.bind_some]
    rw [if_pos (by simp [b4])]
  exact Ev.step (f := fun _ => some (out4 (a, b, c, d))) (fun k => by simp only [spec_l2Digest.l3]; rw [if_neg (by decide)]; rfl) (Ev.now _)
theorem dig2 (n : Nat) : ∀ (q : Q4), QOk q → n ≤ 8 → PrintWords.Ev (fun k => spec_l2Digest.l2 k (ql q) ((8 - n : Nat) : Int)) (out4 (mixes q (List.replicate n 0))) := by
  induction n with
  | zero =>
    intro q hq _
    refine Ev.step (f := fun k => spec_l2Digest.l3 k [] (ql q) 4 0) (fun k => ?_) (dig3 q hq)
    simp only [spec_l2Digest.l2]
    rw [if_neg (by omega)]
    rfl
  | succ n ih =>
    intro q hq hn
    have h := ih (mix q 0) (mix_ok q 0) (by omega)
    have hm := mix_ev q 0 hq (by omega)
    have e : wrap64 (((8 - (n + 1) : Nat) : Int) + 1) = ((8 - n : Nat) : Int) := by rw [wrap_id _ (by omega) (by omega)]; omega
    refine Ev.step (f := fun k => (spec_l2Mix.f k (ql q) 0).bind fun t => spec_l2Digest.l2 k t ((8 - n : Nat) : Int)) (fun k => ?_) (Ev.bind hm h)
    simp only [spec_l2Digest.l2]
    rw [if_pos (by omega), e]
theorem dig1 (ys : List Int) (hy : Byt ys) (hl : ys.length ≤ 1000000) (d : Nat) : ∀ (i : Nat) (q : Q4), QOk q → ys.length - i = d → i ≤ ys.length →
    PrintWords.Ev (fun k => spec_l2Digest.l1 k (ql q) ys (ys.length : Int) (i : Int)) (out4 (mixes (mixes q (ys.drop i)) (List.replicate 8 0))) := by
  induction d with
  | zero =>
    intro i q hq hd hi
    have e : ys.drop i = [] := List.drop_of_length_le (by omega)
    rw [e, mixes_nil]
    refine Ev.step (f := fun k => spec_l2Digest.l2 k (ql q) 0) (fun k => ?_) (by simpa using dig2 8 q hq (by omega))
    simp only [spec_l2Digest.l1]
    rw [if_neg (by omega)]
  | succ d ih =>
    intro i q hq hd hi
    have hlt : i < ys.length := by omega
    have hx := hy ys[i] (List.getElem_mem hlt)
    have h := ih (i + 1) (mix q ys[i]) (mix_ok _ _) (by omega) (by omega)
    have hm := mix_ev q ys[i] hq hx
    rw [List.drop_eq_getElem_cons hlt, mixes_cons]
    refine Ev.step (f := fun k => (spec_l2Mix.f k (ql q) ys[i]).bind fun t => spec_l2Digest.l1 k t ys (ys.length : Int) ((i + 1 : Nat) : Int)) (fun k => ?_) (Ev.bind hm h)
    simp only [spec_l2Digest.l1]
    rw [if_pos (by omega), if_pos (by omega), if_pos (by omega), rd_nat ys i hlt, wrap_id ys[i] (by omega) (by omega), wrap_nat i (by omega)]
theorem dig0 (l : List Int) (hy : Byt l) (hl : l.length ≤ 1000000) (d : Nat) : ∀ (i : Nat) (q : Q4), QOk q → l.length - i = d → i ≤ l.length →
    PrintWords.Ev (fun k => spec_l2Digest.l0 k l (ql q) l (l.length : Int) (i : Int)) (out4 (mixes (mixes (mixes q (l.drop i)) (b4 l.length)) (List.replicate 8 0))) := by
  induction d with
  | zero =>
    intro i q hq hd hi
    have e : l.drop i = [] := List.drop_of_length_le (by omega)
    rw [e, mixes_nil]
    have h := dig1 (b4 l.length) (b4_byt _) (by rw [b4_len]; omega) 4 0 q hq (by rw [b4_len]) (by omega)
    refine Ev.step (f := fun k => spec_l2Digest.l1 k (ql q) (b4 l.length) ((b4 l.length).length : Int) 0) (fun k => ?_) (by simpa using h)
    simp only [spec_l2Digest.l0]
    rw [if_neg (by omega), bytes_at (by omega) (by omega)]
    rfl
  | succ d ih =>
    intro i q hq hd hi
    have hlt : i < l.length := by omega
    have hx := hy l[i] (List.getElem_mem hlt)
    have h := ih (i + 1) (mix q l[i]) (mix_ok _ _) (by omega) (by omega)
    have hm := mix_ev q l[i] hq hx
    rw [List.drop_eq_getElem_cons hlt, mixes_cons]
    refine Ev.step (f := fun k => (spec_l2Mix.f k (ql q) l[i]).bind fun t => spec_l2Digest.l0 k l t l (l.length : Int) ((i + 1 : Nat) : Int)) (fun k => ?_) (Ev.bind hm h)
    simp only [spec_l2Digest.l0]
    rw [if_pos (by omega), if_pos (by omega), if_pos (by omega), rd_nat l i hlt, wrap_id l[i] (by omega) (by omega), wrap_nat i (by omega)]
theorem dig_ev (l : List Int) (hy : Byt l) (hl : l.length ≤ 1000000) : PrintWords.Ev (fun k => spec_l2Digest.f k l) (digest l) := by
  have h := dig0 l hy hl l.length 0 start4 start4_ok (by omega) (by omega)
  have h1 : PrintWords.Ev (fun k => spec_l2Digest.l0 k l (ql start4) l (l.length : Int) 0) (digest l) := by simpa [digest] using h
  exact Ev.congr (fun _ => rfl) h1
theorem mac_ev (a b : List Int) (ha : Byt a) (hb : Byt b) (hla : a.length ≤ 1000000) (hlb : b.length ≤ 1000000) : PrintWords.Ev (fun k => spec_l2Mac.f k a b) (digest (digest a ++ digest b)) := by
  have h1 := dig_ev a ha hla
  have h2 := dig_ev b hb hlb
  have h3 := dig_ev (digest a ++ digest b) (byt_append (digest_byt _) (digest_byt _)) (by rw [List.length_append, digest_len, digest_len]; omega)
  have h4 : PrintWords.Ev (fun k => spec_l2Two.f k (digest a) (digest b)) (digest (digest a ++ digest b)) := by
    refine Ev.congr (f := fun k => (spec_l2Digest.f k (digest a ++ digest b)).bind fun t => some t) (fun k => ?_) (Ev.bind h3 (Ev.now _))
    unfold spec_l2Two.f
    rw [if_pos (by rw [digest_len]; decide)]
    simp only [Option.bind_some, List.nil_append]
    rw [if_pos (by rw [digest_len, digest_len]; decide)]
  exact Ev.congr (fun _ => rfl) (Ev.bind h1 (f := fun k t => (spec_l2Digest.f k b).bind fun t2 => (spec_l2Two.f k t t2).bind fun t3 => some t3) (Ev.bind h2 (f := fun k t2 => (spec_l2Two.f k (digest a) t2).bind fun t3 => some t3) (Ev.bind h4 (Ev.now _))))
theorem mac_at (a b : List Int) (ha : Byt a) (hb : Byt b) (hla : a.length ≤ 1000000) (hlb : b.length ≤ 1000000) : ∃ k, spec_l2Mac.f k a b = some (digest (digest a ++ digest b)) := (mac_ev a b ha hb hla hlb).rounds
end Go.Proofs.YtpfjboioeidecaaDoor.HPl
end
section
namespace Go.Proofs.YtpfjboioeidecaaDoor.HL
open Go.RowKit Go.Proofs.YtpfjboioeidecaaDoorW.PrintWords Go.Proofs.YtpfjboioeidecaaDoorW.PrintLast Go.Proofs.YtpfjboioeidecaaDoor.HPl Go.Proofs.YtpfjboioeidecaaDoor.PQ Go.Proofs.YtpfjboioeidecaaDoorW
abbrev SE := S34
abbrev SR := S31
abbrev SL := S83
theorem set_mid {α : Type} (pre rest : List α) (a b : α) : (pre ++ a :: rest).set pre.length b = pre ++ b :: rest := by simp
theorem set_nat {α : Type} (pre rest : List α) (a b : α) (i : Nat) (h : pre.length = i) : (pre ++ a :: rest).set ((i : Nat) : Int).toNat b = pre ++ b :: rest := by
  subst h; rw [Int.toNat_natCast]; exact set_mid _ _ _ _
theorem rd_mid {α : Type} (z : α) (pre rest : List α) (a : α) (i : Nat) (h : pre.length = i) : (pre ++ a :: rest).getD ((i : Nat) : Int).toNat z = a := by
  subst h; rw [Int.toNat_natCast]; simp
theorem rdI_mid (pre rest : List Int) (a : Int) (i : Nat) (h : pre.length = i) : rd (pre ++ a :: rest) (i : Int) = a := rd_mid _ _ _ _ _ h
theorem rdR_mid (pre rest : List SR) (a : SR) (i : Nat) (h : pre.length = i) : rd_T31 (pre ++ a :: rest) (i : Int) = a := rd_mid _ _ _ _ _ h
theorem rdE_mid (pre rest : List SE) (a : SE) (i : Nat) (h : pre.length = i) : rd_T34 (pre ++ a :: rest) (i : Int) = a := rd_mid _ _ _ _ _ h
theorem rdL_mid (pre rest : List SL) (a : SL) (i : Nat) (h : pre.length = i) : rd_T83 (pre ++ a :: rest) (i : Int) = a := rd_mid _ _ _ _ _ h
theorem len_mid {α : Type} (pre rest : List α) (a : α) : (pre ++ a :: rest).length = pre.length + 1 + rest.length := by simp; omega
theorem szConf_at (l : List Int) (a b : Int) (hl : l.length ≤ 140737488351232) : laws_szSessConf.f l a b 1048576 = some (if 1048576 < l.length then -1 else 1048576 - (l.length : Int)) := by
  unfold laws_szSessConf.f laws_szByteS.f
  rw [wrap_id _ (by omega) (by omega)]
  by_cases h : 1048576 < l.length
  · rw [if_pos (by omega), if_pos h]; simp only [Option.bind_some]; rw [if_pos (by omega)]
  · rw [if_neg (by omega), if_neg h]; simp only [Option.bind_some]; rw [if_neg (by omega)]
theorem szEv1 (e : SL) (left : Int) (h0 : 0 ≤ left) (h1 : left ≤ 1048576) (hs : e.f2.size ≤ 140737488351232 ∧ e.f3.size ≤ 140737488351232 ∧ e.f4.size ≤ 140737488351232) :
    ∃ r, laws_szSessEvent.f e.f0 e.f1 e.f2 e.f3 e.f4 left = some r ∧ (r = -1 ∨ (0 ≤ r ∧ r ≤ left ∧ e.f2.size ≤ 1048576 ∧ e.f3.size ≤ 1048576 ∧ e.f4.size ≤ 1048576)) := by
  unfold laws_szSessEvent.f
  rw [wrap_id (left - (e.f2.size : Int)) (by omega) (by omega), wrap_id (left - (e.f2.size : Int) - (e.f3.size : Int)) (by omega) (by omega), wrap_id (left - (e.f2.size : Int) - (e.f3.size : Int) - (e.f4.size : Int)) (by omega) (by omega)]
  by_cases c1 : left - (e.f2.size : Int) < 0
  · rw [if_pos c1]; exact ⟨_, rfl, .inl rfl⟩
  · rw [if_neg c1]
    by_cases c2 : left - (e.f2.size : Int) - (e.f3.size : Int) < 0
    · rw [if_pos c2]; exact ⟨_, rfl, .inl rfl⟩
    · rw [if_neg c2]
      by_cases c3 : left - (e.f2.size : Int) - (e.f3.size : Int) - (e.f4.size : Int) < 0
      · rw [if_pos c3]; exact ⟨_, rfl, .inl rfl⟩
      · rw [if_neg c3]; exact ⟨_, rfl, .inr (by omega)⟩
def Fits (l : List SL) : Prop := ∀ e ∈ l, e.f2.size ≤ 1048576 ∧ e.f3.size ≤ 1048576 ∧ e.f4.size ≤ 1048576
theorem szEv_loop (rest : List SL) : ∀ (pre : List SL) (left : Int), 0 ≤ left → left ≤ 1048576 → (∀ e ∈ rest, e.f2.size ≤ 140737488351232 ∧ e.f3.size ≤ 140737488351232 ∧ e.f4.size ≤ 140737488351232) → (pre ++ rest).length ≤ 140737488351232 →
    ∃ r, Ev (fun k => laws_szSessEventS.l0 k (pre ++ rest) left (pre.length : Int)) r ∧ (r = -1 ∨ (0 ≤ r ∧ Fits rest)) := by
  induction rest with
  | nil =>
    intro pre left h0 h1 _ hl
    refine ⟨left, Ev.step (f := fun _ => some left) (fun k => ?_) (Ev.now _), .inr ⟨h0, fun e he => by cases he⟩⟩
    simp only [laws_szSessEventS.l0]
    rw [if_neg (by simp)]
  | cons e rest ih =>
    intro pre left h0 h1 hs hl
    obtain ⟨t, ht, hor⟩ := szEv1 e left h0 h1 (hs e (by simp))
    have hlen := len_mid pre rest e
    rcases hor with rfl | ⟨g0, g1, g2, g3, g4⟩
    · refine ⟨-1, Ev.step (f := fun _ => some (-1)) (fun k => ?_) (Ev.now _), .inl rfl⟩
      simp only [laws_szSessEventS.l0]
      rw [if_pos (by omega), if_pos (by omega), rdL_mid _ _ _ _ rfl, ht]
      simp only [Option.bind_some]
      rw [if_pos (by omega)]
    · obtain ⟨r, hr, hor⟩ := ih (pre ++ [e]) t g0 (by omega) (fun x hx => hs x (by simp [hx])) (by simpa using hl)
      have hr2 : Ev (fun k => laws_szSessEventS.l0 k (pre ++ e :: rest) t ((pre.length + 1 : Nat) : Int)) r := by simpa using hr
      refine ⟨r, Ev.step (f := fun k => laws_szSessEventS.l0 k (pre ++ e :: rest) t ((pre.length + 1 : Nat) : Int)) (fun k => ?_) hr2, ?_⟩
      · simp only [laws_szSessEventS.l0]
        rw [if_pos (by omega), if_pos (by omega), rdL_mid _ _ _ _ rfl, ht]
        simp only [Option.bind_some]
        rw [if_neg (by omega), wrap_nat _ (by omega)]
      · rcases hor with h | ⟨h, hf⟩
        · exact .inl h
        · refine .inr ⟨h, fun x hx => ?_⟩
          rcases List.mem_cons.1 hx with rfl | h3
          · exact ⟨g2, g3, g4⟩
          · exact hf x h3
theorem szEv_at (l : List SL) (left : Int) (h0 : 0 ≤ left) (h1 : left ≤ 1048576) (hs : ∀ e ∈ l, e.f2.size ≤ 140737488351232 ∧ e.f3.size ≤ 140737488351232 ∧ e.f4.size ≤ 140737488351232) (hl : l.length ≤ 140737488351232) :
    ∃ k r, laws_szSessEventS.f k l left = some r ∧ (r = -1 ∨ (0 ≤ r ∧ l.length ≤ 1048576 ∧ Fits l)) := by
  by_cases c : left - (l.length : Int) < 0
  · refine ⟨0, -1, ?_, .inl rfl⟩
    unfold laws_szSessEventS.f
    rw [wrap_id _ (by omega) (by omega), if_pos c]
  · obtain ⟨r, hr, hor⟩ := szEv_loop l [] (left - (l.length : Int)) (by omega) (by omega) hs (by simpa using hl)
    obtain ⟨k, hk⟩ := Ev.rounds hr
    refine ⟨k, r, ?_, ?_⟩
    · unfold laws_szSessEventS.f
      rw [wrap_id _ (by omega) (by omega), if_neg c]
      exact hk
    · rcases hor with h | ⟨h, hf⟩
      · exact .inl h
      · exact .inr ⟨h, by omega, hf⟩
theorem toB_loop (rest : List Int) : ∀ (pre zs : List Int), zs.length = rest.length → (pre ++ rest).length ≤ 140737488351232 → Ev (fun k => laws_toByteS.l0 k (pre ++ rest) (pre ++ zs) (pre.length : Int)) (pre ++ rest) := by
  induction rest with
  | nil =>
    intro pre zs hz hl
    obtain rfl : zs = [] := List.length_eq_zero_iff.1 hz
    refine Ev.step (f := fun _ => some (pre ++ [])) (fun k => ?_) (Ev.now _)
    simp only [laws_toByteS.l0]
    rw [if_neg (by simp)]
  | cons x rest ih =>
    intro pre zs hz hl
    match zs, hz with
    | z :: zs, hz =>
      have h := ih (pre ++ [x]) zs (by simpa using hz) (by simpa using hl)
      have h2 : Ev (fun k => laws_toByteS.l0 k (pre ++ x :: rest) (pre ++ x :: zs) ((pre.length + 1 : Nat) : Int)) (pre ++ x :: rest) := by simpa using h
      have hlen := len_mid pre rest x
      have hlen2 := len_mid pre zs z
      refine Ev.step (f := fun k => laws_toByteS.l0 k (pre ++ x :: rest) (pre ++ x :: zs) ((pre.length + 1 : Nat) : Int)) (fun k => ?_) h2
      simp only [laws_toByteS.l0]
      rw [if_pos (by omega), if_pos (by omega), if_pos (by omega), rdI_mid _ _ _ _ rfl, set_nat _ _ _ _ _ rfl, wrap_nat _ (by omega)]
theorem toConf_at (l : List Int) (a b : Int) (hl : l.length ≤ 140737488351232) : ∃ k, laws_toSessConf.f k l a b = some (l, a, b) := by
  have h := toB_loop l [] (List.replicate l.length 0) (by simp) (by simpa using hl)
  obtain ⟨k, hk⟩ := Ev.rounds h
  refine ⟨k, ?_⟩
  unfold laws_toSessConf.f laws_toByteS.f
  rw [if_pos (by omega), if_pos (by omega), Int.toNat_natCast]
  have hk2 : laws_toByteS.l0 k l (List.replicate l.length 0) 0 = some l := by simpa using hk
  rw [hk2]
  rfl
def e34 (e : SL) : SE := ⟨e.f0, e.f1, e.f2, e.f3, e.f4⟩
theorem toE_loop (rest : List SL) : ∀ (pre : List SL) (zs : List SE), zs.length = rest.length → (pre ++ rest).length ≤ 1048576 → Ev (fun k => laws_toSessEventS.l0 k (pre ++ rest) (pre.map e34 ++ zs) (pre.length : Int)) ((pre ++ rest).map e34) := by
  induction rest with
  | nil =>
    intro pre zs hz hl
    obtain rfl : zs = [] := List.length_eq_zero_iff.1 hz
    refine Ev.step (f := fun _ => some (pre.map e34 ++ [])) (fun k => ?_) (by simpa using Ev.now _)
    simp only [laws_toSessEventS.l0]
    rw [if_neg (by simp)]
  | cons x rest ih =>
    intro pre zs hz hl
    match zs, hz with
    | z :: zs, hz =>
      have h := ih (pre ++ [x]) zs (by simpa using hz) (by simpa using hl)
      have h2 : Ev (fun k => laws_toSessEventS.l0 k (pre ++ x :: rest) (pre.map e34 ++ e34 x :: zs) ((pre.length + 1 : Nat) : Int)) ((pre ++ x :: rest).map e34) := by simpa using h
      have hlen := len_mid pre rest x
      have hlen2 := len_mid (pre.map e34) zs z
      have hpl : (pre.map e34).length = pre.length := by simp
      refine Ev.step (f := fun k => laws_toSessEventS.l0 k (pre ++ x :: rest) (pre.map e34 ++ e34 x :: zs) ((pre.length + 1 : Nat) : Int)) (fun k => ?_) h2
      simp only [laws_toSessEventS.l0]
      rw [if_pos (by omega), if_pos (by omega), rdL_mid _ _ _ _ rfl]
      simp only [laws_toSessEvent.f, Option.bind_some]
      rw [if_pos (by omega), set_nat _ _ _ _ _ hpl, wrap_nat _ (by omega)]
      rfl
theorem toEv_at (l : List SL) (hl : l.length ≤ 1048576) : ∃ k, laws_toSessEventS.f k l = some (l.map e34) := by
  have h := toE_loop l [] (List.replicate l.length z34) (by simp) (by simpa using hl)
  obtain ⟨k, hk⟩ := Ev.rounds h
  refine ⟨k, ?_⟩
  unfold laws_toSessEventS.f
  rw [if_pos (by omega), if_pos (by omega), Int.toNat_natCast]
  simpa using hk
theorem eqR1 (a : SR) : laws_eqSessReply.f a.f0 a.f1 a.f2 a.f3 a.f0 a.f1 a.f2 a.f3 = some true := by
  unfold laws_eqSessReply.f
  rw [if_pos rfl, if_pos rfl, if_pos rfl, if_pos rfl]
theorem eqE1 (a : SE) : laws_eqSessEvent.f a.f0 a.f1 a.f2 a.f3 a.f4 a.f0 a.f1 a.f2 a.f3 a.f4 = some true := by
  unfold laws_eqSessEvent.f
  rw [if_pos rfl, if_pos rfl, if_pos rfl, if_pos rfl, if_pos rfl]
theorem eqR_at (l : List SR) (hl : l.length ≤ 1048576) : ∃ k, laws_eqSessReplyS.f k l l = some true := by
  have hloop : ∀ (d i : Nat), l.length - i = d → Ev (fun k => laws_eqSessReplyS.l0 k l l (i : Int)) true := by
    intro d
    induction d with
    | zero =>
      intro i hd
      refine Ev.step (f := fun _ => some true) (fun k => ?_) (Ev.now _)
      simp only [laws_eqSessReplyS.l0]
      rw [if_neg (by omega)]
    | succ d ih =>
      intro i hd
      refine Ev.step (f := fun k => laws_eqSessReplyS.l0 k l l ((i + 1 : Nat) : Int)) (fun k => ?_) (ih (i + 1) (by omega))
      simp only [laws_eqSessReplyS.l0]
      rw [if_pos (by omega), if_pos (by omega), if_pos (by omega), eqR1]
      simp only [Option.bind_some]
      rw [if_pos trivial, wrap_nat _ (by omega)]
  obtain ⟨k, hk⟩ := Ev.rounds (hloop l.length 0 (by omega))
  refine ⟨k, ?_⟩
  unfold laws_eqSessReplyS.f
  rw [if_pos rfl]
  exact hk
theorem eqE_at (l : List SE) (hl : l.length ≤ 1048576) : ∃ k, laws_eqSessEventS.f k l l = some true := by
  have hloop : ∀ (d i : Nat), l.length - i = d → Ev (fun k => laws_eqSessEventS.l0 k l l (i : Int)) true := by
    intro d
    induction d with
    | zero =>
      intro i hd
      refine Ev.step (f := fun _ => some true) (fun k => ?_) (Ev.now _)
      simp only [laws_eqSessEventS.l0]
      rw [if_neg (by omega)]
    | succ d ih =>
      intro i hd
      refine Ev.step (f := fun k => laws_eqSessEventS.l0 k l l ((i + 1 : Nat) : Int)) (fun k => ?_) (ih (i + 1) (by omega))
      simp only [laws_eqSessEventS.l0]
      rw [if_pos (by omega), if_pos (by omega), if_pos (by omega), eqE1]
      simp only [Option.bind_some]
      rw [if_pos trivial, wrap_nat _ (by omega)]
  obtain ⟨k, hk⟩ := Ev.rounds (hloop l.length 0 (by omega))
  refine ⟨k, ?_⟩
  unfold laws_eqSessEventS.f
  rw [if_pos rfl]
  exact hk
theorem eqC_at (l : List Int) (a b : Int) (hl : l.length ≤ 1048576) : ∃ k, laws_eqSessConf.f k l a b l a b = some true := by
  have hloop : ∀ (d i : Nat), l.length - i = d → Ev (fun k => laws_eqByteS.l0 k l l (i : Int)) true := by
    intro d
    induction d with
    | zero =>
      intro i hd
      refine Ev.step (f := fun _ => some true) (fun k => ?_) (Ev.now _)
      simp only [laws_eqByteS.l0]
      rw [if_neg (by omega)]
    | succ d ih =>
      intro i hd
      refine Ev.step (f := fun k => laws_eqByteS.l0 k l l ((i + 1 : Nat) : Int)) (fun k => ?_) (ih (i + 1) (by omega))
      simp only [laws_eqByteS.l0]
      rw [if_pos (by omega), if_pos (by omega), if_pos (by omega), if_pos trivial, wrap_nat _ (by omega)]
  obtain ⟨k, hk⟩ := Ev.rounds (hloop l.length 0 (by omega))
  refine ⟨k, ?_⟩
  have hb : laws_eqByteS.f k l l = some true := by
    unfold laws_eqByteS.f
    rw [if_pos rfl]
    exact hk
  unfold laws_eqSessConf.f
  rw [hb]
  simp only [Option.bind_some]
  rw [if_pos trivial, if_pos trivial, if_pos trivial]
def mtext (a : Int) : ByteArray := if a ≤ 0 then ⟨#[109, 48]⟩ else ⟨#[109]⟩ ++ ⟨(Lib.decDigits a.toNat).toArray⟩
theorem mark_loop (n : Nat) : ∀ x3 : ByteArray, n + x3.size ≤ 4611686018427387903 → Ev (fun k => laws_markText.l0 k (n : Int) x3) (⟨#[109]⟩ ++ (if n = 0 then x3 else ⟨(Lib.decDigits n).toArray⟩ ++ x3)) := by
  induction n using Nat.strongRecOn with
  | ind n ih =>
    intro x3 hb
    by_cases h0 : n = 0
    · subst h0
      rw [if_pos rfl]
      refine Ev.step (f := fun _ => some (⟨#[109]⟩ ++ x3)) (fun k => ?_) (Ev.now _)
      simp only [laws_markText.l0]
      rw [if_neg (by omega), if_pos (by omega)]
    · rw [if_neg h0]
      have e1 : Int.tmod (n : Int) 10 = ((n % 10 : Nat) : Int) := by rw [Int.tmod_eq_emod_of_nonneg (by omega)]; omega
      have e2 : Int.tdiv (n : Int) 10 = ((n / 10 : Nat) : Int) := by rw [Int.tdiv_eq_ediv_of_nonneg (by omega)]; omega
      have e3 : wrap64 (48 + ((n % 10 : Nat) : Int)) % 256 = 48 + ((n % 10 : Nat) : Int) := by rw [wrap_id _ (by omega) (by omega)]; omega
      have e4 : wrap64 ((n / 10 : Nat) : Int) = ((n / 10 : Nat) : Int) := wrap_id _ (by omega) (by omega)
      have e5 : strOfNums [48 + ((n % 10 : Nat) : Int)] = ⟨#[UInt8.ofNat (48 + n % 10)]⟩ := by
        rw [one_text _ (by omega) (by omega)]
        congr 3
      have e6 : (⟨#[UInt8.ofNat (48 + n % 10)]⟩ : ByteArray).size = 1 := rfl
      have h := ih (n / 10) (by omega) (⟨#[UInt8.ofNat (48 + n % 10)]⟩ ++ x3) (by rw [ByteArray.size_append, e6]; omega)
      have e7 : (if n / 10 = 0 then (⟨#[UInt8.ofNat (48 + n % 10)]⟩ ++ x3 : ByteArray) else ⟨(Lib.decDigits (n / 10)).toArray⟩ ++ (⟨#[UInt8.ofNat (48 + n % 10)]⟩ ++ x3)) = ⟨(Lib.decDigits n).toArray⟩ ++ x3 := by
        by_cases h1 : n < 10
        · have hd : Lib.decDigits n = [UInt8.ofNat (48 + n)] := by rw [Lib.decDigits, dif_pos h1]
          have : n % 10 = n := by omega
          rw [if_pos (by omega), hd, this]
        · have hd : Lib.decDigits n = Lib.decDigits (n / 10) ++ [UInt8.ofNat (48 + n % 10)] := by rw [Lib.decDigits, dif_neg h1]
          rw [if_neg (by omega), hd, ← ByteArray.append_assoc]
          congr 1
      rw [e7] at h
      refine Ev.step (f := fun k => laws_markText.l0 k ((n / 10 : Nat) : Int) (⟨#[UInt8.ofNat (48 + n % 10)]⟩ ++ x3)) (fun k => ?_) h
      simp only [laws_markText.l0]
      rw [if_pos (by omega), e1]
      simp only [Option.bind_some]
      rw [e3, e5, e2, e4, if_pos (by rw [e6]; omega)]
theorem mtext_ev (a : Int) (h : a ≤ 4611686018427387900) : Ev (fun k => laws_markText.f k a) (mtext a) := by
  by_cases h0 : a ≤ 0
  · refine Ev.congr (f := fun _ => some ⟨#[109, 48]⟩) (fun k => ?_) (by unfold mtext; rw [if_pos h0]; exact Ev.now _)
    unfold laws_markText.f
    rw [if_pos h0]
  · have h1 := mark_loop a.toNat ⟨#[]⟩ (by show a.toNat + 0 ≤ _; omega)
    have e : (⟨#[109]⟩ ++ (if a.toNat = 0 then (⟨#[]⟩ : ByteArray) else ⟨(Lib.decDigits a.toNat).toArray⟩ ++ ⟨#[]⟩) : ByteArray) = mtext a := by
      unfold mtext
      rw [if_neg h0, if_neg (by omega)]
      congr 1
      apply text_inj
      simp [Go.ByteArray.toList_eq]
    rw [e, Int.toNat_of_nonneg (by omega)] at h1
    refine Ev.congr (fun k => ?_) h1
    unfold laws_markText.f
    rw [if_neg h0]
def mk : Nat → Int → List SR
  | 0, _ => []
  | n + 1, m => ⟨m, mtext (m + 1), mtext (m + 2), m + 3⟩ :: mk n (m + 4)
theorem mk_len (n : Nat) : ∀ m, (mk n m).length = n := by
  induction n with
  | zero => intro m; rfl
  | succ n ih => intro m; simp [mk, ih]
theorem markR_loop (rest : List SR) : ∀ (pre : List SR) (m : Int), 0 ≤ m → m + 4 * rest.length ≤ 1000000000 → (pre ++ rest).length ≤ 1048576 →
    Ev (fun k => laws_markSessReplyS.l0 k (pre ++ rest) m (pre.length : Int)) (m + 4 * rest.length, pre ++ mk rest.length m) := by
  induction rest with
  | nil =>
    intro pre m h0 h1 hl
    refine Ev.step (f := fun _ => some (m, pre ++ [])) (fun k => ?_) (by simpa [mk] using Ev.now _)
    simp only [laws_markSessReplyS.l0]
    rw [if_neg (by simp)]
  | cons x rest ih =>
    intro pre m h0 h1 hl
    simp only [List.length_cons] at h1
    have h := ih (pre ++ [⟨m, mtext (m + 1), mtext (m + 2), m + 3⟩]) (m + 4) (by omega) (by omega) (by simpa using hl)
    have e1 : m + 4 + 4 * (rest.length : Int) = m + 4 * ((x :: rest).length : Int) := by simp only [List.length_cons]; omega
    have h2 : Ev (fun k => laws_markSessReplyS.l0 k (pre ++ ⟨m, mtext (m + 1), mtext (m + 2), m + 3⟩ :: rest) (m + 4) ((pre.length + 1 : Nat) : Int)) (m + 4 * ((x :: rest).length : Int), pre ++ mk (x :: rest).length m) := by
      rw [← e1]
      simpa [mk] using h
    have hlen := len_mid pre rest x
    have w1 : wrap64 (m + 1) = m + 1 := wrap_id _ (by omega) (by omega)
    have w2 : wrap64 (m + 1 + 1) = m + 2 := by rw [wrap_id _ (by omega) (by omega)]; omega
    have w3 : wrap64 (m + 2 + 1) = m + 3 := by rw [wrap_id _ (by omega) (by omega)]; omega
    have w4 : wrap64 (m + 3 + 1) = m + 4 := by rw [wrap_id _ (by omega) (by omega)]; omega
    refine Ev.step (f := fun k => (laws_markText.f k (m + 1)).bind fun t1 => (laws_markText.f k (m + 2)).bind fun t2 => laws_markSessReplyS.l0 k (pre ++ ⟨m, t1, t2, m + 3⟩ :: rest) (m + 4) ((pre.length + 1 : Nat) : Int)) (fun k => ?_) (Ev.bind (mtext_ev _ (by omega)) (Ev.bind (mtext_ev _ (by omega)) h2))
    simp only [laws_markSessReplyS.l0]
    rw [if_pos (by omega), if_pos (by omega)]
    simp only [Option.bind_some, rdR_mid _ _ _ _ rfl, set_nat _ _ _ _ _ rfl, w1, w2, w3, w4, wrap_nat pre.length (by omega)]
theorem heldR_loop (n : Nat) : ∀ (pre : List SR) (m : Int), 0 ≤ m → m + 4 * n ≤ 1000000000 → pre.length + n ≤ 1048576 →
    Ev (fun k => laws_heldSessReplyS.l0 k (pre ++ mk n m) m (pre.length : Int)) (m + 4 * n) := by
  induction n with
  | zero =>
    intro pre m h0 h1 hl
    refine Ev.step (f := fun _ => some m) (fun k => ?_) (by simpa using Ev.now m)
    have hl0 : (pre ++ mk 0 m).length = pre.length := by simp [mk]
    simp only [laws_heldSessReplyS.l0]
    rw [if_neg (by omega)]
  | succ n ih =>
    intro pre m h0 h1 hl
    have h := ih (pre ++ [⟨m, mtext (m + 1), mtext (m + 2), m + 3⟩]) (m + 4) (by omega) (by omega) (by simp; omega)
    have e1 : m + 4 + 4 * (n : Int) = m + 4 * ((n + 1 : Nat) : Int) := by omega
    have h2 : Ev (fun k => laws_heldSessReplyS.l0 k (pre ++ mk (n + 1) m) (m + 4) ((pre.length + 1 : Nat) : Int)) (m + 4 * ((n + 1 : Nat) : Int)) := by
      rw [← e1]
      simpa [mk] using h
    have hlen : (pre ++ mk (n + 1) m).length = pre.length + 1 + n := by rw [List.length_append, mk_len]; omega
    have w1 : wrap64 (m + 1) = m + 1 := wrap_id _ (by omega) (by omega)
    have w2 : wrap64 (m + 1 + 1) = m + 2 := by rw [wrap_id _ (by omega) (by omega)]; omega
    have w3 : wrap64 (m + 2 + 1) = m + 3 := by rw [wrap_id _ (by omega) (by omega)]; omega
    have w4 : wrap64 (m + 3 + 1) = m + 4 := by rw [wrap_id _ (by omega) (by omega)]; omega
    have hrd : rd_T31 (pre ++ mk (n + 1) m) (pre.length : Int) = ⟨m, mtext (m + 1), mtext (m + 2), m + 3⟩ := rdR_mid _ _ _ _ rfl
    refine Ev.step (f := fun k => (laws_markText.f k (m + 1)).bind fun t1 => if (mtext (m + 1)).toList = t1.toList then ((laws_markText.f k (m + 2)).bind fun t2 => if (mtext (m + 2)).toList = t2.toList then laws_heldSessReplyS.l0 k (pre ++ mk (n + 1) m) (m + 4) ((pre.length + 1 : Nat) : Int) else some (-1)) else some (-1)) (fun k => ?_) (Ev.bind (mtext_ev _ (by omega)) ?_)
    · simp only [laws_heldSessReplyS.l0]
      rw [if_pos (by omega), if_pos (by omega)]
      simp only [hrd, w1, w2, w3, w4, wrap_nat pre.length (by omega), if_true]
    · refine Ev.congr (f := fun k => (laws_markText.f k (m + 2)).bind fun t2 => if (mtext (m + 2)).toList = t2.toList then laws_heldSessReplyS.l0 k (pre ++ mk (n + 1) m) (m + 4) ((pre.length + 1 : Nat) : Int) else some (-1)) (fun k => by rw [if_pos rfl]) (Ev.bind (mtext_ev _ (by omega)) ?_)
      exact Ev.congr (fun k => by rw [if_pos rfl]) h2
theorem markR_at (l : List SR) (hl : l.length ≤ 200000) : ∃ k, laws_markSessReplyS.f k l 1 = some (1 + 4 * (l.length : Int), mk l.length 1) := by
  have h := markR_loop l [] 1 (by omega) (by omega) (by simp; omega)
  have h2 : Ev (fun k => laws_markSessReplyS.l0 k l 1 0) (1 + 4 * (l.length : Int), mk l.length 1) := by simpa using h
  exact Ev.rounds (Ev.congr (g := fun k => laws_markSessReplyS.f k l 1) (fun _ => rfl) h2)
theorem heldR_at (n : Nat) (hl : n ≤ 200000) : ∃ k, laws_heldSessReplyS.f k (mk n 1) 1 = some (1 + 4 * (n : Int)) := by
  have h := heldR_loop n [] 1 (by omega) (by omega) (by simp; omega)
  have h2 : Ev (fun k => laws_heldSessReplyS.l0 k (mk n 1) 1 0) (1 + 4 * (n : Int)) := by simpa using h
  exact Ev.rounds (Ev.congr (g := fun k => laws_heldSessReplyS.f k (mk n 1) 1) (fun _ => rfl) h2)
theorem markB_loop (rest : List Int) : ∀ (pre : List Int) (m : Int), 0 ≤ m → m + rest.length ≤ 1000000000 → (pre ++ rest).length ≤ 1048576 → ∃ r2,
    Ev (fun k => laws_markByteS.l0 k (pre ++ rest) m (pre.length : Int)) (m + rest.length, r2) := by
  induction rest with
  | nil =>
    intro pre m h0 h1 hl
    refine ⟨pre ++ [], Ev.step (f := fun _ => some (m, pre ++ [])) (fun k => ?_) (by simpa using Ev.now _)⟩
    simp only [laws_markByteS.l0]
    rw [if_neg (by simp)]
  | cons x rest ih =>
    intro pre m h0 h1 hl
    simp only [List.length_cons] at h1
    obtain ⟨r2, h⟩ := ih (pre ++ [m % 256]) (m + 1) (by omega) (by omega) (by simpa using hl)
    have e1 : m + 1 + (rest.length : Int) = m + ((x :: rest).length : Int) := by simp only [List.length_cons]; omega
    have h2 : Ev (fun k => laws_markByteS.l0 k (pre ++ (m % 256) :: rest) (m + 1) ((pre.length + 1 : Nat) : Int)) (m + ((x :: rest).length : Int), r2) := by
      rw [← e1]
      simpa using h
    have hlen := len_mid pre rest x
    refine ⟨r2, Ev.step (f := fun k => laws_markByteS.l0 k (pre ++ (m % 256) :: rest) (m + 1) ((pre.length + 1 : Nat) : Int)) (fun k => ?_) h2⟩
    simp only [laws_markByteS.l0]
    rw [if_pos (by omega), if_pos (by omega), set_nat _ _ _ _ _ rfl, wrap_nat _ (by omega), wrap_id (m + 1) (by omega) (by omega)]
theorem markC_at (l : List Int) (a b : Int) (hl : l.length ≤ 1048576) : ∃ k r2, laws_markSessConf.f k l a b 1 = some (1 + (l.length : Int), r2) := by
  obtain ⟨r2, h⟩ := markB_loop l [] 1 (by omega) (by omega) (by simpa using hl)
  obtain ⟨k, hk⟩ := Ev.rounds h
  refine ⟨k, r2, ?_⟩
  have hb : laws_markByteS.f k l 1 = some (1 + (l.length : Int), r2) := by simpa [laws_markByteS.f] using hk
  unfold laws_markSessConf.f
  rw [hb]
  rfl
theorem markE_loop (rest : List SE) : ∀ (pre : List SE) (m : Int), 0 ≤ m → m + 5 * rest.length ≤ 1000000000 → (pre ++ rest).length ≤ 1048576 → ∃ r2,
    Ev (fun k => laws_markSessEventS.l0 k (pre ++ rest) m (pre.length : Int)) (m + 5 * rest.length, r2) := by
  induction rest with
  | nil =>
    intro pre m h0 h1 hl
    refine ⟨pre ++ [], Ev.step (f := fun _ => some (m, pre ++ [])) (fun k => ?_) (by simpa using Ev.now _)⟩
    simp only [laws_markSessEventS.l0]
    rw [if_neg (by simp)]
  | cons x rest ih =>
    intro pre m h0 h1 hl
    simp only [List.length_cons] at h1
    obtain ⟨r2, h⟩ := ih (pre ++ [⟨m, m + 1, mtext (m + 2), mtext (m + 3), mtext (m + 4)⟩]) (m + 5) (by omega) (by omega) (by simpa using hl)
    have e1 : m + 5 + 5 * (rest.length : Int) = m + 5 * ((x :: rest).length : Int) := by simp only [List.length_cons]; omega
    have h2 : Ev (fun k => laws_markSessEventS.l0 k (pre ++ ⟨m, m + 1, mtext (m + 2), mtext (m + 3), mtext (m + 4)⟩ :: rest) (m + 5) ((pre.length + 1 : Nat) : Int)) (m + 5 * ((x :: rest).length : Int), r2) := by
      rw [← e1]
      simpa using h
    have hlen := len_mid pre rest x
    have w1 : wrap64 (m + 1) = m + 1 := wrap_id _ (by omega) (by omega)
    have w2 : wrap64 (m + 1 + 1) = m + 2 := by rw [wrap_id _ (by omega) (by omega)]; omega
    have w3 : wrap64 (m + 2 + 1) = m + 3 := by rw [wrap_id _ (by omega) (by omega)]; omega
    have w4 : wrap64 (m + 3 + 1) = m + 4 := by rw [wrap_id _ (by omega) (by omega)]; omega
    have w5 : wrap64 (m + 4 + 1) = m + 5 := by rw [wrap_id _ (by omega) (by omega)]; omega
    refine ⟨r2, Ev.step (f := fun k => (laws_markText.f k (m + 2)).bind fun t1 => (laws_markText.f k (m + 3)).bind fun t2 => (laws_markText.f k (m + 4)).bind fun t3 => laws_markSessEventS.l0 k (pre ++ ⟨m, m + 1, t1, t2, t3⟩ :: rest) (m + 5) ((pre.length + 1 : Nat) : Int)) (fun k => ?_) (Ev.bind (mtext_ev _ (by omega)) (Ev.bind (mtext_ev _ (by omega)) (Ev.bind (mtext_ev _ (by omega)) h2)))⟩
    simp only [laws_markSessEventS.l0]
    rw [if_pos (by omega), if_pos (by omega)]
    simp only [Option.bind_some, rdE_mid _ _ _ _ rfl, set_nat _ _ _ _ _ rfl, w1, w2, w3, w4, w5, wrap_nat pre.length (by omega)]
theorem markE_at (l : List SE) (m : Int) (h0 : 0 ≤ m) (h1 : m ≤ 1048577) (hl : l.length ≤ 1048576) : ∃ k r2, laws_markSessEventS.f k l m = some (m + 5 * (l.length : Int), r2) := by
  obtain ⟨r2, h⟩ := markE_loop l [] m h0 (by omega) (by simpa using hl)
  obtain ⟨k, hk⟩ := Ev.rounds h
  exact ⟨k, r2, by simpa [laws_markSessEventS.f] using hk⟩
end Go.Proofs.YtpfjboioeidecaaDoor.HL
end
section
namespace Go.Proofs.YtpfjboioeidecaaDoor.HPl
open Go.RowKit Go.Proofs.YtpfjboioeidecaaDoorW.PrintWords Go.Proofs.YtpfjboioeidecaaDoorW.PrintLast Go.Proofs.YtpfjboioeidecaaDoorW.PrintMore Go.Proofs.YtpfjboioeidecaaDoor.HP Go.Proofs.YtpfjboioeidecaaDoor.HDig Go.Proofs.YtpfjboioeidecaaDoor.PQ Go.Proofs.YtpfjboioeidecaaDoor.HS Go.Proofs.YtpfjboioeidecaaDoorW
abbrev LT : ByteArray := ⟨#[48, 49, 50, 51, 52, 53, 54, 55, 56, 57, 97, 98, 99, 100, 101, 102, 103, 104, 105, 106, 107, 108, 109, 110, 111, 112, 113, 114, 115, 116, 117, 118]⟩
def bitAt (l : List Int) (q : Nat) : Int := if q < l.length * 8 then l.getD (q / 8) 0 / 2 ^ (7 - q % 8) % 2 else 0
theorem bitAt_in (l : List Int) (q : Nat) : 0 ≤ bitAt l q ∧ bitAt l q ≤ 1 := by unfold bitAt; split <;> omega
theorem and_1 (e : Int) (h0 : 0 ≤ e) (h1 : e < 1099511627776) : Go.bits .and .i64 e 1 = e % 2 := by simpa using and_mask 1 (by omega) e h0 h1
theorem arm_in (l : List Int) (hb : Byt l) (hl : l.length ≤ 1000000) (acc : List Int) (p q : Nat) (x5 : Int) (k : Nat) (h5 : 0 ≤ x5 ∧ x5 ≤ 15) (hq : q < p + 5) (hp : p ≤ 8000000) :
    spec_l2Armor.l1 (k + 1) l acc (p : Int) x5 (q : Int) = spec_l2Armor.l1 k l acc (p : Int) (x5 * 2 + bitAt l q) ((q + 1 : Nat) : Int) := by
  simp only [spec_l2Armor.l1]
  rw [wrap_id ((p : Int) + 5) (by omega) (by omega), if_pos (by omega), wrap_id ((l.length : Int) * 8) (by omega) (by omega), wrap_nat q (by omega), wrap_id (x5 * 2) (by omega) (by omega)]
  by_cases hlt : q < l.length * 8
  · have e1 : Int.tdiv (q : Int) 8 = ((q / 8 : Nat) : Int) := by rw [Int.tdiv_eq_ediv_of_nonneg (by omega)]; omega
    have e2 : Int.tmod (q : Int) 8 = ((q % 8 : Nat) : Int) := by rw [Int.tmod_eq_emod_of_nonneg (by omega)]; omega
    have e3 : IntKind.u64.wrap (7 - ((q % 8 : Nat) : Int)) = ((7 - q % 8 : Nat) : Int) := by unfold IntKind.wrap; simp [IntKind.signed, IntKind.bits]; omega
    have hi : q / 8 < l.length := by omega
    have hx := hb l[q / 8] (List.getElem_mem hi)
    have e4 : shr .i64 l[q / 8] ((7 - q % 8 : Nat) : Int) = l[q / 8] / 2 ^ (7 - q % 8) := by
      unfold shr
      congr 2
      show min _ 64 = _
      omega
    have hd0 : 0 ≤ l[q / 8] / 2 ^ (7 - q % 8) := Int.ediv_nonneg hx.1 (by exact Int.le_of_lt (Int.pow_pos (by omega)))
    have hd1 : l[q / 8] / 2 ^ (7 - q % 8) ≤ l[q / 8] := Int.ediv_le_self _ hx.1
    have e5 : bitAt l q = l[q / 8] / 2 ^ (7 - q % 8) % 2 := by
      unfold bitAt
      rw [if_pos hlt, List.getD_eq_getElem?_getD, List.getElem?_eq_getElem hi]
      rfl
    rw [if_pos (by omega), e1, wrap_id ((q / 8 : Nat) : Int) (by omega) (by omega), if_pos (by omega), if_pos (by omega), e2, wrap_id (7 - ((q % 8 : Nat) : Int)) (by omega) (by omega), e3, if_pos (by omega), rd_nat l (q / 8) hi, wrap_id l[q / 8] (by omega) (by omega), e4, and_1 _ hd0 (by omega), ← e5]
    have := bitAt_in l q
    rw [wrap_id _ (by omega) (by omega)]
  · have e5 : bitAt l q = 0 := by unfold bitAt; rw [if_neg hlt]
    rw [if_neg (by omega), e5, Int.add_zero]
def grp (l : List Int) (p : Nat) : Int := ((((0 * 2 + bitAt l p) * 2 + bitAt l (p + 1)) * 2 + bitAt l (p + 2)) * 2 + bitAt l (p + 3)) * 2 + bitAt l (p + 4)
theorem grp_in (l : List Int) (p : Nat) : 0 ≤ grp l p ∧ grp l p < 32 := by
  have := bitAt_in l p
  have := bitAt_in l (p + 1)
  have := bitAt_in l (p + 2)
  have := bitAt_in l (p + 3)
  have := bitAt_in l (p + 4)
  unfold grp
  omega
def grps (l : List Int) : Nat → Nat → List Int
  | 0, _ => []
  | n + 1, p => if p < l.length * 8 then bt LT (grp l p) :: grps l n (p + 5) else []
theorem arm_out (l : List Int) (hb : Byt l) (hl : l.length ≤ 1000000) (n : Nat) : ∀ (p : Nat) (acc : List Int), l.length * 8 ≤ p + 5 * n → p ≤ l.length * 8 + 4 → acc.length + n ≤ 140737488355327 →
    PrintWords.Ev (fun k => spec_l2Armor.l0 k l acc (p : Int)) (strOfNums (acc ++ grps l n p)) := by
  induction n with
  | zero =>
    intro p acc h hp _
    refine Ev.step (f := fun _ => some (strOfNums (acc ++ []))) (fun k => ?_) (Ev.now _)
    simp only [spec_l2Armor.l0]
    rw [wrap_id ((l.length : Int) * 8) (by omega) (by omega), if_neg (by omega), List.append_nil]
  | succ n ih =>
    intro p acc h hp ha
    by_cases hlt : p < l.length * 8
    · have e : grps l (n + 1) p = bt LT (grp l p) :: grps l n (p + 5) := by simp only [grps]; rw [if_pos hlt]
      rw [e]
      have h6 := ih (p + 5) (acc ++ [bt LT (grp l p)]) (by omega) (by omega) (by simp; omega)
      have b0 := bitAt_in l p
      have b1 := bitAt_in l (p + 1)
      have b2 := bitAt_in l (p + 2)
      have b3 := bitAt_in l (p + 3)
      have b4 := bitAt_in l (p + 4)
      have hg := grp_in l p
      refine Ev.step (f := fun k => spec_l2Armor.l1 k l acc (p : Int) 0 (p : Int)) (fun k => ?_) ?_
      · simp only [spec_l2Armor.l0]
        rw [wrap_id ((l.length : Int) * 8) (by omega) (by omega), if_pos (by omega)]
      refine Ev.step (fun k => arm_in l hb hl acc p p 0 k (by omega) (by omega) (by omega)) ?_
      refine Ev.step (fun k => arm_in l hb hl acc p (p + 1) (0 * 2 + bitAt l p) k (by omega) (by omega) (by omega)) ?_
      refine Ev.step (fun k => arm_in l hb hl acc p (p + 2) ((0 * 2 + bitAt l p) * 2 + bitAt l (p + 1)) k (by omega) (by omega) (by omega)) ?_
      refine Ev.step (fun k => arm_in l hb hl acc p (p + 3) (((0 * 2 + bitAt l p) * 2 + bitAt l (p + 1)) * 2 + bitAt l (p + 2)) k (by omega) (by omega) (by omega)) ?_
      refine Ev.step (fun k => arm_in l hb hl acc p (p + 4) ((((0 * 2 + bitAt l p) * 2 + bitAt l (p + 1)) * 2 + bitAt l (p + 2)) * 2 + bitAt l (p + 3)) k (by omega) (by omega) (by omega)) ?_
      have h7 : acc ++ [bt LT (grp l p)] ++ grps l n (p + 5) = acc ++ bt LT (grp l p) :: grps l n (p + 5) := by simp
      rw [h7] at h6
      refine Ev.step (f := fun k => spec_l2Armor.l0 k l (acc ++ [bt LT (grp l p)]) ((p + 5 : Nat) : Int)) (fun k => ?_) h6
      show spec_l2Armor.l1 (k + 1) l acc (p : Int) (grp l p) ((p + 5 : Nat) : Int) = _
      have hL : spec_l2Letters.f = some LT := rfl
      have hs : (LT.size : Int) = 32 := rfl
      simp only [spec_l2Armor.l1]
      rw [wrap_id ((p : Int) + 5) (by omega) (by omega), if_neg (by omega), hL]
      simp only [Option.bind_some]
      rw [hs, if_pos hg.1, if_pos hg.2, if_pos (by omega)]
      congr 1
    · have e : grps l (n + 1) p = [] := by simp only [grps]; rw [if_neg hlt]
      rw [e]
      refine Ev.step (f := fun _ => some (strOfNums (acc ++ []))) (fun k => ?_) (Ev.now _)
      simp only [spec_l2Armor.l0]
      rw [wrap_id ((l.length : Int) * 8) (by omega) (by omega), if_neg (by omega), List.append_nil]
theorem letter_fin : ∀ n : Fin 32, UInt8.ofNat (bt LT (n.val : Int)).toNat = letter (n.val : Int) := by decide
theorem letter_at (g : Int) (h : 0 ≤ g ∧ g < 32) : UInt8.ofNat (bt LT g).toNat = letter g := by
  have := letter_fin ⟨g.toNat, by omega⟩
  simpa [Int.toNat_of_nonneg h.1] using this
theorem grps10 (l : List Int) (h : l.length = 10) : (grps l 16 0).map (fun n => UInt8.ofNat n.toNat) = [grp l 0, grp l 5, grp l 10, grp l 15, grp l 20, grp l 25, grp l 30, grp l 35, grp l 40, grp l 45, grp l 50, grp l 55, grp l 60, grp l 65, grp l 70, grp l 75].map letter := by
  simp only [grps, h, Nat.reduceMul, Nat.reduceAdd, Nat.reduceLT, if_true, List.map_cons, List.map_nil, letter_at _ (grp_in l _)]
set_option maxHeartbeats 4000000 in
theorem arm10 (l : List Int) (hb : Byt l) (h : l.length = 10) : arm l 0 0 = [grp l 0, grp l 5, grp l 10, grp l 15, grp l 20, grp l 25, grp l 30, grp l 35, grp l 40, grp l 45, grp l 50, grp l 55, grp l 60, grp l 65, grp l 70, grp l 75] := by
  match l, h with
  | [x0, x1, x2, x3, x4, x5, x6, x7, x8, x9], _ =>
    have h0 := hb x0 (by simp)
    have h1 := hb x1 (by simp)
    have h2 := hb x2 (by simp)
    have h3 := hb x3 (by simp)
    have h4 := hb x4 (by simp)
    have h5 := hb x5 (by simp)
    have h6 := hb x6 (by simp)
    have h7 := hb x7 (by simp)
    have h8 := hb x8 (by simp)
    have h9 := hb x9 (by simp)
    simp [arm, grp, bitAt]
    refine ⟨?_, ?_, ?_, ?_, ?_, ?_, ?_, ?_, ?_, ?_, ?_, ?_, ?_, ?_, ?_, ?_⟩ <;> omega
theorem armor10 (l : List Int) (hb : Byt l) (h : l.length = 10) : ∃ k, spec_l2Armor.f k l = some ⟨(armor l).toArray⟩ := by
  have h1 := arm_out l hb (by omega) 16 0 [] (by omega) (by omega) (by decide)
  have e : strOfNums ([] ++ grps l 16 0) = ⟨(armor l).toArray⟩ := by
    unfold strOfNums armor
    rw [List.nil_append, grps10 l h, arm10 l hb h]
  rw [e] at h1
  exact PrintWords.Ev.rounds (Ev.congr (g := fun k => spec_l2Armor.f k l) (fun _ => rfl) h1)
end Go.Proofs.YtpfjboioeidecaaDoor.HPl
end
