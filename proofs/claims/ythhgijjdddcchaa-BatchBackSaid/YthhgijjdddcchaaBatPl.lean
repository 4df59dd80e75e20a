/-
  What is written is read as it was, and what is read would be written so: the plain law.
-/
import Derived.Test.YthhgijjdddcchaaBatIn
import Derived.Test.YthhgijjdddcchaaOrdMath
namespace Go.Proofs.Ythhgijjdddcchaa
open Go.RowKit
set_option linter.unusedVariables false
set_option linter.unusedSimpArgs false

theorem rest_len (r : RS) (hk : r.ok) : r.rest.length = r.s.size - r.at_ := by
  unfold RS.rest; rw [List.length_drop, Array.length_toList]; rfl
theorem take_fwd (r : RS) (x t : List UInt8) (he : r.e = 0) (hk : r.ok) (hr : r.rest = x ++ t) : (r.take (x.length : Int)).1 = str x ∧ (r.take (x.length : Int)).2.e = 0 ∧ (r.take (x.length : Int)).2.rest = t := by
  have hl := rest_len r hk
  rw [hr, List.length_append] at hl
  have hk' : r.at_ ≤ r.s.size := hk
  unfold RS.take
  rw [if_neg (by simp [he]), if_neg (by omega)]
  refine ⟨?_, rfl, ?_⟩
  · show r.s.extract r.at_ (r.at_ + (x.length : Int).toNat) = _
    rw [Int.toNat_natCast]
    conv => lhs; rw [← str_of r.s, str_ext, List.drop_take, Nat.add_sub_cancel_left]
    show str (r.rest.take x.length) = _
    rw [hr, List.take_left]
  · show RS.rest ⟨r.s, r.at_ + (x.length : Int).toNat, 0⟩ = t
    rw [Int.toNat_natCast, rest_drop r.s r.at_ x.length 0 r.e]
    show r.rest.drop x.length = t
    rw [hr, List.drop_left]
theorem take_bwd (r : RS) (n : Nat) (hk : r.ok) (he : (r.take (n : Int)).2.e = 0) : r.e = 0 ∧ (r.take (n : Int)).1.size = n ∧ r.rest = (r.take (n : Int)).1.data.toList ++ (r.take (n : Int)).2.rest := by
  unfold RS.take at *
  by_cases h0 : r.e = 0
  · rw [if_neg (by simp [h0])] at *
    by_cases h1 : (n : Int) < 0 ∨ (r.s.size : Int) - r.at_ < n
    · rw [if_pos h1] at he; simp at he
    · rw [if_neg h1]
      have hl := rest_len r hk
      have e1 : r.s.extract r.at_ (r.at_ + (n : Int).toNat) = str (r.rest.take n) := by
        rw [Int.toNat_natCast]
        conv => lhs; rw [← str_of r.s, str_ext, List.drop_take, Nat.add_sub_cancel_left]
        rfl
      refine ⟨h0, ?_, ?_⟩
      · show (r.s.extract r.at_ (r.at_ + (n : Int).toNat)).size = n
        rw [e1, str_size, List.length_take]; omega
      · show r.rest = (r.s.extract r.at_ (r.at_ + (n : Int).toNat)).data.toList ++ RS.rest ⟨r.s, r.at_ + (n : Int).toNat, 0⟩
        rw [e1, str_data, Int.toNat_natCast, rest_drop r.s r.at_ n 0 r.e]
        exact (List.take_append_drop n r.rest).symm
  · rw [if_pos h0] at he; exact absurd he h0
theorem text_fwd (r : RS) (x : ByteArray) (t : List UInt8) (m : Int) (he : r.e = 0) (hk : r.ok) (hr : r.rest = numL x.size ++ (x.data.toList ++ t)) (hx : (x.size : Int) ≤ m) (hx64 : x.size < 18446744073709551616) :
    (r.text m).1 = x ∧ (r.text m).2.e = 0 ∧ (r.text m).2.rest = t := by
  obtain ⟨h1, h2, h3⟩ := num_fwd r x.size _ he hr hx64
  have hl : x.data.toList.length = x.size := by rw [Array.length_toList]; rfl
  obtain ⟨g1, g2, g3⟩ := take_fwd r.num.2 x.data.toList t h2 (RS.num_ok r hk) h3
  rw [hl] at g1 g2 g3
  unfold RS.text
  rw [h1, if_neg (by omega)]
  exact ⟨by rw [g1]; exact str_of x, g2, g3⟩
theorem fail_ne (r : RS) (x : Int) (hx : ¬ x = 0) : ¬ (r.fail x).e = 0 := by
  unfold RS.fail; split
  · exact hx
  · assumption
theorem text_bwd (r : RS) (m : Int) (hk : r.ok) (he : (r.text m).2.e = 0) : r.e = 0 ∧ r.rest = numL (r.text m).1.size ++ ((r.text m).1.data.toList ++ (r.text m).2.rest) := by
  unfold RS.text at *
  by_cases h : max m 0 < (r.num.1 : Int)
  · rw [if_pos h] at he; exact absurd he (fail_ne _ _ (by decide))
  · rw [if_neg h] at he ⊢
    obtain ⟨g1, g2, g3⟩ := take_bwd r.num.2 r.num.1 (RS.num_ok r hk) he
    obtain ⟨f1, f2⟩ := num_bwd r g1
    refine ⟨f1, ?_⟩
    rw [g2, ← g3]
    exact f2
theorem take_err (r : RS) (n : Int) (h : ¬ r.e = 0) : ¬ (r.take n).2.e = 0 := by unfold RS.take; rw [if_pos h]; exact h
theorem firstN_cons (b : UInt8) (t : List UInt8) : firstN (str (b :: t)) = ((b.toNat : Nat) : Int) := rfl

theorem change_fwd (r : RS) (c : ChangeR) (t : List UInt8) (he : r.e = 0) (hk : r.ok) (hb : badC c = 0) (hr : r.rest = oneB c ++ t) : r.change.1 = c ∧ r.change.2.e = 0 ∧ r.change.2.rest = t := by
  obtain ⟨h1, h2, h3, h4, h5⟩ := badC_none hb
  obtain ⟨kd, ky, vl⟩ := c
  simp only at h1 h2 h3 h4 h5
  have hr' : r.rest = [UInt8.ofNat kd.toNat] ++ (numL ky.size ++ (ky.data.toList ++ ((if kd = 1 then numL vl.size ++ vl.data.toList else []) ++ t))) := by
    rw [hr]; simp [oneB]
  obtain ⟨g1, g2, g3⟩ := take_fwd r [UInt8.ofNat kd.toNat] _ he hk hr'
  have e1 : ([UInt8.ofNat kd.toNat].length : Int) = 1 := rfl
  rw [e1] at g1 g2 g3
  have hkd : r.chgK = kd := by
    unfold RS.chgK
    rw [g1, firstN_cons]
    rcases h1 with e | e <;> subst e <;> rfl
  have hc1 : r.chg1 = (r.take 1).2 := by
    unfold RS.chg1; rw [hkd, if_neg (by omega)]
  obtain ⟨f1, f2, f3⟩ := text_fwd r.chg1 ky _ 200 (by rw [hc1]; exact g2) (chg1_ok r hk) (by rw [hc1]; exact g3) (by omega) (by omega)
  unfold RS.change
  have hx1 : r.chg2.1 = ky := f1
  by_cases hk1 : kd = 1
  · rw [if_pos hk1] at f3
    have f3' : r.chg2.2.rest = numL vl.size ++ (vl.data.toList ++ t) := by rw [show r.chg2.2.rest = _ from f3, List.append_assoc]
    obtain ⟨d1, d2, d3⟩ := text_fwd r.chg2.2 vl t 4096 f2 (chg2_ok r hk) f3' (by omega) (by omega)
    have hc3 : r.chg3 = r.chg2.2.text 4096 := by unfold RS.chg3; rw [hkd, if_pos hk1]
    rw [hc3, hkd, hx1, d1]
    exact ⟨rfl, d2, d3⟩
  · rw [if_neg hk1] at f3
    have hv : vl = ByteArray.empty := by
      have := h5 (by omega)
      exact ByteArray.ext (Array.eq_empty_of_size_eq_zero this)
    have hc3 : r.chg3 = (ByteArray.empty, r.chg2.2) := by unfold RS.chg3; rw [hkd, if_neg hk1]
    rw [hc3, hkd, hx1, hv]
    exact ⟨rfl, f2, (show r.chg2.2.rest = _ from f3).trans (by simp)⟩
theorem change_bwd (r : RS) (hk : r.ok) (he : r.change.2.e = 0) : r.e = 0 ∧ r.rest = oneB r.change.1 ++ r.change.2.rest := by
  unfold RS.change at *
  simp only at he ⊢
  have h2 : r.chg2.2.e = 0 ∧ (r.chgK = 1 → r.chg2.2.rest = numL r.chg3.1.size ++ (r.chg3.1.data.toList ++ r.chg3.2.rest)) ∧ (¬ r.chgK = 1 → r.chg2.2.rest = r.chg3.2.rest) := by
    unfold RS.chg3 at *
    by_cases h : r.chgK = 1
    · rw [if_pos h] at he ⊢
      obtain ⟨a, b⟩ := text_bwd _ _ (chg2_ok r hk) he
      exact ⟨a, fun _ => b, fun h' => absurd h h'⟩
    · rw [if_neg h] at he ⊢
      exact ⟨he, fun h' => absurd h' h, fun _ => rfl⟩
  obtain ⟨h2, h3, h4⟩ := h2
  obtain ⟨a1, a2⟩ := text_bwd r.chg1 200 (chg1_ok r hk) h2
  have hb : ¬ ((r.take 1).2.e = 0 ∧ ¬ r.chgK = 1 ∧ ¬ r.chgK = 2) := fun h => by
    unfold RS.chg1 at a1; rw [if_pos h] at a1; exact absurd a1 (fail_ne _ _ (by decide))
  have hc1 : r.chg1 = (r.take 1).2 := by unfold RS.chg1; rw [if_neg hb]
  have hc2 : r.chg2 = (r.take 1).2.text 200 := by unfold RS.chg2; rw [hc1]
  rw [hc1] at a1 a2
  rw [← hc2] at a2
  obtain ⟨b1, b2, b3⟩ := take_bwd r 1 hk a1
  have hkd : r.chgK = 1 ∨ r.chgK = 2 := by
    by_cases h : r.chgK = 1
    · exact .inl h
    · by_cases h' : r.chgK = 2
      · exact .inr h'
      · exact absurd ⟨a1, h, h'⟩ hb
  obtain ⟨x, hx⟩ : ∃ x, (r.take 1).1.data.toList = [x] := by
    have hl : (r.take 1).1.data.toList.length = 1 := by rw [Array.length_toList]; exact b2
    match h : (r.take 1).1.data.toList, hl with
    | [x], _ => exact ⟨x, rfl⟩
  have hkx : r.chgK = ((x.toNat : Nat) : Int) := by unfold RS.chgK firstN; rw [hx]
  refine ⟨b1, ?_⟩
  have e0 : UInt8.ofNat r.chgK.toNat = x := by rw [hkx, Int.toNat_natCast]; exact UInt8.ofNat_toNat
  have e1 : ((1 : Nat) : Int) = 1 := rfl
  rw [e1] at b3
  rw [b3, hx, a2]
  unfold oneB
  simp only
  rw [e0]
  show [x] ++ (numL r.chg2.1.size ++ (r.chg2.1.data.toList ++ r.chg2.2.rest)) = _
  by_cases h : r.chgK = 1
  · rw [if_pos h, h3 h]; simp
  · rw [if_neg h, h4 h]; simp

theorem chgs_fwd : ∀ (l : List ChangeR) (r : RS) (t : List UInt8), r.e = 0 → r.ok → (∀ c ∈ l, badC c = 0) → r.rest = bytesL l ++ t → (RS.chgs l.length r).1 = l ∧ (RS.chgs l.length r).2.e = 0 ∧ (RS.chgs l.length r).2.rest = t
  | [], r, t, he, hk, hb, hr => ⟨rfl, he, by show r.rest = t; simpa [bytesL] using hr⟩
  | c :: l, r, t, he, hk, hb, hr => by
    have hr' : r.rest = oneB c ++ (bytesL l ++ t) := by rw [hr]; simp [bytesL]
    obtain ⟨h1, h2, h3⟩ := change_fwd r c _ he hk (hb c List.mem_cons_self) hr'
    obtain ⟨g1, g2, g3⟩ := chgs_fwd l r.change.2 t h2 (change_ok r hk) (fun d hd => hb d (List.mem_cons_of_mem _ hd)) h3
    rw [List.length_cons, RS.chgs, if_pos he]
    exact ⟨by simp only; rw [h1, g1], g2, g3⟩
theorem chgs_bwd : ∀ (k : Nat) (r : RS), r.ok → (RS.chgs k r).2.e = 0 → r.e = 0 ∧ (RS.chgs k r).1.length = k ∧ r.rest = bytesL (RS.chgs k r).1 ++ (RS.chgs k r).2.rest
  | 0, r, hk, he => ⟨he, rfl, rfl⟩
  | k + 1, r, hk, he => by
    rw [RS.chgs] at he ⊢
    by_cases h : r.e = 0
    · rw [if_pos h] at he ⊢
      simp only at he ⊢
      obtain ⟨h1, h2, h3⟩ := chgs_bwd k r.change.2 (change_ok r hk) he
      obtain ⟨g1, g2⟩ := change_bwd r hk h1
      refine ⟨h, by rw [List.length_cons, h2], ?_⟩
      rw [g2, h3]
      simp [bytesL]
    · rw [if_neg h] at he; exact absurd he h
theorem leL_leN : ∀ l : List UInt8, leL l.length (leN l) = l
  | [] => rfl
  | c :: l => by
    have hc := c.toNat_lt
    rw [List.length_cons, leN, leL, show (c.toNat + 256 * leN l) / 256 = leN l by omega, leL_leN l]
    congr 1
    apply UInt8.toNat_inj.mp
    rw [UInt8.toNat_ofNat']; omega

theorem parse_fwd (seq : Int) (l : List ChangeR) (h0 : 0 ≤ seq) (h1 : seq < 18446744073709551616) (hc : checkB seq l = 0) : parseB (str (bytesB seq l)) = (seq, l, 0) := by
  obtain ⟨hl, hb, _, _⟩ := checkB_none hc
  have hbl := badL_le hb
  obtain ⟨s, hs⟩ : ∃ s, s = str (bytesB seq l) := ⟨_, rfl⟩
  rw [← hs]
  have k0 : (RS.mk s 0 0).ok := Nat.zero_le _
  have r0 : (RS.mk s 0 0).rest = leL 8 seq.toNat ++ (numL l.length ++ (bytesL l ++ [])) := by
    rw [hs, rest_str]; unfold bytesB preB; simp
  obtain ⟨a1, a2, a3⟩ := take_fwd (RS.mk s 0 0) (leL 8 seq.toNat) _ rfl k0 r0
  rw [leL_length] at a1 a2 a3
  have pA1 : (pbA s).1 = seq.toNat := by
    show leN _ = _
    rw [a1, str_data, leN_leL 8 _ (by have : (256 : Nat) ^ 8 = 18446744073709551616 := by decide
                                      omega)]
  have pA2 : (pbA s).2 = ((RS.mk s 0 0).take ((8 : Nat) : Int)).2 := rfl
  obtain ⟨b1, b2, b3⟩ := num_fwd (pbA s).2 l.length _ (by rw [pA2]; exact a2) (by rw [pA2]; exact a3) (by omega)
  have kN : (pbN s).2.ok := RS.num_ok _ (RS.take_ok _ _ k0)
  have hN : (pbN s).1 = l.length := b1
  have hR : pbR s = (pbN s).2 := by unfold pbR; rw [hN, if_neg (by omega)]
  obtain ⟨c1, c2, c3⟩ := chgs_fwd l (pbR s) [] (by rw [hR]; exact b2) (by rw [hR]; exact kN) hbl (by rw [hR]; exact b3)
  have hC : pbC s = RS.chgs l.length (pbR s) := by unfold pbC; rw [hN]
  have hCok : (pbC s).2.ok := by rw [hC]; exact chgs_ok _ _ (by rw [hR]; exact kN)
  have hen := end_fwd (pbC s).2 (by rw [hC]; exact c2) hCok (by rw [hC]; exact c3)
  have hsq : (((pbA s).1 : Nat) : Int) = seq := by rw [pA1]; omega
  have hC1 : (pbC s).1 = l := by rw [hC]; exact c1
  unfold parseB
  rw [if_neg (by simp [hen]), hsq, hC1, if_neg (by simp [hc])]
theorem parse_bwd (s : ByteArray) (he : (parseB s).2.2 = 0) : checkB (parseB s).1 (parseB s).2.1 = 0 ∧ 0 ≤ (parseB s).1 ∧ (parseB s).1 < 18446744073709551616 ∧ str (bytesB (parseB s).1 (parseB s).2.1) = s := by
  unfold parseB at *
  by_cases h1 : (pbC s).2.end_ = 0
  · rw [if_neg (by simp [h1])] at he ⊢
    by_cases h2 : checkB ((pbA s).1 : Int) (pbC s).1 = 0
    · rw [if_neg (by simp [h2])]
      have hlt := pbA_lt s
      refine ⟨h2, by simp only; omega, by simp only; omega, ?_⟩
      obtain ⟨c1, c2⟩ := end_bwd _ h1
      have k0 : (RS.mk s 0 0).ok := Nat.zero_le _
      have kA : (pbA s).2.ok := RS.take_ok _ _ k0
      have kN : (pbN s).2.ok := RS.num_ok _ kA
      have kR : (pbR s).ok := by
        unfold pbR; split
        · exact RS.fail_ok _ _ kN
        · exact kN
      obtain ⟨d1, d2, d3⟩ := chgs_bwd (pbN s).1 (pbR s) kR c1
      have hR : pbR s = (pbN s).2 := by
        unfold pbR at d1 ⊢
        by_cases h : 2000 < (pbN s).1
        · rw [if_pos h] at d1; exact absurd d1 (fail_ne _ _ (by decide))
        · rw [if_neg h]
      rw [hR] at d1 d3
      obtain ⟨f1, f2⟩ := num_bwd (pbA s).2 d1
      obtain ⟨g1, g2, g3⟩ := take_bwd (RS.mk s 0 0) 8 k0 f1
      have hle : leL 8 (pbA s).1 = ((RS.mk s 0 0).take ((8 : Nat) : Int)).1.data.toList := by
        have hl : ((RS.mk s 0 0).take ((8 : Nat) : Int)).1.data.toList.length = 8 := by rw [Array.length_toList]; exact g2
        have := leL_leN ((RS.mk s 0 0).take ((8 : Nat) : Int)).1.data.toList
        rw [hl] at this
        exact this
      symm
      apply str_rest
      rw [g3, ← hle]
      unfold bytesB preB
      simp only
      rw [Int.toNat_natCast]
      have hC : pbC s = RS.chgs (pbN s).1 (pbR s) := rfl
      have hlen : (pbC s).1.length = (pbN s).1 := by rw [hC]; exact d2
      have e1 : (pbA s).2.rest = numL (pbN s).1 ++ (pbN s).2.rest := f2
      have e2 : (pbN s).2.rest = bytesL (pbC s).1 ++ [] := by rw [d3, hC, ← hR]; rw [← c2]; rfl
      rw [hlen, List.append_assoc]
      show leL 8 (pbA s).1 ++ (pbA s).2.rest = _
      rw [e1, e2, List.append_nil]
    · rw [if_pos h2] at he; exact absurd he h2
  · rw [if_pos h1] at he; exact absurd he h1
theorem parse_none (s : ByteArray) (he : ¬ (parseB s).2.2 = 0) : (parseB s).1 = 0 ∧ (parseB s).2.1 = [] := by
  unfold parseB at *
  by_cases h1 : (pbC s).2.end_ = 0
  · rw [if_neg (by simp [h1])] at he ⊢
    by_cases h2 : checkB ((pbA s).1 : Int) (pbC s).1 = 0
    · rw [if_neg (by simp [h2])] at he; exact absurd rfl he
    · rw [if_pos h2]; exact ⟨rfl, rfl⟩
  · rw [if_pos h1]; exact ⟨rfl, rfl⟩
end Go.Proofs.Ythhgijjdddcchaa
