/-
  The walk of VarintBack: what is written is read as it was; what is read would be written so.
-/
import Derived.Test.YtomhjbbggegfdaaLawVarintWrites
import Derived.Test.YtomhjbbggegfdaaRdBack
namespace Go.Proofs.Ytomhjbbggegfdaa
open Go.RowKit
set_option linter.unusedVariables false
set_option linter.unusedSimpArgs false

set_option maxRecDepth 100000 in
set_option maxHeartbeats 8000000 in
theorem VarintBack_walk (n m : Int) (s t : ByteArray) (w : World) (wn : (Lit.int .u64 n).wf = true) (wm : (Lit.int .i64 m).wf = true) (ws : s.size ≤ 140737488351232) (wt : t.size ≤ 140737488351232) :
    Calls Try.prog 7 #[.int .u64 n, .int .i64 m, .string s, .string t] w fun e w' => e = .returned (.bool true) ∧ Below w.heap.size w w' := by
  obtain ⟨n0, n1⟩ := wf_u64 wn
  obtain ⟨m0, m1⟩ := wf_i64' wm
  clear wn wm
  by_cases hls : 2000 < s.size
  · go_enter Try.func7, Try.ntmps7
    go_wp2_with (go_at_call 8; refine (awake03 _).mono ?_; rintro e w1 ⟨rfl, hB⟩)
    go_ret
    exact ⟨rfl, hB⟩
  by_cases hlt : 2000 < t.size
  · go_enter Try.func7, Try.ntmps7
    go_wp2_with (go_at_call 8; refine (awake03 _).mono ?_; rintro e w1 ⟨rfl, hB⟩)
    go_ret
    exact ⟨rfl, hB⟩
  obtain ⟨xN, eN⟩ : ∃ x, x = str (numL n.toNat) := ⟨_, rfl⟩
  obtain ⟨xT, eT⟩ : ∃ x, x = str (numL s.size) ++ s := ⟨_, rfl⟩
  obtain ⟨xZ, eZ⟩ : ∃ x, x = str (numL (zz m).toNat) := ⟨_, rfl⟩
  obtain ⟨xF, eF⟩ : ∃ x, x = str (leL 4 (n % 4294967296).toNat) := ⟨_, rfl⟩
  obtain ⟨xV, eV⟩ : ∃ x, x = str (leL 8 n.toNat) := ⟨_, rfl⟩
  have sN : xN.size ≤ 10 := by rw [eN, str_size]; exact numL_len64 _ (by omega)
  have sT : xT.size ≤ 2010 := by rw [eT, ByteArray.size_append, str_size]; have := numL_len64 s.size (by omega); omega
  have sZ : xZ.size ≤ 10 := by rw [eZ, str_size]; exact numL_len64 _ (by have := zz_bd m m0 m1; omega)
  have sF : xF.size ≤ 4 := by rw [eF, str_size, leL_length]; omega
  have sV : xV.size ≤ 8 := by rw [eV, str_size, leL_length]; omega
  obtain ⟨sl, hsl⟩ : ∃ sl, s = str sl := ⟨s.data.toList, (str_of s).symm⟩
  obtain ⟨L, hL⟩ : ∃ L, L = numL n.toNat ++ (numL sl.length ++ (sl ++ (numL (zz m).toNat ++ (leL 4 (n % 4294967296).toNat ++ leL 8 n.toNat)))) := ⟨_, rfl⟩
  have hss : s.size = sl.length := by rw [hsl, str_size]
  have hcat : Hid (xN ++ xT ++ xZ ++ xF ++ xV = str L) := Lib.hid (by
    rw [eN, eT, eZ, eF, eV, hss, hsl, hL]; simp only [str_append, List.append_assoc])
  obtain ⟨k1, hk1⟩ : ∃ k, k = (numL n.toNat).length := ⟨_, rfl⟩
  obtain ⟨k2, hk2⟩ : ∃ k, k = k1 + (numL sl.length).length + sl.length := ⟨_, rfl⟩
  obtain ⟨k3, hk3⟩ : ∃ k, k = k2 + (numL (zz m).toNat).length := ⟨_, rfl⟩
  have v0 : (rdL L 0).num = (n.toNat, rdL L k1) := by
    have h := rdL_num [] (numL sl.length ++ (sl ++ (numL (zz m).toNat ++ (leL 4 (n % 4294967296).toNat ++ leL 8 n.toNat)))) n.toNat 0 L hL rfl (by omega)
    rw [h, hk1, Nat.zero_add]
  have v1 : (rdL L k1).text (s.size : Int) = (s, rdL L k2) := by
    have h := rdL_text (numL n.toNat) sl (numL (zz m).toNat ++ (leL 4 (n % 4294967296).toNat ++ leL 8 n.toNat)) k1 L (s.size : Int) hL hk1 (by omega) (by omega)
    rw [h, hk2, hsl]
  have v2 : (rdL L k2).signed = (m, rdL L k3) := by
    have hz := zz_bd m m0 m1
    have h := rdL_num (numL n.toNat ++ (numL sl.length ++ sl)) (leL 4 (n % 4294967296).toNat ++ leL 8 n.toNat) (zz m).toNat k2 L (by rw [hL]; simp) (by rw [hk2, hk1]; simp; omega) (by omega)
    unfold RS.signed; rw [h, hk3]; simp only; rw [unzz_zz]
  have v3 : (rdL L k3).little 4 = ((n % 4294967296).toNat, rdL L (k3 + 4)) := by
    exact rdL_little (numL n.toNat ++ (numL sl.length ++ (sl ++ numL (zz m).toNat))) (leL 8 n.toNat) 4 (n % 4294967296).toNat k3 L (by rw [hL]; simp) (by rw [hk3, hk2, hk1]; simp; omega) (by omega)
  have v4 : (rdL L (k3 + 4)).little 8 = (n.toNat, rdL L (k3 + 4 + 8)) := by
    exact rdL_little (numL n.toNat ++ (numL sl.length ++ (sl ++ (numL (zz m).toNat ++ leL 4 (n % 4294967296).toNat)))) [] 8 n.toNat (k3 + 4) L (by rw [hL]; simp) (by rw [hk3, hk2, hk1]; simp [leL_length]; omega) (by omega)
  have hLl : L.length = k3 + 4 + 8 := by rw [hL, hk3, hk2, hk1]; simp [leL_length]; omega
  have hLs : (str L).size ≤ 140737488351232 := by rw [← hcat.out]; simp only [ByteArray.size_append]; omega
  have v5 : (rdL L (k3 + 4 + 8)).end_ = 0 := by unfold RS.end_; rw [if_neg (by simp [rdL]), if_neg (by simp only [rdL]; rw [str_size]; omega)]
  have okk : ∀ k, k ≤ k3 + 4 + 8 → (rdL L k).ok := fun k h => by unfold RS.ok; simp only [rdL]; rw [str_size, hLl]; exact h
  have CN : Hid (∀ wx, Below w.heap.size w wx → Calls Try.prog 9 #[.int .u64 n] wx fun e w' => e = .returned (.string xN) ∧ Below w.heap.size w w') := Lib.hid fun wx hB => by
    have h := varint_num n wx n0 n1
    rw [← eN] at h
    exact h.mono fun _ _ ⟨h1, h2⟩ => ⟨h1, below_at hB h2⟩
  have CT : Hid (∀ wx, Below w.heap.size w wx → Calls Try.prog 14 #[.string s] wx fun e w' => e = .returned (.string xT) ∧ Below w.heap.size w w') := Lib.hid fun wx hB => by
    have h := varint_text s wx ws
    rw [← eT] at h
    exact h.mono fun _ _ ⟨h1, h2⟩ => ⟨h1, below_at hB h2⟩
  have CZ : Hid (∀ wx, Below w.heap.size w wx → Calls Try.prog 11 #[.int .i64 m] wx fun e w' => e = .returned (.string xZ) ∧ Below w.heap.size w w') := Lib.hid fun wx hB => by
    have h := varint_signed m wx m0 m1
    rw [← eZ] at h
    exact h.mono fun _ _ ⟨h1, h2⟩ => ⟨h1, below_at hB h2⟩
  have CF : Hid (∀ wx, Below w.heap.size w wx → Calls Try.prog 16 #[.int .u32 (n % 4294967296)] wx fun e w' => e = .returned (.string xF) ∧ Below w.heap.size w w') := Lib.hid fun wx hB => by
    have h := varint_fixed (n % 4294967296) wx (by omega) (by omega)
    rw [← eF] at h
    exact h.mono fun _ _ ⟨h1, h2⟩ => ⟨h1, below_at hB h2⟩
  have CV : Hid (∀ wx, Below w.heap.size w wx → Calls Try.prog 18 #[.int .u64 n] wx fun e w' => e = .returned (.string xV) ∧ Below w.heap.size w w') := Lib.hid fun wx hB => by
    have h := varint_wide n wx n0 n1
    rw [← eV] at h
    exact h.mono fun _ _ ⟨h1, h2⟩ => ⟨h1, below_at hB h2⟩
  have DNum : Hid (∀ b wx, w.heap.size ≤ b → Below w.heap.size w wx → RdAt TR wx b (rdL L 0) → Calls Try.prog 33 #[.pointer (some ⟨b, 0, none⟩)] wx fun e w' => e = .returned (.int .u64 n) ∧ Below w.heap.size w w' ∧ RdAt TR w' b (rdL L k1)) := Lib.hid fun b wx hb hB hR => by
    have h := rd_num b (rdL L 0) wx hR (okk _ (by omega)) hLs
    rw [v0] at h
    rw [show ((n.toNat : Nat) : Int) = n from by omega] at h
    exact h.mono fun _ _ ⟨h1, h2, h3⟩ => ⟨h1, hB.trans (h3.below hb hB.size), h2⟩
  have DText : Hid (∀ b wx, w.heap.size ≤ b → Below w.heap.size w wx → RdAt TR wx b (rdL L k1) → Calls Try.prog 22 #[.pointer (some ⟨b, 0, none⟩), .int .i64 (s.size : Int)] wx fun e w' => e = .returned (.string s) ∧ Below w.heap.size w w' ∧ RdAt TR w' b (rdL L k2)) := Lib.hid fun b wx hb hB hR => by
    have h := rd_text b (rdL L k1) (s.size : Int) wx hR (okk _ (by omega)) hLs (by omega) (by omega)
    rw [v1] at h
    skip
    exact h.mono fun _ _ ⟨h1, h2, h3⟩ => ⟨h1, hB.trans (h3.below hb hB.size), h2⟩
  have DSigned : Hid (∀ b wx, w.heap.size ≤ b → Below w.heap.size w wx → RdAt TR wx b (rdL L k2) → Calls Try.prog 20 #[.pointer (some ⟨b, 0, none⟩)] wx fun e w' => e = .returned (.int .i64 m) ∧ Below w.heap.size w w' ∧ RdAt TR w' b (rdL L k3)) := Lib.hid fun b wx hb hB hR => by
    have h := rd_signed b (rdL L k2) wx hR (okk _ (by omega)) hLs
    rw [v2] at h
    skip
    exact h.mono fun _ _ ⟨h1, h2, h3⟩ => ⟨h1, hB.trans (h3.below hb hB.size), h2⟩
  have DFixed : Hid (∀ b wx, w.heap.size ≤ b → Below w.heap.size w wx → RdAt TR wx b (rdL L k3) → Calls Try.prog 24 #[.pointer (some ⟨b, 0, none⟩)] wx fun e w' => e = .returned (.int .u32 (n % 4294967296)) ∧ Below w.heap.size w w' ∧ RdAt TR w' b (rdL L (k3 + 4))) := Lib.hid fun b wx hb hB hR => by
    have h := rd_fixed b (rdL L k3) wx hR (okk _ (by omega)) hLs
    rw [v3] at h
    rw [show (((n % 4294967296).toNat : Nat) : Int) = n % 4294967296 from by omega] at h
    exact h.mono fun _ _ ⟨h1, h2, h3⟩ => ⟨h1, hB.trans (h3.below hb hB.size), h2⟩
  have DWide : Hid (∀ b wx, w.heap.size ≤ b → Below w.heap.size w wx → RdAt TR wx b (rdL L (k3 + 4)) → Calls Try.prog 26 #[.pointer (some ⟨b, 0, none⟩)] wx fun e w' => e = .returned (.int .u64 n) ∧ Below w.heap.size w w' ∧ RdAt TR w' b (rdL L (k3 + 4 + 8))) := Lib.hid fun b wx hb hB hR => by
    have h := rd_wide b (rdL L (k3 + 4)) wx hR (okk _ (by omega)) hLs
    rw [v4] at h
    rw [show ((n.toNat : Nat) : Int) = n from by omega] at h
    exact h.mono fun _ _ ⟨h1, h2, h3⟩ => ⟨h1, hB.trans (h3.below hb hB.size), h2⟩
  have DEnd : Hid (∀ b wx, Below w.heap.size w wx → RdAt TR wx b (rdL L (k3 + 4 + 8)) → Calls Try.prog 31 #[.pointer (some ⟨b, 0, none⟩)] wx fun e w' => e = .returned (.int .i64 0) ∧ Below w.heap.size w w') := Lib.hid fun b wx hB hR => by
    have h := rd_end b (rdL L (k3 + 4 + 8)) wx hR (okk _ (by omega)) hLs
    rw [v5] at h
    exact h.mono fun _ _ ⟨h1, h2⟩ => ⟨h1, below_draws hB h2⟩
  have DOver : Hid (∀ wx, Below w.heap.size w wx → Calls Try.prog 19 #[.string (xN ++ xT ++ xZ ++ xF ++ xV)] wx fun e w' => ∃ b, e = .returned (.pointer (some ⟨b, 0, none⟩)) ∧ w.heap.size ≤ b ∧ Below w.heap.size w w' ∧ RdAt TR w' b (rdL L 0)) := Lib.hid fun wx hB => by
    rw [hcat.out]
    exact (rd_over (str L) wx).mono fun _ _ ⟨b, h1, h2, h3, h4⟩ => ⟨b, h1, Nat.le_trans hB.size h3, below_at hB h4, h2⟩
  obtain ⟨r, hr⟩ : ∃ r : RS, r = ⟨t, 0, 0⟩ := ⟨_, rfl⟩
  obtain ⟨hb1, hb2⟩ := num_back t
  rw [← hr] at hb1 hb2
  obtain ⟨x, hx⟩ : ∃ x, x = r.num.1 := ⟨_, rfl⟩
  obtain ⟨q, hq⟩ : ∃ q, q = r.num.2 := ⟨_, rfl⟩
  have x1 : x < 18446744073709551616 := by rw [hx]; exact r.num_lt
  have rok : r.ok := by rw [hr]; exact Nat.zero_le _
  have rs : r.s.size ≤ 140737488351232 := by rw [hr]; exact wt
  have qok : q.at_ ≤ t.size := by have h := r.num_ok rok; rw [← hq] at h; have h2 := r.num_s; rw [← hq, hr] at h2; unfold RS.ok at h; rw [h2] at h; exact h
  have EOver : Hid (∀ wx, Below w.heap.size w wx → Calls Try.prog 19 #[.string t] wx fun e w' => ∃ b, e = .returned (.pointer (some ⟨b, 0, none⟩)) ∧ w.heap.size ≤ b ∧ Below w.heap.size w w' ∧ RdAt TR w' b r) := Lib.hid fun wx hB => by
    have h := rd_over t wx
    rw [← hr] at h
    exact h.mono fun _ _ ⟨b, h1, h2, h3, h4⟩ => ⟨b, h1, Nat.le_trans hB.size h3, below_at hB h4, h2⟩
  have ENum : Hid (∀ b wx, w.heap.size ≤ b → Below w.heap.size w wx → RdAt TR wx b r → Calls Try.prog 33 #[.pointer (some ⟨b, 0, none⟩)] wx fun e w' => e = .returned (.int .u64 (x : Int)) ∧ Below w.heap.size w w' ∧ RdAt TR w' b q) := Lib.hid fun b wx hb hB hR => by
    have h := rd_num b r wx hR rok rs
    rw [← hx, ← hq] at h
    exact h.mono fun _ _ ⟨h1, h2, h3⟩ => ⟨h1, hB.trans (h3.below hb hB.size), h2⟩
  have EErr : Hid (∀ b wx, Below w.heap.size w wx → RdAt TR wx b q → Calls Try.prog 37 #[.pointer (some ⟨b, 0, none⟩)] wx fun e w' => e = .returned (.int .i64 q.e) ∧ Below w.heap.size w w' ∧ RdAt TR w' b q) := Lib.hid fun b wx hB hR =>
    (rd_err b q wx hR).mono fun _ _ ⟨h1, ⟨⟨d, h2⟩⟩⟩ => ⟨h1, by rw [h2]; exact below_drewN hB d, by rw [h2]; exact hR.drewN d⟩
  have EAt : Hid (∀ b wx, Below w.heap.size w wx → RdAt TR wx b q → Calls Try.prog 35 #[.pointer (some ⟨b, 0, none⟩)] wx fun e w' => e = .returned (.int .i64 (q.at_ : Int)) ∧ Below w.heap.size w w' ∧ RdAt TR w' b q) := Lib.hid fun b wx hB hR =>
    (rd_at b q wx hR).mono fun _ _ ⟨h1, ⟨⟨d, h2⟩⟩⟩ => ⟨h1, by rw [h2]; exact below_drewN hB d, by rw [h2]; exact hR.drewN d⟩
  have EX : Hid (∀ wx, Below w.heap.size w wx → RdAt TR wx 0 q ∨ True → Calls Try.prog 9 #[.int .u64 (x : Int)] wx fun e w' => e = .returned (.string (str (numL x))) ∧ Below w.heap.size w w' ∧ (∀ b, RdAt TR wx b q → RdAt TR w' b q)) := Lib.hid fun wx hB _ => by
    have h := varint_num (x : Int) wx (by omega) (by omega)
    rw [Int.toNat_natCast] at h
    exact h.mono fun _ _ ⟨h1, h2⟩ => ⟨h1, below_at hB h2, fun b hR => hR.below h2⟩
  rw [← hx, ← hq] at hb1 hb2
  have hz : (str (numL x)).size ≤ 10 := by rw [str_size]; exact numL_len64 _ x1
  have hseq : (s.toList == s.toList) = true ∧ (s.toList != s.toList) = false := seq_bb rfl
  have hneq : (n % 4294967296 != n % 4294967296) = false ∧ (n != n) = false ∧ (m != m) = false := by simp
  clear hr hx hq v0 v1 v2 v3 v4 v5 okk hLl hLs hk1 hk2 hk3 hL hss hcat eN eT eZ eF eV rok rs
  by_cases he : q.e = 0
  · obtain ⟨e0, e1⟩ := eq_bb he
    obtain ⟨g0, g1⟩ := seq_bb (hb2 he)
    clear hb1 hb2 he hsl
    go_enter Try.func7, Try.ntmps7
    go_wp2_with (first | (go_at_call 8; refine (awake03 _).mono ?_; rintro e w1 ⟨rfl, hB1⟩) | (go_at_call 19; (with_reducible refine (DOver.out _ (by assumption)).mono ?_); rintro e w2 ⟨b, rfl, hb, hBx, hRx⟩) | (go_at_call 19; (with_reducible refine (EOver.out _ (by assumption)).mono ?_); rintro e w2 ⟨b2, rfl, hb2, hBx, hRx⟩) | (go_at_call 9; (with_reducible refine (CN.out _ (by assumption)).mono ?_); rintro e w2 ⟨rfl, hBx⟩) | (go_at_call 14; (with_reducible refine (CT.out _ (by assumption)).mono ?_); rintro e w2 ⟨rfl, hBx⟩) | (go_at_call 11; (with_reducible refine (CZ.out _ (by assumption)).mono ?_); rintro e w2 ⟨rfl, hBx⟩) | (go_at_call 16; (with_reducible refine (CF.out _ (by assumption)).mono ?_); rintro e w2 ⟨rfl, hBx⟩) | (go_at_call 18; (with_reducible refine (CV.out _ (by assumption)).mono ?_); rintro e w2 ⟨rfl, hBx⟩) | (go_at_call 33; (with_reducible refine (DNum.out _ _ (by assumption) (by assumption) (by assumption)).mono ?_); rintro e w2 ⟨rfl, hBx, hRx⟩) | (go_at_call 22; (with_reducible refine (DText.out _ _ (by assumption) (by assumption) (by assumption)).mono ?_); rintro e w2 ⟨rfl, hBx, hRx⟩) | (go_at_call 20; (with_reducible refine (DSigned.out _ _ (by assumption) (by assumption) (by assumption)).mono ?_); rintro e w2 ⟨rfl, hBx, hRx⟩) | (go_at_call 24; (with_reducible refine (DFixed.out _ _ (by assumption) (by assumption) (by assumption)).mono ?_); rintro e w2 ⟨rfl, hBx, hRx⟩) | (go_at_call 26; (with_reducible refine (DWide.out _ _ (by assumption) (by assumption) (by assumption)).mono ?_); rintro e w2 ⟨rfl, hBx, hRx⟩) | (go_at_call 31; (with_reducible refine (DEnd.out _ _ (by assumption) (by assumption)).mono ?_); rintro e w2 ⟨rfl, hBx⟩) | (go_at_call 33; (with_reducible refine (ENum.out _ _ (by assumption) (by assumption) (by assumption)).mono ?_); rintro e w2 ⟨rfl, hBx, hRx⟩) | (go_at_call 37; (with_reducible refine (EErr.out _ _ (by assumption) (by assumption)).mono ?_); rintro e w2 ⟨rfl, hBx, hRx⟩) | (go_at_call 35; (with_reducible refine (EAt.out _ _ (by assumption) (by assumption)).mono ?_); rintro e w2 ⟨rfl, hBx, hRx⟩) | (go_at_call 9; (with_reducible refine (EX.out _ (by assumption) (.inr trivial)).mono ?_); rintro e w2 ⟨rfl, hBx, hKx⟩; have hRx := hKx _ (by assumption); clear hKx))
    go_ret
    exact ⟨rfl, by assumption⟩
  · obtain ⟨e0, e1⟩ := ne_bb he
    obtain ⟨rfl, ha⟩ := hb1 he
    have ha1 : ((q.at_ : Nat) : Int) = 0 := by omega
    clear hb2 he hsl ha
    go_enter Try.func7, Try.ntmps7
    go_wp2_with (first | (go_at_call 8; refine (awake03 _).mono ?_; rintro e w1 ⟨rfl, hB1⟩) | (go_at_call 19; (with_reducible refine (DOver.out _ (by assumption)).mono ?_); rintro e w2 ⟨b, rfl, hb, hBx, hRx⟩) | (go_at_call 19; (with_reducible refine (EOver.out _ (by assumption)).mono ?_); rintro e w2 ⟨b2, rfl, hb2, hBx, hRx⟩) | (go_at_call 9; (with_reducible refine (CN.out _ (by assumption)).mono ?_); rintro e w2 ⟨rfl, hBx⟩) | (go_at_call 14; (with_reducible refine (CT.out _ (by assumption)).mono ?_); rintro e w2 ⟨rfl, hBx⟩) | (go_at_call 11; (with_reducible refine (CZ.out _ (by assumption)).mono ?_); rintro e w2 ⟨rfl, hBx⟩) | (go_at_call 16; (with_reducible refine (CF.out _ (by assumption)).mono ?_); rintro e w2 ⟨rfl, hBx⟩) | (go_at_call 18; (with_reducible refine (CV.out _ (by assumption)).mono ?_); rintro e w2 ⟨rfl, hBx⟩) | (go_at_call 33; (with_reducible refine (DNum.out _ _ (by assumption) (by assumption) (by assumption)).mono ?_); rintro e w2 ⟨rfl, hBx, hRx⟩) | (go_at_call 22; (with_reducible refine (DText.out _ _ (by assumption) (by assumption) (by assumption)).mono ?_); rintro e w2 ⟨rfl, hBx, hRx⟩) | (go_at_call 20; (with_reducible refine (DSigned.out _ _ (by assumption) (by assumption) (by assumption)).mono ?_); rintro e w2 ⟨rfl, hBx, hRx⟩) | (go_at_call 24; (with_reducible refine (DFixed.out _ _ (by assumption) (by assumption) (by assumption)).mono ?_); rintro e w2 ⟨rfl, hBx, hRx⟩) | (go_at_call 26; (with_reducible refine (DWide.out _ _ (by assumption) (by assumption) (by assumption)).mono ?_); rintro e w2 ⟨rfl, hBx, hRx⟩) | (go_at_call 31; (with_reducible refine (DEnd.out _ _ (by assumption) (by assumption)).mono ?_); rintro e w2 ⟨rfl, hBx⟩) | (go_at_call 33; (with_reducible refine (ENum.out _ _ (by assumption) (by assumption) (by assumption)).mono ?_); rintro e w2 ⟨rfl, hBx, hRx⟩) | (go_at_call 37; (with_reducible refine (EErr.out _ _ (by assumption) (by assumption)).mono ?_); rintro e w2 ⟨rfl, hBx, hRx⟩) | (go_at_call 35; (with_reducible refine (EAt.out _ _ (by assumption) (by assumption)).mono ?_); rintro e w2 ⟨rfl, hBx, hRx⟩) | (go_at_call 9; (with_reducible refine (EX.out _ (by assumption) (.inr trivial)).mono ?_); rintro e w2 ⟨rfl, hBx, hKx⟩; have hRx := hKx _ (by assumption); clear hKx))
    go_ret
    exact ⟨rfl, by assumption⟩

end Go.Proofs.Ytomhjbbggegfdaa
