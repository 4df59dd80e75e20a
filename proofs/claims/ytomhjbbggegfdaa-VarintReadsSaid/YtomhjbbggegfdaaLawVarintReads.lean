/-
  The walk of VarintReads: behind any calls, over any bytes, each is answered as the document says.
-/
import Derived.Test.YtomhjbbggegfdaaQText
import Derived.Test.YtomhjbbggegfdaaRdNil
import Derived.Test.YtomhjbbggegfdaaVarAwake
import Derived.Test.YtomhjbbggegfdaaLawVarintWrites
import Derived.Test.YtomhjbbggegfdaaArgs
namespace Go.Proofs.Ytomhjbbggegfdaa
open Go.RowKit
set_option linter.unusedVariables false
set_option linter.unusedSimpArgs false

/-- one call -/
structure ActR where
  d : Int
  n : Int
instance : Inhabited ActR := ⟨⟨0, 0⟩⟩
def ActR.row (r : ActR) : List Value := [.int .i64 r.d, .int .i64 r.n]
def ActR.good (r : ActR) : Prop := (-9223372036854775808 ≤ r.d ∧ r.d ≤ 9223372036854775807) ∧ -9223372036854775808 ≤ r.n ∧ r.n ≤ 9223372036854775807
def ActR.ks : List Sc := [.int .i64, .int .i64]
theorem ActR.of : ∀ vs, OkAll ActR.ks vs → ∃ r : ActR, r.row = vs ∧ r.good
  | [a, b], h => by
    obtain ⟨⟨x, rfl, hx⟩, ⟨y, rfl, hy⟩, _⟩ := h
    exact ⟨⟨x, y⟩, rfl, wf_i64' hx, wf_i64' hy⟩
  | [], h => h.elim
  | [_], h => h.2.elim
  | _ :: _ :: _ :: _, h => h.2.2.elim

/-- both readers, and the call's own cells -/
structure Two (w wx : World) (b1 b2 A : Nat) (d n : Int) (p q : RS) : Prop where
  below : Below w.heap.size w wx
  g1 : w.heap.size ≤ b1
  g2 : w.heap.size ≤ b2
  n12 : b1 ≠ b2
  n1A : A ≠ b1
  n2A : A ≠ b2
  r1 : RdAt TR wx b1 p
  r2 : RdAt QR wx b2 q
  own : wx.heap[A]? = some (.cells #[.int .i64 d, .int .i64 n] 40 (0, 0))
theorem Two.c0 {w wx : World} {b1 b2 A : Nat} {d n : Int} {p q : RS} (h : Two w wx b1 b2 A d n p q) : wx.cell? ⟨A, 0, none⟩ = some (.int .i64 d) := by rw [cell_of_row _ _ _ _ _ _ h.own]; rfl
theorem Two.c1 {w wx : World} {b1 b2 A : Nat} {d n : Int} {p q : RS} (h : Two w wx b1 b2 A d n p q) : wx.cell? ⟨A, 1, none⟩ = some (.int .i64 n) := by rw [cell_of_row _ _ _ _ _ _ h.own]; rfl
theorem Two.first {w wx w' : World} {b1 b2 A : Nat} {d n : Int} {p q p' : RS} (h : Two w wx b1 b2 A d n p q) (hR : RdAt TR w' b1 p') (hC : Chg b1 wx w') : Two w w' b1 b2 A d n p' q :=
  ⟨h.below.trans (hC.below h.g1 h.below.size), h.g1, h.g2, h.n12, h.n1A, h.n2A, hR, h.r2.chg hC (Ne.symm h.n12), hC.heap h.n1A h.own⟩
theorem Two.second {w wx w' : World} {b1 b2 A : Nat} {d n : Int} {p q q' : RS} (h : Two w wx b1 b2 A d n p q) (hR : RdAt QR w' b2 q') (hC : Chg b2 wx w') : Two w w' b1 b2 A d n p q' :=
  ⟨h.below.trans (hC.below h.g2 h.below.size), h.g1, h.g2, h.n12, h.n1A, h.n2A, h.r1.chg hC h.n12, hR, hC.heap h.n2A h.own⟩
theorem Two.drewN {w wx : World} {b1 b2 A : Nat} {d n : Int} {p q : RS} (h : Two w wx b1 b2 A d n p q) (k : Nat) : Two w (wx.drewN k) b1 b2 A d n p q :=
  ⟨below_drewN h.below k, h.g1, h.g2, h.n12, h.n1A, h.n2A, h.r1, h.r2, h.own⟩

theorem Two.drew1 {w wx : World} {b1 b2 A : Nat} {d n : Int} {p q : RS} (h : Two w wx b1 b2 A d n p q) : Two w wx.drew b1 b2 A d n p q := h.drewN 1

set_option maxRecDepth 100000 in
set_option maxHeartbeats 8000000 in
theorem VarintReads_walk (s : ByteArray) (a : Option Addr) (l : List ActR) (cap : Nat) (w : World) (hs : s.size ≤ 140737488351232) (hr : RowsAt w a 2 ActR.row l) (hg : ∀ r ∈ l, r.good) (hc : l.length ≤ cap) (hm : cap ≤ maxLen) :
    Calls Try.prog 5 #[.string s, .slice a l.length cap] w fun e w' => e = .returned (.bool true) ∧ Below w.heap.size w w' := by
  have HR := Lib.hid hr
  have HG := Lib.hid hg
  have hm' : l.length ≤ 9223372036854775807 := Nat.le_trans hc hm
  clear hr hg hc hm
  by_cases hls : 2000 < s.size
  · go_enter Try.func5, Try.ntmps5
    go_wp2_with (go_at_call 8; refine (awake03 _).mono ?_; rintro e w1 ⟨rfl, hB⟩)
    go_ret
    exact ⟨rfl, hB⟩
  by_cases hll : 50 < l.length
  · go_enter Try.func5, Try.ntmps5
    go_wp2_with (go_at_call 8; refine (awake03 _).mono ?_; rintro e w1 ⟨rfl, hB⟩)
    go_ret
    exact ⟨rfl, hB⟩
  go_enter Try.func5, Try.ntmps5
  go_wp2_with (first | (go_at_call 8; refine (awake03 _).mono ?_; rintro e w1 ⟨rfl, hB⟩) | (go_at_call 19; refine (rd_over s _).mono ?_; rintro e w2 ⟨b1, rfl, hR1, hb1, hB2⟩))
  have hW : Below w.heap.size w w2 := below_at hB hB2
  have hR1' := hR1.lt
  obtain ⟨W, eW⟩ : ∃ W, W = w2.alloc (.cells #[.string s, .int .i64 0, .int .i64 0] 38) := ⟨_, rfl⟩
  obtain ⟨b2, eb2⟩ : ∃ b, b = w2.heap.size := ⟨_, rfl⟩
  have T0 : Hid (Below w.heap.size w W ∧ w.heap.size ≤ b1 ∧ w.heap.size ≤ b2 ∧ b1 ≠ b2 ∧ RdAt TR W b1 ⟨s, 0, 0⟩ ∧ RdAt QR W b2 ⟨s, 0, 0⟩) := Lib.hid (by
    rw [eW, eb2]
    refine ⟨hW.alloc hW.size _, Nat.le_trans hB.size hb1, hW.size, by omega, hR1.below ((Below.refl _ _).alloc (Nat.le_refl _) _), heap_alloc_new _ _⟩)
  rw [← eW, ← eb2]
  clear eW eb2 hW hR1' hR1 hb1 hB2 hB
  have lit0 : ∀ r : RS, ∀ x, x = (r.little 4).1 → x < 4294967296 := fun r x e => by
    have h := leN_lt (r.take 4).1.data.toList
    have h2 : (r.take 4).1.data.toList.length ≤ 4 := by rw [Array.length_toList]; have h5 := r.take_size 4; have h6 : (r.take 4).1.data.size = (r.take 4).1.size := rfl; omega
    have h3 : 256 ^ (r.take 4).1.data.toList.length ≤ 256 ^ 4 := Nat.pow_le_pow_right (by omega) h2
    rw [e]; exact Nat.lt_of_lt_of_le h h3
  have LIT := Lib.hid lit0
  clear lit0
  go_loopw [27] (fun v27 wr => ∃ (i : Nat) (r : RS), i ≤ l.length ∧ v27 = .int .i64 (i : Int) ∧ Hid (Below w.heap.size w wr ∧ RdAt TR wr b1 r ∧ RdAt QR wr b2 r ∧ r.s = s ∧ r.ok)) (fun v _ => l.length - (intOf v).toNat)
  case atStart => exact ⟨0, ⟨s, 0, 0⟩, Nat.zero_le _, rfl, Lib.hid ⟨T0.out.1, T0.out.2.2.2.2.1, T0.out.2.2.2.2.2, rfl, Nat.zero_le _⟩⟩
  case round =>
    obtain ⟨i, r, hi, rfl, HI⟩ := hrel
    by_cases hlt : i < l.length
    · obtain ⟨B, o, eA, hcell⟩ := HR.out.at_ i hlt
      subst eA
      obtain ⟨x, hx⟩ : ∃ x, x = l[i] := ⟨_, rfl⟩
      rw [← hx] at hcell
      obtain ⟨d, n⟩ := x
      have h0 : wr.cell? ⟨B, o + i * 2, none⟩ = some (.int .i64 d) := cell_stays HI.out.1 (hcell 0 _ rfl)
      have h1 : wr.cell? ⟨B, o + i * 2 + 1, none⟩ = some (.int .i64 n) := cell_stays HI.out.1 (hcell 1 _ rfl)
      clear hcell
      have hgood := HG.out _ (List.getElem_mem hlt)
      rw [← hx] at hgood
      obtain ⟨⟨d0, d1⟩, n0, n1⟩ := hgood
      have T9 : Two w (wr.alloc (.cells #[.int .i64 d, .int .i64 n] 40)) b1 b2 wr.heap.size d n r r :=
        ⟨HI.out.1.alloc HI.out.1.size _, T0.out.2.1, T0.out.2.2.1, T0.out.2.2.2.1, (Nat.ne_of_lt HI.out.2.1.lt).symm, (Nat.ne_of_lt HI.out.2.2.1.lt).symm, HI.out.2.1.below ((Below.refl _ _).alloc (Nat.le_refl _) _), HI.out.2.2.1.below ((Below.refl _ _).alloc (Nat.le_refl _) _), heap_alloc_new _ _⟩
      have rok : r.ok := HI.out.2.2.2.2
      have hrs : r.s = s := HI.out.2.2.2.1
      have rs : r.s.size ≤ 140737488351232 := by rw [hrs]; exact hs
      have K : (d.tmod 8 = 1 ∨ d.tmod 8 = -1) ∨ (d.tmod 8 = 2 ∨ d.tmod 8 = -2) ∨ (d.tmod 8 = 3 ∨ d.tmod 8 = -3) ∨ (d.tmod 8 = 4 ∨ d.tmod 8 = -4) ∨ (d.tmod 8 = 5 ∨ d.tmod 8 = -5) ∨ (d.tmod 8 = 6 ∨ d.tmod 8 = -6) ∨ (d.tmod 8 = 7 ∨ d.tmod 8 = -7) ∨ d.tmod 8 = 0 := by
        have h1 := Int.tmod_lt_of_pos d (show (0 : Int) < 8 by decide)
        have h2 : -8 < d.tmod 8 := Int.lt_tmod_of_pos d (by decide)
        omega
      clear hx HI
      rcases K with hk | hk | hk | hk | hk | hk | hk | hk
      · -- Signed
        obtain ⟨x, hx⟩ : ∃ x, x = r.signed.1 := ⟨_, rfl⟩
        obtain ⟨q, hq⟩ : ∃ q, q = r.signed.2 := ⟨_, rfl⟩
        have qok : q.ok := by rw [hq]; exact r.num_ok rok
        have qs : q.s = s := by rw [hq]; exact (r.num_s).trans hrs
        have C1 : Hid (∀ wx, Two w wx b1 b2 wr.heap.size d n r r → Calls Try.prog 20 #[.pointer (some ⟨b1, 0, none⟩)] wx fun e w' => e = .returned (.int .i64 x) ∧ Two w w' b1 b2 wr.heap.size d n q r) := Lib.hid fun wx T => by
          have h := rd_signed b1 r wx T.r1 rok rs
          rw [← hx, ← hq] at h
          exact h.mono fun _ _ ⟨h1, h2, h3⟩ => ⟨h1, T.first h2 h3⟩
        have C2 : Hid (∀ wx, Two w wx b1 b2 wr.heap.size d n q r → Calls Try.prog 21 #[.pointer (some ⟨b2, 0, none⟩)] wx fun e w' => e = .returned (.int .i64 x) ∧ Two w w' b1 b2 wr.heap.size d n q q) := Lib.hid fun wx T => by
          have h := q_signed b2 r wx T.r2 rok rs
          rw [← hx, ← hq] at h
          exact h.mono fun _ _ ⟨h1, h2, h3⟩ => ⟨h1, T.second h2 h3⟩
        have QS : Hid (q.s.size ≤ 140737488351232) := Lib.hid (by rw [qs]; exact hs)
        have hwl : IntKind.i64.wrap ((s.size : Int) - (q.at_ : Int)) = (s.size : Int) - (q.at_ : Int) := IntWalk.i64_in _ (by unfold RS.ok at qok; rw [qs] at qok; omega)
        have QK := Lib.hid (show q.ok ∧ q.s = s from ⟨qok, qs⟩)
        have CA : Hid (∀ wx, Two w wx b1 b2 wr.heap.size d n q q → Calls Try.prog 35 #[.pointer (some ⟨b1, 0, none⟩)] wx fun e w' => e = .returned (.int .i64 (q.at_ : Int)) ∧ ∃ m, w' = wx.drewN m) := Lib.hid fun wx T => (rd_at b1 q wx T.r1).mono fun _ _ ⟨h1, ⟨h2⟩⟩ => ⟨h1, h2⟩
        have CE : Hid (∀ wx, Two w wx b1 b2 wr.heap.size d n q q → Calls Try.prog 37 #[.pointer (some ⟨b1, 0, none⟩)] wx fun e w' => e = .returned (.int .i64 q.e) ∧ ∃ m, w' = wx.drewN m) := Lib.hid fun wx T => (rd_err b1 q wx T.r1).mono fun _ _ ⟨h1, ⟨h2⟩⟩ => ⟨h1, h2⟩
        have CL : Hid (∀ wx, Two w wx b1 b2 wr.heap.size d n q q → Calls Try.prog 36 #[.pointer (some ⟨b1, 0, none⟩)] wx fun e w' => e = .returned (.int .i64 ((s.size : Int) - (q.at_ : Int))) ∧ ∃ m, w' = wx.drewN m) := Lib.hid fun wx T => by
          have h := rd_left b1 q wx T.r1 QK.out.1 QS.out
          rw [QK.out.2] at h
          exact h.mono fun _ _ ⟨h1, ⟨h2⟩⟩ => ⟨h1, h2⟩
        clear hx hq qok qs rok rs hrs
        rcases hk with hk | hk <;>
        · go_wp2_with (first | (go_at_call 20; (with_reducible refine (C1.out _ (by assumption)).mono ?_); rintro e w' ⟨rfl, T9⟩; have k0 := T9.c0; have k1 := T9.c1) | (go_at_call 21; (with_reducible refine (C2.out _ (by assumption)).mono ?_); rintro e w' ⟨rfl, T9⟩; have k0 := T9.c0; have k1 := T9.c1; have k2 := T9.r2.c1; have k3 := T9.r2.c2))
          go_quiet (first | (go_at_call 35; refine Calls.quiet_of (CA.out _ ?_); first | exact T9 | exact T9.drewN _) | (go_at_call 37; refine Calls.quiet_of (CE.out _ ?_); first | exact T9 | exact T9.drewN _) | (go_at_call 36; refine Calls.quiet_of (CL.out _ ?_); first | exact T9 | exact T9.drewN _))
          go_wp2
          go_roundw
          case rel => exact ⟨i + 1, q, by omega, by go_num, Lib.hid ⟨(T9.drewN _).below, (T9.drewN _).r1, (T9.drewN _).r2, QK.out.2, QK.out.1⟩⟩
          case measure => simp [intOf]; omega
      · -- Text
        obtain ⟨x, hx⟩ : ∃ x, x = (r.text n).1 := ⟨_, rfl⟩
        obtain ⟨q, hq⟩ : ∃ q, q = (r.text n).2 := ⟨_, rfl⟩
        have qok : q.ok := by rw [hq]; exact r.text_ok n rok
        have qs : q.s = s := by rw [hq]; exact (r.text_s n).trans hrs
        have C1 : Hid (∀ wx, Two w wx b1 b2 wr.heap.size d n r r → Calls Try.prog 22 #[.pointer (some ⟨b1, 0, none⟩), .int .i64 n] wx fun e w' => e = .returned (.string x) ∧ Two w w' b1 b2 wr.heap.size d n q r) := Lib.hid fun wx T => by
          have h := rd_text b1 r n wx T.r1 rok rs n0 n1
          rw [← hx, ← hq] at h
          exact h.mono fun _ _ ⟨h1, h2, h3⟩ => ⟨h1, T.first h2 h3⟩
        have C2 : Hid (∀ wx, Two w wx b1 b2 wr.heap.size d n q r → Calls Try.prog 23 #[.pointer (some ⟨b2, 0, none⟩), .int .i64 n] wx fun e w' => e = .returned (.string x) ∧ Two w w' b1 b2 wr.heap.size d n q q) := Lib.hid fun wx T => by
          have h := q_text b2 r n wx T.r2 rok rs n0 n1
          rw [← hx, ← hq] at h
          exact h.mono fun _ _ ⟨h1, h2, h3⟩ => ⟨h1, T.second h2 h3⟩
        have QS : Hid (q.s.size ≤ 140737488351232) := Lib.hid (by rw [qs]; exact hs)
        have hwl : IntKind.i64.wrap ((s.size : Int) - (q.at_ : Int)) = (s.size : Int) - (q.at_ : Int) := IntWalk.i64_in _ (by unfold RS.ok at qok; rw [qs] at qok; omega)
        have QK := Lib.hid (show q.ok ∧ q.s = s from ⟨qok, qs⟩)
        have CA : Hid (∀ wx, Two w wx b1 b2 wr.heap.size d n q q → Calls Try.prog 35 #[.pointer (some ⟨b1, 0, none⟩)] wx fun e w' => e = .returned (.int .i64 (q.at_ : Int)) ∧ ∃ m, w' = wx.drewN m) := Lib.hid fun wx T => (rd_at b1 q wx T.r1).mono fun _ _ ⟨h1, ⟨h2⟩⟩ => ⟨h1, h2⟩
        have CE : Hid (∀ wx, Two w wx b1 b2 wr.heap.size d n q q → Calls Try.prog 37 #[.pointer (some ⟨b1, 0, none⟩)] wx fun e w' => e = .returned (.int .i64 q.e) ∧ ∃ m, w' = wx.drewN m) := Lib.hid fun wx T => (rd_err b1 q wx T.r1).mono fun _ _ ⟨h1, ⟨h2⟩⟩ => ⟨h1, h2⟩
        have CL : Hid (∀ wx, Two w wx b1 b2 wr.heap.size d n q q → Calls Try.prog 36 #[.pointer (some ⟨b1, 0, none⟩)] wx fun e w' => e = .returned (.int .i64 ((s.size : Int) - (q.at_ : Int))) ∧ ∃ m, w' = wx.drewN m) := Lib.hid fun wx T => by
          have h := rd_left b1 q wx T.r1 QK.out.1 QS.out
          rw [QK.out.2] at h
          exact h.mono fun _ _ ⟨h1, ⟨h2⟩⟩ => ⟨h1, h2⟩
        clear hx hq qok qs rok rs hrs
        rcases hk with hk | hk <;>
        · go_wp2
          go_region_held3 (fun wx => wx.cell? ⟨wr.heap.size, 1, none⟩ = some (.int .i64 n)) (first | assumption | go_keep) (first | (go_at_call 22; (with_reducible refine (C1.out _ (by first | assumption | exact T9.drewN _ | exact T9.drew1)).mono ?_); rintro e w' ⟨rfl, T9⟩; have k0 := T9.c0; have k1 := T9.c1) | (go_at_call 23; (with_reducible refine (C2.out _ (by first | assumption | exact T9.drewN _ | exact T9.drew1)).mono ?_); rintro e w' ⟨rfl, T9⟩; have k0 := T9.c0; have k1 := T9.c1; have k2 := T9.r2.c1; have k3 := T9.r2.c2))
          go_wp2
          go_quiet (first | (go_at_call 35; refine Calls.quiet_of (CA.out _ ?_); first | exact T9 | exact T9.drewN _) | (go_at_call 37; refine Calls.quiet_of (CE.out _ ?_); first | exact T9 | exact T9.drewN _) | (go_at_call 36; refine Calls.quiet_of (CL.out _ ?_); first | exact T9 | exact T9.drewN _))
          go_wp2
          go_roundw
          case rel => exact ⟨i + 1, q, by omega, by go_num, Lib.hid ⟨(T9.drewN _).below, (T9.drewN _).r1, (T9.drewN _).r2, QK.out.2, QK.out.1⟩⟩
          case measure => simp [intOf]; omega
      · -- Fixed
        obtain ⟨x, hx⟩ : ∃ x, x = (r.little 4).1 := ⟨_, rfl⟩
        obtain ⟨q, hq⟩ : ∃ q, q = (r.little 4).2 := ⟨_, rfl⟩
        have qok : q.ok := by rw [hq]; exact r.take_ok 4 rok
        have qs : q.s = s := by rw [hq]; exact (r.take_s 4).trans hrs
        have xb : x < 4294967296 := LIT.out r x hx
        have C1 : Hid (∀ wx, Two w wx b1 b2 wr.heap.size d n r r → Calls Try.prog 24 #[.pointer (some ⟨b1, 0, none⟩)] wx fun e w' => e = .returned (.int .u32 (x : Int)) ∧ Two w w' b1 b2 wr.heap.size d n q r) := Lib.hid fun wx T => by
          have h := rd_fixed b1 r wx T.r1 rok rs
          rw [← hx, ← hq] at h
          exact h.mono fun _ _ ⟨h1, h2, h3⟩ => ⟨h1, T.first h2 h3⟩
        have C2 : Hid (∀ wx, Two w wx b1 b2 wr.heap.size d n q r → Calls Try.prog 25 #[.pointer (some ⟨b2, 0, none⟩), .int .i64 4] wx fun e w' => e = .returned (.int .u64 (x : Int)) ∧ Two w w' b1 b2 wr.heap.size d n q q) := Lib.hid fun wx T => by
          have h := q_little b2 r 4 wx T.r2 rok rs (by omega)
          rw [← hx, ← hq] at h
          exact h.mono fun _ _ ⟨h1, h2, h3⟩ => ⟨h1, T.second h2 h3⟩
        have QS : Hid (q.s.size ≤ 140737488351232) := Lib.hid (by rw [qs]; exact hs)
        have hwl : IntKind.i64.wrap ((s.size : Int) - (q.at_ : Int)) = (s.size : Int) - (q.at_ : Int) := IntWalk.i64_in _ (by unfold RS.ok at qok; rw [qs] at qok; omega)
        have QK := Lib.hid (show q.ok ∧ q.s = s from ⟨qok, qs⟩)
        have CA : Hid (∀ wx, Two w wx b1 b2 wr.heap.size d n q q → Calls Try.prog 35 #[.pointer (some ⟨b1, 0, none⟩)] wx fun e w' => e = .returned (.int .i64 (q.at_ : Int)) ∧ ∃ m, w' = wx.drewN m) := Lib.hid fun wx T => (rd_at b1 q wx T.r1).mono fun _ _ ⟨h1, ⟨h2⟩⟩ => ⟨h1, h2⟩
        have CE : Hid (∀ wx, Two w wx b1 b2 wr.heap.size d n q q → Calls Try.prog 37 #[.pointer (some ⟨b1, 0, none⟩)] wx fun e w' => e = .returned (.int .i64 q.e) ∧ ∃ m, w' = wx.drewN m) := Lib.hid fun wx T => (rd_err b1 q wx T.r1).mono fun _ _ ⟨h1, ⟨h2⟩⟩ => ⟨h1, h2⟩
        have CL : Hid (∀ wx, Two w wx b1 b2 wr.heap.size d n q q → Calls Try.prog 36 #[.pointer (some ⟨b1, 0, none⟩)] wx fun e w' => e = .returned (.int .i64 ((s.size : Int) - (q.at_ : Int))) ∧ ∃ m, w' = wx.drewN m) := Lib.hid fun wx T => by
          have h := rd_left b1 q wx T.r1 QK.out.1 QS.out
          rw [QK.out.2] at h
          exact h.mono fun _ _ ⟨h1, ⟨h2⟩⟩ => ⟨h1, h2⟩
        clear hx hq qok qs rok rs hrs
        rcases hk with hk | hk <;>
        · go_wp2_with (first | (go_at_call 24; (with_reducible refine (C1.out _ (by assumption)).mono ?_); rintro e w' ⟨rfl, T9⟩; have k0 := T9.c0; have k1 := T9.c1) | (go_at_call 25; (with_reducible refine (C2.out _ (by assumption)).mono ?_); rintro e w' ⟨rfl, T9⟩; have k0 := T9.c0; have k1 := T9.c1; have k2 := T9.r2.c1; have k3 := T9.r2.c2))
          go_quiet (first | (go_at_call 35; refine Calls.quiet_of (CA.out _ ?_); first | exact T9 | exact T9.drewN _) | (go_at_call 37; refine Calls.quiet_of (CE.out _ ?_); first | exact T9 | exact T9.drewN _) | (go_at_call 36; refine Calls.quiet_of (CL.out _ ?_); first | exact T9 | exact T9.drewN _))
          go_wp2
          go_roundw
          case rel => exact ⟨i + 1, q, by omega, by go_num, Lib.hid ⟨(T9.drewN _).below, (T9.drewN _).r1, (T9.drewN _).r2, QK.out.2, QK.out.1⟩⟩
          case measure => simp [intOf]; omega
      · -- Wide
        obtain ⟨x, hx⟩ : ∃ x, x = (r.little 8).1 := ⟨_, rfl⟩
        obtain ⟨q, hq⟩ : ∃ q, q = (r.little 8).2 := ⟨_, rfl⟩
        have qok : q.ok := by rw [hq]; exact r.take_ok 8 rok
        have qs : q.s = s := by rw [hq]; exact (r.take_s 8).trans hrs
        have C1 : Hid (∀ wx, Two w wx b1 b2 wr.heap.size d n r r → Calls Try.prog 26 #[.pointer (some ⟨b1, 0, none⟩)] wx fun e w' => e = .returned (.int .u64 (x : Int)) ∧ Two w w' b1 b2 wr.heap.size d n q r) := Lib.hid fun wx T => by
          have h := rd_wide b1 r wx T.r1 rok rs
          rw [← hx, ← hq] at h
          exact h.mono fun _ _ ⟨h1, h2, h3⟩ => ⟨h1, T.first h2 h3⟩
        have C2 : Hid (∀ wx, Two w wx b1 b2 wr.heap.size d n q r → Calls Try.prog 25 #[.pointer (some ⟨b2, 0, none⟩), .int .i64 8] wx fun e w' => e = .returned (.int .u64 (x : Int)) ∧ Two w w' b1 b2 wr.heap.size d n q q) := Lib.hid fun wx T => by
          have h := q_little b2 r 8 wx T.r2 rok rs (by omega)
          rw [← hx, ← hq] at h
          exact h.mono fun _ _ ⟨h1, h2, h3⟩ => ⟨h1, T.second h2 h3⟩
        have QS : Hid (q.s.size ≤ 140737488351232) := Lib.hid (by rw [qs]; exact hs)
        have hwl : IntKind.i64.wrap ((s.size : Int) - (q.at_ : Int)) = (s.size : Int) - (q.at_ : Int) := IntWalk.i64_in _ (by unfold RS.ok at qok; rw [qs] at qok; omega)
        have QK := Lib.hid (show q.ok ∧ q.s = s from ⟨qok, qs⟩)
        have CA : Hid (∀ wx, Two w wx b1 b2 wr.heap.size d n q q → Calls Try.prog 35 #[.pointer (some ⟨b1, 0, none⟩)] wx fun e w' => e = .returned (.int .i64 (q.at_ : Int)) ∧ ∃ m, w' = wx.drewN m) := Lib.hid fun wx T => (rd_at b1 q wx T.r1).mono fun _ _ ⟨h1, ⟨h2⟩⟩ => ⟨h1, h2⟩
        have CE : Hid (∀ wx, Two w wx b1 b2 wr.heap.size d n q q → Calls Try.prog 37 #[.pointer (some ⟨b1, 0, none⟩)] wx fun e w' => e = .returned (.int .i64 q.e) ∧ ∃ m, w' = wx.drewN m) := Lib.hid fun wx T => (rd_err b1 q wx T.r1).mono fun _ _ ⟨h1, ⟨h2⟩⟩ => ⟨h1, h2⟩
        have CL : Hid (∀ wx, Two w wx b1 b2 wr.heap.size d n q q → Calls Try.prog 36 #[.pointer (some ⟨b1, 0, none⟩)] wx fun e w' => e = .returned (.int .i64 ((s.size : Int) - (q.at_ : Int))) ∧ ∃ m, w' = wx.drewN m) := Lib.hid fun wx T => by
          have h := rd_left b1 q wx T.r1 QK.out.1 QS.out
          rw [QK.out.2] at h
          exact h.mono fun _ _ ⟨h1, ⟨h2⟩⟩ => ⟨h1, h2⟩
        clear hx hq qok qs rok rs hrs
        rcases hk with hk | hk <;>
        · go_wp2_with (first | (go_at_call 26; (with_reducible refine (C1.out _ (by assumption)).mono ?_); rintro e w' ⟨rfl, T9⟩; have k0 := T9.c0; have k1 := T9.c1) | (go_at_call 25; (with_reducible refine (C2.out _ (by assumption)).mono ?_); rintro e w' ⟨rfl, T9⟩; have k0 := T9.c0; have k1 := T9.c1; have k2 := T9.r2.c1; have k3 := T9.r2.c2))
          go_quiet (first | (go_at_call 35; refine Calls.quiet_of (CA.out _ ?_); first | exact T9 | exact T9.drewN _) | (go_at_call 37; refine Calls.quiet_of (CE.out _ ?_); first | exact T9 | exact T9.drewN _) | (go_at_call 36; refine Calls.quiet_of (CL.out _ ?_); first | exact T9 | exact T9.drewN _))
          go_wp2
          go_roundw
          case rel => exact ⟨i + 1, q, by omega, by go_num, Lib.hid ⟨(T9.drewN _).below, (T9.drewN _).r1, (T9.drewN _).r2, QK.out.2, QK.out.1⟩⟩
          case measure => simp [intOf]; omega
      · -- Take
        obtain ⟨x, hx⟩ : ∃ x, x = (r.take n).1 := ⟨_, rfl⟩
        obtain ⟨q, hq⟩ : ∃ q, q = (r.take n).2 := ⟨_, rfl⟩
        have qok : q.ok := by rw [hq]; exact r.take_ok n rok
        have qs : q.s = s := by rw [hq]; exact (r.take_s n).trans hrs
        have C1 : Hid (∀ wx, Two w wx b1 b2 wr.heap.size d n r r → Calls Try.prog 27 #[.pointer (some ⟨b1, 0, none⟩), .int .i64 n] wx fun e w' => e = .returned (.string x) ∧ Two w w' b1 b2 wr.heap.size d n q r) := Lib.hid fun wx T => by
          have h := rd_take b1 r n wx T.r1 rok rs
          rw [← hx, ← hq] at h
          exact h.mono fun _ _ ⟨h1, h2, h3⟩ => ⟨h1, T.first h2 h3⟩
        have C2 : Hid (∀ wx, Two w wx b1 b2 wr.heap.size d n q r → Calls Try.prog 28 #[.pointer (some ⟨b2, 0, none⟩), .int .i64 n] wx fun e w' => e = .returned (.string x) ∧ Two w w' b1 b2 wr.heap.size d n q q) := Lib.hid fun wx T => by
          have h := q_take b2 r n wx T.r2 rok rs
          rw [← hx, ← hq] at h
          exact h.mono fun _ _ ⟨h1, h2, h3⟩ => ⟨h1, T.second h2 h3⟩
        have QS : Hid (q.s.size ≤ 140737488351232) := Lib.hid (by rw [qs]; exact hs)
        have hwl : IntKind.i64.wrap ((s.size : Int) - (q.at_ : Int)) = (s.size : Int) - (q.at_ : Int) := IntWalk.i64_in _ (by unfold RS.ok at qok; rw [qs] at qok; omega)
        have QK := Lib.hid (show q.ok ∧ q.s = s from ⟨qok, qs⟩)
        have CA : Hid (∀ wx, Two w wx b1 b2 wr.heap.size d n q q → Calls Try.prog 35 #[.pointer (some ⟨b1, 0, none⟩)] wx fun e w' => e = .returned (.int .i64 (q.at_ : Int)) ∧ ∃ m, w' = wx.drewN m) := Lib.hid fun wx T => (rd_at b1 q wx T.r1).mono fun _ _ ⟨h1, ⟨h2⟩⟩ => ⟨h1, h2⟩
        have CE : Hid (∀ wx, Two w wx b1 b2 wr.heap.size d n q q → Calls Try.prog 37 #[.pointer (some ⟨b1, 0, none⟩)] wx fun e w' => e = .returned (.int .i64 q.e) ∧ ∃ m, w' = wx.drewN m) := Lib.hid fun wx T => (rd_err b1 q wx T.r1).mono fun _ _ ⟨h1, ⟨h2⟩⟩ => ⟨h1, h2⟩
        have CL : Hid (∀ wx, Two w wx b1 b2 wr.heap.size d n q q → Calls Try.prog 36 #[.pointer (some ⟨b1, 0, none⟩)] wx fun e w' => e = .returned (.int .i64 ((s.size : Int) - (q.at_ : Int))) ∧ ∃ m, w' = wx.drewN m) := Lib.hid fun wx T => by
          have h := rd_left b1 q wx T.r1 QK.out.1 QS.out
          rw [QK.out.2] at h
          exact h.mono fun _ _ ⟨h1, ⟨h2⟩⟩ => ⟨h1, h2⟩
        clear hx hq qok qs rok rs hrs
        rcases hk with hk | hk <;>
        · go_wp2
          go_region_held3 (fun wx => wx.cell? ⟨wr.heap.size, 1, none⟩ = some (.int .i64 n)) (first | assumption | go_keep) (first | (go_at_call 27; (with_reducible refine (C1.out _ (by first | assumption | exact T9.drewN _ | exact T9.drew1)).mono ?_); rintro e w' ⟨rfl, T9⟩; have k0 := T9.c0; have k1 := T9.c1) | (go_at_call 28; (with_reducible refine (C2.out _ (by first | assumption | exact T9.drewN _ | exact T9.drew1)).mono ?_); rintro e w' ⟨rfl, T9⟩; have k0 := T9.c0; have k1 := T9.c1; have k2 := T9.r2.c1; have k3 := T9.r2.c2))
          go_wp2
          go_quiet (first | (go_at_call 35; refine Calls.quiet_of (CA.out _ ?_); first | exact T9 | exact T9.drewN _) | (go_at_call 37; refine Calls.quiet_of (CE.out _ ?_); first | exact T9 | exact T9.drewN _) | (go_at_call 36; refine Calls.quiet_of (CL.out _ ?_); first | exact T9 | exact T9.drewN _))
          go_wp2
          go_roundw
          case rel => exact ⟨i + 1, q, by omega, by go_num, Lib.hid ⟨(T9.drewN _).below, (T9.drewN _).r1, (T9.drewN _).r2, QK.out.2, QK.out.1⟩⟩
          case measure => simp [intOf]; omega
      · -- Fail
        obtain ⟨q, hq⟩ : ∃ q, q = (r.fail n) := ⟨_, rfl⟩
        have qok : q.ok := by rw [hq]; exact r.fail_ok n rok
        have qs : q.s = s := by rw [hq]; exact (r.fail_s n).trans hrs
        have C1 : Hid (∀ wx, Two w wx b1 b2 wr.heap.size d n r r → Calls Try.prog 29 #[.pointer (some ⟨b1, 0, none⟩), .int .i64 n] wx fun e w' => e = .returned (.tuple #[]) ∧ Two w w' b1 b2 wr.heap.size d n q r) := Lib.hid fun wx T => by
          have h := rd_fail b1 r n wx T.r1
          rw [← hq] at h
          exact h.mono fun _ _ ⟨h1, h2, h3⟩ => ⟨h1, T.first h2 h3⟩
        have C2 : Hid (∀ wx, Two w wx b1 b2 wr.heap.size d n q r → Calls Try.prog 30 #[.pointer (some ⟨b2, 0, none⟩), .int .i64 n] wx fun e w' => e = .returned (.tuple #[]) ∧ Two w w' b1 b2 wr.heap.size d n q q) := Lib.hid fun wx T => by
          have h := q_fail b2 r n wx T.r2
          rw [← hq] at h
          exact h.mono fun _ _ ⟨h1, h2, h3⟩ => ⟨h1, T.second h2 h3⟩
        have QS : Hid (q.s.size ≤ 140737488351232) := Lib.hid (by rw [qs]; exact hs)
        have hwl : IntKind.i64.wrap ((s.size : Int) - (q.at_ : Int)) = (s.size : Int) - (q.at_ : Int) := IntWalk.i64_in _ (by unfold RS.ok at qok; rw [qs] at qok; omega)
        have QK := Lib.hid (show q.ok ∧ q.s = s from ⟨qok, qs⟩)
        have CA : Hid (∀ wx, Two w wx b1 b2 wr.heap.size d n q q → Calls Try.prog 35 #[.pointer (some ⟨b1, 0, none⟩)] wx fun e w' => e = .returned (.int .i64 (q.at_ : Int)) ∧ ∃ m, w' = wx.drewN m) := Lib.hid fun wx T => (rd_at b1 q wx T.r1).mono fun _ _ ⟨h1, ⟨h2⟩⟩ => ⟨h1, h2⟩
        have CE : Hid (∀ wx, Two w wx b1 b2 wr.heap.size d n q q → Calls Try.prog 37 #[.pointer (some ⟨b1, 0, none⟩)] wx fun e w' => e = .returned (.int .i64 q.e) ∧ ∃ m, w' = wx.drewN m) := Lib.hid fun wx T => (rd_err b1 q wx T.r1).mono fun _ _ ⟨h1, ⟨h2⟩⟩ => ⟨h1, h2⟩
        have CL : Hid (∀ wx, Two w wx b1 b2 wr.heap.size d n q q → Calls Try.prog 36 #[.pointer (some ⟨b1, 0, none⟩)] wx fun e w' => e = .returned (.int .i64 ((s.size : Int) - (q.at_ : Int))) ∧ ∃ m, w' = wx.drewN m) := Lib.hid fun wx T => by
          have h := rd_left b1 q wx T.r1 QK.out.1 QS.out
          rw [QK.out.2] at h
          exact h.mono fun _ _ ⟨h1, ⟨h2⟩⟩ => ⟨h1, h2⟩
        clear hq qok qs rok rs hrs
        rcases hk with hk | hk <;>
        · go_wp2_with (first | (go_at_call 29; (with_reducible refine (C1.out _ (by assumption)).mono ?_); rintro e w' ⟨rfl, T9⟩; have k0 := T9.c0; have k1 := T9.c1) | (go_at_call 30; (with_reducible refine (C2.out _ (by assumption)).mono ?_); rintro e w' ⟨rfl, T9⟩; have k0 := T9.c0; have k1 := T9.c1; have k2 := T9.r2.c1; have k3 := T9.r2.c2))
          go_quiet (first | (go_at_call 35; refine Calls.quiet_of (CA.out _ ?_); first | exact T9 | exact T9.drewN _) | (go_at_call 37; refine Calls.quiet_of (CE.out _ ?_); first | exact T9 | exact T9.drewN _) | (go_at_call 36; refine Calls.quiet_of (CL.out _ ?_); first | exact T9 | exact T9.drewN _))
          go_wp2
          go_roundw
          case rel => exact ⟨i + 1, q, by omega, by go_num, Lib.hid ⟨(T9.drewN _).below, (T9.drewN _).r1, (T9.drewN _).r2, QK.out.2, QK.out.1⟩⟩
          case measure => simp [intOf]; omega
      · -- End
        obtain ⟨x, hx⟩ : ∃ x, x = r.end_ := ⟨_, rfl⟩
        obtain ⟨q, hq⟩ : ∃ q, q = r := ⟨_, rfl⟩
        have qok : q.ok := by rw [hq]; exact rok
        have qs : q.s = s := by rw [hq]; exact hrs
        have C1 : Hid (∀ wx, Two w wx b1 b2 wr.heap.size d n r r → Calls Try.prog 31 #[.pointer (some ⟨b1, 0, none⟩)] wx fun e w' => e = .returned (.int .i64 x) ∧ Two w w' b1 b2 wr.heap.size d n q r) := Lib.hid fun wx T => by
          have h := rd_end b1 r wx T.r1 rok rs
          rw [← hx] at h
          exact h.mono fun _ _ ⟨h1, ⟨⟨k, h2⟩⟩⟩ => ⟨h1, by rw [h2, hq]; exact T.drewN k⟩
        have C2 : Hid (∀ wx, Two w wx b1 b2 wr.heap.size d n q r → Calls Try.prog 32 #[.pointer (some ⟨b2, 0, none⟩)] wx fun e w' => e = .returned (.int .i64 x) ∧ Two w w' b1 b2 wr.heap.size d n q q) := Lib.hid fun wx T => by
          have h := q_end b2 r wx T.r2
          rw [← hx] at h
          exact h.mono fun _ _ ⟨h1, ⟨⟨k, h2⟩⟩⟩ => ⟨h1, by rw [h2]; rw [hq] at T ⊢; exact T.drewN k⟩
        have QS : Hid (q.s.size ≤ 140737488351232) := Lib.hid (by rw [qs]; exact hs)
        have hwl : IntKind.i64.wrap ((s.size : Int) - (q.at_ : Int)) = (s.size : Int) - (q.at_ : Int) := IntWalk.i64_in _ (by unfold RS.ok at qok; rw [qs] at qok; omega)
        have QK := Lib.hid (show q.ok ∧ q.s = s from ⟨qok, qs⟩)
        have CA : Hid (∀ wx, Two w wx b1 b2 wr.heap.size d n q q → Calls Try.prog 35 #[.pointer (some ⟨b1, 0, none⟩)] wx fun e w' => e = .returned (.int .i64 (q.at_ : Int)) ∧ ∃ m, w' = wx.drewN m) := Lib.hid fun wx T => (rd_at b1 q wx T.r1).mono fun _ _ ⟨h1, ⟨h2⟩⟩ => ⟨h1, h2⟩
        have CE : Hid (∀ wx, Two w wx b1 b2 wr.heap.size d n q q → Calls Try.prog 37 #[.pointer (some ⟨b1, 0, none⟩)] wx fun e w' => e = .returned (.int .i64 q.e) ∧ ∃ m, w' = wx.drewN m) := Lib.hid fun wx T => (rd_err b1 q wx T.r1).mono fun _ _ ⟨h1, ⟨h2⟩⟩ => ⟨h1, h2⟩
        have CL : Hid (∀ wx, Two w wx b1 b2 wr.heap.size d n q q → Calls Try.prog 36 #[.pointer (some ⟨b1, 0, none⟩)] wx fun e w' => e = .returned (.int .i64 ((s.size : Int) - (q.at_ : Int))) ∧ ∃ m, w' = wx.drewN m) := Lib.hid fun wx T => by
          have h := rd_left b1 q wx T.r1 QK.out.1 QS.out
          rw [QK.out.2] at h
          exact h.mono fun _ _ ⟨h1, ⟨h2⟩⟩ => ⟨h1, h2⟩
        clear hx hq qok qs rok rs hrs
        rcases hk with hk | hk <;>
        · go_wp2_with (first | (go_at_call 31; (with_reducible refine (C1.out _ (by assumption)).mono ?_); rintro e w' ⟨rfl, T9⟩; have k0 := T9.c0; have k1 := T9.c1) | (go_at_call 32; (with_reducible refine (C2.out _ (by assumption)).mono ?_); rintro e w' ⟨rfl, T9⟩; have k0 := T9.c0; have k1 := T9.c1; have k2 := T9.r2.c1; have k3 := T9.r2.c2))
          go_quiet (first | (go_at_call 35; refine Calls.quiet_of (CA.out _ ?_); first | exact T9 | exact T9.drewN _) | (go_at_call 37; refine Calls.quiet_of (CE.out _ ?_); first | exact T9 | exact T9.drewN _) | (go_at_call 36; refine Calls.quiet_of (CL.out _ ?_); first | exact T9 | exact T9.drewN _))
          go_wp2
          go_roundw
          case rel => exact ⟨i + 1, q, by omega, by go_num, Lib.hid ⟨(T9.drewN _).below, (T9.drewN _).r1, (T9.drewN _).r2, QK.out.2, QK.out.1⟩⟩
          case measure => simp [intOf]; omega
      · -- Num
        obtain ⟨x, hx⟩ : ∃ x, x = r.num.1 := ⟨_, rfl⟩
        obtain ⟨q, hq⟩ : ∃ q, q = r.num.2 := ⟨_, rfl⟩
        have qok : q.ok := by rw [hq]; exact r.num_ok rok
        have qs : q.s = s := by rw [hq]; exact (r.num_s).trans hrs
        have C1 : Hid (∀ wx, Two w wx b1 b2 wr.heap.size d n r r → Calls Try.prog 33 #[.pointer (some ⟨b1, 0, none⟩)] wx fun e w' => e = .returned (.int .u64 (x : Int)) ∧ Two w w' b1 b2 wr.heap.size d n q r) := Lib.hid fun wx T => by
          have h := rd_num b1 r wx T.r1 rok rs
          rw [← hx, ← hq] at h
          exact h.mono fun _ _ ⟨h1, h2, h3⟩ => ⟨h1, T.first h2 h3⟩
        have C2 : Hid (∀ wx, Two w wx b1 b2 wr.heap.size d n q r → Calls Try.prog 34 #[.pointer (some ⟨b2, 0, none⟩)] wx fun e w' => e = .returned (.int .u64 (x : Int)) ∧ Two w w' b1 b2 wr.heap.size d n q q) := Lib.hid fun wx T => by
          have h := q_num b2 r wx T.r2 rok rs
          rw [← hx, ← hq] at h
          exact h.mono fun _ _ ⟨h1, h2, h3⟩ => ⟨h1, T.second h2 h3⟩
        have QS : Hid (q.s.size ≤ 140737488351232) := Lib.hid (by rw [qs]; exact hs)
        have hwl : IntKind.i64.wrap ((s.size : Int) - (q.at_ : Int)) = (s.size : Int) - (q.at_ : Int) := IntWalk.i64_in _ (by unfold RS.ok at qok; rw [qs] at qok; omega)
        have QK := Lib.hid (show q.ok ∧ q.s = s from ⟨qok, qs⟩)
        have CA : Hid (∀ wx, Two w wx b1 b2 wr.heap.size d n q q → Calls Try.prog 35 #[.pointer (some ⟨b1, 0, none⟩)] wx fun e w' => e = .returned (.int .i64 (q.at_ : Int)) ∧ ∃ m, w' = wx.drewN m) := Lib.hid fun wx T => (rd_at b1 q wx T.r1).mono fun _ _ ⟨h1, ⟨h2⟩⟩ => ⟨h1, h2⟩
        have CE : Hid (∀ wx, Two w wx b1 b2 wr.heap.size d n q q → Calls Try.prog 37 #[.pointer (some ⟨b1, 0, none⟩)] wx fun e w' => e = .returned (.int .i64 q.e) ∧ ∃ m, w' = wx.drewN m) := Lib.hid fun wx T => (rd_err b1 q wx T.r1).mono fun _ _ ⟨h1, ⟨h2⟩⟩ => ⟨h1, h2⟩
        have CL : Hid (∀ wx, Two w wx b1 b2 wr.heap.size d n q q → Calls Try.prog 36 #[.pointer (some ⟨b1, 0, none⟩)] wx fun e w' => e = .returned (.int .i64 ((s.size : Int) - (q.at_ : Int))) ∧ ∃ m, w' = wx.drewN m) := Lib.hid fun wx T => by
          have h := rd_left b1 q wx T.r1 QK.out.1 QS.out
          rw [QK.out.2] at h
          exact h.mono fun _ _ ⟨h1, ⟨h2⟩⟩ => ⟨h1, h2⟩
        clear hx hq qok qs rok rs hrs
        · go_wp2_with (first | (go_at_call 33; (with_reducible refine (C1.out _ (by assumption)).mono ?_); rintro e w' ⟨rfl, T9⟩; have k0 := T9.c0; have k1 := T9.c1) | (go_at_call 34; (with_reducible refine (C2.out _ (by assumption)).mono ?_); rintro e w' ⟨rfl, T9⟩; have k0 := T9.c0; have k1 := T9.c1; have k2 := T9.r2.c1; have k3 := T9.r2.c2))
          go_quiet (first | (go_at_call 35; refine Calls.quiet_of (CA.out _ ?_); first | exact T9 | exact T9.drewN _) | (go_at_call 37; refine Calls.quiet_of (CE.out _ ?_); first | exact T9 | exact T9.drewN _) | (go_at_call 36; refine Calls.quiet_of (CL.out _ ?_); first | exact T9 | exact T9.drewN _))
          go_wp2
          go_roundw
          case rel => exact ⟨i + 1, q, by omega, by go_num, Lib.hid ⟨(T9.drewN _).below, (T9.drewN _).r1, (T9.drewN _).r2, QK.out.2, QK.out.1⟩⟩
          case measure => simp [intOf]; omega
    · have E := HI.out.1
      go_wp2
      go_ret
      exact ⟨rfl, E⟩

end Go.Proofs.Ytomhjbbggegfdaa
