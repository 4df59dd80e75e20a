/-
  skip's end: the last tower: by contract.
-/
import Derived.Test.YtacgpflheokkaaaSkpFrom
namespace Go.Proofs.Ytacgpflheokkaaa
open Go.RowKit Go.Shelf
set_option linter.unusedVariables false
set_option linter.unusedSimpArgs false
attribute [local go_sem] Oper.semAt_some

theorem next_on {T : List TowM} {q : List Nat} (h : Lay T q) {pre suf : List Nat} (e : q = pre ++ suf) {j x : Nat} (hf : suf.find? (fun i => decide (j < hAt T i)) = some x) :
    ∃ pre' suf', q = pre' ++ suf' ∧ endOf pre' = x ∧ j < hAt T x ∧ suf'.length < suf.length := by
  obtain ⟨hp, as_, bs, ea, hns⟩ := List.find?_eq_some_iff_append.1 hf
  exact ⟨pre ++ as_ ++ [x], bs, by rw [e, ea]; simp, endOf_snoc _ _, by simpa using hp, by rw [ea]; simp <;> omega⟩
theorem next_off {T : List TowM} {q : List Nat} (h : Lay T q) {pre suf : List Nat} (e : q = pre ++ suf) (hf : suf.find? (fun i => decide (0 < hAt T i)) = none) : suf = [] := by
  cases suf with
  | nil => rfl
  | cons x r =>
    have h1 := List.find?_eq_none.1 hf x (by simp)
    have h2 := (h.hs x (by rw [e]; simp)).1
    simp at h1; omega

theorem meas_end {T : List TowM} {q pre suf : List Nat} (hL : Lay T q) (e : q = pre ++ suf) (hx : 1 ≤ endOf pre) : meas q (endOf pre : Int) = suf.length + 1 := by
  have h := pos_end hL e
  unfold posOf at h
  rw [if_neg (by omega)] at h
  have hq : q.length = pre.length + suf.length := by rw [e]; simp
  unfold meas
  rw [if_neg (by omega), Int.toNat_natCast]
  omega
theorem next_meas {T : List TowM} {q pre suf pre' suf' : List Nat} (hL : Lay T q) (e : q = pre ++ suf) {m x : Nat} (hf : suf.find? (fun i => decide (m < hAt T i)) = some x) (e2 : q = pre' ++ suf') (hend : endOf pre' = x) : meas q (nxt T suf' m) < meas q (x : Int) := by
  have hx : 1 ≤ x := (hL.mem x (by rw [e]; exact List.mem_append_right _ (List.mem_of_find?_eq_some hf))).1
  have h1 := meas_end hL e2 (by omega)
  rw [hend] at h1
  rw [h1]
  cases hf2 : suf'.find? (fun i => decide (m < hAt T i)) with
  | none => rw [nxt_none hf2]; simp [meas]
  | some y =>
    rw [nxt_some hf2]
    obtain ⟨p3, s3, e3, hend3, _, hs3⟩ := next_on hL e2 hf2
    have hy : 1 ≤ y := (hL.mem y (by rw [e2]; exact List.mem_append_right _ (List.mem_of_find?_eq_some hf2))).1
    have h3 := meas_end hL e3 (by omega)
    rw [hend3] at h3
    rw [h3]; omega

set_option maxRecDepth 100000 in
set_option maxHeartbeats 8000000 in
theorem skip_end (b : Nat) (sa : Option Addr) (cap : Nat) (T : List TowM) (bt st : Int) (q : List Nat) (w : World) (hM : SkM w b sa cap T bt st) (hL : Lay T q) :
    Calls Try.prog 29 #[.pointer (some ⟨b, 0, none⟩)] w fun e w' => e = .returned (.int .i64 ((endOf q : Nat) : Int)) ∧ Below w.heap.size w w' := by
  have hb : b < w.heap.size := heap_lt hM.own
  have hlen := hM.len
  have hql := hL.len
  have HMB : Hid (∀ wx, Below w.heap.size w wx → SkM wx b sa cap T bt st) := Lib.hid fun wx h => hM.same (fun k o hk _ => (h.block k (heap_lt hk)).trans hk) ((h.block b hb).trans hM.own)
  have HL := Lib.hid hL
  clear hM hL
  go_enter Try.func29, Try.ntmps29
  go_wp2
  go_loopw [3, 4] (fun v3 v4 wr => ∃ (pre suf : List Nat) (m : Int), v3 = .int .i64 ((endOf pre : Nat) : Int) ∧ v4 = .int .i64 m ∧ -1 ≤ m ∧ m ≤ 11 ∧ Hid (q = pre ++ suf) ∧ Hid (m < (hAt T (endOf pre) : Int)) ∧ Hid (m = -1 → suf = []) ∧ Below w.heap.size w wr) (fun _ v _ => (intOf v + 1).toNat)
  case atStart => exact ⟨[], q, 11, rfl, rfl, by omega, by omega, Lib.hid rfl, Lib.hid (by show (11 : Int) < (hAt T 0 : Int); rw [HL.out.h0]; decide), Lib.hid (by omega), Below.refl _ _⟩
  case round =>
    obtain ⟨pre0, suf0, m0, rfl, rfl, hm0, hm1, HE0, HH0, HS0, hB0⟩ := hrel
    by_cases hge : 0 ≤ m0
    · obtain ⟨m, rfl⟩ : ∃ m : Nat, m0 = (m : Int) := ⟨m0.toNat, by omega⟩
      have hmh : m < hAt T (endOf pre0) := by have := HH0.out; omega
      obtain ⟨B, o, nb, ht, rfl, hati, hmi, c2, c3, hBb, hnb⟩ := (HMB.out _ hB0).next_facts HL.out HE0.out hmh
      obtain ⟨d0, -, -⟩ := (HMB.out _ hB0).cells
      have HMH := Lib.hid hmh
      obtain ⟨i0, hi0⟩ : ∃ i, i = endOf pre0 := ⟨_, rfl⟩
      rw [← hi0] at hati c2
      rw [← hi0]
      obtain ⟨vx, hvx⟩ : ∃ x, x = nxt T suf0 m := ⟨_, rfl⟩
      rw [← hvx] at c3
      have HI0 := Lib.hid hi0
      have HVX := Lib.hid hvx
      clear hi0 hvx hmh HH0 HS0
      go_wp2
      go_loopw [3, 5] (fun v3 v5 wi => ∃ (pre suf : List Nat), v3 = .int .i64 ((endOf pre : Nat) : Int) ∧ v5 = .int .i64 (nxt T suf m) ∧ Hid (q = pre ++ suf) ∧ Hid (m < hAt T (endOf pre)) ∧ Below w.heap.size w wi) (fun _ v _ => meas q (intOf v))
      case atStart => exact ⟨pre0, suf0, by rw [HI0.out], by rw [HVX.out], HE0, HMH, hB0⟩
      case round =>
        clear c2 c3 d0 hati hmi HI0 HVX HE0 HMH hB0 hBb hnb
        obtain ⟨pre, suf, rfl, rfl, HE, HMH, hB⟩ := hrel
        cases hf : suf.find? (fun i => decide (m < hAt T i)) with
        | none =>
          rw [nxt_none hf]
          have HOFF : Hid (m = 0 → suf = []) := Lib.hid (by rintro rfl; exact next_off HL.out HE.out hf)
          clear hf
          obtain ⟨i1, hi1⟩ : ∃ i, i = endOf pre := ⟨_, rfl⟩
          rw [← hi1]
          have HI1 := Lib.hid hi1
          clear hi1
          go_wp2
          go_roundw
          case rel => exact ⟨pre, suf, (m : Int) - 1, by rw [HI1.out], rfl, by omega, by omega, HE, Lib.hid (by have := HMH.out; omega), Lib.hid (fun h => HOFF.out (by omega)), hB⟩
          case measure => simp [intOf] <;> omega
        | some x =>
          rw [nxt_some hf]
          obtain ⟨pre', suf', e2, hend, hjx, hsl⟩ := next_on HL.out HE.out hf
          have hmq : meas q (nxt T suf' m) < meas q (x : Int) := next_meas HL.out HE.out hf e2 hend
          have hmx : m < hAt T (endOf pre') := by rw [hend]; exact hjx
          obtain ⟨B, o, nb, ht, e', hati, hmi, c2, c3, hBb, hnb⟩ := (HMB.out _ hB).next_facts HL.out e2 hmx
          cases e'
          obtain ⟨d0, -, -⟩ := (HMB.out _ hB).cells
          rw [hend] at hati c2
          have HEND := Lib.hid hend
          have HE2 := Lib.hid e2
          have HMX := Lib.hid hmx
          have HMQ := Lib.hid hmq
          have hx1 : 0 ≤ (x : Int) := by omega
          obtain ⟨vx, hvx⟩ : ∃ x, x = nxt T suf' m := ⟨_, rfl⟩
          rw [← hvx] at c3
          have HVX := Lib.hid hvx
          clear hvx hend e2 hmx hmq hjx hf
          go_wp2
          go_roundw
          case rel => exact ⟨pre', suf', by rw [HEND.out], by rw [HVX.out], HE2, HMX, hB⟩
          case measure => have := HMQ.out; simp only [intOf]; rw [HVX.out]; exact this
    · have hm2 : m0 = -1 := by omega
      have HQ := Lib.hid (show endOf pre0 = endOf q by rw [HE0.out, HS0.out hm2]; simp)
      clear hm2
      obtain ⟨i1, hi1⟩ : ∃ i, i = endOf pre0 := ⟨_, rfl⟩
      rw [← hi1]
      rw [← hi1] at HQ
      clear hi1
      go_wp2
      go_ret
      exact ⟨by rw [HQ.out]; rfl, hB0⟩
end Go.Proofs.Ytacgpflheokkaaa
