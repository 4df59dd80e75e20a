/-
  A list's values, heights, length, bytes, steps: by contract.
-/
import Derived.Test.YtacgpflheokkaaaSkpFind
namespace Go.Proofs.Ytacgpflheokkaaa
open Go.RowKit
set_option linter.unusedVariables false
set_option linter.unusedSimpArgs false

def valAt (T : List TowM) (i : Nat) : ByteArray := ((T[i]?).map (·.value)).getD ByteArray.empty
def getV (T : List TowM) (q : List Nat) (key : ByteArray) : ByteArray := match findO T q key with | some i => valAt T i | none => ByteArray.empty
def isV (T : List TowM) (q : List Nat) (key : ByteArray) : Bool := (findO T q key).isSome
def heightV (T : List TowM) (q : List Nat) (key : ByteArray) : Int := match findO T q key with | some i => (hAt T i : Int) | none => 0
/-- the list stands, but for its steps -/
structure SkS (w w' : World) (b : Nat) (sa : Option Addr) (cap : Nat) (T : List TowM) (bt : Int) (n : Nat) : Prop where
  chg : Chg b w w'
  mem : ∃ st', SkM w' b sa cap T bt st' ∧ 0 ≤ st' ∧ st' ≤ (n : Int) + 12
theorem SkM.chg {w w' : World} {b : Nat} {sa : Option Addr} {cap : Nat} {T : List TowM} {bt st st' : Int} (h : SkM w b sa cap T bt st) (hC : Chg b w w') (ho : w'.heap[b]? = some (.cells (listC sa T.length cap bt st') 60 (0, 0))) : SkM w' b sa cap T bt st' :=
  h.same (fun k o hk hne => hC.heap hne hk) ho

set_option maxRecDepth 100000 in
set_option maxHeartbeats 4000000 in
theorem skip_len (b : Nat) (sa : Option Addr) (cap : Nat) (T : List TowM) (bt st : Int) (w : World) (hM : SkM w b sa cap T bt st) :
    Calls Try.prog 11 #[.pointer (some ⟨b, 0, none⟩)] w fun e w' => e = .returned (.int .i64 ((T.length : Int) - 1)) ∧ w' = w := by
  obtain ⟨d0, d1, d2⟩ := hM.cells
  have hlen := hM.len
  clear hM
  go_enter Try.func11, Try.ntmps11
  go_wp2
  go_ret
  exact ⟨rfl, rfl⟩
set_option maxRecDepth 100000 in
set_option maxHeartbeats 4000000 in
theorem skip_bytes (b : Nat) (sa : Option Addr) (cap : Nat) (T : List TowM) (bt st : Int) (w : World) (hM : SkM w b sa cap T bt st) :
    Calls Try.prog 12 #[.pointer (some ⟨b, 0, none⟩)] w fun e w' => e = .returned (.int .i64 bt) ∧ w' = w := by
  obtain ⟨d0, d1, d2⟩ := hM.cells
  clear hM
  go_enter Try.func12, Try.ntmps12
  go_wp2
  go_ret
  exact ⟨rfl, rfl⟩
set_option maxRecDepth 100000 in
set_option maxHeartbeats 4000000 in
theorem skip_steps (b : Nat) (sa : Option Addr) (cap : Nat) (T : List TowM) (bt st : Int) (w : World) (hM : SkM w b sa cap T bt st) :
    Calls Try.prog 20 #[.pointer (some ⟨b, 0, none⟩)] w fun e w' => e = .returned (.int .i64 st) ∧ w' = w := by
  obtain ⟨d0, d1, d2⟩ := hM.cells
  clear hM
  go_enter Try.func20, Try.ntmps20
  go_wp2
  go_ret
  exact ⟨rfl, rfl⟩

set_option maxRecDepth 100000 in
set_option maxHeartbeats 4000000 in
theorem skip_get (b : Nat) (sa : Option Addr) (cap : Nat) (T : List TowM) (bt st : Int) (q : List Nat) (key : ByteArray) (w : World) (hM : SkM w b sa cap T bt st) (hL : Lay T q) :
    Calls Try.prog 14 #[.pointer (some ⟨b, 0, none⟩), .string key] w fun e w' => e = .returned (.tuple #[.string (getV T q key), .bool (isV T q key)]) ∧ SkS w w' b sa cap T bt q.length := by
  have AH : Hid (Calls Try.prog 25 #[.pointer (some ⟨b, 0, none⟩), .string key] w fun e w' => e = .returned (.agg (intsO (outL T q key 0))) ∧ ∃ st', Hid (SkM w' b sa cap T bt st' ∧ 0 ≤ st' ∧ st' ≤ (q.length : Int) + 12) ∧ Hid (Chg b w w')) := Lib.hid
    ((skip_ahead b sa cap T bt st q key w hM hL).mono fun _ _ ⟨h1, st', h2, h3, h4, h5⟩ => ⟨h1, st', Lib.hid ⟨hM.chg h5 h4, h2, h3⟩, Lib.hid h5⟩)
  have FI : Hid (∀ st' wx, SkM wx b sa cap T bt st' → Calls Try.prog 26 #[.pointer (some ⟨b, 0, none⟩), .agg (intsO (outL T q key 0)), .string key] wx fun e w' => e = .returned (.int .i64 (findI T q key)) ∧ Hid (Below wx.heap.size wx w')) := Lib.hid fun st' wx h =>
    (skip_find b sa cap T bt st' q key wx h hL).mono fun _ _ ⟨h1, h2⟩ => ⟨h1, Lib.hid h2⟩
  have hlen := hM.len
  obtain ⟨O, hO⟩ : ∃ O, O = intsO (outL T q key 0) := ⟨_, rfl⟩
  rw [← hO] at AH FI
  unfold getV isV
  unfold findI at FI
  cases hf : findO T q key with
  | none =>
    rw [hf] at FI
    simp only at FI ⊢
    clear hM hL hf hO
    go_enter Try.func14, Try.ntmps14
    go_wp2_with (first | (go_at_call 25; (with_reducible refine AH.out.mono ?_); rintro e w1 ⟨rfl, st1, HM1, HC1⟩) | (go_at_call 26; (with_reducible refine (FI.out _ _ HM1.out.1).mono ?_); rintro e w2 ⟨rfl, HB2⟩))
    go_ret2
    exact ⟨rfl, HC1.out.trans (Chg.ofBelow HB2.out), st1, HM1.out.1.moved HB2.out, HM1.out.2⟩
  | some x =>
    obtain ⟨hxq, hxT, hxk⟩ := find_lt hL hf
    rw [hf] at FI
    simp only at FI ⊢
    have hxi : (x : Int) < (T.length : Int) := by omega
    have hv : valAt T x = T[x].value := by simp [valAt, hxT]
    have HT : Hid (∀ st' wx, SkM wx b sa cap T bt st' → ∃ B o, sa = some ⟨B, o, none⟩ ∧ wx.cell? ⟨b, 0, none⟩ = some (.slice sa T.length cap) ∧ wx.cell? ⟨B, o + x * 3 + 1, none⟩ = some (.string (valAt T x))) := Lib.hid fun st' wx h => by
      obtain ⟨B, o, e, -, c1, -⟩ := h.tow x hxT
      exact ⟨B, o, e, h.cells.1, by rw [hv]; exact c1⟩
    clear hM hL hf hO hxq hxk hv
    go_enter Try.func14, Try.ntmps14
    go_wp2_with (first | (go_at_call 25; (with_reducible refine AH.out.mono ?_); rintro e w1 ⟨rfl, st1, HM1, HC1⟩) | (go_at_call 26; (with_reducible refine (FI.out _ _ HM1.out.1).mono ?_); rintro e w2 ⟨rfl, HB2⟩; obtain ⟨B, o, rfl, d0, d1⟩ := HT.out _ _ (HM1.out.1.moved HB2.out)))
    go_ret2
    exact ⟨rfl, HC1.out.trans (Chg.ofBelow HB2.out), st1, HM1.out.1.moved HB2.out, HM1.out.2⟩

set_option maxRecDepth 100000 in
set_option maxHeartbeats 4000000 in
theorem skip_height (b : Nat) (sa : Option Addr) (cap : Nat) (T : List TowM) (bt st : Int) (q : List Nat) (key : ByteArray) (w : World) (hM : SkM w b sa cap T bt st) (hL : Lay T q) :
    Calls Try.prog 22 #[.pointer (some ⟨b, 0, none⟩), .string key] w fun e w' => e = .returned (.int .i64 (heightV T q key)) ∧ SkS w w' b sa cap T bt q.length := by
  have AH : Hid (Calls Try.prog 25 #[.pointer (some ⟨b, 0, none⟩), .string key] w fun e w' => e = .returned (.agg (intsO (outL T q key 0))) ∧ ∃ st', Hid (SkM w' b sa cap T bt st' ∧ 0 ≤ st' ∧ st' ≤ (q.length : Int) + 12) ∧ Hid (Chg b w w')) := Lib.hid
    ((skip_ahead b sa cap T bt st q key w hM hL).mono fun _ _ ⟨h1, st', h2, h3, h4, h5⟩ => ⟨h1, st', Lib.hid ⟨hM.chg h5 h4, h2, h3⟩, Lib.hid h5⟩)
  have FI : Hid (∀ st' wx, SkM wx b sa cap T bt st' → Calls Try.prog 26 #[.pointer (some ⟨b, 0, none⟩), .agg (intsO (outL T q key 0)), .string key] wx fun e w' => e = .returned (.int .i64 (findI T q key)) ∧ Hid (Below wx.heap.size wx w')) := Lib.hid fun st' wx h =>
    (skip_find b sa cap T bt st' q key wx h hL).mono fun _ _ ⟨h1, h2⟩ => ⟨h1, Lib.hid h2⟩
  have hlen := hM.len
  obtain ⟨O, hO⟩ : ∃ O, O = intsO (outL T q key 0) := ⟨_, rfl⟩
  rw [← hO] at AH FI
  unfold heightV
  unfold findI at FI
  cases hf : findO T q key with
  | none =>
    rw [hf] at FI
    simp only at FI ⊢
    clear hM hL hf hO
    go_enter Try.func22, Try.ntmps22
    go_wp2_with (first | (go_at_call 25; (with_reducible refine AH.out.mono ?_); rintro e w1 ⟨rfl, st1, HM1, HC1⟩) | (go_at_call 26; (with_reducible refine (FI.out _ _ HM1.out.1).mono ?_); rintro e w2 ⟨rfl, HB2⟩))
    go_ret
    exact ⟨rfl, HC1.out.trans (Chg.ofBelow HB2.out), st1, HM1.out.1.moved HB2.out, HM1.out.2⟩
  | some x =>
    obtain ⟨hxq, hxT, hxk⟩ := find_lt hL hf
    rw [hf] at FI
    simp only at FI ⊢
    have hxi : (x : Int) < (T.length : Int) := by omega
    have hv : hAt T x = T[x].nx.length := by simp [hAt, hxT]
    have HT : Hid (∀ st' wx, SkM wx b sa cap T bt st' → ∃ B o nb, sa = some ⟨B, o, none⟩ ∧ wx.cell? ⟨b, 0, none⟩ = some (.slice sa T.length cap) ∧ wx.cell? ⟨B, o + x * 3 + 2, none⟩ = some (.slice (some ⟨nb, 0, none⟩) (hAt T x) (hAt T x))) := Lib.hid fun st' wx h => by
      obtain ⟨B, o, e, -, -, c2⟩ := h.tow x hxT
      exact ⟨B, o, _, e, h.cells.1, by rw [hv]; exact c2⟩
    clear hM hL hf hO hxq hxk hv
    go_enter Try.func22, Try.ntmps22
    go_wp2_with (first | (go_at_call 25; (with_reducible refine AH.out.mono ?_); rintro e w1 ⟨rfl, st1, HM1, HC1⟩) | (go_at_call 26; (with_reducible refine (FI.out _ _ HM1.out.1).mono ?_); rintro e w2 ⟨rfl, HB2⟩; obtain ⟨B, o, nb, rfl, d0, d1⟩ := HT.out _ _ (HM1.out.1.moved HB2.out)))
    go_ret
    exact ⟨rfl, HC1.out.trans (Chg.ofBelow HB2.out), st1, HM1.out.1.moved HB2.out, HM1.out.2⟩
end Go.Proofs.Ytacgpflheokkaaa
