/-
  Many keys: which they are; that all are other ones.
-/
import Derived.Test.YtacgpflheokkaaaSkpTwo
namespace Go.Proofs.Ytacgpflheokkaaa
open Go.RowKit Go.Shelf
set_option linter.unusedVariables false
set_option linter.unusedSimpArgs false

def keyB (a : Nat) : ByteArray := ⟨#[UInt8.ofNat (a / 256), UInt8.ofNat (a % 256)]⟩
theorem keyB_size (a : Nat) : (keyB a).size = 2 := rfl
theorem keyB_inj {a b : Nat} (ha : a < 1024) (hb : b < 1024) (h : keyB a = keyB b) : a = b := by
  unfold keyB at h
  injection h with h
  have h1 := congrArg (fun x : Array UInt8 => x.toList) h
  simp only [List.cons.injEq, and_true] at h1
  obtain ⟨h2, h3⟩ := h1
  have e2 := congrArg UInt8.toNat h2
  have e3 := congrArg UInt8.toNat h3
  simp only [UInt8.toNat_ofNat'] at e2 e3
  omega
theorem step_other {step j i : Nat} (hodd : step % 2 = 1) (hji : j < i) (hi : i < 1024) : (j * step) % 1024 ≠ (i * step) % 1024 := by
  intro h
  have h1 : 1024 ∣ (i - j) * step := by
    have h2 : j * step ≤ i * step := Nat.mul_le_mul_right _ (by omega)
    rw [Nat.sub_mul]
    exact Nat.dvd_of_mod_eq_zero (Nat.sub_mod_eq_zero_of_mod_eq h.symm)
  have hc : Nat.Coprime 1024 step := by
    have h3 : Nat.Coprime 2 step := by
      unfold Nat.Coprime
      rw [Nat.gcd_rec, hodd]; rfl
    have h4 := Nat.Coprime.pow_left 10 h3
    simpa using h4
  have h5 := Nat.Coprime.dvd_of_dvd_mul_right hc h1
  have h6 := Nat.le_of_dvd (by omega) h5
  omega
def manyAt (step i : Nat) : Nat := (i * step) % 1024
theorem manyAt_succ (step i : Nat) : manyAt step (i + 1) = (manyAt step i + step) % 1024 := by
  unfold manyAt; rw [Nat.succ_mul, Nat.mod_add_mod]
structure ManyP (step i : Nat) (P : List PairS) : Prop where
  len : P.length = i
  bytes : bytesP P = 4 * (i : Int)
  mem : ∀ x ∈ P, x.1 = x.2 ∧ ∃ j, 1 ≤ j ∧ j ≤ i ∧ x.1 = keyB (manyAt step j)
theorem put_new_len {l : List PairS} {p : PairS} (hn : getP l p.1 = none) : (putP l p).length = l.length + 1 := by
  unfold putP
  have h : (l.dropWhile fun x => bLt x.1 p.1).filter (fun x => decide (x.1 ≠ p.1)) = l.dropWhile fun x => bLt x.1 p.1 := by
    rw [List.filter_eq_self]
    intro x hx
    have := List.find?_eq_none.1 hn x ((List.dropWhile_sublist _).subset hx)
    simpa using this
  rw [h, List.length_append, List.length_cons]
  have h1 : (l.takeWhile fun x => bLt x.1 p.1).length + (l.dropWhile fun x => bLt x.1 p.1).length = l.length := by rw [← List.length_append, List.takeWhile_append_dropWhile]
  omega
theorem ManyP.put {step i : Nat} {P : List PairS} (h : ManyP step i P) (hodd : step % 2 = 1) (hi : i + 1 < 1024) : ManyP step (i + 1) (putP P (keyB (manyAt step (i + 1)), keyB (manyAt step (i + 1)))) := by
  have hn : getP P (keyB (manyAt step (i + 1))) = none := by
    unfold getP
    rw [List.find?_eq_none]
    intro x hx
    obtain ⟨_, j, h1, h2, h3⟩ := h.mem x hx
    simp only [decide_eq_true_eq]
    intro h4
    rw [h3] at h4
    have h5 := keyB_inj (Nat.mod_lt _ (by decide)) (Nat.mod_lt _ (by decide)) h4
    exact step_other hodd (by omega : j < i + 1) hi h5
  refine ⟨?_, ?_, fun x hx => ?_⟩
  · rw [put_new_len (p := (keyB (manyAt step (i + 1)), keyB (manyAt step (i + 1)))) hn, h.len]
  · rw [put_new_bytes hn, h.bytes]
    show _ + (((keyB (manyAt step (i + 1))).size : Int) + ((keyB (manyAt step (i + 1))).size : Int)) = _
    rw [keyB_size]; omega
  · rcases mem_put hx with hx | rfl
    · obtain ⟨h1, j, h2, h3, h4⟩ := h.mem x hx
      exact ⟨h1, j, h2, by omega, h4⟩
    · exact ⟨rfl, i + 1, by omega, by omega, rfl⟩

/-- one list of its own -/
def OneS (n : Nat) (w : World) (a : Nat) (P : List PairS) : Prop :=
  ∃ (F : Nat → Prop) (H : ByteArray → Int) (st : Int), SkL w F a P H st ∧ (∀ k, F k → n ≤ k ∧ k < w.heap.size)
theorem OneS.moved {n : Nat} {w w' : World} {a : Nat} {P : List PairS} (h : OneS n w a P) (hB : Below w.heap.size w w') : OneS n w' a P := by
  obtain ⟨F, H, s, h1, h4⟩ := h
  have hs := hB.size
  exact ⟨F, H, s, h1.moved hB, fun k hk => ⟨(h4 k hk).1, Nat.lt_of_lt_of_le (h4 k hk).2 hs⟩⟩
theorem one_put {n : Nat} {w : World} {a : Nat} {P : List PairS} (h : OneS n w a P) (hn : n ≤ w.heap.size) {v : World} (hvw : Below w.heap.size w v) (key value : ByteArray) (ht : Int) (hl : P.length ≤ 50000) (hb : bytesP P ≤ 1000000000000) (hz : ∀ x ∈ P, x.2.size ≤ 1000000000) (hk : key.size ≤ 1000000000) (hv : value.size ≤ 1000000000) :
    Calls Try.prog 9 #[.pointer (some ⟨a, 0, none⟩), .string key, .string value, .int .i64 ht] v fun e w' => e = .returned (.int .i64 0) ∧ OneS n w' a (putP P (key, value)) ∧ Below n v w' := by
  obtain ⟨F, H, s, h1, h4⟩ := h.moved hvw
  refine (skl_put a F P H s v h1 key value ht hl hb hz hv hk).mono ?_
  rintro e w' ⟨rfl, F', st', hS, h01, h02, hF, hC⟩
  have hs := hC.size
  refine ⟨rfl, ⟨F', _, st', hS, fun k hk => ⟨?_, (hF k hk).2⟩⟩, hC.below (Nat.le_trans hn hvw.size) (fun k hk => (h4 k hk).1)⟩
  rcases (hF k hk).1 with h6 | h6
  · exact (h4 k h6).1
  · have := hvw.size; omega
/-- two bytes as a text -/
theorem strOf_two (a : Nat) (ha : a < 1024) (x y : Int) (hx : x = ((a / 256 : Nat) : Int)) (hy : y = ((a % 256 : Nat) : Int)) (wr : World) :
    (convert 27 9 (.slice (some ⟨wr.heap.size, 0, none⟩) 2 2)).run Try.prog (wr.alloc (.cells #[.int .u8 x, .int .u8 y] 5)) = .ok (.string (keyB a)) (wr.alloc (.cells #[.int .u8 x, .int .u8 y] 5)) := by
  have h := run_convert_bytes_arg (P := Try.prog) (wr.alloc (.cells #[.int .u8 x, .int .u8 y] 5)) 27 5 Try.underlying27 Try.underlying5 wr.heap.size 0 2 2 [x, y] rfl (fun i hi => by
    have : i = 0 ∨ i = 1 := by omega
    rcases this with rfl | rfl
    · rw [cell_of_row _ _ _ _ _ _ (heap_alloc_new _ _)]; rfl
    · rw [cell_of_row _ _ _ _ _ _ (heap_alloc_new _ _)]; rfl) 9 Try.underlying9
  rw [h]
  have e : strOfNums [x, y] = keyB a := by
    rw [hx, hy]
    simp only [strOfNums, List.map_cons, List.map_nil, Int.toNat_natCast]
    rfl
  rw [e]
end Go.Proofs.Ytacgpflheokkaaa
