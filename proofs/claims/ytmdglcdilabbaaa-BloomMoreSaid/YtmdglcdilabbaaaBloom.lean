/-
  bloom.Bits and bloom.Places by contract.
-/
import Derived.Test.YtmdglcdilabbaaaCrcRef
import Derived.Test.YtmdglcdilabbaaaKit
namespace Go.Proofs.Ytmdglcdilabbaaa
open Go.RowKit
set_option linter.unusedVariables false
set_option linter.unusedSimpArgs false

/-- how many bits a filter of so many keys has -/
def bitsS (n : Nat) : Nat := (max 64 (10 * n) + 7) / 8 * 8

theorem ret1b {k : IntKind} {a b : Int} (h : a = b) : Ending.returned (.int k a) = .returned (.int k b) := by rw [h]
set_option maxHeartbeats 1000000 in
theorem bloom_bits (n : Int) (w : World) (h0 : -9223372036854775808 ≤ n) (h1 : n ≤ 1000000000000000) :
    Calls Try.prog 11 #[.int .i64 n] w fun e w' => e = .returned (.int .i64 (bitsS n.toNat : Int)) ∧ Drew w w' := by
  go_enter Try.func11, Try.ntmps11
  go_wp2
  all_goals
    go_ret
    exact ⟨ret1b (by unfold bitsS; omega), Drew.refl _⟩

def key7 (key : ByteArray) : ByteArray := key ++ ⟨#[7]⟩
/-- a key's place -/
def plAt (key : ByteArray) (bits : Int) (i : Nat) : Nat :=
  if bits < 1 then 0 else ((crcFrom 0#32 (bytesOf key)).toNat + i * (crcFrom 0#32 (bytesOf (key7 key))).toNat + i * i) % 4294967296 % bits.toNat

def plZero : Array Value := Array.replicate 6 (.int .i64 0)
theorem plZero_size : plZero.size = 6 := by simp [plZero]
theorem plZero_ne : ¬ plZero = #[] := fun h => by have := congrArg Array.size h; rw [plZero_size] at this; simp at this
theorem zero_pl (w : World) : (zeroValue 30).run Try.prog w = .ok (.agg plZero) w := by kernel_rfl
theorem info_pl : (Try.prog.info? 30).map (·.size) = some 6 := by kernel_rfl
/-- the row behind k rounds -/
def plRow (f : Nat → Nat) (k : Nat) : Array Value := Array.ofFn (n := 6) fun j => .int .i64 (if j.val < k then (f j.val : Int) else 0)
theorem plRow_zero (f : Nat → Nat) : plRow f 0 = plZero := by
  apply Array.ext
  · simp [plRow, plZero]
  · intro i h1 h2; simp [plRow, plZero]
theorem plRow_size (f : Nat → Nat) (k : Nat) : (plRow f k).size = 6 := by simp [plRow]
theorem plRow_at (f : Nat → Nat) (k j : Nat) (h : j < 6) : (plRow f k)[j]? = some (.int .i64 (if j < k then (f j : Int) else 0)) := by
  rw [Array.getElem?_eq_getElem (by rw [plRow_size]; exact h)]; simp [plRow]
theorem plRow_set (f : Nat → Nat) (k : Nat) (h : k < 6) : (plRow f k).setIfInBounds k (.int .i64 (f k : Int)) = plRow f (k + 1) := by
  apply Array.ext
  · simp [plRow]
  · intro i h1 h2
    have hi : i < 6 := by simpa [plRow] using h2
    rw [Array.getElem_setIfInBounds (by simpa [plRow] using hi)]
    by_cases e : k = i
    · subst e; simp [plRow]
    · rw [if_neg e]; simp only [plRow, Array.getElem_ofFn]
      by_cases hk : i < k
      · rw [if_pos hk, if_pos (by omega)]
      · rw [if_neg hk, if_neg (by omega)]
theorem plRow_one (f : Nat → Nat) (k : Nat) : (plRow f k).all (·.oneCell') = true := by
  rw [Array.all_eq_true_iff_forall_mem]
  intro x hx
  simp only [plRow, Array.mem_ofFn] at hx
  obtain ⟨j, rfl⟩ := hx
  rfl
theorem plZero_one : plZero.all (·.oneCell') = true := by rw [← plRow_zero (fun _ => 0)]; exact plRow_one _ _
theorem plRow_none (key : ByteArray) (bits : Int) (h : bits < 1) : plRow (plAt key bits) 6 = plZero := by
  apply Array.ext
  · simp [plRow, plZero]
  · intro i h1 h2; simp [plRow, plZero, plAt, h]

theorem wrap_u32 (n : Int) : IntKind.u32.wrap n = n % 4294967296 := by simp [IntKind.wrap, IntKind.bits, IntKind.signed]

set_option maxRecDepth 100000 in
set_option maxHeartbeats 1000000 in
theorem bloom_places_none (key : ByteArray) (bits : Int) (w : World) (hb : bits < 1) :
    Calls Try.prog 13 #[.string key, .int .i64 bits] w fun e w' => e = .returned (.agg (plRow (plAt key bits) 6)) ∧ Below w.heap.size w w' := by
  have HE := Lib.hid (plRow_none key bits hb)
  have hz := zero_pl
  have hne := plZero_ne
  rw [HE.out]
  go_enter Try.func13, Try.ntmps13
  go_wp2_with (first | (with_reducible refine wpList_load_row rfl 30 (.tmp 5) rfl (w.heap.size + 1) rfl 30 plZero (0, 0) _ (heap_alloc2_new _ _ _) Try.underlying30 rfl (by rw [plZero_size]; exact info_pl) ?_) | (with_reducible refine wpList_store_row rfl 30 (.tmp 4) (.tmp 12) rfl w.heap.size plZero rfl rfl 30 plZero (heap_alloc2_old _ _ _) (by rw [plZero_size]; exact info_pl) rfl plZero_one ?_))
  have H2 : (((w.alloc (.cells plZero 30)).alloc (.cells plZero 30)).setRow w.heap.size plZero).heap[w.heap.size]? = some (.cells plZero 30 (0, 0)) := setRow_heap _ _ _ _ _ _ (heap_alloc2_old _ _ _)
  refine bodyPost_ret (results_cell_row Try.results13 _ _ w.heap.size 30 plZero (0, 0) _ rfl H2 Try.underlying30 rfl (by rw [plZero_size]; exact info_pl)) rfl ?_
  refine ⟨rfl, ?_⟩
  exact (((Below.refl _ _).alloc (Nat.le_refl _) _).alloc (by simp) _).trans ⟨rfl, rfl, rfl, by simp, fun j hj => setRow_other _ _ _ _ (by omega)⟩


end Go.Proofs.Ytmdglcdilabbaaa
