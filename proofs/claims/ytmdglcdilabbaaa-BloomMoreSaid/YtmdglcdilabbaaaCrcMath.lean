/-
  The sums of 32 bits, as mathematics: one step is a bijection that respects '^'.
-/
import Derived.Test.YtmdglcdilabbaaaBase
namespace Go.Proofs.Ytmdglcdilabbaaa.CrcM
/-- one step -/
def st (x : BitVec 32) : BitVec 32 := if x.getLsbD 0 then (x >>> 1) ^^^ 0x82f63b78#32 else x >>> 1
def st8 (x : BitVec 32) : BitVec 32 := st (st (st (st (st (st (st (st x)))))))

theorem poly_bits (i : Nat) (h : 31 ≤ i) : (0x82f63b78#32).getLsbD i = decide (i = 31) := by
  by_cases e : i = 31
  · subst e; decide
  · have : 32 ≤ i := by omega
    rw [BitVec.getLsbD_of_ge _ _ this]; simp [e]

theorem st_xor (x y : BitVec 32) : st (x ^^^ y) = st x ^^^ st y := by
  unfold st
  rw [BitVec.getLsbD_xor]
  cases hx : x.getLsbD 0 <;> cases hy : y.getLsbD 0 <;> simp <;> ext i hi <;> simp <;> grind

theorem st_inj {x y : BitVec 32} (h : st x = st y) : x = y := by
  have top : ∀ z : BitVec 32, (st z).getLsbD 31 = z.getLsbD 0 := by
    intro z
    unfold st
    cases hz : z.getLsbD 0
    · simp
    · simp
  have h0 : x.getLsbD 0 = y.getLsbD 0 := by rw [← top x, ← top y, h]
  have hs : x >>> 1 = y >>> 1 := by
    unfold st at h
    rw [h0] at h
    cases hy : y.getLsbD 0
    · rw [hy] at h; simpa only [Bool.false_eq_true, if_false] using h
    · rw [hy] at h; simp only [if_true] at h
      have := congrArg (fun z => z ^^^ 0x82f63b78#32) h
      simpa [BitVec.xor_assoc] using this
  apply BitVec.eq_of_getLsbD_eq
  intro i hi
  cases i with
  | zero => exact h0
  | succ i =>
    have := congrArg (fun z => BitVec.getLsbD z i) hs
    simp [BitVec.getLsbD_ushiftRight] at this
    rw [Nat.add_comm 1 i] at this
    exact this

theorem st8_xor (x y : BitVec 32) : st8 (x ^^^ y) = st8 x ^^^ st8 y := by
  simp only [st8, st_xor]
theorem st8_inj {x y : BitVec 32} (h : st8 x = st8 y) : x = y := by
  unfold st8 at h
  exact st_inj (st_inj (st_inj (st_inj (st_inj (st_inj (st_inj (st_inj h)))))))

theorem st_even (x : BitVec 32) (h : x.getLsbD 0 = false) : st x = x >>> 1 := by unfold st; rw [h]; rfl

/-- a number without its lowest byte -/
theorem st8_high (x : BitVec 32) (h : ∀ i, i < 8 → x.getLsbD i = false) : st8 x = x >>> 8 := by
  have sh : ∀ a, a < 8 → st (x >>> a) = x >>> (a + 1) := fun a ha => by
    rw [st_even _ (by rw [BitVec.getLsbD_ushiftRight]; exact h _ (by omega)), BitVec.shiftRight_add]
  have s0 : st x = x >>> 1 := by have := sh 0 (by omega); simpa using this
  unfold st8
  rw [s0, sh 1 (by omega), sh 2 (by omega), sh 3 (by omega), sh 4 (by omega), sh 5 (by omega), sh 6 (by omega), sh 7 (by omega)]

/-- a byte more -/
def upd (c : BitVec 32) (b : BitVec 8) : BitVec 32 := st8 (((c.setWidth 8) ^^^ b).setWidth 32) ^^^ (c >>> 8)

theorem upd_eq (c : BitVec 32) (b : BitVec 8) : upd c b = st8 (c ^^^ b.setWidth 32) := by
  have e : c ^^^ b.setWidth 32 = (((c.setWidth 8) ^^^ b).setWidth 32) ^^^ ((c >>> 8) <<< 8) := by
    apply BitVec.eq_of_getLsbD_eq
    intro i hi
    simp [BitVec.getLsbD_setWidth, BitVec.getLsbD_ushiftRight, BitVec.getLsbD_shiftLeft]
    by_cases h8 : i < 8
    · simp [h8]; grind
    · have : 8 + (i - 8) = i := by omega
      have hb : b.getLsbD i = false := BitVec.getLsbD_of_ge _ _ (by omega)
      simp [h8, this, hb, hi]
  rw [e, st8_xor, upd, st8_high ((c >>> 8) <<< 8)]
  · congr 1
    apply BitVec.eq_of_getLsbD_eq
    intro i hi
    simp [BitVec.getLsbD_ushiftRight, BitVec.getLsbD_shiftLeft]
    grind
  · intro i hi
    simp [BitVec.getLsbD_shiftLeft, hi]

theorem upd_inj {c d : BitVec 32} {b : BitVec 8} (h : upd c b = upd d b) : c = d := by
  rw [upd_eq, upd_eq] at h
  have := st8_inj h
  simpa using this

def run (c : BitVec 32) (l : List (BitVec 8)) : BitVec 32 := l.foldl upd c
theorem run_append (c : BitVec 32) (a b : List (BitVec 8)) : run c (a ++ b) = run (run c a) b := by simp [run]
theorem run_inj (l : List (BitVec 8)) : ∀ {c d : BitVec 32}, run c l = run d l → c = d := by
  induction l with
  | nil => intro c d h; exact h
  | cons b l ih => intro c d h; exact upd_inj (ih (by simpa [run] using h))

/-- what is turned in the byte, and what is turned in the sum -/
theorem upd_turn (c u : BitVec 32) (b : BitVec 8) : upd (c ^^^ u) (b ^^^ u.setWidth 8) = upd c b ^^^ (u >>> 8) := by
  have e : (c ^^^ u) ^^^ (b ^^^ u.setWidth 8).setWidth 32 = (c ^^^ b.setWidth 32) ^^^ ((u >>> 8) <<< 8) := by
    apply BitVec.eq_of_getLsbD_eq
    intro i hi
    simp [BitVec.getLsbD_setWidth, BitVec.getLsbD_ushiftRight, BitVec.getLsbD_shiftLeft]
    by_cases h8 : i < 8
    · simp [h8, hi]; grind
    · have : 8 + (i - 8) = i := by omega
      have hb : b.getLsbD i = false := BitVec.getLsbD_of_ge _ _ (by omega)
      simp [h8, this, hb, hi]
  rw [upd_eq, upd_eq, e, st8_xor, st8_high ((u >>> 8) <<< 8)]
  · congr 1
    apply BitVec.eq_of_getLsbD_eq
    intro i hi
    simp [BitVec.getLsbD_ushiftRight, BitVec.getLsbD_shiftLeft]
    grind
  · intro i hi
    simp [BitVec.getLsbD_shiftLeft, hi]

theorem run_turn (c t : BitVec 32) (b0 b1 b2 b3 : BitVec 8) :
    run c [b0 ^^^ t.setWidth 8, b1 ^^^ (t >>> 8).setWidth 8, b2 ^^^ (t >>> 16).setWidth 8, b3 ^^^ (t >>> 24).setWidth 8] = run (c ^^^ t) [b0, b1, b2, b3] := by
  have e0 : c = (c ^^^ t) ^^^ t := by simp [BitVec.xor_assoc]
  simp only [run, List.foldl_cons, List.foldl_nil]
  conv => lhs; arg 1; arg 1; arg 1; arg 1; rw [e0]
  rw [upd_turn, upd_turn, show (t >>> 8) >>> 8 = t >>> 16 from by rw [← BitVec.shiftRight_add], upd_turn, show (t >>> 16) >>> 8 = t >>> 24 from by rw [← BitVec.shiftRight_add], upd_turn, show (t >>> 24) >>> 8 = 0#32 from by rw [← BitVec.shiftRight_add]; exact BitVec.ushiftRight_eq_zero (by omega)]
  simp

theorem run_parts (c t : BitVec 32) (p q : List (BitVec 8)) (b0 b1 b2 b3 : BitVec 8) (ht : t ≠ 0#32) :
    run c (p ++ [b0 ^^^ t.setWidth 8, b1 ^^^ (t >>> 8).setWidth 8, b2 ^^^ (t >>> 16).setWidth 8, b3 ^^^ (t >>> 24).setWidth 8] ++ q) ≠ run c (p ++ [b0, b1, b2, b3] ++ q) := by
  rw [run_append, run_append, run_append, run_append, run_turn]
  intro h
  have := run_inj _ (run_inj _ h)
  apply ht
  have h2 := congrArg (fun z => run c p ^^^ z) this
  simpa [← BitVec.xor_assoc] using h2

/-! ### Whole numbers of 32 bits as the walk has them -/
theorem bits_xor32 (a b : BitVec 32) : Go.bits .xor .u32 (a.toNat : Int) (b.toNat : Int) = ((a ^^^ b).toNat : Int) := by
  have h0 : Go.bits .xor .u32 (a.toNat : Int) (b.toNat : Int) = Go.IntKind.u32.wrap (((BitVec.ofInt 32 (a.toNat : Int)) ^^^ (BitVec.ofInt 32 (b.toNat : Int)) : BitVec 32).toNat : Int) := rfl
  have h1 : BitVec.ofInt 32 (a.toNat : Int) = a := by simp
  have h2 : BitVec.ofInt 32 (b.toNat : Int) = b := by simp
  have h3 : (a ^^^ b).toNat < 4294967296 := (a ^^^ b).isLt
  rw [h0, h1, h2, Go.IntKind.wrap_u32]
  omega
theorem bits_xor8 (a b : BitVec 8) : Go.bits .xor .u8 (a.toNat : Int) (b.toNat : Int) = ((a ^^^ b).toNat : Int) := by
  have h0 : Go.bits .xor .u8 (a.toNat : Int) (b.toNat : Int) = Go.IntKind.u8.wrap (((BitVec.ofInt 8 (a.toNat : Int)) ^^^ (BitVec.ofInt 8 (b.toNat : Int)) : BitVec 8).toNat : Int) := rfl
  have h1 : BitVec.ofInt 8 (a.toNat : Int) = a := by simp
  have h2 : BitVec.ofInt 8 (b.toNat : Int) = b := by simp
  have h3 : (a ^^^ b).toNat < 256 := (a ^^^ b).isLt
  rw [h0, h1, h2, Go.IntKind.wrap_u8]
  omega
theorem bits_and1 (a : BitVec 32) : Go.bits .and .u32 (a.toNat : Int) 1 = if a.getLsbD 0 then 1 else 0 := by
  have h0 : Go.bits .and .u32 (a.toNat : Int) 1 = Go.IntKind.u32.wrap (((BitVec.ofInt 32 (a.toNat : Int)) &&& (BitVec.ofInt 32 1) : BitVec 32).toNat : Int) := rfl
  have h1 : BitVec.ofInt 32 (a.toNat : Int) = a := by simp
  have h2 : BitVec.ofInt 32 (1 : Int) = 1#32 := by decide
  rw [h0, h1, h2, Go.IntKind.wrap_u32, BitVec.getLsbD, Nat.testBit_zero, BitVec.toNat_and, show (1#32).toNat = 1 from rfl, Nat.and_one_is_mod]
  by_cases h : a.toNat % 2 = 1
  · simp [h]
  · have : a.toNat % 2 = 0 := by omega
    simp [this]
theorem shr1 (a : BitVec 32) : ((a.toNat : Nat) : Int) / (2 : Int) = (((a >>> 1).toNat : Nat) : Int) := by
  rw [BitVec.toNat_ushiftRight, Nat.shiftRight_eq_div_pow]; simp
theorem shr8 (a : BitVec 32) : ((a.toNat : Nat) : Int) / (256 : Int) = (((a >>> 8).toNat : Nat) : Int) := by
  rw [BitVec.toNat_ushiftRight, Nat.shiftRight_eq_div_pow]; simp
theorem not32 (a : BitVec 32) : Go.bits .xor .u32 Go.IntKind.u32.max (a.toNat : Int) = ((~~~ a).toNat : Int) := by
  have h : Go.IntKind.u32.max = (((4294967295#32).toNat : Nat) : Int) := by decide
  rw [h, bits_xor32]
  rw [show (4294967295#32) = BitVec.allOnes 32 from by decide, BitVec.allOnes_xor]
theorem mod8 (a : BitVec 32) : ((a.toNat : Nat) : Int) % (256 : Int) = (((a.setWidth 8).toNat : Nat) : Int) := by
  rw [BitVec.toNat_setWidth]; simp
/-- what a byte does to a sum, in the walk's words: the table's place, and the sum behind it -/
theorem upd_words (x : BitVec 32) (b : BitVec 8) (t : BitVec 32) (j : Nat) (hj : j = ((x.setWidth 8) ^^^ b).toNat) (ht : t = st8 (BitVec.ofNat 32 j)) :
    Go.bits .xor .u8 (((x.toNat : Nat) : Int) % (256 : Int)) ((b.toNat : Nat) : Int) = (j : Int) ∧ j < 256 ∧
    Go.bits .xor .u32 ((t.toNat : Nat) : Int) (((x.toNat : Nat) : Int) / (256 : Int)) = (((upd x b).toNat : Nat) : Int) := by
  refine ⟨by rw [mod8, bits_xor8, hj], by rw [hj]; exact ((x.setWidth 8) ^^^ b).isLt, ?_⟩
  rw [shr8, bits_xor32, ht, hj, upd]
  have e : BitVec.ofNat 32 ((x.setWidth 8) ^^^ b).toNat = ((x.setWidth 8) ^^^ b).setWidth 32 := by
    apply BitVec.eq_of_toNat_eq
    rw [BitVec.toNat_ofNat, BitVec.toNat_setWidth]
  rw [e]
/-- so many steps -/
def stN : Nat → BitVec 32 → BitVec 32
  | 0, x => x
  | n + 1, x => stN n (st x)
theorem stN_8 (x : BitVec 32) : stN 8 x = st8 x := rfl
theorem odd_step (v : Int) (x : BitVec 32) (h : v = (x.toNat : Int)) (ho : x.getLsbD 0 = true) :
    (Go.bits .and .u32 v 1 == 1) = true ∧ Go.bits .xor .u32 (v / 2) 2197175160 = ((st x).toNat : Int) := by
  subst h
  refine ⟨by rw [bits_and1, ho]; rfl, ?_⟩
  rw [shr1, show (2197175160 : Int) = (((0x82f63b78#32).toNat : Nat) : Int) from rfl, bits_xor32]
  unfold st; rw [ho]; rfl
theorem even_step (v : Int) (x : BitVec 32) (h : v = (x.toNat : Int)) (ho : x.getLsbD 0 = false) :
    (Go.bits .and .u32 v 1 == 1) = false ∧ v / 2 = ((st x).toNat : Int) := by
  subst h
  refine ⟨by rw [bits_and1, ho]; rfl, ?_⟩
  rw [shr1]; unfold st; rw [ho]; rfl
/-- the entry of a byte -/
def tab (i : Nat) : BitVec 32 := st8 (BitVec.ofNat 32 i)
end Go.Proofs.Ytmdglcdilabbaaa.CrcM
