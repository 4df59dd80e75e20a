/-
  Numbers as bytes: plain mathematics, and small words on rows of bytes.
-/
import Derived.Test.YthhgijjdddcchaaBase
import Derived.ScopeJumps
import Derived.WalkMore
namespace Go.Proofs.Ythhgijjdddcchaa
open Go.RowKit
set_option linter.unusedVariables false

/-- a scope with a label that is jumped back to: what holds at the label is kept by a pass from the label on; the beginning comes to the label -/
theorem wp_scope_pass {P : Program} {a : Act} {w : World} {Q : Exit → Act → World → Prop} {c X : Code} (l : Nat) (J : Act → World → Prop) (μ : Act → World → Nat) (hf : findLabel c l = some (Code.skip.seq X))
    (pass : ∀ a w, J a w → X.wp P (Exit.jump l (fun a' w' => J a' w' ∧ μ a' w' < μ a w) Q) a w)
    (first : (∀ a w, J a w → X.wp P (Exit.jump l J Q) a w) → c.wp P (Exit.jump l J Q) a w) : (Code.scope c).wp P Q a w := by
  refine wp_scope_jumps l J μ hf (first fun a w hJ => Code.wp_mono ?_ (pass a w hJ)) fun a w hJ => wp_seq (wp_skip (show Exit.then _ _ .normal a w from pass a w hJ))
  intro e a' w' h
  cases e <;> simp only [Exit.jump] at h ⊢ <;> first | exact h | exact ⟨h.1, h.2.1⟩

theorem seq_bb {x y : ByteArray} (h : x = y) : (x.toList == y.toList) = true ∧ (x.toList != y.toList) = false := by subst h; simp
theorem toList_inj {x y : ByteArray} (h : x.toList = y.toList) : x = y := by
  rw [ByteArray.toList_eq, ByteArray.toList_eq] at h
  apply ByteArray.ext
  exact Array.toList_inj.mp h
theorem sne_bb {x y : ByteArray} (h : ¬ x = y) : (x.toList == y.toList) = false ∧ (x.toList != y.toList) = true := by
  have hn : ¬ x.toList = y.toList := fun e => h (toList_inj e)
  simp [hn]

def str (l : List UInt8) : ByteArray := ⟨l.toArray⟩
theorem str_size (l : List UInt8) : (str l).size = l.length := by simp [str, ByteArray.size]
theorem str_data (l : List UInt8) : (str l).data.toList = l := by simp [str]
theorem str_of (s : ByteArray) : str s.data.toList = s := by cases s; rfl
theorem str_inj {a b : List UInt8} (h : str a = str b) : a = b := by
  have h := congrArg (fun s => s.data.toList) h
  simpa [str] using h

/-- a number's bytes: seven bits each, the lowest first -/
def numL (n : Nat) : List UInt8 := if h : n < 128 then [UInt8.ofNat n] else UInt8.ofNat (128 + n % 128) :: numL (n / 128)
termination_by n
decreasing_by omega
theorem numL_low {n : Nat} (h : n < 128) : numL n = [UInt8.ofNat n] := by rw [numL, dif_pos h]
theorem numL_high {n : Nat} (h : ¬ n < 128) : numL n = UInt8.ofNat (128 + n % 128) :: numL (n / 128) := by rw [numL, dif_neg h]
theorem numL_ne (n : Nat) : numL n ≠ [] := by
  by_cases h : n < 128
  · rw [numL_low h]; simp
  · rw [numL_high h]; simp
theorem numL_len : ∀ (k n : Nat), n < 128 ^ (k + 1) → (numL n).length ≤ k + 1
  | 0, n, h => by rw [numL_low (by simpa using h)]; simp
  | k + 1, n, h => by
    by_cases h1 : n < 128
    · rw [numL_low h1]; simp
    · rw [numL_high h1]
      have := numL_len k (n / 128) (by rw [Nat.div_lt_iff_lt_mul (by omega)]; rw [Nat.pow_succ] at h; exact h)
      simp; omega
theorem numL_len64 (n : Nat) (h : n < 18446744073709551616) : (numL n).length ≤ 10 := numL_len 9 n (Nat.lt_of_lt_of_le h (by decide))

def u8s (l : List UInt8) : List Value := l.map fun b => .int .u8 ((b.toNat : Nat) : Int)
theorem u8s_append (a b : List UInt8) : u8s (a ++ b) = u8s a ++ u8s b := by simp [u8s]
theorem u8s_length (a : List UInt8) : (u8s a).length = a.length := by simp [u8s]
theorem strOf_u8 (l : List UInt8) : strOfNums (l.map fun b => ((b.toNat : Nat) : Int)) = str l := by
  unfold strOfNums str
  congr 2
  rw [List.map_map]
  conv => rhs; rw [← List.map_id l]
  apply List.map_congr_left
  intro b hb
  simp

/-- a row of bytes that the call owns, read as a string -/
theorem own_bytes {P : Program} {w : World} {base : Nat} {e src dst : TypeId} {v : Value} {l : List UInt8} (h : w.ownsRow base e 1 v l.length (u8s l)) (hk : l ≠ [])
    (hs : P.underlying src = some (.slice e)) (he : P.underlying e = some (.int .u8)) (hd : P.underlying dst = some .string) :
    (convert src dst v).run P w = .ok (.string (str l)) w := by
  obtain ⟨hl, h | ⟨g, cap, cur, hv, hb, hc, hn, hm, hsz, htk⟩⟩ := h
  · exact absurd (List.length_eq_zero_iff.mp h.2) hk
  · have hcell : ∀ i, i < l.length → w.cell? ⟨g, 0 + i, none⟩ = some (.int .u8 ((l.map fun b => ((b.toNat : Nat) : Int)).getD i 0)) := fun i hi => by
      rw [Nat.zero_add, cell_of_row _ _ _ _ _ _ hc]
      have e1 : cur[i]? = (u8s l)[i]? := by
        rw [← htk, List.getElem?_take_of_lt (by omega)]
        simp
      rw [e1]
      simp [u8s, List.getD_eq_getElem?_getD, List.getElem?_eq_getElem hi]
    rw [hv, run_convert_bytes_arg w src e hs he g 0 l.length cap _ (by simp) hcell dst hd, strOf_u8]

/-- the row's length, and its head, behind an append -/
theorem own_len {w : World} {base : Nat} {e : TypeId} {v : Value} {n m : Nat} {xs ys : List Value} (h : w.ownsRow base e 1 v n xs) (hn : n = m) (hx : xs = ys) : w.ownsRow base e 1 v m ys := by subst hn; subst hx; exact h

/-- 'b = append(b, x)', b a row of bytes of the call's own -/
theorem wp_append_byte {P : Program} {ops : Array Oper} {rest : List Oper} {o : Oper} {a : Act} {Q : Exit → Act → World → Prop} (hgd : o.guard = none) (s x : Operand) (t : TypeId)
    (ho : o.op = .call { callee := .builtin .append, args := #[s, x], argTypes := #[t, t] })
    (base : Nat) (e : TypeId) (ht : P.underlying t = some (.slice e)) (hi : (P.info? e).map (fun i => (i.zero, i.size, i.bytes)) = some (some (.int .u8 0), 1, 1))
    (wr : World) (v : Value) (pre : List UInt8) (hs : a.eval s = v) (hown : wr.ownsRow base e 1 v pre.length (u8s pre))
    (xv : Int) (b : UInt8) (hb : xv = ((b.toNat : Nat) : Int)) (hx : a.eval x = .slice (some ⟨wr.heap.size, 0, none⟩) 1 1) (hlen : pre.length + 1 ≤ 1000000000) (hbase : base ≤ wr.heap.size)
    (h : ∀ v' w', w'.ownsRow base e 1 v' (pre ++ [b]).length (u8s (pre ++ [b])) → Below base wr w' → wpList P ops Q rest (a.put o.dst v') w') :
    wpList P ops Q (o :: rest) a (wr.alloc (.cells #[.int .u8 xv] e)) := by
  obtain ⟨i0, hi0, hz0, hz1, hz2⟩ := info_parts hi
  refine wpList_append_own _ hgd s x t ho base e i0 (.int .u8 0) 1 1 ht hi0 hz0 hz1 hz2 rfl (by decide) v pre.length (u8s pre) hs (hown.alloc _) ⟨wr.heap.size, 0, none⟩ 1 1 [.int .u8 xv] hx rfl ?_ ?_ ?_ ?_ ?_ ?_
  · intro j u hj
    match j, hj with
    | 0, hj => simp at hj; subst hj; exact cell_of_row _ _ _ _ _ _ (heap_alloc_new _ _)
  · intro u hu; simp at hu; subst hu; rfl
  · unfold maxLen; omega
  · omega
  · simp; omega
  · intro v' w' hown' hgrow _
    refine h v' w' ?_ ?_
    · rw [hb] at hown'
      exact own_len hown' (by simp) (by simp [u8s])
    · exact ((Below.refl base wr).alloc hbase _).grown hgrow (by simp; omega) fun k hk => (hown.lt k hk).1

end Go.Proofs.Ythhgijjdddcchaa
