/-
  schema.of and the makers of keys by contract.
-/
import Derived.Test.YtafdjgmdkbimoaaDoorKeyBytes
import Derived.Test.YtafdjgmdkbimoaaDoorKeyOrd
import Derived.Test.YtafdjgmdkbimoaaDoorRow
import Derived.Laws.AppendOwnNone
import Derived.Deep.RegionHeld3
namespace Go.Proofs.YtafdjgmdkbimoaaDoor
open Go.RowKit
set_option linter.unusedVariables false
set_option linter.unusedSimpArgs false

theorem PartR.len' (p : PartR) : p.row.length = 4 := rfl
theorem info_part3' : (Tryd.prog.info? 51).map (fun i => (i.zero, i.size, i.bytes)) = some (some (.agg (cells4 0 0 0 ByteArray.empty)), 4, 40) := by kernel_rfl

/-- the cells of a row of structs, one behind the other -/
theorem rows_news {ρ : Type} {w : World} {b o m : Nat} {enc : ρ → List Value} {l : List ρ} (h : RowsAt w (some ⟨b, o, none⟩) m enc l) (he : ∀ r, (enc r).length = m) (hm : 0 < m) :
    ∀ j u, (l.flatMap enc)[j]? = some u → w.cell? ((⟨b, o, none⟩ : Addr).add j) = some u := fun j u hu => by
  have hlt : j < (l.flatMap enc).length := (List.getElem?_eq_some_iff.1 hu).1
  rw [flat_length he] at hlt
  have hi : j / m < l.length := by
    rw [Nat.div_lt_iff_lt_mul hm]; exact hlt
  obtain ⟨b', o', e, hc⟩ := h.at_ (j / m) hi
  simp at e
  obtain ⟨rfl, rfl⟩ := e
  have hj : j / m * m + j % m = j := by rw [Nat.mul_comm]; exact Nat.div_add_mod j m
  have hmod : j % m < m := Nat.mod_lt _ hm
  have h1 := flat_at he l (j / m) (j % m) l[j / m] (List.getElem?_eq_getElem hi) hmod
  rw [hj, hu] at h1
  have h2 := hc (j % m) u h1.symm
  rw [hj] at h2
  have hadd : (⟨b, o, none⟩ : Addr).add j = ⟨b, o + j, none⟩ := by unfold Addr.add; split <;> simp_all
  rw [hadd]; exact h2
theorem rows_one {ρ : Type} {enc : ρ → List Value} {m : Nat} (he : ∀ r, (enc r).length = m) (h1 : ∀ r, ∀ u ∈ enc r, u.oneCell' = true) (l : List ρ) : ∀ u ∈ l.flatMap enc, u.oneCell' = true := fun u hu => by
  obtain ⟨r, _, hr⟩ := List.mem_flatMap.1 hu
  exact h1 r u hr
theorem PartR.one (p : PartR) : ∀ u ∈ p.row, u.oneCell' = true := fun u hu => by
  simp [PartR.row] at hu
  rcases hu with rfl | rfl | rfl | rfl <;> rfl

theorem rows_news_any {ρ : Type} {w : World} {ad : Addr} {m : Nat} {enc : ρ → List Value} {l : List ρ} (h : RowsAt w (some ad) m enc l) (he : ∀ r, (enc r).length = m) (hm : 0 < m) :
    ∀ j u, (l.flatMap enc)[j]? = some u → w.cell? (ad.add j) = some u := by
  rcases h.out with e | ⟨b, o, e, _⟩
  · subst e; intro j u hu; simp at hu
  · cases e; exact rows_news h he hm

/-- a row of one struct in a block of its own -/
theorem own_single {w : World} {base B : Nat} {e : TypeId} {m : Nat} {cs : Array Value} (hb : base ≤ B) (h : w.heap[B]? = some (.cells cs e (0, 0))) (hm : cs.size = m) : w.ownsRow base e m (.slice (some ⟨B, 0, none⟩) 1 1) 1 cs.toList :=
  ⟨by rw [Array.length_toList, hm, Nat.one_mul], .inr ⟨B, 1, cs, rfl, hb, h, Nat.le_refl _, by decide, by rw [hm, Nat.one_mul], by rw [Nat.one_mul, ← hm, ← Array.length_toList, List.take_length]⟩⟩

/-- the row that schema.of hands to key.Make -/
def ofL (sort : ByteArray) (l : List PartR) : List PartR := ⟨116, 0, 0, sort⟩ :: l
def ofS (sort : ByteArray) (l : List PartR) : ByteArray := str (makeGo (ofL sort l) []).1

set_option maxRecDepth 100000 in
set_option maxHeartbeats 4000000 in
theorem schema_of (sort : ByteArray) (l : List PartR) (A : Option Addr) (c : Nat) (w : World) (m : Int) (hr : RowsAt w A 4 PartR.row l) (hA : A = none → c = 0) (hl : l.length ≤ 1000) (hg : ∀ p ∈ l, p.good) (hs : ∀ p ∈ l, p.s.size ≤ 300) (hso : sort.size ≤ 300) (hm : w.cell? ⟨0, 0, none⟩ = some (.int .i64 m)) :
    Calls Tryd.prog 26 #[.string sort, .slice A l.length c] w fun e w' => e = .returned (.string (ofS sort l)) ∧ Below w.heap.size w w' := by
  obtain ⟨i0, hi0, hz0, hz1, hz2⟩ := info_parts info_part3'
  have HR := Lib.hid hr
  have hz := zero_part
  have KT : Hid (∀ wx, Below w.heap.size w wx → Calls Tryd.prog 31 #[.string sort] wx fun e w' => e = .returned (.agg (cells4 116 0 0 sort)) ∧ Below w.heap.size w w') := Lib.hid fun wx h => (key_text sort wx).mono fun _ _ ⟨h1, h2⟩ => ⟨h1, below_at h h2⟩
  obtain ⟨S, hS⟩ : ∃ S, S = ofS sort l := ⟨_, rfl⟩
  have hlen : (ofL sort l).length = l.length + 1 := rfl
  have KM : Hid (∀ wx v, Below w.heap.size w wx → wx.ownsRow w.heap.size 51 4 v (l.length + 1) ((ofL sort l).flatMap PartR.row) → Calls Tryd.prog 30 #[v] wx fun e w' => ∃ q, e = .returned (.tuple #[.string S, .int .i64 q]) ∧ Below w.heap.size w w') := Lib.hid fun wx v h ho => by
    rw [← hlen] at ho
    obtain ⟨a, cc, e1, e2, e3, e4⟩ := own_rowsN ho PartR.len'
    subst e1
    refine (key_make_any (ofL sort l) a cc wx m e2 (by rw [hlen]; omega) ?_ ?_ ?_).mono fun e w' ⟨h1, h2⟩ => ⟨(makeGo (ofL sort l) []).2, by rw [h1, hS]; rfl, below_at h h2⟩
    · intro p hp
      rcases List.mem_cons.1 hp with rfl | hp
      · have h3 : (300 : Nat) ≤ maxLen := by decide
        exact ⟨by simp, by simp, by simp, by simp only; omega⟩
      · exact hg p hp
    · intro p hp
      rcases List.mem_cons.1 hp with rfl | hp
      · exact hso
      · exact hs p hp
    · have h0 : 0 < w.heap.size := cell_lt hm
      rw [h.cell (p := ⟨0, 0, none⟩) h0]; exact hm
  have HFL : Hid ((ofL sort l).flatMap PartR.row = (cells4 116 0 0 sort).toList ++ l.flatMap PartR.row) := Lib.hid rfl
  have W0 : Below w.heap.size w w := Below.refl _ _
  rw [← hS]
  clear hS hr hg hs hm hlen
  cases A with
  | none =>
    obtain rfl := hA rfl
    obtain rfl : l = [] := by
      rcases HR.out.out with e | ⟨b, o, e, _⟩
      · exact e
      · cases e
    clear hA
    go_enter Tryd.func26, Tryd.ntmps26
    go_wp2_with (first
      | (go_at_call 31; (with_reducible refine (KT.out _ W0).mono ?_); rintro e w1 ⟨rfl, hB1⟩)
      | (at_builtin; refine wpList_append_own_none rfl (.tmp 10) (.tmp 11) 46 rfl w.heap.size 51 i0 4 Tryd.underlying46 hi0 _ 1 (cells4 116 0 0 sort).toList rfl (own_single hB1.size (heap_new rfl) rfl) rfl ?_)
      | (go_at_call 30; refine (KM.out _ _ (hB1.alloc hB1.size _) (by rw [HFL.out]; exact own_single hB1.size (heap_new rfl) rfl)).mono ?_; rintro e w3 ⟨q, rfl, hB3⟩))
    go_ret
    exact ⟨rfl, hB3⟩
  | some ad =>
    clear hA
    have HLL : Hid ((l.flatMap PartR.row).length = l.length * 4) := Lib.hid (flat_length PartR.len' l)
    have H1 : Hid (∀ u ∈ l.flatMap PartR.row, u.oneCell' = true) := Lib.hid (rows_one PartR.len' PartR.one l)
    go_enter Tryd.func26, Tryd.ntmps26
    go_wp2_with (first
      | (go_at_call 31; (with_reducible refine (KT.out _ W0).mono ?_); rintro e w1 ⟨rfl, hB1⟩; have hs1 := hB1.size; have HO1 := Lib.hid (own_single (base := w.heap.size) (m := 4) hs1 (heap_new (w := w1) (x := .cells (cells4 116 0 0 sort) 51) rfl) rfl))
      | (at_builtin; (refine wpList_append_own _ rfl (.tmp 10) (.tmp 11) 46 rfl w.heap.size 51 i0 (.agg (cells4 0 0 0 ByteArray.empty)) 4 40 Tryd.underlying46 hi0 hz0 hz1 hz2 rfl (by decide) _ 1 (cells4 116 0 0 sort).toList rfl HO1.out ad l.length c (l.flatMap PartR.row) rfl HLL.out (rows_news_any (HR.out.moved (hB1.alloc hs1 _)) PartR.len' (by decide)) H1.out (by unfold maxLen; omega) (by omega) (by simp; omega) ?_; intro v' w2 hown hgrow _; have hB2 : Below w.heap.size w w2 := (hB1.alloc hs1 _).grown hgrow (by simp; omega) (fun k hk => (HO1.out.lt k hk).1); have HO := Lib.hid hown; clear hown hgrow))
      | (go_at_call 30; refine (KM.out _ _ hB2 (by have h := HO.out; rw [Nat.add_comm] at h; exact h)).mono ?_; rintro e w3 ⟨q, rfl, hB3⟩))
    go_ret
    exact ⟨rfl, hB3⟩

end Go.Proofs.YtafdjgmdkbimoaaDoor
