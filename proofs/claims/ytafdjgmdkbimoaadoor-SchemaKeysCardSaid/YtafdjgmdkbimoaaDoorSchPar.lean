/-
  schema.Parse by contract.
-/
import Derived.Test.YtafdjgmdkbimoaaDoorSchFit
import Derived.Test.YtafdjgmdkbimoaaDoorKeyPts
import Derived.Deep.RegionHeld3
namespace Go.Proofs.YtafdjgmdkbimoaaDoor
open Go.RowKit
set_option linter.unusedVariables false
set_option linter.unusedSimpArgs false

abbrev cellsT (s : ByteArray) (ac id kd pr rk t : Int) (nm : ByteArray) : Array Value := #[.string s, .int .u64 ac, .int .u64 id, .int .i64 kd, .int .i64 pr, .int .u64 rk, .int .u64 t, .string nm]
abbrev zeroT : Array Value := cellsT ByteArray.empty 0 0 0 0 0 0 ByteArray.empty
theorem zero_thing (w : World) : (zeroValue 28).run Tryd.prog w = .ok (.agg zeroT) w := by kernel_rfl
theorem info_thing : (Tryd.prog.info? 28).map (·.size) = some 8 := by kernel_rfl
theorem info_T (s : ByteArray) (ac id kd pr rk t : Int) (nm : ByteArray) : (Tryd.prog.info? 28).map (·.size) = some (cellsT s ac id kd pr rk t nm).size := info_thing
theorem size_T (s : ByteArray) (ac id kd pr rk t : Int) (nm : ByteArray) (s' : ByteArray) (ac' id' kd' pr' rk' t' : Int) (nm' : ByteArray) : (cellsT s ac id kd pr rk t nm).size = (cellsT s' ac' id' kd' pr' rk' t' nm').size := rfl
theorem one_T (s : ByteArray) (ac id kd pr rk t : Int) (nm : ByteArray) : (cellsT s ac id kd pr rk t nm).all (·.oneCell') = true := by simp [cellsT, Value.oneCell']
theorem cellsT_of {w : World} {B : Nat} {s : ByteArray} {ac id kd pr rk t : Int} {nm : ByteArray} {ty : TypeId} (h : w.heap[B]? = some (.cells (cellsT s ac id kd pr rk t nm) ty (0, 0))) :
    w.cell? ⟨B, 0, none⟩ = some (.string s) ∧ w.cell? ⟨B, 1, none⟩ = some (.int .u64 ac) ∧ w.cell? ⟨B, 2, none⟩ = some (.int .u64 id) ∧ w.cell? ⟨B, 3, none⟩ = some (.int .i64 kd) ∧ w.cell? ⟨B, 4, none⟩ = some (.int .i64 pr) ∧ w.cell? ⟨B, 5, none⟩ = some (.int .u64 rk) ∧ w.cell? ⟨B, 6, none⟩ = some (.int .u64 t) ∧ w.cell? ⟨B, 7, none⟩ = some (.string nm) := by
  refine ⟨?_, ?_, ?_, ?_, ?_, ?_, ?_, ?_⟩ <;> (rw [cell_of_row _ _ _ _ _ _ h]; rfl)

def smallB (n : Int) : Bool := decide (-2147483648 ≤ n) && decide (n ≤ 2147483647)
/-- the thing that parts are of, its sort being told -/
def bodyT (s : ByteArray) (r : List PartR) : Option ThingR :=
  if s = ⟨#[97]⟩ then (match r with | [x, y] => if smallB y.n then some ⟨s, x.u, 0, y.n, 0, 0, 0, ByteArray.empty⟩ else none | _ => none)
  else if s = ⟨#[111]⟩ then (match r with | [x] => some ⟨s, 0, x.u, 0, 0, 0, 0, ByteArray.empty⟩ | _ => none)
  else if s = ⟨#[98]⟩ then (match r with | [x, y, z, v] => if y.sort = (if x.n = 1 then 100 else 105) then (if smallB x.n then some ⟨s, 0, v.u, x.n, y.n, z.u, 0, ByteArray.empty⟩ else none) else none | _ => none)
  else if s = ⟨#[101]⟩ then (match r with | [x, y] => some ⟨s, 0, y.u, 0, 0, 0, x.u, ByteArray.empty⟩ | _ => none)
  else (match r with | [x] => some ⟨s, 0, 0, 0, 0, 0, 0, x.s⟩ | _ => none)
def thingO (l : List UInt8) : Option ThingR :=
  if ¬ (partsR l).2 = 0 then none else match (partsR l).1 with
  | [] => none
  | p :: r => if p.sort = 116 ∧ (!(shapeL p.s).isEmpty && fitsL r (shapeL p.s)) = true then bodyT p.s r else none
/-- the thing that a key is of, the error -/
def outT : Option ThingR → ThingR × Int
  | none => (⟨ByteArray.empty, 0, 0, 0, 0, 0, 0, ByteArray.empty⟩, 19)
  | some t => (t, 0)
def thingR (l : List UInt8) : ThingR × Int := outT (thingO l)

theorem rows_tail {ρ : Type} {w : World} {b o m : Nat} {enc : ρ → List Value} {p : ρ} {r : List ρ} (h : RowsAt w (some ⟨b, o, none⟩) m enc (p :: r)) : RowsAt w (some ⟨b, o + m, none⟩) m enc r := by
  rcases h.out with e | ⟨b', o', e, hc⟩
  · cases e
  · simp at e
    obtain ⟨rfl, rfl⟩ := e
    refine ⟨.inr ⟨b, o + m, rfl, fun i q hi j v hv => ?_⟩⟩
    have h1 := hc (i + 1) q (by simpa using hi) j v hv
    rw [show o + m + (i * m + j) = o + ((i + 1) * m + j) from by rw [Nat.succ_mul]; omega]
    exact h1

theorem partD_range (l : List UInt8) : 0 ≤ (partD l).1.sort ∧ (partD l).1.sort < 256 := by
  cases l with
  | nil => simp [partD]
  | cons c r =>
    have := c.toNat_lt
    rw [partD]
    split
    · split <;> simp
    · split
      · simp; omega
      · split
        · simp
        · split
          · simp
          · split
            · simp
            · simp; omega
theorem partsF_range (f : Nat) : ∀ (l : List UInt8) (acc r : List PartR), partsF f l acc = some r → (∀ p ∈ acc, 0 ≤ p.sort ∧ p.sort < 256) → ∀ p ∈ r, 0 ≤ p.sort ∧ p.sort < 256 := by
  induction f with
  | zero =>
    intro l acc r h ha
    cases l with
    | nil => simp [partsF] at h; subst h; exact ha
    | cons c l => simp [partsF] at h
  | succ f ih =>
    intro l acc r h ha
    cases l with
    | nil => simp [partsF] at h; subst h; exact ha
    | cons c l =>
      rw [partsF] at h
      split at h
      · cases h
      · refine ih _ _ _ h ?_
        intro p hp
        rcases List.mem_append.1 hp with hp | hp
        · exact ha p hp
        · simp at hp; subst hp; exact partD_range _
theorem partsR_range (l : List UInt8) : ∀ p ∈ (partsR l).1, 0 ≤ p.sort ∧ p.sort < 256 := by
  unfold partsR partsL
  split
  · intro p hp; cases hp
  · rename_i r h
    split at h
    · cases h
    · exact partsF_range _ _ _ _ h (fun p hp => by cases hp)
theorem shapeL_ascii (s : ByteArray) : ∀ i (h : i < (str (shapeL s)).size), (str (shapeL s))[i].toNat < 128 := by
  have h2 : ∀ c ∈ shapeL s, c.toNat < 128 := by
    unfold shapeL
    repeat' split
    all_goals (intro c hc; simp at hc; try (rcases hc with rfl | rfl | rfl | rfl) <;> decide)
    all_goals (try (rcases hc with rfl | rfl) <;> decide)
    all_goals (try (subst hc; decide))
  intro i h
  have h3 : (str (shapeL s))[i] ∈ shapeL s := by
    have : (str (shapeL s))[i] = (str (shapeL s)).data.toList[i]'(by simpa using h) := rfl
    rw [this]
    have h4 := List.getElem_mem (l := (str (shapeL s)).data.toList) (n := i) (by simpa using h)
    have h5 : ∀ x, x ∈ (str (shapeL s)).data.toList → x ∈ shapeL s := fun x hx => by rwa [str_data] at hx
    exact h5 _ h4
  exact h2 _ h3

theorem shapeL_len (s : ByteArray) : (shapeL s).length ≤ 1000 := by
  unfold shapeL
  repeat' split
  all_goals simp
theorem partsF_len (f : Nat) : ∀ (l : List UInt8) (acc r : List PartR), partsF f l acc = some r → r.length ≤ acc.length + l.length := by
  induction f with
  | zero =>
    intro l acc r h
    cases l with
    | nil => simp [partsF] at h; subst h; simp
    | cons c l => simp [partsF] at h
  | succ f ih =>
    intro l acc r h
    cases l with
    | nil => simp [partsF] at h; subst h; simp
    | cons c l =>
      have hb := partD_bd c l
      rw [partsF] at h
      split at h
      · cases h
      · have h2 := ih _ _ _ h
        rw [List.length_append, List.length_drop] at h2
        simp at h2 ⊢
        omega
theorem partsR_len (l : List UInt8) : (partsR l).1.length ≤ 200 := by
  unfold partsR partsL
  split
  · simp
  · rename_i r h
    split at h
    · cases h
    · have := partsF_len _ _ _ _ h
      simp at this; simp only; omega

theorem fit_cases (s : ByteArray) (r : List PartR) (h : true = (!(shapeL s).isEmpty && fitsL r (shapeL s))) :
    (s = ⟨#[97]⟩ ∧ ∃ x y, r = [x, y]) ∨ (s = ⟨#[111]⟩ ∧ ∃ x, r = [x]) ∨ (s = ⟨#[98]⟩ ∧ ∃ x y z v, r = [x, y, z, v]) ∨ (s = ⟨#[101]⟩ ∧ ∃ x y, r = [x, y]) ∨ (s = ⟨#[110]⟩ ∧ ∃ x, r = [x]) := by
  have h2 : (shapeL s).isEmpty = false ∧ fitsL r (shapeL s) = true := by
    have := h.symm
    simpa using this
  obtain ⟨h3, h4⟩ := h2
  have hl : r.length = (shapeL s).length := by
    by_cases hh : r.length = (shapeL s).length
    · exact hh
    · rw [fitsL_len r _ hh] at h4; cases h4
  unfold shapeL at h3 hl
  split at hl
  · rename_i e
    refine .inl ⟨e, ?_⟩
    match r, hl with
    | [x, y], _ => exact ⟨x, y, rfl⟩
  split at hl
  · rename_i e
    refine .inr (.inl ⟨e, ?_⟩)
    match r, hl with
    | [x], _ => exact ⟨x, rfl⟩
  split at hl
  · rename_i e
    refine .inr (.inr (.inl ⟨e, ?_⟩))
    match r, hl with
    | [x, y, z, v], _ => exact ⟨x, y, z, v, rfl⟩
  split at hl
  · rename_i e
    refine .inr (.inr (.inr (.inl ⟨e, ?_⟩)))
    match r, hl with
    | [x, y], _ => exact ⟨x, y, rfl⟩
  split at hl
  · rename_i e
    refine .inr (.inr (.inr (.inr ⟨e, ?_⟩)))
    match r, hl with
    | [x], _ => exact ⟨x, rfl⟩
  · rename_i e1 e2 e3 e4 e5
    rw [if_neg e1, if_neg e2, if_neg e3, if_neg e4, if_neg e5] at h3
    simp at h3

theorem field_part (a n u : Int) (s : ByteArray) (w : World) : (Instr.field 51 (.agg (cells4 a n u s)) 0).run Tryd.prog w = .ok (.int .u8 a) w := by kernel_rfl
theorem heap_setCell_ne {w : World} {g k : Nat} {o : Obj} (h : w.heap[k]? = some o) (hk : k ≠ g) (i : Nat) (v : Value) : (w.setCell ⟨g, i, none⟩ v).heap[k]? = some o := by
  rw [Below.heap_setCell _ _ _ _ hk]; exact h

set_option maxRecDepth 100000 in
set_option maxHeartbeats 4000000 in
theorem schema_parse (k : ByteArray) (w : World) (hk : k.size ≤ 140737488351232) :
    Calls Tryd.prog 8 #[.string k] w fun e w' => e = .returned (.tuple #[(thingR k.data.toList).1.val, .int .i64 (thingR k.data.toList).2]) ∧ Below w.heap.size w w' := by
  obtain ⟨t, ht⟩ : ∃ t, t = thingR k.data.toList := ⟨_, rfl⟩
  rw [← ht]
  have HT : Hid (∀ x, thingO k.data.toList = x → t = outT x) := Lib.hid (by rintro x rfl; exact ht)
  clear ht
  unfold thingO at HT
  have hz := zero_thing
  have hlen := partsR_len k.data.toList
  have hrng := partsR_range k.data.toList
  obtain ⟨P, hP⟩ : ∃ P, P = partsR k.data.toList := ⟨_, rfl⟩
  have KP : Hid (∀ wx, (Below w.heap.size w wx ∧ wx.heap[w.heap.size]? = some (.cells zeroT 28 (0, 0))) → Calls Tryd.prog 21 #[.string k] wx fun e w' => ∃ d c, e = .returned (.tuple #[.slice d P.1.length c, .int .i64 P.2]) ∧ (Below w.heap.size w w' ∧ w'.heap[w.heap.size]? = some (.cells zeroT 28 (0, 0))) ∧ RowsAt w' d 4 PartR.row P.1 ∧ (P.1.length : Int) ≤ (c : Int)) := Lib.hid fun wx ⟨h1, h2⟩ => by
    rw [hP]
    exact (key_parts k wx hk).mono fun _ _ ⟨d, c, h3, h4, h5, h6, h7⟩ => ⟨d, c, h3, ⟨below_at h1 h7, by rw [h7.block _ (heap_lt h2)]; exact h2⟩, h4, by omega⟩
  rw [← hP] at HT hlen hrng
  clear hP
  obtain ⟨pl, pe⟩ := P
  simp only at KP HT hlen hrng
  have H0 : Hid (Below w.heap.size w (w.alloc (.cells zeroT 28)) ∧ (w.alloc (.cells zeroT 28)).heap[w.heap.size]? = some (.cells zeroT 28 (0, 0))) := Lib.hid ⟨by (repeat (first | exact Below.refl _ _ | assumption | apply below_drewN | (refine Below.alloc ?_ (by first | assumption | omega | (simp; try omega)) _))), heap_alloc_new _ _⟩
  by_cases he : pe = 0
  · obtain ⟨e1, e2⟩ := eq_bb he
    rw [if_neg (by simpa using he)] at HT
    cases pl with
    | nil =>
      have HF : Hid (t = (⟨ByteArray.empty, 0, 0, 0, 0, 0, 0, ByteArray.empty⟩, 19)) := Lib.hid (HT.out _ rfl)
      clear HT he hlen hrng
      go_enter Tryd.func8, Tryd.ntmps8
      go_wp2_with (go_at_call 21; (with_reducible refine (KP.out _ H0.out).mono ?_); rintro e w1 ⟨d, c, rfl, T1, hR, hc⟩)
      have TQ : Hid (∀ n, (w1.drewN n).heap[w.heap.size]? = some (.cells zeroT 28 (0, 0))) := Lib.hid fun n => T1.2
      go_quiet (fail)
      go_wp2_with (with_reducible refine wpList_store_row rfl 28 (.tmp 2) (.tmp 38) rfl w.heap.size zeroT rfl rfl 28 zeroT (TQ.out _) (info_T _ _ _ _ _ _ _ _) (size_T _ _ _ _ _ _ _ _ _ _ _ _ _ _ _ _) (one_T _ _ _ _ _ _ _ _) ?_)
      refine bodyPost_ret (results_row_tmp Tryd.results8 _ _ w.heap.size 28 zeroT (0, 0) _ rfl (setRow_heap _ _ _ _ _ _ (TQ.out _)) Tryd.underlying28 rfl (info_T _ _ _ _ _ _ _ _)) rfl ?_
      exact ⟨by rw [HF.out]; rfl, below_setRow (below_drewN T1.1 _) (Nat.le_refl _) _⟩
    | cons p r =>
      have hp0 := hrng p (List.mem_cons_self ..)
      have hr0 : ∀ q ∈ r, 0 ≤ q.sort ∧ q.sort < 256 := fun q hq => hrng q (List.mem_cons_of_mem _ hq)
      simp only [List.length_cons] at hlen KP
      obtain ⟨a, n, u, s⟩ := p
      simp only at HT hp0
      by_cases ha : a = 116
      · obtain ⟨a1, a2⟩ := eq_bb ha
        obtain ⟨fb, hfb⟩ : ∃ fb, fb = (!(shapeL s).isEmpty && fitsL r (shapeL s)) := ⟨_, rfl⟩
        rw [← hfb] at HT
        have HR0 := Lib.hid hr0
        have HFB := Lib.hid hfb
        have SHP : Hid (∀ b o w1 wx, (wx.cell? ⟨b, o, none⟩ = some (.int .u8 a) ∧ wx.cell? ⟨b, o + 3, none⟩ = some (.string s) ∧ Below w1.heap.size w1 wx) → Calls Tryd.prog 23 #[.string s] wx fun e w' => e = .returned (.string (str (shapeL s))) ∧ (w'.cell? ⟨b, o, none⟩ = some (.int .u8 a) ∧ w'.cell? ⟨b, o + 3, none⟩ = some (.string s) ∧ Below w1.heap.size w1 w')) := Lib.hid fun b o w1 wx ⟨k0, k3, h⟩ => (schema_shape s wx).mono fun _ _ ⟨h1, h2⟩ => ⟨h1, cell_stays h2.below k0, cell_stays h2.below k3, below_at h h2.below⟩
        have FTS : Hid (∀ b o w1 wx A c', RowsAt w1 A 4 PartR.row r → (wx.cell? ⟨b, o, none⟩ = some (.int .u8 a) ∧ wx.cell? ⟨b, o + 3, none⟩ = some (.string s) ∧ Below w1.heap.size w1 wx) → Calls Tryd.prog 22 #[.slice A r.length c', .string (str (shapeL s))] wx fun e w' => e = .returned (.bool fb) ∧ (w'.cell? ⟨b, o, none⟩ = some (.int .u8 a) ∧ w'.cell? ⟨b, o + 3, none⟩ = some (.string s) ∧ Below w1.heap.size w1 w')) := Lib.hid fun b o w1 wx A c' hR ⟨k0, k3, h⟩ => by
          have k := schema_fits r (str (shapeL s)) A c' wx (hR.moved h) (by omega) hr0 (by rw [str_size]; exact shapeL_len s) (shapeL_ascii s)
          rw [str_data, ← hfb] at k
          exact k.mono fun _ _ ⟨h1, h2⟩ => ⟨h1, cell_stays h2 k0, cell_stays h2 k3, below_at h h2⟩
        have HAA := Lib.hid ha
        clear hr0 hrng hfb ha he
        cases fb with
        | false =>
          have HF : Hid (t = (⟨ByteArray.empty, 0, 0, 0, 0, 0, 0, ByteArray.empty⟩, 19)) := Lib.hid (HT.out none (by simp))
          clear HT
          go_enter Tryd.func8, Tryd.ntmps8
          go_wp2_with (go_at_call 21; (with_reducible refine (KP.out _ H0.out).mono ?_); rintro e w1 ⟨d, c, rfl, T1, hR, hc⟩)
          have TQ : Hid (∀ n, (w1.drewN n).heap[w.heap.size]? = some (.cells zeroT 28 (0, 0))) := Lib.hid fun n => T1.2
          obtain ⟨b, o, rfl, k0, k1, k2, k3⟩ := row4_at hR 0 (by simp)
          simp only [List.getElem_cons_zero] at k0 k1 k2 k3
          simp only [Nat.zero_mul, Nat.add_zero] at k0 k1 k2 k3
          obtain ⟨y1, y2⟩ := ne_bb (show ¬ (r.length : Int) + 1 = 0 by omega)
          have c1 : (1 : Int) ≤ (r.length : Int) + 1 := by omega
          have c2 : (r.length : Int) + 1 ≤ (c : Int) := by simpa using hc
          have c3 : (0 : Int) ≤ 1 := by omega
          have c4 : (0 : Int) < (r.length : Int) + 1 := by omega
          have B0 : Below w1.heap.size w1 w1.drew := (Below.refl _ _).drew
          have HOB : Hid (∀ wx, Below w1.heap.size w1 wx → wx.heap[w.heap.size]? = some (.cells zeroT 28 (0, 0)) ∧ Below w.heap.size w wx) := Lib.hid fun wx h => ⟨by rw [h.block _ (heap_lt T1.2)]; exact T1.2, T1.1.trans (h.mono (heap_lt T1.2 |> Nat.le_of_lt))⟩
          by_cases hc1 : c = 1
          · subst hc1
            have hrn : r = [] := List.length_eq_zero_iff.mp (by omega)
            have HRR : Hid (RowsAt w1 (some ⟨b, o, none⟩) 4 PartR.row r) := Lib.hid (by rw [hrn]; exact rows_none)
            clear hR hc hrn
            go_region_held3 (fun wx => (wx.cell? ⟨b, o, none⟩ = some (.int .u8 a) ∧ wx.cell? ⟨b, o + 3, none⟩ = some (.string s) ∧ Below w1.heap.size w1 wx)) (first | assumption | go_keep)
              (first | (go_at_call 23; (with_reducible refine (SHP.out b o w1 _ (by assumption)).mono ?_); rintro e w' ⟨rfl, hS⟩) | (go_at_call 22; (with_reducible refine (FTS.out b o w1 _ _ _ HRR.out (by assumption)).mono ?_); rintro e w' ⟨rfl, hS⟩))
            go_wp2_with (with_reducible refine wpList_store_row rfl 28 (.tmp 2) (.tmp 38) rfl w.heap.size zeroT rfl rfl 28 zeroT ((HOB.out _ hS.2.2).1) (info_T _ _ _ _ _ _ _ _) (size_T _ _ _ _ _ _ _ _ _ _ _ _ _ _ _ _) (one_T _ _ _ _ _ _ _ _) ?_)
            refine bodyPost_ret (results_row_tmp Tryd.results8 _ _ w.heap.size 28 zeroT (0, 0) _ rfl (setRow_heap _ _ _ _ _ _ ((HOB.out _ hS.2.2).1)) Tryd.underlying28 rfl (info_T _ _ _ _ _ _ _ _)) rfl ?_
            exact ⟨by rw [HF.out]; rfl, below_setRow ((HOB.out _ hS.2.2).2) (Nat.le_refl _) _⟩
          · have HRR := Lib.hid (rows_tail hR)
            clear hR hc
            go_region_held3 (fun wx => (wx.cell? ⟨b, o, none⟩ = some (.int .u8 a) ∧ wx.cell? ⟨b, o + 3, none⟩ = some (.string s) ∧ Below w1.heap.size w1 wx)) (first | assumption | go_keep)
              (first | (go_at_call 23; (with_reducible refine (SHP.out b o w1 _ (by assumption)).mono ?_); rintro e w' ⟨rfl, hS⟩) | (go_at_call 22; (with_reducible refine (FTS.out b o w1 _ _ _ HRR.out (by assumption)).mono ?_); rintro e w' ⟨rfl, hS⟩))
            go_wp2_with (with_reducible refine wpList_store_row rfl 28 (.tmp 2) (.tmp 38) rfl w.heap.size zeroT rfl rfl 28 zeroT ((HOB.out _ hS.2.2).1) (info_T _ _ _ _ _ _ _ _) (size_T _ _ _ _ _ _ _ _ _ _ _ _ _ _ _ _) (one_T _ _ _ _ _ _ _ _) ?_)
            refine bodyPost_ret (results_row_tmp Tryd.results8 _ _ w.heap.size 28 zeroT (0, 0) _ rfl (setRow_heap _ _ _ _ _ _ ((HOB.out _ hS.2.2).1)) Tryd.underlying28 rfl (info_T _ _ _ _ _ _ _ _)) rfl ?_
            exact ⟨by rw [HF.out]; rfl, below_setRow ((HOB.out _ hS.2.2).2) (Nat.le_refl _) _⟩
        | true =>
          obtain ⟨sx, hsx⟩ : ∃ x, x = bodyT s r := ⟨_, rfl⟩
          have HBT : Hid (t = outT sx) := Lib.hid (HT.out sx (by rw [hsx, if_pos ⟨HAA.out, rfl⟩]))
          have HSX := Lib.hid hsx
          clear hsx HT
          go_enter Tryd.func8, Tryd.ntmps8
          go_wp2_with (go_at_call 21; (with_reducible refine (KP.out _ H0.out).mono ?_); rintro e w1 ⟨d, c, rfl, T1, hR, hc⟩)
          have TQ : Hid (∀ n, (w1.drewN n).heap[w.heap.size]? = some (.cells zeroT 28 (0, 0))) := Lib.hid fun n => T1.2
          obtain ⟨b, o, rfl, k0, k1, k2, k3⟩ := row4_at hR 0 (by simp)
          simp only [List.getElem_cons_zero] at k0 k1 k2 k3
          simp only [Nat.zero_mul, Nat.add_zero] at k0 k1 k2 k3
          obtain ⟨y1, y2⟩ := ne_bb (show ¬ (r.length : Int) + 1 = 0 by omega)
          have c1 : (1 : Int) ≤ (r.length : Int) + 1 := by omega
          have c2 : (r.length : Int) + 1 ≤ (c : Int) := by simpa using hc
          have c3 : (0 : Int) ≤ 1 := by omega
          have c4 : (0 : Int) < (r.length : Int) + 1 := by omega
          have B0 : Below w1.heap.size w1 w1.drew := (Below.refl _ _).drew
          have HOB : Hid (∀ wx, Below w1.heap.size w1 wx → wx.heap[w.heap.size]? = some (.cells zeroT 28 (0, 0)) ∧ Below w.heap.size w wx) := Lib.hid fun wx h => ⟨by rw [h.block _ (heap_lt T1.2)]; exact T1.2, T1.1.trans (h.mono (heap_lt T1.2 |> Nat.le_of_lt))⟩
          have HRR := Lib.hid (rows_tail hR)
          have hrne : r ≠ [] := by
            intro h
            have h2 := HFB.out
            rw [h] at h2
            cases h3 : shapeL s with
            | nil => rw [h3] at h2; simp at h2
            | cons q l => rw [h3] at h2; simp [fitsL] at h2
          have hc1 : ¬ c = 1 := by
            intro h
            have : r.length = 0 := by omega
            exact hrne (List.length_eq_zero_iff.mp this)
          have hbw : b < w1.heap.size := cell_lt k0
          clear hR hc hrne
          go_region_held3 (fun wx => (wx.cell? ⟨b, o, none⟩ = some (.int .u8 a) ∧ wx.cell? ⟨b, o + 3, none⟩ = some (.string s) ∧ Below w1.heap.size w1 wx)) (first | assumption | go_keep)
            (first | (go_at_call 23; (with_reducible refine (SHP.out b o w1 _ (by assumption)).mono ?_); rintro e w' ⟨rfl, hS⟩) | (go_at_call 22; (with_reducible refine (FTS.out b o w1 _ _ _ HRR.out (by assumption)).mono ?_); rintro e w' ⟨rfl, hS⟩))
          have hB3 := hS.2.2
          have hk3 := hS.2.1
          have hbw3 : b < w'.heap.size := Nat.lt_of_lt_of_le hbw hB3.size
          have hbn3 := Nat.ne_of_lt hbw3
          have HR3 : Hid (RowsAt w' (some ⟨b, o + 4, none⟩) 4 PartR.row r) := Lib.hid (HRR.out.moved hB3)
          have HO3 := Lib.hid (HOB.out _ hB3)
          obtain ⟨w3, rfl⟩ : ∃ x, x = w' := ⟨_, rfl⟩
          clear hS HRR HOB SHP FTS KP H0
          rcases fit_cases s r HFB.out with ⟨rfl, x, y, rfl⟩ | ⟨rfl, x, rfl⟩ | ⟨rfl, x, y, z, v, rfl⟩ | ⟨rfl, x, y, rfl⟩ | ⟨rfl, x, rfl⟩
          · obtain ⟨b', o', e', i0, i1, i2, i3⟩ := row4_at HR3.out 0 (by simp)
            simp at e'
            obtain ⟨rfl, rfl⟩ := e'
            obtain ⟨b', o', e', j0, j1, j2, j3⟩ := row4_at HR3.out 1 (by simp)
            simp at e'
            obtain ⟨rfl, rfl⟩ := e'
            simp at i0 i1 i2 i3 j0 j1 j2 j3
            cases hsm : smallB y.n with
            | true =>
              have HF : Hid (t = (⟨⟨#[97]⟩, x.u, 0, y.n, 0, 0, 0, ByteArray.empty⟩, 0)) := Lib.hid (by rw [HBT.out, HSX.out]; unfold bodyT; rw [if_pos rfl]; simp only [hsm, if_true]; rfl)
              have SM : Hid (∀ wx, (Below w3.heap.size w3 wx ∧ wx.heap[w3.heap.size]? = some (.cells (cellsT ⟨#[97]⟩ x.u 0 0 0 0 0 ByteArray.empty) 28 (0, 0))) → Calls Tryd.prog 25 #[.int .i64 y.n] wx fun e w' => e = .returned (.bool true) ∧ (Below w3.heap.size w3 w' ∧ w'.heap[w3.heap.size]? = some (.cells (cellsT ⟨#[97]⟩ x.u 0 0 0 0 0 ByteArray.empty) 28 (0, 0)))) := Lib.hid fun wx ⟨q1, q2⟩ => by
                have hsm2 : (decide (-2147483648 ≤ (y.n : Int)) && decide ((y.n : Int) ≤ 2147483647)) = true := hsm
                have q := schema_small (y.n) wx
                rw [hsm2] at q
                exact q.mono fun _ _ ⟨q3, q4⟩ => ⟨q3, below_at q1 q4.below, by rw [q4.below.block _ (heap_lt q2)]; exact q2⟩
              have HZ : Hid (∀ wx, Below w3.heap.size w3 wx → wx.heap[w.heap.size]? = some (.cells zeroT 28 (0, 0)) ∧ Below w.heap.size w wx) := Lib.hid fun wx h => ⟨by rw [h.block _ (heap_lt HO3.out.1)]; exact HO3.out.1, HO3.out.2.trans (h.mono (Nat.le_of_lt (heap_lt HO3.out.1)))⟩
              have hwn : w.heap.size ≠ w3.heap.size := Nat.ne_of_lt (heap_lt HO3.out.1)
              have H6 : Hid (Below w3.heap.size w3 ((w3.alloc (.cells (cellsT ⟨#[97]⟩ x.u 0 0 0 0 0 ByteArray.empty) 28)).drew) ∧ ((w3.alloc (.cells (cellsT ⟨#[97]⟩ x.u 0 0 0 0 0 ByteArray.empty) 28)).drew).heap[w3.heap.size]? = some (.cells (cellsT ⟨#[97]⟩ x.u 0 0 0 0 0 ByteArray.empty) 28 (0, 0))) := Lib.hid ⟨((Below.refl _ _).alloc (Nat.le_refl _) _).drew, heap_alloc_new _ _⟩
              clear hsm
              go_wp2
              go_region
              all_goals (go_wp2_with (first
                | (go_at_call 25; refine (SM.out _ H6.out).mono ?_; rintro e w5 ⟨rfl, T5⟩; obtain ⟨g0, g1, g2, g3, g4, g5, g6, g7⟩ := cellsT_of T5.2; have gf : w5.frozen? ⟨w3.heap.size, 3, none⟩ = false := Lib.frozen_of_heap T5.2 3)
                | (with_reducible refine wpList_load_row rfl 28 (.tmp 6) rfl w3.heap.size rfl 28 (cellsT ⟨#[97]⟩ x.u 0 y.n 0 0 0 ByteArray.empty) (0, 0) _ (heap_setCell_at T5.2 3 _) Tryd.underlying28 rfl (info_T _ _ _ _ _ _ _ _) ?_)
                | (with_reducible refine wpList_store_row rfl 28 (.tmp 2) (.tmp 119) rfl w.heap.size (cellsT ⟨#[97]⟩ x.u 0 y.n 0 0 0 ByteArray.empty) rfl rfl 28 zeroT (heap_setCell_ne (HZ.out _ T5.1).1 hwn 3 _) (info_T _ _ _ _ _ _ _ _) (size_T _ _ _ _ _ _ _ _ _ _ _ _ _ _ _ _) (one_T _ _ _ _ _ _ _ _) ?_)))
              all_goals (refine bodyPost_ret (results_row_tmp Tryd.results8 _ _ w.heap.size 28 (cellsT ⟨#[97]⟩ x.u 0 y.n 0 0 0 ByteArray.empty) (0, 0) _ rfl (setRow_heap _ _ _ _ _ _ (heap_setCell_ne (HZ.out _ T5.1).1 hwn 3 _)) Tryd.underlying28 rfl (info_T _ _ _ _ _ _ _ _)) rfl ?_)
              all_goals exact ⟨by rw [HF.out]; rfl, below_setRow ((HZ.out _ T5.1).2.setCell (p := ⟨w3.heap.size, 3, none⟩) (Nat.le_trans HO3.out.2.size (Nat.le_refl _)) _) (Nat.le_refl _) _⟩
            | false =>
              have HF : Hid (t = (⟨ByteArray.empty, 0, 0, 0, 0, 0, 0, ByteArray.empty⟩, 19)) := Lib.hid (by rw [HBT.out, HSX.out]; unfold bodyT; rw [if_pos rfl]; simp only [hsm]; rfl)
              have SM : Hid (∀ wx, (Below w3.heap.size w3 wx ∧ wx.heap[w3.heap.size]? = some (.cells (cellsT ⟨#[97]⟩ x.u 0 0 0 0 0 ByteArray.empty) 28 (0, 0))) → Calls Tryd.prog 25 #[.int .i64 y.n] wx fun e w' => e = .returned (.bool false) ∧ (Below w3.heap.size w3 w' ∧ w'.heap[w3.heap.size]? = some (.cells (cellsT ⟨#[97]⟩ x.u 0 0 0 0 0 ByteArray.empty) 28 (0, 0)))) := Lib.hid fun wx ⟨q1, q2⟩ => by
                have hsm2 : (decide (-2147483648 ≤ (y.n : Int)) && decide ((y.n : Int) ≤ 2147483647)) = false := hsm
                have q := schema_small (y.n) wx
                rw [hsm2] at q
                exact q.mono fun _ _ ⟨q3, q4⟩ => ⟨q3, below_at q1 q4.below, by rw [q4.below.block _ (heap_lt q2)]; exact q2⟩
              have HZ : Hid (∀ wx, Below w3.heap.size w3 wx → wx.heap[w.heap.size]? = some (.cells zeroT 28 (0, 0)) ∧ Below w.heap.size w wx) := Lib.hid fun wx h => ⟨by rw [h.block _ (heap_lt HO3.out.1)]; exact HO3.out.1, HO3.out.2.trans (h.mono (Nat.le_of_lt (heap_lt HO3.out.1)))⟩
              have hwn : w.heap.size ≠ w3.heap.size := Nat.ne_of_lt (heap_lt HO3.out.1)
              have H6 : Hid (Below w3.heap.size w3 ((w3.alloc (.cells (cellsT ⟨#[97]⟩ x.u 0 0 0 0 0 ByteArray.empty) 28)).drew) ∧ ((w3.alloc (.cells (cellsT ⟨#[97]⟩ x.u 0 0 0 0 0 ByteArray.empty) 28)).drew).heap[w3.heap.size]? = some (.cells (cellsT ⟨#[97]⟩ x.u 0 0 0 0 0 ByteArray.empty) 28 (0, 0))) := Lib.hid ⟨((Below.refl _ _).alloc (Nat.le_refl _) _).drew, heap_alloc_new _ _⟩
              clear hsm
              go_wp2
              go_region
              all_goals (go_wp2_with (first
                | (go_at_call 25; refine (SM.out _ H6.out).mono ?_; rintro e w5 ⟨rfl, T5⟩; obtain ⟨g0, g1, g2, g3, g4, g5, g6, g7⟩ := cellsT_of T5.2; have gf : w5.frozen? ⟨w3.heap.size, 3, none⟩ = false := Lib.frozen_of_heap T5.2 3)
                | (with_reducible refine wpList_store_row rfl 28 (.tmp 2) (.tmp 116) rfl w.heap.size zeroT rfl rfl 28 zeroT (HZ.out _ T5.1).1 (info_T _ _ _ _ _ _ _ _) (size_T _ _ _ _ _ _ _ _ _ _ _ _ _ _ _ _) (one_T _ _ _ _ _ _ _ _) ?_)))
              all_goals (refine bodyPost_ret (results_row_tmp Tryd.results8 _ _ w.heap.size 28 zeroT (0, 0) _ rfl (setRow_heap _ _ _ _ _ _ (HZ.out _ T5.1).1) Tryd.underlying28 rfl (info_T _ _ _ _ _ _ _ _)) rfl ?_)
              all_goals exact ⟨by rw [HF.out]; rfl, below_setRow (HZ.out _ T5.1).2 (Nat.le_refl _) _⟩
          · obtain ⟨b', o', e', i0, i1, i2, i3⟩ := row4_at HR3.out 0 (by simp)
            simp at e'
            obtain ⟨rfl, rfl⟩ := e'
            simp at i0 i1 i2 i3
            have hsm : smallB 0 = true := by decide
            have HF : Hid (t = (⟨⟨#[111]⟩, 0, x.u, 0, 0, 0, 0, ByteArray.empty⟩, 0)) := Lib.hid (by rw [HBT.out, HSX.out]; unfold bodyT; rw [if_neg (by decide), if_pos rfl]; rfl)
            have SM : Hid (∀ wx, (Below w3.heap.size w3 wx ∧ wx.heap[w3.heap.size]? = some (.cells (cellsT ⟨#[111]⟩ 0 x.u 0 0 0 0 ByteArray.empty) 28 (0, 0))) → Calls Tryd.prog 25 #[.int .i64 0] wx fun e w' => e = .returned (.bool true) ∧ (Below w3.heap.size w3 w' ∧ w'.heap[w3.heap.size]? = some (.cells (cellsT ⟨#[111]⟩ 0 x.u 0 0 0 0 ByteArray.empty) 28 (0, 0)))) := Lib.hid fun wx ⟨q1, q2⟩ => by
              have hsm2 : (decide (-2147483648 ≤ (0 : Int)) && decide ((0 : Int) ≤ 2147483647)) = true := hsm
              have q := schema_small (0) wx
              rw [hsm2] at q
              exact q.mono fun _ _ ⟨q3, q4⟩ => ⟨q3, below_at q1 q4.below, by rw [q4.below.block _ (heap_lt q2)]; exact q2⟩
            have HZ : Hid (∀ wx, Below w3.heap.size w3 wx → wx.heap[w.heap.size]? = some (.cells zeroT 28 (0, 0)) ∧ Below w.heap.size w wx) := Lib.hid fun wx h => ⟨by rw [h.block _ (heap_lt HO3.out.1)]; exact HO3.out.1, HO3.out.2.trans (h.mono (Nat.le_of_lt (heap_lt HO3.out.1)))⟩
            have hwn : w.heap.size ≠ w3.heap.size := Nat.ne_of_lt (heap_lt HO3.out.1)
            have H6 : Hid (Below w3.heap.size w3 ((w3.alloc (.cells (cellsT ⟨#[111]⟩ 0 x.u 0 0 0 0 ByteArray.empty) 28))) ∧ ((w3.alloc (.cells (cellsT ⟨#[111]⟩ 0 x.u 0 0 0 0 ByteArray.empty) 28))).heap[w3.heap.size]? = some (.cells (cellsT ⟨#[111]⟩ 0 x.u 0 0 0 0 ByteArray.empty) 28 (0, 0))) := Lib.hid ⟨((Below.refl _ _).alloc (Nat.le_refl _) _), heap_alloc_new _ _⟩
            clear hsm
            all_goals (go_wp2_with (first
              | (go_at_call 25; refine (SM.out _ H6.out).mono ?_; rintro e w5 ⟨rfl, T5⟩; obtain ⟨g0, g1, g2, g3, g4, g5, g6, g7⟩ := cellsT_of T5.2; have gf : w5.frozen? ⟨w3.heap.size, 3, none⟩ = false := Lib.frozen_of_heap T5.2 3)
              | (with_reducible refine wpList_load_row rfl 28 (.tmp 6) rfl w3.heap.size rfl 28 (cellsT ⟨#[111]⟩ 0 x.u 0 0 0 0 ByteArray.empty) (0, 0) _ (heap_setCell_at T5.2 3 _) Tryd.underlying28 rfl (info_T _ _ _ _ _ _ _ _) ?_)
              | (with_reducible refine wpList_store_row rfl 28 (.tmp 2) (.tmp 119) rfl w.heap.size (cellsT ⟨#[111]⟩ 0 x.u 0 0 0 0 ByteArray.empty) rfl rfl 28 zeroT (heap_setCell_ne (HZ.out _ T5.1).1 hwn 3 _) (info_T _ _ _ _ _ _ _ _) (size_T _ _ _ _ _ _ _ _ _ _ _ _ _ _ _ _) (one_T _ _ _ _ _ _ _ _) ?_)))
            all_goals (refine bodyPost_ret (results_row_tmp Tryd.results8 _ _ w.heap.size 28 (cellsT ⟨#[111]⟩ 0 x.u 0 0 0 0 ByteArray.empty) (0, 0) _ rfl (setRow_heap _ _ _ _ _ _ (heap_setCell_ne (HZ.out _ T5.1).1 hwn 3 _)) Tryd.underlying28 rfl (info_T _ _ _ _ _ _ _ _)) rfl ?_)
            all_goals exact ⟨by rw [HF.out]; rfl, below_setRow ((HZ.out _ T5.1).2.setCell (p := ⟨w3.heap.size, 3, none⟩) (Nat.le_trans HO3.out.2.size (Nat.le_refl _)) _) (Nat.le_refl _) _⟩
          · obtain ⟨b', o', e', i0, i1, i2, i3⟩ := row4_at HR3.out 0 (by simp)
            simp at e'
            obtain ⟨rfl, rfl⟩ := e'
            obtain ⟨b', o', e', j0, j1, j2, j3⟩ := row4_at HR3.out 1 (by simp)
            simp at e'
            obtain ⟨rfl, rfl⟩ := e'
            obtain ⟨b', o', e', m0, m1, m2, m3⟩ := row4_at HR3.out 2 (by simp)
            simp at e'
            obtain ⟨rfl, rfl⟩ := e'
            obtain ⟨b', o', e', p0, p1, p2, p3⟩ := row4_at HR3.out 3 (by simp)
            simp at e'
            obtain ⟨rfl, rfl⟩ := e'
            simp at i0 i1 i2 i3 j0 j1 j2 j3 m0 m1 m2 m3 p0 p1 p2 p3
            have hfd := fun (q : Int) (wx : World) => field_part q 0 0 ByteArray.empty wx
            obtain ⟨q, hq⟩ : ∃ q : Int, q = if x.n = 1 then 100 else 105 := ⟨_, rfl⟩
            have PR : Hid (∀ wx, (wx.cell? ⟨b, o + 4 + 4, none⟩ = some (.int .u8 y.sort) ∧ Below w3.heap.size w3 wx ∧ wx.heap[w3.heap.size]? = some (.cells (cellsT ⟨#[98]⟩ 0 v.u 0 y.n z.u 0 ByteArray.empty) 28 (0, 0))) → Calls Tryd.prog 24 #[.int .i64 x.n, .int .i64 0] wx fun e w' => e = .returned (.agg (cells4 q 0 0 ByteArray.empty)) ∧ (w'.cell? ⟨b, o + 4 + 4, none⟩ = some (.int .u8 y.sort) ∧ Below w3.heap.size w3 w' ∧ w'.heap[w3.heap.size]? = some (.cells (cellsT ⟨#[98]⟩ 0 v.u 0 y.n z.u 0 ByteArray.empty) 28 (0, 0)))) := Lib.hid fun wx ⟨q1, q2, q3⟩ => by
              rw [hq]; exact (schema_priced x.n 0 wx).mono fun _ _ ⟨q4, q5⟩ => ⟨q4, cell_stays q5 q1, below_at q2 q5, by rw [q5.block _ (heap_lt q3)]; exact q3⟩
            have H7 : Hid ((w3.alloc (.cells (cellsT ⟨#[98]⟩ 0 v.u 0 y.n z.u 0 ByteArray.empty) 28)).drew.drew.cell? ⟨b, o + 4 + 4, none⟩ = some (.int .u8 y.sort) ∧ Below w3.heap.size w3 (w3.alloc (.cells (cellsT ⟨#[98]⟩ 0 v.u 0 y.n z.u 0 ByteArray.empty) 28)).drew.drew ∧ (w3.alloc (.cells (cellsT ⟨#[98]⟩ 0 v.u 0 y.n z.u 0 ByteArray.empty) 28)).drew.drew.heap[w3.heap.size]? = some (.cells (cellsT ⟨#[98]⟩ 0 v.u 0 y.n z.u 0 ByteArray.empty) 28 (0, 0))) := Lib.hid ⟨by have q := heap_alloc_new w3 (.cells (cellsT ⟨#[98]⟩ 0 v.u 0 y.n z.u 0 ByteArray.empty) 28); exact cell_stays (((Below.refl _ _).alloc (Nat.le_refl _) _).drew.drew) j0, ((Below.refl _ _).alloc (Nat.le_refl _) _).drew.drew, heap_alloc_new _ _⟩
            by_cases hys : y.sort = q
            · obtain ⟨e5, e6⟩ := eq_bb hys
              cases hsm : smallB x.n with
              | true =>
                have HF : Hid (t = (⟨⟨#[98]⟩, 0, v.u, x.n, y.n, z.u, 0, ByteArray.empty⟩, 0)) := Lib.hid (by rw [HBT.out, HSX.out]; unfold bodyT; rw [if_neg (by decide), if_neg (by decide), if_pos rfl]; simp only; rw [← hq, if_pos hys, hsm]; rfl)
                have SM : Hid (∀ wx, (Below w3.heap.size w3 wx ∧ wx.heap[w3.heap.size]? = some (.cells (cellsT ⟨#[98]⟩ 0 v.u 0 y.n z.u 0 ByteArray.empty) 28 (0, 0))) → Calls Tryd.prog 25 #[.int .i64 x.n] wx fun e w' => e = .returned (.bool true) ∧ (Below w3.heap.size w3 w' ∧ w'.heap[w3.heap.size]? = some (.cells (cellsT ⟨#[98]⟩ 0 v.u 0 y.n z.u 0 ByteArray.empty) 28 (0, 0)))) := Lib.hid fun wx ⟨q1, q2⟩ => by
                  have hsm2 : (decide (-2147483648 ≤ (x.n : Int)) && decide ((x.n : Int) ≤ 2147483647)) = true := hsm
                  have q := schema_small (x.n) wx
                  rw [hsm2] at q
                  exact q.mono fun _ _ ⟨q3, q4⟩ => ⟨q3, below_at q1 q4.below, by rw [q4.below.block _ (heap_lt q2)]; exact q2⟩
                have HZ : Hid (∀ wx, Below w3.heap.size w3 wx → wx.heap[w.heap.size]? = some (.cells zeroT 28 (0, 0)) ∧ Below w.heap.size w wx) := Lib.hid fun wx h => ⟨by rw [h.block _ (heap_lt HO3.out.1)]; exact HO3.out.1, HO3.out.2.trans (h.mono (Nat.le_of_lt (heap_lt HO3.out.1)))⟩
                have hwn : w.heap.size ≠ w3.heap.size := Nat.ne_of_lt (heap_lt HO3.out.1)
                clear hsm hys hq
                go_wp2
                go_region
                go_wp2
                have H7' := H7.out
                go_region_held3 (fun wx => (wx.cell? ⟨b, o + 4 + 4, none⟩ = some (.int .u8 y.sort) ∧ Below w3.heap.size w3 wx ∧ wx.heap[w3.heap.size]? = some (.cells (cellsT ⟨#[98]⟩ 0 v.u 0 y.n z.u 0 ByteArray.empty) 28 (0, 0)))) (first | assumption | go_keep)
                  (first | (go_at_call 24; (with_reducible refine (PR.out _ (by assumption)).mono ?_); rintro e w' ⟨rfl, hS⟩))
                all_goals (go_wp2_with (first
                  | (go_at_call 25; refine (SM.out _ hS.2).mono ?_; rintro e w5 ⟨rfl, T5⟩; obtain ⟨g0, g1, g2, g3, g4, g5, g6, g7⟩ := cellsT_of T5.2; have gf : w5.frozen? ⟨w3.heap.size, 3, none⟩ = false := Lib.frozen_of_heap T5.2 3)
                  | (with_reducible refine wpList_load_row rfl 28 (.tmp 6) rfl w3.heap.size rfl 28 (cellsT ⟨#[98]⟩ 0 v.u x.n y.n z.u 0 ByteArray.empty) (0, 0) _ (heap_setCell_at T5.2 3 _) Tryd.underlying28 rfl (info_T _ _ _ _ _ _ _ _) ?_)
                  | (with_reducible refine wpList_store_row rfl 28 (.tmp 2) (.tmp 119) rfl w.heap.size (cellsT ⟨#[98]⟩ 0 v.u x.n y.n z.u 0 ByteArray.empty) rfl rfl 28 zeroT (heap_setCell_ne (HZ.out _ T5.1).1 hwn 3 _) (info_T _ _ _ _ _ _ _ _) (size_T _ _ _ _ _ _ _ _ _ _ _ _ _ _ _ _) (one_T _ _ _ _ _ _ _ _) ?_)))
                all_goals (refine bodyPost_ret (results_row_tmp Tryd.results8 _ _ w.heap.size 28 (cellsT ⟨#[98]⟩ 0 v.u x.n y.n z.u 0 ByteArray.empty) (0, 0) _ rfl (setRow_heap _ _ _ _ _ _ (heap_setCell_ne (HZ.out _ T5.1).1 hwn 3 _)) Tryd.underlying28 rfl (info_T _ _ _ _ _ _ _ _)) rfl ?_)
                all_goals exact ⟨by rw [HF.out]; rfl, below_setRow ((HZ.out _ T5.1).2.setCell (p := ⟨w3.heap.size, 3, none⟩) (Nat.le_trans HO3.out.2.size (Nat.le_refl _)) _) (Nat.le_refl _) _⟩
              | false =>
                have HF : Hid (t = (⟨ByteArray.empty, 0, 0, 0, 0, 0, 0, ByteArray.empty⟩, 19)) := Lib.hid (by rw [HBT.out, HSX.out]; unfold bodyT; rw [if_neg (by decide), if_neg (by decide), if_pos rfl]; simp only; rw [← hq, if_pos hys, hsm]; rfl)
                have SM : Hid (∀ wx, (Below w3.heap.size w3 wx ∧ wx.heap[w3.heap.size]? = some (.cells (cellsT ⟨#[98]⟩ 0 v.u 0 y.n z.u 0 ByteArray.empty) 28 (0, 0))) → Calls Tryd.prog 25 #[.int .i64 x.n] wx fun e w' => e = .returned (.bool false) ∧ (Below w3.heap.size w3 w' ∧ w'.heap[w3.heap.size]? = some (.cells (cellsT ⟨#[98]⟩ 0 v.u 0 y.n z.u 0 ByteArray.empty) 28 (0, 0)))) := Lib.hid fun wx ⟨q1, q2⟩ => by
                  have hsm2 : (decide (-2147483648 ≤ (x.n : Int)) && decide ((x.n : Int) ≤ 2147483647)) = false := hsm
                  have q := schema_small (x.n) wx
                  rw [hsm2] at q
                  exact q.mono fun _ _ ⟨q3, q4⟩ => ⟨q3, below_at q1 q4.below, by rw [q4.below.block _ (heap_lt q2)]; exact q2⟩
                have HZ : Hid (∀ wx, Below w3.heap.size w3 wx → wx.heap[w.heap.size]? = some (.cells zeroT 28 (0, 0)) ∧ Below w.heap.size w wx) := Lib.hid fun wx h => ⟨by rw [h.block _ (heap_lt HO3.out.1)]; exact HO3.out.1, HO3.out.2.trans (h.mono (Nat.le_of_lt (heap_lt HO3.out.1)))⟩
                have hwn : w.heap.size ≠ w3.heap.size := Nat.ne_of_lt (heap_lt HO3.out.1)
                clear hsm hys hq
                go_wp2
                go_region
                go_wp2
                have H7' := H7.out
                go_region_held3 (fun wx => (wx.cell? ⟨b, o + 4 + 4, none⟩ = some (.int .u8 y.sort) ∧ Below w3.heap.size w3 wx ∧ wx.heap[w3.heap.size]? = some (.cells (cellsT ⟨#[98]⟩ 0 v.u 0 y.n z.u 0 ByteArray.empty) 28 (0, 0)))) (first | assumption | go_keep)
                  (first | (go_at_call 24; (with_reducible refine (PR.out _ (by assumption)).mono ?_); rintro e w' ⟨rfl, hS⟩))
                all_goals (go_wp2_with (first
                  | (go_at_call 25; refine (SM.out _ hS.2).mono ?_; rintro e w5 ⟨rfl, T5⟩; obtain ⟨g0, g1, g2, g3, g4, g5, g6, g7⟩ := cellsT_of T5.2; have gf : w5.frozen? ⟨w3.heap.size, 3, none⟩ = false := Lib.frozen_of_heap T5.2 3)
                  | (with_reducible refine wpList_store_row rfl 28 (.tmp 2) (.tmp 116) rfl w.heap.size zeroT rfl rfl 28 zeroT (HZ.out _ T5.1).1 (info_T _ _ _ _ _ _ _ _) (size_T _ _ _ _ _ _ _ _ _ _ _ _ _ _ _ _) (one_T _ _ _ _ _ _ _ _) ?_)))
                all_goals (refine bodyPost_ret (results_row_tmp Tryd.results8 _ _ w.heap.size 28 zeroT (0, 0) _ rfl (setRow_heap _ _ _ _ _ _ (HZ.out _ T5.1).1) Tryd.underlying28 rfl (info_T _ _ _ _ _ _ _ _)) rfl ?_)
                all_goals exact ⟨by rw [HF.out]; rfl, below_setRow (HZ.out _ T5.1).2 (Nat.le_refl _) _⟩
            · obtain ⟨e5, e6⟩ := ne_bb hys
              have HF : Hid (t = (⟨ByteArray.empty, 0, 0, 0, 0, 0, 0, ByteArray.empty⟩, 19)) := Lib.hid (by rw [HBT.out, HSX.out]; unfold bodyT; rw [if_neg (by decide), if_neg (by decide), if_pos rfl]; simp only; rw [← hq, if_neg hys]; rfl)
              have HZ : Hid (∀ wx, Below w3.heap.size w3 wx → wx.heap[w.heap.size]? = some (.cells zeroT 28 (0, 0)) ∧ Below w.heap.size w wx) := Lib.hid fun wx h => ⟨by rw [h.block _ (heap_lt HO3.out.1)]; exact HO3.out.1, HO3.out.2.trans (h.mono (Nat.le_of_lt (heap_lt HO3.out.1)))⟩
              clear hys hq
              go_wp2
              go_region
              go_wp2
              have H7' := H7.out
              go_region_held3 (fun wx => (wx.cell? ⟨b, o + 4 + 4, none⟩ = some (.int .u8 y.sort) ∧ Below w3.heap.size w3 wx ∧ wx.heap[w3.heap.size]? = some (.cells (cellsT ⟨#[98]⟩ 0 v.u 0 y.n z.u 0 ByteArray.empty) 28 (0, 0)))) (first | assumption | go_keep)
                (first | (go_at_call 24; (with_reducible refine (PR.out _ (by assumption)).mono ?_); rintro e w' ⟨rfl, hS⟩))
              go_wp2_with (with_reducible refine wpList_store_row rfl 28 (.tmp 2) (.tmp 100) rfl w.heap.size zeroT rfl rfl 28 zeroT (HZ.out _ hS.2.1).1 (info_T _ _ _ _ _ _ _ _) (size_T _ _ _ _ _ _ _ _ _ _ _ _ _ _ _ _) (one_T _ _ _ _ _ _ _ _) ?_)
              refine bodyPost_ret (results_row_tmp Tryd.results8 _ _ w.heap.size 28 zeroT (0, 0) _ rfl (setRow_heap _ _ _ _ _ _ (HZ.out _ hS.2.1).1) Tryd.underlying28 rfl (info_T _ _ _ _ _ _ _ _)) rfl ?_
              exact ⟨by rw [HF.out]; rfl, below_setRow (HZ.out _ hS.2.1).2 (Nat.le_refl _) _⟩
          · obtain ⟨b', o', e', i0, i1, i2, i3⟩ := row4_at HR3.out 0 (by simp)
            simp at e'
            obtain ⟨rfl, rfl⟩ := e'
            obtain ⟨b', o', e', j0, j1, j2, j3⟩ := row4_at HR3.out 1 (by simp)
            simp at e'
            obtain ⟨rfl, rfl⟩ := e'
            simp at i0 i1 i2 i3 j0 j1 j2 j3
            have hsm : smallB 0 = true := by decide
            have HF : Hid (t = (⟨⟨#[101]⟩, 0, y.u, 0, 0, 0, x.u, ByteArray.empty⟩, 0)) := Lib.hid (by rw [HBT.out, HSX.out]; unfold bodyT; rw [if_neg (by decide), if_neg (by decide), if_neg (by decide), if_pos rfl]; rfl)
            have SM : Hid (∀ wx, (Below w3.heap.size w3 wx ∧ wx.heap[w3.heap.size]? = some (.cells (cellsT ⟨#[101]⟩ 0 y.u 0 0 0 x.u ByteArray.empty) 28 (0, 0))) → Calls Tryd.prog 25 #[.int .i64 0] wx fun e w' => e = .returned (.bool true) ∧ (Below w3.heap.size w3 w' ∧ w'.heap[w3.heap.size]? = some (.cells (cellsT ⟨#[101]⟩ 0 y.u 0 0 0 x.u ByteArray.empty) 28 (0, 0)))) := Lib.hid fun wx ⟨q1, q2⟩ => by
              have hsm2 : (decide (-2147483648 ≤ (0 : Int)) && decide ((0 : Int) ≤ 2147483647)) = true := hsm
              have q := schema_small (0) wx
              rw [hsm2] at q
              exact q.mono fun _ _ ⟨q3, q4⟩ => ⟨q3, below_at q1 q4.below, by rw [q4.below.block _ (heap_lt q2)]; exact q2⟩
            have HZ : Hid (∀ wx, Below w3.heap.size w3 wx → wx.heap[w.heap.size]? = some (.cells zeroT 28 (0, 0)) ∧ Below w.heap.size w wx) := Lib.hid fun wx h => ⟨by rw [h.block _ (heap_lt HO3.out.1)]; exact HO3.out.1, HO3.out.2.trans (h.mono (Nat.le_of_lt (heap_lt HO3.out.1)))⟩
            have hwn : w.heap.size ≠ w3.heap.size := Nat.ne_of_lt (heap_lt HO3.out.1)
            have H6 : Hid (Below w3.heap.size w3 ((w3.alloc (.cells (cellsT ⟨#[101]⟩ 0 y.u 0 0 0 x.u ByteArray.empty) 28)).drew) ∧ ((w3.alloc (.cells (cellsT ⟨#[101]⟩ 0 y.u 0 0 0 x.u ByteArray.empty) 28)).drew).heap[w3.heap.size]? = some (.cells (cellsT ⟨#[101]⟩ 0 y.u 0 0 0 x.u ByteArray.empty) 28 (0, 0))) := Lib.hid ⟨((Below.refl _ _).alloc (Nat.le_refl _) _).drew, heap_alloc_new _ _⟩
            clear hsm
            go_wp2
            go_region
            all_goals (go_wp2_with (first
              | (go_at_call 25; refine (SM.out _ H6.out).mono ?_; rintro e w5 ⟨rfl, T5⟩; obtain ⟨g0, g1, g2, g3, g4, g5, g6, g7⟩ := cellsT_of T5.2; have gf : w5.frozen? ⟨w3.heap.size, 3, none⟩ = false := Lib.frozen_of_heap T5.2 3)
              | (with_reducible refine wpList_load_row rfl 28 (.tmp 6) rfl w3.heap.size rfl 28 (cellsT ⟨#[101]⟩ 0 y.u 0 0 0 x.u ByteArray.empty) (0, 0) _ (heap_setCell_at T5.2 3 _) Tryd.underlying28 rfl (info_T _ _ _ _ _ _ _ _) ?_)
              | (with_reducible refine wpList_store_row rfl 28 (.tmp 2) (.tmp 119) rfl w.heap.size (cellsT ⟨#[101]⟩ 0 y.u 0 0 0 x.u ByteArray.empty) rfl rfl 28 zeroT (heap_setCell_ne (HZ.out _ T5.1).1 hwn 3 _) (info_T _ _ _ _ _ _ _ _) (size_T _ _ _ _ _ _ _ _ _ _ _ _ _ _ _ _) (one_T _ _ _ _ _ _ _ _) ?_)))
            all_goals (refine bodyPost_ret (results_row_tmp Tryd.results8 _ _ w.heap.size 28 (cellsT ⟨#[101]⟩ 0 y.u 0 0 0 x.u ByteArray.empty) (0, 0) _ rfl (setRow_heap _ _ _ _ _ _ (heap_setCell_ne (HZ.out _ T5.1).1 hwn 3 _)) Tryd.underlying28 rfl (info_T _ _ _ _ _ _ _ _)) rfl ?_)
            all_goals exact ⟨by rw [HF.out]; rfl, below_setRow ((HZ.out _ T5.1).2.setCell (p := ⟨w3.heap.size, 3, none⟩) (Nat.le_trans HO3.out.2.size (Nat.le_refl _)) _) (Nat.le_refl _) _⟩
          · obtain ⟨b', o', e', i0, i1, i2, i3⟩ := row4_at HR3.out 0 (by simp)
            simp at e'
            obtain ⟨rfl, rfl⟩ := e'
            simp at i0 i1 i2 i3
            have hsm : smallB 0 = true := by decide
            have HF : Hid (t = (⟨⟨#[110]⟩, 0, 0, 0, 0, 0, 0, x.s⟩, 0)) := Lib.hid (by rw [HBT.out, HSX.out]; unfold bodyT; rw [if_neg (by decide), if_neg (by decide), if_neg (by decide), if_neg (by decide)]; rfl)
            have SM : Hid (∀ wx, (Below w3.heap.size w3 wx ∧ wx.heap[w3.heap.size]? = some (.cells (cellsT ⟨#[110]⟩ 0 0 0 0 0 0 x.s) 28 (0, 0))) → Calls Tryd.prog 25 #[.int .i64 0] wx fun e w' => e = .returned (.bool true) ∧ (Below w3.heap.size w3 w' ∧ w'.heap[w3.heap.size]? = some (.cells (cellsT ⟨#[110]⟩ 0 0 0 0 0 0 x.s) 28 (0, 0)))) := Lib.hid fun wx ⟨q1, q2⟩ => by
              have hsm2 : (decide (-2147483648 ≤ (0 : Int)) && decide ((0 : Int) ≤ 2147483647)) = true := hsm
              have q := schema_small (0) wx
              rw [hsm2] at q
              exact q.mono fun _ _ ⟨q3, q4⟩ => ⟨q3, below_at q1 q4.below, by rw [q4.below.block _ (heap_lt q2)]; exact q2⟩
            have HZ : Hid (∀ wx, Below w3.heap.size w3 wx → wx.heap[w.heap.size]? = some (.cells zeroT 28 (0, 0)) ∧ Below w.heap.size w wx) := Lib.hid fun wx h => ⟨by rw [h.block _ (heap_lt HO3.out.1)]; exact HO3.out.1, HO3.out.2.trans (h.mono (Nat.le_of_lt (heap_lt HO3.out.1)))⟩
            have hwn : w.heap.size ≠ w3.heap.size := Nat.ne_of_lt (heap_lt HO3.out.1)
            have H6 : Hid (Below w3.heap.size w3 ((w3.alloc (.cells (cellsT ⟨#[110]⟩ 0 0 0 0 0 0 x.s) 28))) ∧ ((w3.alloc (.cells (cellsT ⟨#[110]⟩ 0 0 0 0 0 0 x.s) 28))).heap[w3.heap.size]? = some (.cells (cellsT ⟨#[110]⟩ 0 0 0 0 0 0 x.s) 28 (0, 0))) := Lib.hid ⟨((Below.refl _ _).alloc (Nat.le_refl _) _), heap_alloc_new _ _⟩
            clear hsm
            all_goals (go_wp2_with (first
              | (go_at_call 25; refine (SM.out _ H6.out).mono ?_; rintro e w5 ⟨rfl, T5⟩; obtain ⟨g0, g1, g2, g3, g4, g5, g6, g7⟩ := cellsT_of T5.2; have gf : w5.frozen? ⟨w3.heap.size, 3, none⟩ = false := Lib.frozen_of_heap T5.2 3)
              | (with_reducible refine wpList_load_row rfl 28 (.tmp 6) rfl w3.heap.size rfl 28 (cellsT ⟨#[110]⟩ 0 0 0 0 0 0 x.s) (0, 0) _ (heap_setCell_at T5.2 3 _) Tryd.underlying28 rfl (info_T _ _ _ _ _ _ _ _) ?_)
              | (with_reducible refine wpList_store_row rfl 28 (.tmp 2) (.tmp 119) rfl w.heap.size (cellsT ⟨#[110]⟩ 0 0 0 0 0 0 x.s) rfl rfl 28 zeroT (heap_setCell_ne (HZ.out _ T5.1).1 hwn 3 _) (info_T _ _ _ _ _ _ _ _) (size_T _ _ _ _ _ _ _ _ _ _ _ _ _ _ _ _) (one_T _ _ _ _ _ _ _ _) ?_)))
            all_goals (refine bodyPost_ret (results_row_tmp Tryd.results8 _ _ w.heap.size 28 (cellsT ⟨#[110]⟩ 0 0 0 0 0 0 x.s) (0, 0) _ rfl (setRow_heap _ _ _ _ _ _ (heap_setCell_ne (HZ.out _ T5.1).1 hwn 3 _)) Tryd.underlying28 rfl (info_T _ _ _ _ _ _ _ _)) rfl ?_)
            all_goals exact ⟨by rw [HF.out]; rfl, below_setRow ((HZ.out _ T5.1).2.setCell (p := ⟨w3.heap.size, 3, none⟩) (Nat.le_trans HO3.out.2.size (Nat.le_refl _)) _) (Nat.le_refl _) _⟩
      · have HF : Hid (t = (⟨ByteArray.empty, 0, 0, 0, 0, 0, 0, ByteArray.empty⟩, 19)) := Lib.hid (HT.out none (by rw [if_neg (fun h => ha h.1)]))
        obtain ⟨a1, a2⟩ := ne_bb ha
        clear HT he hrng ha hr0
        go_enter Tryd.func8, Tryd.ntmps8
        go_wp2_with (go_at_call 21; (with_reducible refine (KP.out _ H0.out).mono ?_); rintro e w1 ⟨d, c, rfl, T1, hR, hc⟩)
        have TQ : Hid (∀ n, (w1.drewN n).heap[w.heap.size]? = some (.cells zeroT 28 (0, 0))) := Lib.hid fun n => T1.2
        obtain ⟨b, o, rfl, k0, k1, k2, k3⟩ := row4_at hR 0 (by simp)
        simp only [List.getElem_cons_zero] at k0 k1 k2 k3
        simp only [Nat.zero_mul, Nat.add_zero] at k0 k1 k2 k3
        have c1 : (1 : Int) ≤ (r.length : Int) + 1 := by omega
        have c2 : (r.length : Int) + 1 ≤ (c : Int) := by simpa using hc
        have c4 : (0 : Int) < (r.length : Int) + 1 := by omega
        obtain ⟨y1, y2⟩ := ne_bb (show ¬ (r.length : Int) + 1 = 0 by omega)
        go_quiet (fail)
        go_wp2_with (with_reducible refine wpList_store_row rfl 28 (.tmp 2) (.tmp 38) rfl w.heap.size zeroT rfl rfl 28 zeroT (TQ.out _) (info_T _ _ _ _ _ _ _ _) (size_T _ _ _ _ _ _ _ _ _ _ _ _ _ _ _ _) (one_T _ _ _ _ _ _ _ _) ?_)
        refine bodyPost_ret (results_row_tmp Tryd.results8 _ _ w.heap.size 28 zeroT (0, 0) _ rfl (setRow_heap _ _ _ _ _ _ (TQ.out _)) Tryd.underlying28 rfl (info_T _ _ _ _ _ _ _ _)) rfl ?_
        exact ⟨by rw [HF.out]; rfl, below_setRow (below_drewN T1.1 _) (Nat.le_refl _) _⟩
  · obtain ⟨e1, e2⟩ := ne_bb he
    have HF : Hid (t = (⟨ByteArray.empty, 0, 0, 0, 0, 0, 0, ByteArray.empty⟩, 19)) := Lib.hid (HT.out none (by rw [if_pos (by simpa using he)]))
    clear HT he hlen hrng
    go_enter Tryd.func8, Tryd.ntmps8
    go_wp2_with (go_at_call 21; (with_reducible refine (KP.out _ H0.out).mono ?_); rintro e w1 ⟨d, c, rfl, T1, hR, hc⟩)
    have TQ : Hid (∀ n, (w1.drewN n).heap[w.heap.size]? = some (.cells zeroT 28 (0, 0))) := Lib.hid fun n => T1.2
    go_quiet (fail)
    go_wp2_with (with_reducible refine wpList_store_row rfl 28 (.tmp 2) (.tmp 38) rfl w.heap.size zeroT rfl rfl 28 zeroT (TQ.out _) (info_T _ _ _ _ _ _ _ _) (size_T _ _ _ _ _ _ _ _ _ _ _ _ _ _ _ _) (one_T _ _ _ _ _ _ _ _) ?_)
    refine bodyPost_ret (results_row_tmp Tryd.results8 _ _ w.heap.size 28 zeroT (0, 0) _ rfl (setRow_heap _ _ _ _ _ _ (TQ.out _)) Tryd.underlying28 rfl (info_T _ _ _ _ _ _ _ _)) rfl ?_
    exact ⟨by rw [HF.out]; rfl, below_setRow (below_drewN T1.1 _) (Nat.le_refl _) _⟩

end Go.Proofs.YtafdjgmdkbimoaaDoor
