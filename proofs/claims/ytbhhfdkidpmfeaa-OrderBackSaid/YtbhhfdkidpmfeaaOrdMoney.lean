/-
  Balances read, by contract; what is written is read as it was, in plain words.
-/
import Derived.Test.YtbhhfdkidpmfeaaOrdParse2
namespace Go.Proofs.Ytbhhfdkidpmfeaa
open Go.RowKit
set_option linter.unusedVariables false
set_option linter.unusedSimpArgs false

def fitsS (b : BalanceR) : Int := if b.free < 0 ∨ b.held < 0 then 25 else over64 (b.free + b.held)

set_option maxHeartbeats 2000000 in
theorem order_fits (b : BalanceR) (w : World) (g : b.good) : Calls Try.prog 12 #[b.val] w fun e w' => e = .returned (.int .i64 (fitsS b)) ∧ Below w.heap.size w w' := by
  obtain ⟨t, ht⟩ : ∃ t, t = fitsS b := ⟨_, rfl⟩
  rw [← ht]
  unfold fitsS at ht
  have gf := (in64_iff _).2 g.free
  have gh := (in64_iff _).2 g.held
  obtain ⟨fr, hd⟩ := b
  simp only [BalanceR.val] at *
  have GF := Lib.hid gf
  have GH := Lib.hid gh
  clear g gf gh
  have HT := Lib.hid ht
  clear ht
  by_cases h1 : fr < 0
  · have E : Hid (t = 25) := Lib.hid (by rw [HT.out, if_pos (.inl h1)])
    go_enter Try.func12, Try.ntmps12
    go_wp2
    go_ret
    exact ⟨by rw [E.out]; rfl, by (repeat (first | exact Below.refl _ _ | assumption | apply below_drewN | (refine Below.alloc ?_ (by simp; try omega) _)))⟩
  by_cases h2 : hd < 0
  · have E : Hid (t = 25) := Lib.hid (by rw [HT.out, if_pos (.inr h2)])
    go_enter Try.func12, Try.ntmps12
    go_wp2
    go_ret
    exact ⟨by rw [E.out]; rfl, by (repeat (first | exact Below.refl _ _ | assumption | apply below_drewN | (refine Below.alloc ?_ (by simp; try omega) _)))⟩
  · have E : Hid (t = over64 (fr + hd)) := Lib.hid (by rw [HT.out, if_neg (by omega)])
    obtain ⟨v, hv⟩ : ∃ v, v = over64 (fr + hd) := ⟨_, rfl⟩
    rw [← hv] at E
    have AD : Hid (∀ wx, Calls Try.prog 26 #[.int .i64 fr, .int .i64 hd] wx fun e w' => e = .returned (.tuple #[.int .i64 (fits64 (fr + hd)), .int .i64 v]) ∧ Drew wx w') := Lib.hid fun wx => by rw [hv]; exact amount_add fr hd wx GF.out GH.out
    clear hv
    go_enter Try.func12, Try.ntmps12
    go_wp2_with (go_at_call 26; (with_reducible refine (AD.out _).mono ?_); rintro e w' ⟨rfl, ⟨nd, rfl⟩⟩)
    go_ret
    exact ⟨by rw [E.out]; rfl, by (repeat (first | exact Below.refl _ _ | assumption | apply below_drewN | (refine Below.alloc ?_ (by simp; try omega) _)))⟩

abbrev row2 (a b : Int) : Array Value := #[.int .i64 a, .int .i64 b]
theorem info_row2 (a b : Int) : (Try.prog.info? 32).map (·.size) = some (row2 a b).size := by kernel_rfl
theorem size_row2 (a b c d : Int) : (row2 a b).size = (row2 c d).size := rfl
theorem one_row2 (a b : Int) : (row2 a b).all (·.oneCell') = true := by simp [row2, Value.oneCell']
theorem zero_bal (w : World) : (zeroValue 32).run Try.prog w = .ok (.agg (row2 0 0)) w := by kernel_rfl

/-- what ParseMoney keeps: what was there, the reader, its result's own block -/
structure PStM (w wx : World) (b1 : Nat) (r : RS) : Prop where
  below : Below w.heap.size w wx
  lt : w.heap.size < b1
  rd : RdAt TR wx b1 r
  own : wx.heap[w.heap.size]? = some (.cells (row2 0 0) 32 (0, 0))
theorem PStM.step {w wx w' : World} {b1 : Nat} {r q : RS} (h : PStM w wx b1 r) (hR : RdAt TR w' b1 q) (hC : Chg b1 wx w') : PStM w w' b1 q :=
  ⟨h.below.trans (hC.below (Nat.le_of_lt h.lt) h.below.size), h.lt, hR, hC.heap (Nat.ne_of_lt h.lt) h.own⟩
structure PS2M (w wx : World) (b1 b2 : Nat) (r : RS) (o : Obj) : Prop extends PStM w wx b1 r where
  own2 : wx.heap[b2]? = some o
theorem PS2M.drewN {w wx : World} {b1 b2 : Nat} {r : RS} {o : Obj} (h : PS2M w wx b1 b2 r o) (n : Nat) : PS2M w (wx.drewN n) b1 b2 r o := ⟨⟨below_drewN h.below n, h.lt, h.rd, h.own⟩, h.own2⟩
theorem PS2M.moved {w wx w' : World} {b1 b2 : Nat} {r : RS} {o : Obj} (h : PS2M w wx b1 b2 r o) (hB : Below wx.heap.size wx w') : PS2M w w' b1 b2 r o :=
  ⟨⟨below_at h.below hB, h.lt, h.rd.below hB, by rw [hB.block _ (heap_lt h.own)]; exact h.own⟩, by rw [hB.block _ (heap_lt h.own2)]; exact h.own2⟩
theorem PStM.made {w wx : World} {b1 : Nat} {r : RS} (h : PStM w wx b1 r) (R : Array Value) (t : TypeId) : PS2M w (wx.alloc (.cells R t)) b1 wx.heap.size r (.cells R t (0, 0)) := by
  have hb : Below wx.heap.size wx (wx.alloc (.cells R t)) := (Below.refl _ _).alloc (Nat.le_refl _) _
  exact ⟨⟨below_at h.below hb, h.lt, h.rd.below hb, by rw [hb.block _ (heap_lt h.own)]; exact h.own⟩, heap_alloc_new _ _⟩

def mz1 (s : ByteArray) : RS := (rdS s).signed.2
def mz2 (s : ByteArray) : RS := (mz1 s).signed.2
def parseB (s : ByteArray) : BalanceR := ⟨(rdS s).signed.1, (mz1 s).signed.1⟩
def noBal : BalanceR := ⟨0, 0⟩
def parseM (s : ByteArray) : BalanceR × Int :=
  if ¬ (mz2 s).end_ = 0 then (noBal, (mz2 s).end_)
  else if ¬ fitsS (parseB s) = 0 then (noBal, fitsS (parseB s))
  else (parseB s, 0)
theorem parseB_good (s : ByteArray) : (parseB s).good := ⟨unzz_bd _ (RS.num_lt _), unzz_bd _ (RS.num_lt _)⟩

set_option maxRecDepth 100000 in
set_option maxHeartbeats 8000000 in
theorem order_parse_money (s : ByteArray) (w : World) (hs : s.size ≤ 140737488351232) :
    Calls Try.prog 10 #[.string s] w fun e w' => e = .returned (.tuple #[(parseM s).1.val, .int .i64 (parseM s).2]) ∧ Below w.heap.size w w' := by
  have hg := parseB_good s
  obtain ⟨ro, hro⟩ : ∃ x, x = (parseM s).1 := ⟨_, rfl⟩
  obtain ⟨re, hre⟩ : ∃ x, x = (parseM s).2 := ⟨_, rfl⟩
  rw [← hro, ← hre]
  unfold parseM at hro hre
  obtain ⟨o, ho⟩ : ∃ o, o = parseB s := ⟨_, rfl⟩
  rw [← ho] at hg hro hre
  obtain ⟨c, hc⟩ : ∃ c, c = fitsS o := ⟨_, rfl⟩
  rw [← hc] at hro hre
  obtain ⟨en, hen⟩ : ∃ c, c = (mz2 s).end_ := ⟨_, rfl⟩
  rw [← hen] at hro hre
  have k0 : (rdS s).ok := Nat.zero_le _
  have s0 : (rdS s).s = s := rfl
  have k1 : (mz1 s).ok := RS.num_ok _ k0
  have s1 : (mz1 s).s = s := (RS.num_s _).trans s0
  have k2 : (mz2 s).ok := RS.num_ok _ k1
  have s2 : (mz2 s).s = s := (RS.num_s _).trans s1
  have C0 : Hid (∀ b1 wx, PStM w wx b1 (rdS s) → Calls Try.prog 22 #[.pointer (some ⟨b1, 0, none⟩)] wx fun e w' => e = .returned (.int .i64 o.free) ∧ PStM w w' b1 (mz1 s)) := Lib.hid fun b1 wx T => by
    rw [ho]; exact (rd_signed b1 (rdS s) wx T.rd k0 (by rw [s0]; exact hs)).mono fun _ _ ⟨h1, h2, h3⟩ => ⟨h1, T.step h2 h3⟩
  have C1 : Hid (∀ b1 wx, PStM w wx b1 (mz1 s) → Calls Try.prog 22 #[.pointer (some ⟨b1, 0, none⟩)] wx fun e w' => e = .returned (.int .i64 o.held) ∧ PStM w w' b1 (mz2 s)) := Lib.hid fun b1 wx T => by
    rw [ho]; exact (rd_signed b1 (mz1 s) wx T.rd k1 (by rw [s1]; exact hs)).mono fun _ _ ⟨h1, h2, h3⟩ => ⟨h1, T.step h2 h3⟩
  have CO : Hid (∀ wx, Below w.heap.size w wx → wx.heap[w.heap.size]? = some (.cells (row2 0 0) 32 (0, 0)) → Calls Try.prog 19 #[.string s] wx fun e w' => ∃ b1, e = .returned (.pointer (some ⟨b1, 0, none⟩)) ∧ PStM w w' b1 (rdS s)) := Lib.hid fun wx hB hO =>
    (rd_over s wx).mono fun _ _ ⟨b, h1, h2, h3, h4⟩ => ⟨b, h1, below_at hB h4, Nat.lt_of_lt_of_le (heap_lt hO) h3, h2, by rw [h4.block _ (heap_lt hO)]; exact hO⟩
  have CE : Hid (∀ b1 b2 ob wx, PS2M w wx b1 b2 (mz2 s) ob → Calls Try.prog 23 #[.pointer (some ⟨b1, 0, none⟩)] wx fun e w' => e = .returned (.int .i64 en) ∧ PS2M w w' b1 b2 (mz2 s) ob) := Lib.hid fun b1 b2 ob wx T => by
    rw [hen]; exact (rd_end b1 (mz2 s) wx T.rd k2 (by rw [s2]; exact hs)).mono fun _ _ ⟨h1, ⟨n, h2⟩⟩ => ⟨h1, by rw [h2]; exact T.drewN n⟩
  obtain ⟨fr, hd⟩ := o
  have CC : Hid (∀ b1 b2 ob wx, PS2M w wx b1 b2 (mz2 s) ob → Calls Try.prog 12 #[.agg (row2 fr hd)] wx fun e w' => e = .returned (.int .i64 c) ∧ PS2M w w' b1 b2 (mz2 s) ob) := Lib.hid fun b1 b2 ob wx T => by
    rw [hc]; exact (order_fits _ wx hg).mono fun _ _ ⟨h1, h2⟩ => ⟨h1, T.moved h2⟩
  have W0 : Hid (Below w.heap.size w (w.alloc (.cells (row2 0 0) 32))) := Lib.hid (by (repeat (first | exact Below.refl _ _ | assumption | apply below_drewN | (refine Below.alloc ?_ (by simp; try omega) _))))
  have W1 : Hid ((w.alloc (.cells (row2 0 0) 32)).heap[w.heap.size]? = some (.cells (row2 0 0) 32 (0, 0))) := Lib.hid (heap_alloc_new _ _)
  clear hg ho hc hen k0 k1 k2 s0 s1 s2
  have hz := zero_bal
  by_cases h1 : en = 0
  · obtain ⟨e0, e1⟩ := eq_bb h1
    rw [if_neg (by simp [h1])] at hro hre
    by_cases h2 : c = 0
    · obtain ⟨c0, c1⟩ := eq_bb h2
      rw [if_neg (by simp [h2])] at hro hre
      clear h1 h2
      have HRO := Lib.hid hro
      have HRE := Lib.hid hre
      clear hro hre
      go_enter Try.func10, Try.ntmps10
      go_wp2_with (first | (go_at_call 19; (with_reducible refine (CO.out _ W0.out W1.out).mono ?_); rintro e v0 ⟨b1, rfl, T0⟩) | (go_at_call 22; (with_reducible refine (C0.out _ _ T0).mono ?_); rintro e v1 ⟨rfl, T1⟩; clear T0) | (go_at_call 22; (with_reducible refine (C1.out _ _ T1).mono ?_); rintro e v2 ⟨rfl, T2⟩; clear T1) | (go_at_call 23; (with_reducible refine (CE.out _ _ _ _ (T2.made (row2 fr hd) 32)).mono ?_); rintro e v10 ⟨rfl, T10⟩; clear T2) | (with_reducible refine wpList_load_row rfl 32 (.tmp 5) rfl v2.heap.size rfl 32 (row2 fr hd) (0, 0) _ T10.own2 Try.underlying32 rfl (info_row2 _ _) ?_) | (go_at_call 12; (with_reducible refine (CC.out _ _ _ _ T10).mono ?_); rintro e v11 ⟨rfl, T11⟩; clear T10) | (with_reducible refine wpList_load_row rfl 32 (.tmp 5) rfl v2.heap.size rfl 32 (row2 fr hd) (0, 0) _ T11.own2 Try.underlying32 rfl (info_row2 _ _) ?_) | (with_reducible refine wpList_store_row rfl 32 (.tmp 2) (.tmp 24) rfl w.heap.size (row2 fr hd) rfl rfl 32 (row2 0 0) T11.own (info_row2 _ _) (size_row2 _ _ _ _) (one_row2 _ _) ?_))
      have H2 : (v11.setRow w.heap.size (row2 fr hd)).heap[w.heap.size]? = some (.cells (row2 fr hd) 32 (0, 0)) := setRow_heap _ _ _ _ _ _ T11.own
      refine bodyPost_ret (results_row_tmp Try.results10 _ _ w.heap.size 32 (row2 fr hd) (0, 0) _ rfl H2 Try.underlying32 rfl (info_row2 _ _)) rfl ?_
      exact ⟨by rw [HRO.out, HRE.out]; rfl, T11.below.trans ⟨rfl, rfl, rfl, by simp, fun j hj => setRow_other _ _ _ _ (by omega)⟩⟩
    · obtain ⟨c0, c1⟩ := ne_bb h2
      rw [if_pos h2] at hro hre
      clear h1 h2
      have HRO := Lib.hid hro
      have HRE := Lib.hid hre
      clear hro hre
      go_enter Try.func10, Try.ntmps10
      go_wp2_with (first | (go_at_call 19; (with_reducible refine (CO.out _ W0.out W1.out).mono ?_); rintro e v0 ⟨b1, rfl, T0⟩) | (go_at_call 22; (with_reducible refine (C0.out _ _ T0).mono ?_); rintro e v1 ⟨rfl, T1⟩; clear T0) | (go_at_call 22; (with_reducible refine (C1.out _ _ T1).mono ?_); rintro e v2 ⟨rfl, T2⟩; clear T1) | (go_at_call 23; (with_reducible refine (CE.out _ _ _ _ (T2.made (row2 fr hd) 32)).mono ?_); rintro e v10 ⟨rfl, T10⟩; clear T2) | (with_reducible refine wpList_load_row rfl 32 (.tmp 5) rfl v2.heap.size rfl 32 (row2 fr hd) (0, 0) _ T10.own2 Try.underlying32 rfl (info_row2 _ _) ?_) | (go_at_call 12; (with_reducible refine (CC.out _ _ _ _ T10).mono ?_); rintro e v11 ⟨rfl, T11⟩; clear T10) | (with_reducible refine wpList_store_row rfl 32 (.tmp 2) (.tmp 22) rfl w.heap.size (row2 0 0) rfl rfl 32 (row2 0 0) T11.own (info_row2 _ _) (size_row2 _ _ _ _) (one_row2 _ _) ?_))
      have H2 : (v11.setRow w.heap.size (row2 0 0)).heap[w.heap.size]? = some (.cells (row2 0 0) 32 (0, 0)) := setRow_heap _ _ _ _ _ _ T11.own
      refine bodyPost_ret (results_row_tmp Try.results10 _ _ w.heap.size 32 (row2 0 0) (0, 0) _ rfl H2 Try.underlying32 rfl (info_row2 _ _)) rfl ?_
      exact ⟨by rw [HRO.out, HRE.out]; rfl, T11.below.trans ⟨rfl, rfl, rfl, by simp, fun j hj => setRow_other _ _ _ _ (by omega)⟩⟩
  · obtain ⟨e0, e1⟩ := ne_bb h1
    rw [if_pos h1] at hro hre
    clear h1
    have HRO := Lib.hid hro
    have HRE := Lib.hid hre
    clear hro hre
    go_enter Try.func10, Try.ntmps10
    go_wp2_with (first | (go_at_call 19; (with_reducible refine (CO.out _ W0.out W1.out).mono ?_); rintro e v0 ⟨b1, rfl, T0⟩) | (go_at_call 22; (with_reducible refine (C0.out _ _ T0).mono ?_); rintro e v1 ⟨rfl, T1⟩; clear T0) | (go_at_call 22; (with_reducible refine (C1.out _ _ T1).mono ?_); rintro e v2 ⟨rfl, T2⟩; clear T1) | (go_at_call 23; (with_reducible refine (CE.out _ _ _ _ (T2.made (row2 fr hd) 32)).mono ?_); rintro e v10 ⟨rfl, T10⟩; clear T2) | (with_reducible refine wpList_load_row rfl 32 (.tmp 5) rfl v2.heap.size rfl 32 (row2 fr hd) (0, 0) _ T10.own2 Try.underlying32 rfl (info_row2 _ _) ?_) | (go_at_call 12; (with_reducible refine (CC.out _ _ _ _ T10).mono ?_); rintro e v11 ⟨rfl, T11⟩; clear T10) | (with_reducible refine wpList_store_row rfl 32 (.tmp 2) (.tmp 22) rfl w.heap.size (row2 0 0) rfl rfl 32 (row2 0 0) T10.own (info_row2 _ _) (size_row2 _ _ _ _) (one_row2 _ _) ?_))
    have H2 : (v10.setRow w.heap.size (row2 0 0)).heap[w.heap.size]? = some (.cells (row2 0 0) 32 (0, 0)) := setRow_heap _ _ _ _ _ _ T10.own
    refine bodyPost_ret (results_row_tmp Try.results10 _ _ w.heap.size 32 (row2 0 0) (0, 0) _ rfl H2 Try.underlying32 rfl (info_row2 _ _)) rfl ?_
    exact ⟨by rw [HRO.out, HRE.out]; rfl, T10.below.trans ⟨rfl, rfl, rfl, by simp, fun j hj => setRow_other _ _ _ _ (by omega)⟩⟩

/- what is written is read as it was -/
def moneyL (b : BalanceR) : List UInt8 := numL (zz b.free).toNat ++ numL (zz b.held).toNat

theorem checkS_ok (o : OrderR) (h : checkS o = 0) : (o.side = 1 ∨ o.side = 2) ∧ (o.state = 1 ∨ o.state = 2 ∨ o.state = 3 ∨ o.state = 4) := by
  unfold checkS at h
  split at h
  · exact absurd h (by decide)
  split at h
  · exact absurd h (by decide)
  rename_i hs
  split at h
  · rename_i h2; exact absurd h h2
  split at h
  · exact absurd h (by decide)
  split at h
  · exact absurd h (by decide)
  rename_i ht
  constructor
  · unfold sidedB at hs; simp at hs; omega
  · unfold statedB at ht
    by_cases h1 : o.state = 1
    · exact .inl h1
    by_cases h2 : o.state = 2
    · exact .inr (.inl h2)
    rw [if_neg h1, if_neg h2] at ht
    simp at ht; omega

theorem u64_small (n : Int) (h : 0 ≤ n ∧ n ≤ 2147483647) : u64 n = n.toNat := by unfold u64; omega

theorem parse_bytes (o : OrderR) (g : o.good) (hc : checkS o = 0) : parseS o.id (str (bytesL o)) = (o, 0) := by
  obtain ⟨hsd, hst⟩ := checkS_ok o hc
  have u1 : u64 o.side = o.side.toNat := u64_small _ (by omega)
  have u2 : u64 o.state = o.state.toNat := u64_small _ (by omega)
  obtain ⟨s, hs⟩ : ∃ s, s = str (bytesL o) := ⟨_, rfl⟩
  rw [← hs]
  have r0 : (rdS s).rest = bytesL o ++ [] := by rw [hs, List.append_nil]; exact rest_str _
  have e0 : (rdS s).e = 0 := rfl
  have := g.account; have := g.rank; have := g.expiry
  unfold bytesL at r0
  simp only [List.append_assoc] at r0
  obtain ⟨a1, e1, r1⟩ := num_fwd _ _ _ e0 r0 (by omega)
  rw [u1] at r1
  obtain ⟨a2, e2, r2⟩ := small_fwd (pz1 s) _ _ e1 r1 (by omega)
  obtain ⟨a3, e3, r3⟩ := signed_fwd (pz2 s) _ _ e2 r2 g.price.1 g.price.2
  obtain ⟨a4, e4, r4⟩ := signed_fwd (pz3 s) _ _ e3 r3 g.size.1 g.size.2
  obtain ⟨a5, e5, r5⟩ := signed_fwd (pz4 s) _ _ e4 r4 g.left.1 g.left.2
  obtain ⟨a6, e6, r6⟩ := num_fwd (pz5 s) _ _ e5 r5 (by omega)
  obtain ⟨a7, e7, r7⟩ := num_fwd (pz6 s) _ _ e6 r6 (by omega)
  rw [u2] at r7
  obtain ⟨a8, e8, r8⟩ := small_fwd (pz7 s) _ _ e7 r7 (by omega)
  have k0 : (rdS s).ok := Nat.zero_le _
  have k8 : (pz8 s).ok := small_ok _ (RS.num_ok _ (RS.num_ok _ (RS.num_ok _ (RS.num_ok _ (RS.num_ok _ (small_ok _ (RS.num_ok _ k0)))))))
  have hp : parseO o.id s = o := by
    unfold parseO
    rw [a1, a2, a3, a4, a5, a6, a7, a8]
    obtain ⟨id, ac, sd, pr, sz, lf, rk, ex, st⟩ := o
    simp only [OrderR.mk.injEq]
    simp only at *
    refine ⟨trivial, by omega, by omega, trivial, trivial, trivial, by omega, by omega, by omega⟩
  unfold parseS
  rw [end_fwd (pz8 s) e8 k8 r8, if_neg (by simp), hp, hc, if_neg (by simp)]
theorem bytes_parse (id : Int) (s : ByteArray) (hid : 0 ≤ id ∧ id < 18446744073709551616) (h : (parseS id s).2 = 0) : str (bytesL (parseS id s).1) = s ∧ checkS (parseS id s).1 = 0 := by
  unfold parseS at h ⊢
  split at h
  · rename_i h1; exact absurd h h1
  rename_i h1
  rw [if_neg h1]
  split at h
  · rename_i h2; exact absurd h h2
  rename_i h2
  rw [if_neg h2]
  simp only [Decidable.not_not] at h1 h2
  refine ⟨?_, h2⟩
  obtain ⟨e8, r8⟩ := end_bwd _ h1
  obtain ⟨e7, r7, b1, b2⟩ := small_bwd (pz7 s) e8
  obtain ⟨e6, r6⟩ := num_bwd (pz6 s) e7
  obtain ⟨e5, r5⟩ := num_bwd (pz5 s) e6
  obtain ⟨e4, r4⟩ := signed_bwd (pz4 s) e5
  obtain ⟨e3, r3⟩ := signed_bwd (pz3 s) e4
  obtain ⟨e2, r2⟩ := signed_bwd (pz2 s) e3
  obtain ⟨e1, r1, b3, b4⟩ := small_bwd (pz1 s) e2
  obtain ⟨e0, r0⟩ := num_bwd (rdS s) e1
  refine (str_rest s _ ?_).symm
  show (rdS s).rest = _
  rw [r0]
  unfold bytesL parseO
  simp only [Int.toNat_natCast]
  rw [u64_small _ ⟨b3, b4⟩, u64_small _ ⟨b1, b2⟩]
  congr 1
  refine Eq.trans r1 ?_
  congr 1
  refine Eq.trans r2 ?_
  congr 1
  refine Eq.trans r3 ?_
  congr 1
  refine Eq.trans r4 ?_
  congr 1
  refine Eq.trans r5 ?_
  congr 1
  refine Eq.trans r6 ?_
  congr 1
  refine Eq.trans r7 ?_
  show _ ++ (pz8 s).rest = _
  rw [r8, List.append_nil]
theorem parse_money (b : BalanceR) (g : b.good) (hc : fitsS b = 0) : parseM (str (moneyL b)) = (b, 0) := by
  obtain ⟨s, hs⟩ : ∃ s, s = str (moneyL b) := ⟨_, rfl⟩
  rw [← hs]
  have r0 : (rdS s).rest = moneyL b ++ [] := by rw [hs, List.append_nil]; exact rest_str _
  have e0 : (rdS s).e = 0 := rfl
  unfold moneyL at r0
  simp only [List.append_assoc] at r0
  obtain ⟨a1, e1, r1⟩ := signed_fwd (rdS s) _ _ e0 r0 g.free.1 g.free.2
  obtain ⟨a2, e2, r2⟩ := signed_fwd (mz1 s) _ _ e1 r1 g.held.1 g.held.2
  have k0 : (rdS s).ok := Nat.zero_le _
  have k2 : (mz2 s).ok := RS.num_ok _ (RS.num_ok _ k0)
  have hp : parseB s = b := by unfold parseB; rw [a1, a2]
  unfold parseM
  rw [end_fwd (mz2 s) e2 k2 r2, if_neg (by simp), hp, hc, if_neg (by simp)]
theorem money_parse (s : ByteArray) (h : (parseM s).2 = 0) : str (moneyL (parseM s).1) = s := by
  unfold parseM at h ⊢
  split at h
  · rename_i h1; exact absurd h h1
  rename_i h1
  rw [if_neg h1]
  split at h
  · rename_i h2; exact absurd h h2
  rename_i h2
  rw [if_neg h2]
  simp only [Decidable.not_not] at h1 h2
  obtain ⟨e2, r2⟩ := end_bwd _ h1
  obtain ⟨e1, r1⟩ := signed_bwd (mz1 s) e2
  obtain ⟨e0, r0⟩ := signed_bwd (rdS s) e1
  refine (str_rest s _ ?_).symm
  show (rdS s).rest = _
  rw [r0]
  unfold moneyL parseB
  congr 1
  refine Eq.trans r1 ?_
  show _ ++ (mz2 s).rest = _
  rw [r2, List.append_nil]

end Go.Proofs.Ytbhhfdkidpmfeaa
