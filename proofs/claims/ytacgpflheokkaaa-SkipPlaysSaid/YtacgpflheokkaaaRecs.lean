/-
  The records of structs that come in.
-/
import Derived.Test.YtacgpflheokkaaaArgs
namespace Go.Proofs.Ytacgpflheokkaaa
open Go.RowKit
set_option linter.unusedVariables false

theorem wfU64 {n : Int} (h : (Lit.int .u64 n).wf = true) : 0 ≤ n ∧ n < 18446744073709551616 := by
  simp only [Lit.wf, Bool.and_eq_true, decide_eq_true_eq] at h
  have e : IntKind.u64.max = 18446744073709551615 := by decide
  have e2 : IntKind.u64.min = 0 := by decide
  omega
theorem wfU8 {n : Int} (h : (Lit.int .u8 n).wf = true) : 0 ≤ n ∧ n < 256 := by
  simp only [Lit.wf, Bool.and_eq_true, decide_eq_true_eq] at h
  have e : IntKind.u8.max = 255 := by decide
  have e2 : IntKind.u8.min = 0 := by decide
  omega
theorem wfI64 {n : Int} (h : (Lit.int .i64 n).wf = true) : -9223372036854775808 ≤ n ∧ n ≤ 9223372036854775807 := by
  simp only [Lit.wf, Bool.and_eq_true, decide_eq_true_eq] at h
  exact h
def strRow (s : ByteArray) : List Value := [.string s]
theorem strRow_of (v : Value) (h : Sc.str.ok v) : ∃ s, strRow s = [v] ∧ s.size ≤ maxLen := by
  obtain ⟨s, rfl, hs⟩ := h
  exact ⟨s, rfl, hs⟩

structure OrderR where
  id : Int
  account : Int
  side : Int
  price : Int
  size : Int
  left : Int
  rank : Int
  expiry : Int
  state : Int
instance : Inhabited OrderR := ⟨⟨0, 0, 0, 0, 0, 0, 0, 0, 0⟩⟩
def OrderR.row (r : OrderR) : List Value := [.int .u64 r.id, .int .u64 r.account, .int .i64 r.side, .int .i64 r.price, .int .i64 r.size, .int .i64 r.left, .int .u64 r.rank, .int .u64 r.expiry, .int .i64 r.state]
abbrev OrderR.val (r : OrderR) : Value := .agg #[.int .u64 r.id, .int .u64 r.account, .int .i64 r.side, .int .i64 r.price, .int .i64 r.size, .int .i64 r.left, .int .u64 r.rank, .int .u64 r.expiry, .int .i64 r.state]
structure OrderR.good (r : OrderR) : Prop where
  id : (0 ≤ r.id ∧ r.id < 18446744073709551616)
  account : (0 ≤ r.account ∧ r.account < 18446744073709551616)
  side : (-9223372036854775808 ≤ r.side ∧ r.side ≤ 9223372036854775807)
  price : (-9223372036854775808 ≤ r.price ∧ r.price ≤ 9223372036854775807)
  size : (-9223372036854775808 ≤ r.size ∧ r.size ≤ 9223372036854775807)
  left : (-9223372036854775808 ≤ r.left ∧ r.left ≤ 9223372036854775807)
  rank : (0 ≤ r.rank ∧ r.rank < 18446744073709551616)
  expiry : (0 ≤ r.expiry ∧ r.expiry < 18446744073709551616)
  state : (-9223372036854775808 ≤ r.state ∧ r.state ≤ 9223372036854775807)
def OrderR.ks : List Sc := [.int .u64, .int .u64, .int .i64, .int .i64, .int .i64, .int .i64, .int .u64, .int .u64, .int .i64]
theorem OrderR.of : ∀ vs, OkAll OrderR.ks vs → ∃ r : OrderR, r.row = vs ∧ r.good
  | [v0, v1, v2, v3, v4, v5, v6, v7, v8], h => by
    obtain ⟨⟨x0, rfl, h0⟩, ⟨x1, rfl, h1⟩, ⟨x2, rfl, h2⟩, ⟨x3, rfl, h3⟩, ⟨x4, rfl, h4⟩, ⟨x5, rfl, h5⟩, ⟨x6, rfl, h6⟩, ⟨x7, rfl, h7⟩, ⟨x8, rfl, h8⟩, _⟩ := h
    exact ⟨⟨x0, x1, x2, x3, x4, x5, x6, x7, x8⟩, rfl, ⟨wfU64 h0, wfU64 h1, wfI64 h2, wfI64 h3, wfI64 h4, wfI64 h5, wfU64 h6, wfU64 h7, wfI64 h8⟩⟩
  | [], h => h.elim
  | [_], h => h.2.elim
  | [_, _], h => h.2.2.elim
  | [_, _, _], h => h.2.2.2.elim
  | [_, _, _, _], h => h.2.2.2.2.elim
  | [_, _, _, _, _], h => h.2.2.2.2.2.elim
  | [_, _, _, _, _, _], h => h.2.2.2.2.2.2.elim
  | [_, _, _, _, _, _, _], h => h.2.2.2.2.2.2.2.elim
  | [_, _, _, _, _, _, _, _], h => h.2.2.2.2.2.2.2.2.elim
  | _ :: _ :: _ :: _ :: _ :: _ :: _ :: _ :: _ :: _ :: _, h => h.2.2.2.2.2.2.2.2.2.elim

structure BalanceR where
  free : Int
  held : Int
instance : Inhabited BalanceR := ⟨⟨0, 0⟩⟩
def BalanceR.row (r : BalanceR) : List Value := [.int .i64 r.free, .int .i64 r.held]
abbrev BalanceR.val (r : BalanceR) : Value := .agg #[.int .i64 r.free, .int .i64 r.held]
structure BalanceR.good (r : BalanceR) : Prop where
  free : (-9223372036854775808 ≤ r.free ∧ r.free ≤ 9223372036854775807)
  held : (-9223372036854775808 ≤ r.held ∧ r.held ≤ 9223372036854775807)
def BalanceR.ks : List Sc := [.int .i64, .int .i64]
theorem BalanceR.of : ∀ vs, OkAll BalanceR.ks vs → ∃ r : BalanceR, r.row = vs ∧ r.good
  | [v0, v1], h => by
    obtain ⟨⟨x0, rfl, h0⟩, ⟨x1, rfl, h1⟩, _⟩ := h
    exact ⟨⟨x0, x1⟩, rfl, ⟨wfI64 h0, wfI64 h1⟩⟩
  | [], h => h.elim
  | [_], h => h.2.elim
  | _ :: _ :: _ :: _, h => h.2.2.elim

structure ChangeR where
  kind : Int
  key : ByteArray
  value : ByteArray
instance : Inhabited ChangeR := ⟨⟨0, ByteArray.empty, ByteArray.empty⟩⟩
def ChangeR.row (r : ChangeR) : List Value := [.int .i64 r.kind, .string r.key, .string r.value]
abbrev ChangeR.val (r : ChangeR) : Value := .agg #[.int .i64 r.kind, .string r.key, .string r.value]
structure ChangeR.good (r : ChangeR) : Prop where
  kind : (-9223372036854775808 ≤ r.kind ∧ r.kind ≤ 9223372036854775807)
  key : (r.key.size ≤ maxLen)
  value : (r.value.size ≤ maxLen)
def ChangeR.ks : List Sc := [.int .i64, .str, .str]
theorem ChangeR.of : ∀ vs, OkAll ChangeR.ks vs → ∃ r : ChangeR, r.row = vs ∧ r.good
  | [v0, v1, v2], h => by
    obtain ⟨⟨x0, rfl, h0⟩, ⟨x1, rfl, h1⟩, ⟨x2, rfl, h2⟩, _⟩ := h
    exact ⟨⟨x0, x1, x2⟩, rfl, ⟨wfI64 h0, h1, h2⟩⟩
  | [], h => h.elim
  | [_], h => h.2.elim
  | [_, _], h => h.2.2.elim
  | _ :: _ :: _ :: _ :: _, h => h.2.2.2.elim

structure EntryR where
  key : ByteArray
  seq : Int
  kind : Int
  value : ByteArray
instance : Inhabited EntryR := ⟨⟨ByteArray.empty, 0, 0, ByteArray.empty⟩⟩
def EntryR.row (r : EntryR) : List Value := [.string r.key, .int .u64 r.seq, .int .i64 r.kind, .string r.value]
abbrev EntryR.val (r : EntryR) : Value := .agg #[.string r.key, .int .u64 r.seq, .int .i64 r.kind, .string r.value]
structure EntryR.good (r : EntryR) : Prop where
  key : (r.key.size ≤ maxLen)
  seq : (0 ≤ r.seq ∧ r.seq < 18446744073709551616)
  kind : (-9223372036854775808 ≤ r.kind ∧ r.kind ≤ 9223372036854775807)
  value : (r.value.size ≤ maxLen)
def EntryR.ks : List Sc := [.str, .int .u64, .int .i64, .str]
theorem EntryR.of : ∀ vs, OkAll EntryR.ks vs → ∃ r : EntryR, r.row = vs ∧ r.good
  | [v0, v1, v2, v3], h => by
    obtain ⟨⟨x0, rfl, h0⟩, ⟨x1, rfl, h1⟩, ⟨x2, rfl, h2⟩, ⟨x3, rfl, h3⟩, _⟩ := h
    exact ⟨⟨x0, x1, x2, x3⟩, rfl, ⟨h0, wfU64 h1, wfI64 h2, h3⟩⟩
  | [], h => h.elim
  | [_], h => h.2.elim
  | [_, _], h => h.2.2.elim
  | [_, _, _], h => h.2.2.2.elim
  | _ :: _ :: _ :: _ :: _ :: _, h => h.2.2.2.2.elim

structure TradeR where
  maker : Int
  taker : Int
  price : Int
  size : Int
instance : Inhabited TradeR := ⟨⟨0, 0, 0, 0⟩⟩
def TradeR.row (r : TradeR) : List Value := [.int .u64 r.maker, .int .u64 r.taker, .int .i64 r.price, .int .i64 r.size]
abbrev TradeR.val (r : TradeR) : Value := .agg #[.int .u64 r.maker, .int .u64 r.taker, .int .i64 r.price, .int .i64 r.size]
structure TradeR.good (r : TradeR) : Prop where
  maker : (0 ≤ r.maker ∧ r.maker < 18446744073709551616)
  taker : (0 ≤ r.taker ∧ r.taker < 18446744073709551616)
  price : (-9223372036854775808 ≤ r.price ∧ r.price ≤ 9223372036854775807)
  size : (-9223372036854775808 ≤ r.size ∧ r.size ≤ 9223372036854775807)
def TradeR.ks : List Sc := [.int .u64, .int .u64, .int .i64, .int .i64]
theorem TradeR.of : ∀ vs, OkAll TradeR.ks vs → ∃ r : TradeR, r.row = vs ∧ r.good
  | [v0, v1, v2, v3], h => by
    obtain ⟨⟨x0, rfl, h0⟩, ⟨x1, rfl, h1⟩, ⟨x2, rfl, h2⟩, ⟨x3, rfl, h3⟩, _⟩ := h
    exact ⟨⟨x0, x1, x2, x3⟩, rfl, ⟨wfU64 h0, wfU64 h1, wfI64 h2, wfI64 h3⟩⟩
  | [], h => h.elim
  | [_], h => h.2.elim
  | [_, _], h => h.2.2.elim
  | [_, _, _], h => h.2.2.2.elim
  | _ :: _ :: _ :: _ :: _ :: _, h => h.2.2.2.2.elim

structure PartR where
  sort : Int
  n : Int
  u : Int
  s : ByteArray
instance : Inhabited PartR := ⟨⟨0, 0, 0, ByteArray.empty⟩⟩
def PartR.row (r : PartR) : List Value := [.int .u8 r.sort, .int .i64 r.n, .int .u64 r.u, .string r.s]
abbrev PartR.val (r : PartR) : Value := .agg #[.int .u8 r.sort, .int .i64 r.n, .int .u64 r.u, .string r.s]
structure PartR.good (r : PartR) : Prop where
  sort : (0 ≤ r.sort ∧ r.sort < 256)
  n : (-9223372036854775808 ≤ r.n ∧ r.n ≤ 9223372036854775807)
  u : (0 ≤ r.u ∧ r.u < 18446744073709551616)
  s : (r.s.size ≤ maxLen)
def PartR.ks : List Sc := [.int .u8, .int .i64, .int .u64, .str]
theorem PartR.of : ∀ vs, OkAll PartR.ks vs → ∃ r : PartR, r.row = vs ∧ r.good
  | [v0, v1, v2, v3], h => by
    obtain ⟨⟨x0, rfl, h0⟩, ⟨x1, rfl, h1⟩, ⟨x2, rfl, h2⟩, ⟨x3, rfl, h3⟩, _⟩ := h
    exact ⟨⟨x0, x1, x2, x3⟩, rfl, ⟨wfU8 h0, wfI64 h1, wfU64 h2, h3⟩⟩
  | [], h => h.elim
  | [_], h => h.2.elim
  | [_, _], h => h.2.2.elim
  | [_, _, _], h => h.2.2.2.elim
  | _ :: _ :: _ :: _ :: _ :: _, h => h.2.2.2.2.elim

structure ThingR where
  sort : ByteArray
  account : Int
  id : Int
  kind : Int
  price : Int
  rank : Int
  at_ : Int
  name : ByteArray
instance : Inhabited ThingR := ⟨⟨ByteArray.empty, 0, 0, 0, 0, 0, 0, ByteArray.empty⟩⟩
def ThingR.row (r : ThingR) : List Value := [.string r.sort, .int .u64 r.account, .int .u64 r.id, .int .i64 r.kind, .int .i64 r.price, .int .u64 r.rank, .int .u64 r.at_, .string r.name]
abbrev ThingR.val (r : ThingR) : Value := .agg #[.string r.sort, .int .u64 r.account, .int .u64 r.id, .int .i64 r.kind, .int .i64 r.price, .int .u64 r.rank, .int .u64 r.at_, .string r.name]
structure ThingR.good (r : ThingR) : Prop where
  sort : (r.sort.size ≤ maxLen)
  account : (0 ≤ r.account ∧ r.account < 18446744073709551616)
  id : (0 ≤ r.id ∧ r.id < 18446744073709551616)
  kind : (-9223372036854775808 ≤ r.kind ∧ r.kind ≤ 9223372036854775807)
  price : (-9223372036854775808 ≤ r.price ∧ r.price ≤ 9223372036854775807)
  rank : (0 ≤ r.rank ∧ r.rank < 18446744073709551616)
  at_ : (0 ≤ r.at_ ∧ r.at_ < 18446744073709551616)
  name : (r.name.size ≤ maxLen)
def ThingR.ks : List Sc := [.str, .int .u64, .int .u64, .int .i64, .int .i64, .int .u64, .int .u64, .str]
theorem ThingR.of : ∀ vs, OkAll ThingR.ks vs → ∃ r : ThingR, r.row = vs ∧ r.good
  | [v0, v1, v2, v3, v4, v5, v6, v7], h => by
    obtain ⟨⟨x0, rfl, h0⟩, ⟨x1, rfl, h1⟩, ⟨x2, rfl, h2⟩, ⟨x3, rfl, h3⟩, ⟨x4, rfl, h4⟩, ⟨x5, rfl, h5⟩, ⟨x6, rfl, h6⟩, ⟨x7, rfl, h7⟩, _⟩ := h
    exact ⟨⟨x0, x1, x2, x3, x4, x5, x6, x7⟩, rfl, ⟨h0, wfU64 h1, wfU64 h2, wfI64 h3, wfI64 h4, wfU64 h5, wfU64 h6, h7⟩⟩
  | [], h => h.elim
  | [_], h => h.2.elim
  | [_, _], h => h.2.2.elim
  | [_, _, _], h => h.2.2.2.elim
  | [_, _, _, _], h => h.2.2.2.2.elim
  | [_, _, _, _, _], h => h.2.2.2.2.2.elim
  | [_, _, _, _, _, _], h => h.2.2.2.2.2.2.elim
  | [_, _, _, _, _, _, _], h => h.2.2.2.2.2.2.2.elim
  | _ :: _ :: _ :: _ :: _ :: _ :: _ :: _ :: _ :: _, h => h.2.2.2.2.2.2.2.2.elim

structure Act7R where
  key : ByteArray
  value : ByteArray
  height : Int
instance : Inhabited Act7R := ⟨⟨ByteArray.empty, ByteArray.empty, 0⟩⟩
def Act7R.row (r : Act7R) : List Value := [.string r.key, .string r.value, .int .i64 r.height]
abbrev Act7R.val (r : Act7R) : Value := .agg #[.string r.key, .string r.value, .int .i64 r.height]
structure Act7R.good (r : Act7R) : Prop where
  key : (r.key.size ≤ maxLen)
  value : (r.value.size ≤ maxLen)
  height : (-9223372036854775808 ≤ r.height ∧ r.height ≤ 9223372036854775807)
def Act7R.ks : List Sc := [.str, .str, .int .i64]
theorem Act7R.of : ∀ vs, OkAll Act7R.ks vs → ∃ r : Act7R, r.row = vs ∧ r.good
  | [v0, v1, v2], h => by
    obtain ⟨⟨x0, rfl, h0⟩, ⟨x1, rfl, h1⟩, ⟨x2, rfl, h2⟩, _⟩ := h
    exact ⟨⟨x0, x1, x2⟩, rfl, ⟨h0, h1, wfI64 h2⟩⟩
  | [], h => h.elim
  | [_], h => h.2.elim
  | [_, _], h => h.2.2.elim
  | _ :: _ :: _ :: _ :: _, h => h.2.2.2.elim

end Go.Proofs.Ytacgpflheokkaaa
