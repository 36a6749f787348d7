/- Joined out of 76 texts, part 4 of 5: a pure machine that runs the translated code over plain values, with one theorem that says that it is right, and what the functions of the program come to on it. -/
import Derived.Test.YtpbehejllcoicaaGreatPmc
import Derived.WalkKit
import Derived.WalkSpells
import Derived.Lib.BytesEntry
import Derived.Laws.Externs
import Derived.KernelRfl

set_option linter.unusedVariables false
set_option linter.unusedSimpArgs false

/- Numbers and texts, written by the reference; AppendBytes of both. -/
namespace Go.Pm
open Go
set_option maxRecDepth 100000

theorem rau_spec {n : Nat} (hn : 1 ≤ n) {x : PV} {b : List Int} {v : Int} (hx : Hold x b) (hv : b.length < 90000000000000) :
    tab n 56 [x, U v, I 2] = some (byR (b ++ [be v 1] ++ [be v 0]), []) ∧ tab n 56 [x, U v, I 4] = some (byR (b ++ [be v 3] ++ [be v 2] ++ [be v 1] ++ [be v 0]), []) ∧ tab n 56 [x, U v, I 0] = some (byR b, []) := by
  obtain ⟨n, rfl⟩ : ∃ m, n = m + 1 := ⟨n - 1, by omega⟩
  rcases hx with ⟨rfl, rfl⟩ | rfl
  · refine ⟨?_, ?_, ?_⟩
    · refine tab_eval rfl rfl fun T L hT hL => ?_
      conv => lhs; whnf
      refine loop_un hL 3 (by omega) fun q => ?_
      conv => lhs; whnf
      rfl
    · refine tab_eval rfl rfl fun T L hT hL => ?_
      conv => lhs; whnf
      refine loop_un hL 5 (by omega) fun q => ?_
      conv => lhs; whnf
      rfl
    · refine tab_eval rfl rfl fun T L hT hL => ?_
      conv => lhs; whnf
      refine loop_un hL 1 (by omega) fun q => ?_
      conv => lhs; whnf
      rfl
  · refine ⟨?_, ?_, ?_⟩
    · refine tab_eval rfl rfl fun T L hT hL => ?_
      conv => lhs; whnf
      refine asrt_step (by first | rfl | (simp [Els.len, eE1, eE2, eE3, bT1, gT1, bT2, gT2, bT3, gT3, Nat.ble_eq]; done) | (simp [Els.len, eE1, eE2, eE3, bT1, gT1, bT2, gT2, bT3, gT3, Nat.ble_eq]; (repeat' apply And.intro) <;> first | omega | exact rfl | exact dec_ok (by omega))) ?_
      conv => lhs; whnf
      refine loop_un hL 3 (by omega) fun q => ?_
      conv => lhs; whnf
      iterate 2
        refine asrt_step (by first | rfl | (simp [Els.len, eE1, eE2, eE3, bT1, gT1, bT2, gT2, bT3, gT3, Nat.ble_eq]; done) | (simp [Els.len, eE1, eE2, eE3, bT1, gT1, bT2, gT2, bT3, gT3, Nat.ble_eq]; (repeat' apply And.intro) <;> first | omega | exact rfl | exact dec_ok (by omega))) ?_
        conv => lhs; whnf
      rfl
    · refine tab_eval rfl rfl fun T L hT hL => ?_
      conv => lhs; whnf
      refine asrt_step (by first | rfl | (simp [Els.len, eE1, eE2, eE3, bT1, gT1, bT2, gT2, bT3, gT3, Nat.ble_eq]; done) | (simp [Els.len, eE1, eE2, eE3, bT1, gT1, bT2, gT2, bT3, gT3, Nat.ble_eq]; (repeat' apply And.intro) <;> first | omega | exact rfl | exact dec_ok (by omega))) ?_
      conv => lhs; whnf
      refine loop_un hL 5 (by omega) fun q => ?_
      conv => lhs; whnf
      iterate 4
        refine asrt_step (by first | rfl | (simp [Els.len, eE1, eE2, eE3, bT1, gT1, bT2, gT2, bT3, gT3, Nat.ble_eq]; done) | (simp [Els.len, eE1, eE2, eE3, bT1, gT1, bT2, gT2, bT3, gT3, Nat.ble_eq]; (repeat' apply And.intro) <;> first | omega | exact rfl | exact dec_ok (by omega))) ?_
        conv => lhs; whnf
      rfl
    · refine tab_eval rfl rfl fun T L hT hL => ?_
      conv => lhs; whnf
      refine asrt_step (by first | rfl | (simp [Els.len, eE1, eE2, eE3, bT1, gT1, bT2, gT2, bT3, gT3, Nat.ble_eq]; done) | (simp [Els.len, eE1, eE2, eE3, bT1, gT1, bT2, gT2, bT3, gT3, Nat.ble_eq]; (repeat' apply And.intro) <;> first | omega | exact rfl | exact dec_ok (by omega))) ?_
      conv => lhs; whnf
      refine loop_un hL 1 (by omega) fun q => ?_
      conv => lhs; whnf
      rfl
/-- What AppendBytes comes to. -/
def appR (b p : List Int) : PV := bif decide (p.length ≤ 65535) then .tup [byR (b ++ [be (wr p.length) 1] ++ [be (wr p.length) 0] ++ p), tB true] else .tup [nilS, tB false]
theorem hab_spec {n : Nat} (hn : 3 ≤ n) {x : PV} {b p : List Int} (hx : Hold x b) (hb : b.length < 80000000000000) (hp : p.length < 80000000000000) : tab n 53 [x, by_ p] = some (appR b p, []) := by
  obtain ⟨n, rfl⟩ : ∃ m, n = m + 1 := ⟨n - 1, by omega⟩
  by_cases h : p.length ≤ 65535
  · rw [show appR b p = .tup [byR (b ++ [be (wr p.length) 1] ++ [be (wr p.length) 0] ++ p), tB true] from by simp [appR, h]]
    rcases hx with ⟨rfl, rfl⟩ | rfl
    all_goals
      refine tab_eval rfl rfl fun T L hT hL => ?_
      conv => lhs; whnf
      rw [show decide (((Els.ints .u8 p).len : Int) > 65535) = false from decide_eq_false (by simp [Els.len]; omega)]
      conv => lhs; whnf
    · refine call_to hT (au_spec (by omega) .nil (by simp) (by simp)).1 ?_
      conv => lhs; whnf
      refine asrt_step (by first | rfl | (simp [Els.len, eE1, eE2, eE3, bT1, gT1, bT2, gT2, bT3, gT3, Nat.ble_eq]; done) | (simp [Els.len, eE1, eE2, eE3, bT1, gT1, bT2, gT2, bT3, gT3, Nat.ble_eq]; (repeat' apply And.intro) <;> first | omega | exact rfl | exact dec_ok (by omega))) ?_
      conv => lhs; whnf
      rfl
    · refine call_to hT (au_spec (by omega) .by (by omega) (by omega)).1 ?_
      conv => lhs; whnf
      refine asrt_step (by first | rfl | (simp [Els.len, eE1, eE2, eE3, bT1, gT1, bT2, gT2, bT3, gT3, Nat.ble_eq]; done) | (simp [Els.len, eE1, eE2, eE3, bT1, gT1, bT2, gT2, bT3, gT3, Nat.ble_eq]; (repeat' apply And.intro) <;> first | omega | exact rfl | exact dec_ok (by omega))) ?_
      conv => lhs; whnf
      rfl
  · rw [show appR b p = .tup [nilS, tB false] from by simp [appR, h]]
    rcases hx with ⟨rfl, rfl⟩ | rfl
    all_goals
      refine tab_eval rfl rfl fun T L hT hL => ?_
      conv => lhs; whnf
      rw [show decide (((Els.ints .u8 p).len : Int) > 65535) = true from dec_ok (by simp [Els.len]; omega)]
      conv => lhs; whnf
      rfl
theorem rab_spec {n : Nat} (hn : 2 ≤ n) {x : PV} {b p : List Int} (hx : Hold x b) (hb : b.length < 80000000000000) (hp : p.length < 80000000000000) : tab n 58 [x, by_ p] = some (appR b p, []) := by
  obtain ⟨n, rfl⟩ : ∃ m, n = m + 1 := ⟨n - 1, by omega⟩
  by_cases h : p.length ≤ 65535
  · rw [show appR b p = .tup [byR (b ++ [be (wr p.length) 1] ++ [be (wr p.length) 0] ++ p), tB true] from by simp [appR, h]]
    rcases hx with ⟨rfl, rfl⟩ | rfl
    all_goals
      refine tab_eval rfl rfl fun T L hT hL => ?_
      conv => lhs; whnf
      rw [show decide (((Els.ints .u8 p).len : Int) > 65535) = false from decide_eq_false (by simp [Els.len]; omega)]
      conv => lhs; whnf
    · refine call_to hT (rau_spec (by omega) .nil (by simp)).1 ?_
      conv => lhs; whnf
      refine asrt_step (by first | rfl | (simp [Els.len, eE1, eE2, eE3, bT1, gT1, bT2, gT2, bT3, gT3, Nat.ble_eq]; done) | (simp [Els.len, eE1, eE2, eE3, bT1, gT1, bT2, gT2, bT3, gT3, Nat.ble_eq]; (repeat' apply And.intro) <;> first | omega | exact rfl | exact dec_ok (by omega))) ?_
      conv => lhs; whnf
      rfl
    · refine call_to hT (rau_spec (by omega) .by (by omega)).1 ?_
      conv => lhs; whnf
      refine asrt_step (by first | rfl | (simp [Els.len, eE1, eE2, eE3, bT1, gT1, bT2, gT2, bT3, gT3, Nat.ble_eq]; done) | (simp [Els.len, eE1, eE2, eE3, bT1, gT1, bT2, gT2, bT3, gT3, Nat.ble_eq]; (repeat' apply And.intro) <;> first | omega | exact rfl | exact dec_ok (by omega))) ?_
      conv => lhs; whnf
      rfl
  · rw [show appR b p = .tup [nilS, tB false] from by simp [appR, h]]
    rcases hx with ⟨rfl, rfl⟩ | rfl
    all_goals
      refine tab_eval rfl rfl fun T L hT hL => ?_
      conv => lhs; whnf
      rw [show decide (((Els.ints .u8 p).len : Int) > 65535) = true from dec_ok (by simp [Els.len]; omega)]
      conv => lhs; whnf
      rfl
end Go.Pm

/- The cursor. -/
namespace Go.Pm
open Go
set_option maxRecDepth 100000

def curP (l : List Int) (k : Nat) (bad : Bool) : PV := .agg [by_ l, I k, tB bad]
abbrev curB (l : List Int) (k : Nat) (bad : Bool) : PV := .bx 159 (curP l k bad)
theorem cnew_spec {n : Nat} (hn : 1 ≤ n) {l : List Int} : tab n 60 [by_ l] = some (curB l 0 false, []) := by
  obtain ⟨n, rfl⟩ : ∃ m, n = m + 1 := ⟨n - 1, by omega⟩
  refine tab_eval rfl rfl fun T L hT hL => ?_
  conv => lhs; whnf
  rfl
theorem cok_spec {n : Nat} (hn : 1 ≤ n) {l : List Int} {k : Nat} {bad : Bool} : tab n 62 [curB l k bad] = some (tB (!bad), [curP l k bad]) := by
  obtain ⟨n, rfl⟩ : ∃ m, n = m + 1 := ⟨n - 1, by omega⟩
  refine tab_eval rfl rfl fun T L hT hL => ?_
  conv => lhs; whnf
  rfl
theorem cdone_spec {n : Nat} (hn : 1 ≤ n) {l : List Int} {k : Nat} {bad : Bool} : tab n 66 [curB l k bad] = some (tB (!bad && decide (k = l.length)), [curP l k bad]) := by
  obtain ⟨n, rfl⟩ : ∃ m, n = m + 1 := ⟨n - 1, by omega⟩
  cases bad with
  | true =>
    refine tab_eval rfl rfl fun T L hT hL => ?_
    conv => lhs; whnf
    rfl
  | false =>
    refine tab_eval rfl rfl fun T L hT hL => ?_
    conv => lhs; whnf
    refine congrArg (fun z => some (tB z, [curP l k false])) ?_
    show ((k : Int) == (l.length : Int)) = decide (k = l.length)
    by_cases h : k = l.length
    · subst h; simp
    · simp [h]; omega
theorem cuint_spec {n : Nat} (hn : 3 ≤ n) {l : List Int} {k : Nat} {bad : Bool} (hl : Short l) (hk : k < 80000000000000) :
    tab n 61 [curB l k bad, I (4 : Nat)] = if bad = false ∧ k + 4 ≤ l.length then some (I (IntKind.i64.wrap (uintL l k 4)), [curP l (k + 4) false]) else some (I 0, [curP l k true]) := by
  obtain ⟨n, rfl⟩ : ∃ m, n = m + 1 := ⟨n - 1, by omega⟩
  by_cases h : k + 4 ≤ l.length
  · have hR : uintR l k 4 = .tup [U (uintL l k 4), tB true] := by simp [uintR, h]
    cases bad with
    | true =>
      rw [if_neg (by simp)]
      refine tab_eval rfl rfl fun T L hT hL => ?_
      conv => lhs; whnf
      refine call_to hT (huint_spec (by omega) (k := k) (w := 4) (.inr rfl) hl (by omega)) ?_
      rw [hR]
      conv => lhs; whnf
      rfl
    | false =>
      rw [if_pos ⟨rfl, h⟩]
      refine tab_eval rfl rfl fun T L hT hL => ?_
      conv => lhs; whnf
      refine call_to hT (huint_spec (by omega) (k := k) (w := 4) (.inr rfl) hl (by omega)) ?_
      rw [hR]
      conv => lhs; whnf
      have hw : IntKind.i64.wrap ((k : Int) + ((4 : Nat) : Int)) = ((k + 4 : Nat) : Int) := by rw [i_wrap (by omega) (by omega)]; omega
      refine congrArg (fun z => some (I (IntKind.i64.wrap (uintL l k 4)), [PV.agg [by_ l, I z, tB false]])) ?_
      exact hw
  · have hR : uintR l k 4 = .tup [U 0, tB false] := by simp [uintR, h]
    rw [if_neg (by simp [h])]
    cases bad with
    | true =>
      refine tab_eval rfl rfl fun T L hT hL => ?_
      conv => lhs; whnf
      refine call_to hT (huint_spec (by omega) (k := k) (w := 4) (.inr rfl) hl (by omega)) ?_
      rw [hR]
      conv => lhs; whnf
      rfl
    | false =>
      refine tab_eval rfl rfl fun T L hT hL => ?_
      conv => lhs; whnf
      refine call_to hT (huint_spec (by omega) (k := k) (w := 4) (.inr rfl) hl (by omega)) ?_
      rw [hR]
      conv => lhs; whnf
      rfl
theorem cbytes_spec {n : Nat} (hn : 4 ≤ n) {l : List Int} {k : Nat} (hb : Bs l) (hl : Short l) (hk : k < 80000000000000) :
    tab n 65 [curB l k false] = if k + 2 ≤ l.length ∧ k + 2 + lenAt l k ≤ l.length then some (byR ((l.drop (k + 2)).take (lenAt l k)), [curP l (k + 2 + lenAt l k) false]) else some (nilS, [curP l k true]) := by
  obtain ⟨n, rfl⟩ : ∃ m, n = m + 1 := ⟨n - 1, by omega⟩
  by_cases h : k + 2 ≤ l.length ∧ k + 2 + lenAt l k ≤ l.length
  · have hR : bytesR l k = .tup [byR ((l.drop (k + 2)).take (lenAt l k)), I ((k + 2 + lenAt l k : Nat) : Int), tB true] := by simp [bytesR, h]
    rw [if_pos h]
    refine tab_eval rfl rfl fun T L hT hL => ?_
    conv => lhs; whnf
    refine call_to hT (hbytes_spec (by omega) (k := k) hb hl (by omega)) ?_
    rw [hR]
    conv => lhs; whnf
    rfl
  · have hR : bytesR l k = .tup [nilS, I 0, tB false] := by
      unfold bytesR
      rw [show (decide (k + 2 ≤ l.length) && decide (k + 2 + lenAt l k ≤ l.length)) = false from by
        cases hd : (decide (k + 2 ≤ l.length) && decide (k + 2 + lenAt l k ≤ l.length)) with
        | false => rfl
        | true => simp only [Bool.and_eq_true, decide_eq_true_eq] at hd; exact absurd hd h]
      rfl
    rw [if_neg h]
    refine tab_eval rfl rfl fun T L hT hL => ?_
    conv => lhs; whnf
    refine call_to hT (hbytes_spec (by omega) (k := k) hb hl (by omega)) ?_
    rw [hR]
    conv => lhs; whnf
    rfl
theorem cfixed_spec {n : Nat} (hn : 1 ≤ n) {l : List Int} {k : Nat} (hl : Short l) (hk : k < 80000000000000) :
    tab n 64 [curB l k false, I (393 : Nat)] = if k + 393 ≤ l.length then some (byR ((l.drop k).take 393), [curP l (k + 393) false]) else some (nilS, [curP l k true]) := by
  obtain ⟨n, rfl⟩ : ∃ m, n = m + 1 := ⟨n - 1, by omega⟩
  have hs : IntKind.i64.wrap (((Els.ints .u8 l).len : Int) - (k : Int)) = (l.length : Int) - k := i_wrap (by simp [Els.len]; omega) (by simp [Els.len]; omega)
  by_cases h : k + 393 ≤ l.length
  · rw [if_pos h]
    refine tab_eval rfl rfl fun T L hT hL => ?_
    conv => lhs; whnf
    rw [hs, show decide ((l.length : Int) - k < ((393 : Nat) : Int)) = false from decide_eq_false (by omega)]
    conv => lhs; whnf
    have hw : IntKind.i64.wrap ((k : Int) + ((393 : Nat) : Int)) = ((k + 393 : Nat) : Int) := by rw [i_wrap (by omega) (by omega)]; omega
    rw [hw]
    refine asrt_step (by first | rfl | (simp [Els.len, eE1, eE2, eE3, bT1, gT1, bT2, gT2, bT3, gT3, Nat.ble_eq]; done) | (simp [Els.len, eE1, eE2, eE3, bT1, gT1, bT2, gT2, bT3, gT3, Nat.ble_eq]; (repeat' apply And.intro) <;> first | omega | exact rfl | exact dec_ok (by omega))) ?_
    conv => lhs; whnf
    refine asrt_step (by first | rfl | (simp [Els.len, eE1, eE2, eE3, bT1, gT1, bT2, gT2, bT3, gT3, Nat.ble_eq]; done) | (simp [Els.len, eE1, eE2, eE3, bT1, gT1, bT2, gT2, bT3, gT3, Nat.ble_eq]; (repeat' apply And.intro) <;> first | omega | exact rfl | exact dec_ok (by omega))) ?_
    conv => lhs; whnf
    rw [hw]
    refine congrArg (fun z => some (byR z, [PV.agg [by_ l, I ((k + 393 : Nat) : Int), tB false]])) ?_
    exact cut_take rfl (by omega)
  · rw [if_neg h]
    refine tab_eval rfl rfl fun T L hT hL => ?_
    conv => lhs; whnf
    rw [hs, show decide ((l.length : Int) - k < ((393 : Nat) : Int)) = true from dec_ok (by omega)]
    conv => lhs; whnf
    rfl
end Go.Pm

/- Votes that are valid. -/
namespace Go.Pm
open Go
set_option maxRecDepth 100000

theorem between_spec {n : Nat} (hn : 1 ≤ n) {x lo hi : Int} : tab n 220 [I x, I lo, I hi] = some (tB (decide (x ≥ lo) && decide (x ≤ hi)), []) := by
  obtain ⟨n, rfl⟩ : ∃ m, n = m + 1 := ⟨n - 1, by omega⟩
  refine tab_eval rfl rfl fun T L hT hL => ?_
  conv => lhs; whnf
  cases decide (x ≥ lo)
  · conv => lhs; whnf
    rfl
  · conv => lhs; whnf
    rfl
theorem agreement_spec {n : Nat} (hn : 1 ≤ n) {x : Int} : tab n 219 [I x] = some (tB (decide (x ≥ 1) && decide (x ≤ 4)), []) := by
  obtain ⟨n, rfl⟩ : ∃ m, n = m + 1 := ⟨n - 1, by omega⟩
  refine tab_eval rfl rfl fun T L hT hL => ?_
  conv => lhs; whnf
  cases decide (x ≥ 1)
  · conv => lhs; whnf
    rfl
  · conv => lhs; whnf
    rfl
def zB (n : Nm) : Bool := n.a == 0 && (n.b == 0 && (n.c == 0 && (n.d == 0 && (n.e == 0 && (n.f == 0 && (n.g == 0 && (n.h == 0 && true)))))))
def supB (v : Vot) : Bool := IntKind.i64.wrap (BitVec.ofInt 64 v.support &&& ~~~ BitVec.ofInt 64 1023).toNat != 0
def restV (v : Vot) : Bool :=
  bif v.kind == 1 || v.kind == 2 then (decide (v.slot ≥ 0) && decide (v.slot ≤ 9)) && (v.round == 0 && v.support == 0) && v.choice == 1
  else bif v.kind == 3 then (decide (v.slot ≥ 0) && decide (v.slot ≤ 9)) && (decide (v.round ≥ 1) && decide (v.round ≤ 12)) && ((decide (v.choice ≥ 0) && decide (v.choice ≤ 1)) && (v.round != 1 || v.choice != 0 || v.support == 0))
  else bif v.kind == 4 then (decide (v.slot ≥ 0) && decide (v.slot ≤ 9)) && (decide (v.round ≥ 1) && decide (v.round ≤ 12)) && (decide (v.choice ≥ 0) && decide (v.choice ≤ 2))
  else (decide (v.slot ≥ 0) && decide (v.slot ≤ 0)) && (v.round == 0 && v.support == 0) && v.choice == 1
def validV (v : Vot) : Bool := (decide (v.kind ≥ 1) && decide (v.kind ≤ 7)) && (decide (v.signer ≥ 0) && decide (v.signer ≤ 9)) && !((v.choice == 1) == zB v.value) && !supB v && restV v
theorem valid1 {n : Nat} (hn : 1 ≤ n) {v : Vot} (hk : v.kind = 1) (hs : (decide (v.signer ≥ 0) && decide (v.signer ≤ 9)) = true) (hc : ((v.choice == 1) == zB v.value) = false) (hp : supB v = false) : tab (n+1) 160 [v.pv] = some (tB (restV v), []) := by
  have hr : restV v = ((decide (v.slot ≥ 0) && decide (v.slot ≤ 9)) && (v.round == 0 && v.support == 0) && v.choice == 1) := by simp [restV, hk]
  rw [hr]
  refine tab_eval rfl rfl fun T L hT hL => ?_
  conv => lhs; whnf
  refine call_to hT (between_spec (by omega)) ?_
  rw [hk]
  conv => lhs; whnf
  refine call_to hT (between_spec (by omega)) ?_
  rw [hs]
  conv => lhs; whnf
  rw [show (v.value.a == 0 && (v.value.b == 0 && (v.value.c == 0 && (v.value.d == 0 && (v.value.e == 0 && (v.value.f == 0 && (v.value.g == 0 && (v.value.h == 0 && true)))))))) = zB v.value from rfl, hc]
  conv => lhs; whnf
  rw [show (IntKind.i64.wrap (BitVec.ofInt IntKind.i64.bits v.support &&& ~~~ BitVec.ofInt IntKind.i64.bits 1023).toNat != 0) = false from hp]
  conv => lhs; whnf
  cases v.round == 0
  all_goals
    conv => lhs; whnf
    refine call_to hT (between_spec (by omega)) ?_
    cases (decide (v.slot ≥ 0) && decide (v.slot ≤ 9)) <;> cases v.support == 0 <;> cases v.choice == 1
    all_goals
      conv => lhs; whnf
      rfl
theorem valid2 {n : Nat} (hn : 1 ≤ n) {v : Vot} (hk : v.kind = 2) (hs : (decide (v.signer ≥ 0) && decide (v.signer ≤ 9)) = true) (hc : ((v.choice == 1) == zB v.value) = false) (hp : supB v = false) : tab (n+1) 160 [v.pv] = some (tB (restV v), []) := by
  have hr : restV v = ((decide (v.slot ≥ 0) && decide (v.slot ≤ 9)) && (v.round == 0 && v.support == 0) && v.choice == 1) := by simp [restV, hk]
  rw [hr]
  refine tab_eval rfl rfl fun T L hT hL => ?_
  conv => lhs; whnf
  refine call_to hT (between_spec (by omega)) ?_
  rw [hk]
  conv => lhs; whnf
  refine call_to hT (between_spec (by omega)) ?_
  rw [hs]
  conv => lhs; whnf
  rw [show (v.value.a == 0 && (v.value.b == 0 && (v.value.c == 0 && (v.value.d == 0 && (v.value.e == 0 && (v.value.f == 0 && (v.value.g == 0 && (v.value.h == 0 && true)))))))) = zB v.value from rfl, hc]
  conv => lhs; whnf
  rw [show (IntKind.i64.wrap (BitVec.ofInt IntKind.i64.bits v.support &&& ~~~ BitVec.ofInt IntKind.i64.bits 1023).toNat != 0) = false from hp]
  conv => lhs; whnf
  cases v.round == 0
  all_goals
    conv => lhs; whnf
    refine call_to hT (between_spec (by omega)) ?_
    cases (decide (v.slot ≥ 0) && decide (v.slot ≤ 9)) <;> cases v.support == 0 <;> cases v.choice == 1
    all_goals
      conv => lhs; whnf
      rfl
theorem valid5 {n : Nat} (hn : 1 ≤ n) {v : Vot} (hk : v.kind = 5) (hs : (decide (v.signer ≥ 0) && decide (v.signer ≤ 9)) = true) (hc : ((v.choice == 1) == zB v.value) = false) (hp : supB v = false) : tab (n+1) 160 [v.pv] = some (tB (restV v), []) := by
  have hr : restV v = ((decide (v.slot ≥ 0) && decide (v.slot ≤ 0)) && (v.round == 0 && v.support == 0) && v.choice == 1) := by simp [restV, hk]
  rw [hr]
  refine tab_eval rfl rfl fun T L hT hL => ?_
  conv => lhs; whnf
  refine call_to hT (between_spec (by omega)) ?_
  rw [hk]
  conv => lhs; whnf
  refine call_to hT (between_spec (by omega)) ?_
  rw [hs]
  conv => lhs; whnf
  rw [show (v.value.a == 0 && (v.value.b == 0 && (v.value.c == 0 && (v.value.d == 0 && (v.value.e == 0 && (v.value.f == 0 && (v.value.g == 0 && (v.value.h == 0 && true)))))))) = zB v.value from rfl, hc]
  conv => lhs; whnf
  rw [show (IntKind.i64.wrap (BitVec.ofInt IntKind.i64.bits v.support &&& ~~~ BitVec.ofInt IntKind.i64.bits 1023).toNat != 0) = false from hp]
  conv => lhs; whnf
  cases v.round == 0
  all_goals
    conv => lhs; whnf
    refine call_to hT (between_spec (by omega)) ?_
    cases (decide (v.slot ≥ 0) && decide (v.slot ≤ 0)) <;> cases v.support == 0 <;> cases v.choice == 1
    all_goals
      conv => lhs; whnf
      rfl
theorem valid6 {n : Nat} (hn : 1 ≤ n) {v : Vot} (hk : v.kind = 6) (hs : (decide (v.signer ≥ 0) && decide (v.signer ≤ 9)) = true) (hc : ((v.choice == 1) == zB v.value) = false) (hp : supB v = false) : tab (n+1) 160 [v.pv] = some (tB (restV v), []) := by
  have hr : restV v = ((decide (v.slot ≥ 0) && decide (v.slot ≤ 0)) && (v.round == 0 && v.support == 0) && v.choice == 1) := by simp [restV, hk]
  rw [hr]
  refine tab_eval rfl rfl fun T L hT hL => ?_
  conv => lhs; whnf
  refine call_to hT (between_spec (by omega)) ?_
  rw [hk]
  conv => lhs; whnf
  refine call_to hT (between_spec (by omega)) ?_
  rw [hs]
  conv => lhs; whnf
  rw [show (v.value.a == 0 && (v.value.b == 0 && (v.value.c == 0 && (v.value.d == 0 && (v.value.e == 0 && (v.value.f == 0 && (v.value.g == 0 && (v.value.h == 0 && true)))))))) = zB v.value from rfl, hc]
  conv => lhs; whnf
  rw [show (IntKind.i64.wrap (BitVec.ofInt IntKind.i64.bits v.support &&& ~~~ BitVec.ofInt IntKind.i64.bits 1023).toNat != 0) = false from hp]
  conv => lhs; whnf
  cases v.round == 0
  all_goals
    conv => lhs; whnf
    refine call_to hT (between_spec (by omega)) ?_
    cases (decide (v.slot ≥ 0) && decide (v.slot ≤ 0)) <;> cases v.support == 0 <;> cases v.choice == 1
    all_goals
      conv => lhs; whnf
      rfl
theorem valid7 {n : Nat} (hn : 1 ≤ n) {v : Vot} (hk : v.kind = 7) (hs : (decide (v.signer ≥ 0) && decide (v.signer ≤ 9)) = true) (hc : ((v.choice == 1) == zB v.value) = false) (hp : supB v = false) : tab (n+1) 160 [v.pv] = some (tB (restV v), []) := by
  have hr : restV v = ((decide (v.slot ≥ 0) && decide (v.slot ≤ 0)) && (v.round == 0 && v.support == 0) && v.choice == 1) := by simp [restV, hk]
  rw [hr]
  refine tab_eval rfl rfl fun T L hT hL => ?_
  conv => lhs; whnf
  refine call_to hT (between_spec (by omega)) ?_
  rw [hk]
  conv => lhs; whnf
  refine call_to hT (between_spec (by omega)) ?_
  rw [hs]
  conv => lhs; whnf
  rw [show (v.value.a == 0 && (v.value.b == 0 && (v.value.c == 0 && (v.value.d == 0 && (v.value.e == 0 && (v.value.f == 0 && (v.value.g == 0 && (v.value.h == 0 && true)))))))) = zB v.value from rfl, hc]
  conv => lhs; whnf
  rw [show (IntKind.i64.wrap (BitVec.ofInt IntKind.i64.bits v.support &&& ~~~ BitVec.ofInt IntKind.i64.bits 1023).toNat != 0) = false from hp]
  conv => lhs; whnf
  cases v.round == 0
  all_goals
    conv => lhs; whnf
    refine call_to hT (between_spec (by omega)) ?_
    cases (decide (v.slot ≥ 0) && decide (v.slot ≤ 0)) <;> cases v.support == 0 <;> cases v.choice == 1
    all_goals
      conv => lhs; whnf
      rfl
theorem valid4 {n : Nat} (hn : 1 ≤ n) {v : Vot} (hk : v.kind = 4) (hs : (decide (v.signer ≥ 0) && decide (v.signer ≤ 9)) = true) (hc : ((v.choice == 1) == zB v.value) = false) (hp : supB v = false) : tab (n+1) 160 [v.pv] = some (tB (restV v), []) := by
  have hr : restV v = ((decide (v.slot ≥ 0) && decide (v.slot ≤ 9)) && (decide (v.round ≥ 1) && decide (v.round ≤ 12)) && (decide (v.choice ≥ 0) && decide (v.choice ≤ 2))) := by simp [restV, hk]
  rw [hr]
  refine tab_eval rfl rfl fun T L hT hL => ?_
  conv => lhs; whnf
  refine call_to hT (between_spec (by omega)) ?_
  rw [hk]
  conv => lhs; whnf
  refine call_to hT (between_spec (by omega)) ?_
  rw [hs]
  conv => lhs; whnf
  rw [show (v.value.a == 0 && (v.value.b == 0 && (v.value.c == 0 && (v.value.d == 0 && (v.value.e == 0 && (v.value.f == 0 && (v.value.g == 0 && (v.value.h == 0 && true)))))))) = zB v.value from rfl, hc]
  conv => lhs; whnf
  rw [show (IntKind.i64.wrap (BitVec.ofInt IntKind.i64.bits v.support &&& ~~~ BitVec.ofInt IntKind.i64.bits 1023).toNat != 0) = false from hp]
  conv => lhs; whnf
  cases v.round == 0
  all_goals
    conv => lhs; whnf
    refine call_to hT (between_spec (by omega)) ?_
    conv => lhs; whnf
    refine call_to hT (between_spec (by omega)) ?_
    conv => lhs; whnf
    refine call_to hT (between_spec (by omega)) ?_
    cases (decide (v.slot ≥ 0) && decide (v.slot ≤ 9)) <;> cases (decide (v.round ≥ 1) && decide (v.round ≤ 12)) <;> cases (decide (v.choice ≥ 0) && decide (v.choice ≤ 2))
    all_goals
      conv => lhs; whnf
      rfl
end Go.Pm

/- Votes that are valid: prevotes, and the whole. -/
namespace Go.Pm
open Go
set_option maxRecDepth 100000

set_option maxHeartbeats 2000000 in
theorem valid3 {n : Nat} (hn : 1 ≤ n) {v : Vot} (hk : v.kind = 3) (hs : (decide (v.signer ≥ 0) && decide (v.signer ≤ 9)) = true) (hc : ((v.choice == 1) == zB v.value) = false) (hp : supB v = false) : tab (n+1) 160 [v.pv] = some (tB (restV v), []) := by
  have hr : restV v = ((decide (v.slot ≥ 0) && decide (v.slot ≤ 9)) && (decide (v.round ≥ 1) && decide (v.round ≤ 12)) && ((decide (v.choice ≥ 0) && decide (v.choice ≤ 1)) && (v.round != 1 || v.choice != 0 || v.support == 0))) := by simp [restV, hk]
  rw [hr]
  refine tab_eval rfl rfl fun T L hT hL => ?_
  conv => lhs; whnf
  refine call_to hT (between_spec (by omega)) ?_
  rw [hk]
  conv => lhs; whnf
  refine call_to hT (between_spec (by omega)) ?_
  rw [hs]
  conv => lhs; whnf
  rw [show (v.value.a == 0 && (v.value.b == 0 && (v.value.c == 0 && (v.value.d == 0 && (v.value.e == 0 && (v.value.f == 0 && (v.value.g == 0 && (v.value.h == 0 && true)))))))) = zB v.value from rfl, hc]
  conv => lhs; whnf
  rw [show (IntKind.i64.wrap (BitVec.ofInt IntKind.i64.bits v.support &&& ~~~ BitVec.ofInt IntKind.i64.bits 1023).toNat != 0) = false from hp]
  conv => lhs; whnf
  cases v.round == 0
  all_goals
    conv => lhs; whnf
    refine call_to hT (between_spec (by omega)) ?_
    conv => lhs; whnf
    refine call_to hT (between_spec (by omega)) ?_
    conv => lhs; whnf
    cases (decide (v.choice ≥ 0) && decide (v.choice ≤ 1))
    all_goals
      conv => lhs; whnf
      cases v.round != 1
      all_goals
        conv => lhs; whnf
        cases v.choice != 0
        all_goals
          conv => lhs; whnf
          refine call_to hT (between_spec (by omega)) ?_
          cases (decide (v.slot ≥ 0) && decide (v.slot ≤ 9)) <;> cases (decide (v.round ≥ 1) && decide (v.round ≤ 12)) <;> cases v.support == 0
          all_goals
            conv => lhs; whnf
            rfl
theorem hvalid_spec {n : Nat} (hn : 2 ≤ n) {v : Vot} : tab n 160 [v.pv] = some (tB (validV v), []) := by
  obtain ⟨n, rfl⟩ : ∃ m, n = m + 1 := ⟨n - 1, by omega⟩
  cases hk : (decide (v.kind ≥ 1) && decide (v.kind ≤ 7)) with
  | false =>
    rw [show validV v = false from by simp [validV, hk]]
    refine tab_eval rfl rfl fun T L hT hL => ?_
    conv => lhs; whnf
    refine call_to hT (between_spec (by omega)) ?_
    rw [hk]
    conv => lhs; whnf
    rfl
  | true =>
    cases hs : (decide (v.signer ≥ 0) && decide (v.signer ≤ 9)) with
    | false =>
      rw [show validV v = false from by simp [validV, hs]]
      refine tab_eval rfl rfl fun T L hT hL => ?_
      conv => lhs; whnf
      refine call_to hT (between_spec (by omega)) ?_
      rw [hk]
      conv => lhs; whnf
      refine call_to hT (between_spec (by omega)) ?_
      rw [hs]
      conv => lhs; whnf
      rfl
    | true =>
      cases hc : ((v.choice == 1) == zB v.value) with
      | true =>
        rw [show validV v = false from by simp [validV, hc]]
        refine tab_eval rfl rfl fun T L hT hL => ?_
        conv => lhs; whnf
        refine call_to hT (between_spec (by omega)) ?_
        rw [hk]
        conv => lhs; whnf
        refine call_to hT (between_spec (by omega)) ?_
        rw [hs]
        conv => lhs; whnf
        rw [show (v.value.a == 0 && (v.value.b == 0 && (v.value.c == 0 && (v.value.d == 0 && (v.value.e == 0 && (v.value.f == 0 && (v.value.g == 0 && (v.value.h == 0 && true)))))))) = zB v.value from rfl, hc]
        conv => lhs; whnf
        rfl
      | false =>
        cases hp : supB v with
        | true =>
          rw [show validV v = false from by simp [validV, hp]]
          refine tab_eval rfl rfl fun T L hT hL => ?_
          conv => lhs; whnf
          refine call_to hT (between_spec (by omega)) ?_
          rw [hk]
          conv => lhs; whnf
          refine call_to hT (between_spec (by omega)) ?_
          rw [hs]
          conv => lhs; whnf
          rw [show (v.value.a == 0 && (v.value.b == 0 && (v.value.c == 0 && (v.value.d == 0 && (v.value.e == 0 && (v.value.f == 0 && (v.value.g == 0 && (v.value.h == 0 && true)))))))) = zB v.value from rfl, hc]
          conv => lhs; whnf
          rw [show (IntKind.i64.wrap (BitVec.ofInt IntKind.i64.bits v.support &&& ~~~ BitVec.ofInt IntKind.i64.bits 1023).toNat != 0) = true from hp]
          conv => lhs; whnf
          rfl
        | false =>
          rw [show validV v = restV v from by simp [validV, hk, hs, hc, hp]]
          have hk2 : v.kind = 1 ∨ v.kind = 2 ∨ v.kind = 3 ∨ v.kind = 4 ∨ v.kind = 5 ∨ v.kind = 6 ∨ v.kind = 7 := by
            simp only [Bool.and_eq_true, decide_eq_true_eq] at hk
            omega
          rcases hk2 with h | h | h | h | h | h | h
          · exact valid1 (by omega) h hs hc hp
          · exact valid2 (by omega) h hs hc hp
          · exact valid3 (by omega) h hs hc hp
          · exact valid4 (by omega) h hs hc hp
          · exact valid5 (by omega) h hs hc hp
          · exact valid6 (by omega) h hs hc hp
          · exact valid7 (by omega) h hs hc hp
end Go.Pm

/- Votes that are valid, by the reference. -/
namespace Go.Pm
open Go
set_option maxRecDepth 100000

set_option maxHeartbeats 2000000 in
theorem rvalid1 {n : Nat} (hn : 1 ≤ n) {v : Vot} (hk : v.kind = 1) : tab (n+1) 159 [v.pv] = some (tB (!(decide (v.signer < 0) || decide (v.signer ≥ 10) || supB v) && (!(decide (v.slot < 0) || decide (v.slot ≥ 10))) && !(zB v.value == (v.choice == 1)) && ((v.round == 0 && v.choice == 1) && v.support == 0)), []) := by
  refine tab_eval rfl rfl fun T L hT hL => ?_
  conv => lhs; whnf
  rw [hk]
  conv => lhs; whnf
  cases decide (v.signer < 0)
  case true =>
    conv => lhs; whnf
    rfl
  case false =>
    conv => lhs; whnf
    cases decide (v.signer ≥ 10)
    case true =>
      conv => lhs; whnf
      rfl
    case false =>
      conv => lhs; whnf
      rw [show (IntKind.i64.wrap (BitVec.ofInt IntKind.i64.bits v.support &&& ~~~ BitVec.ofInt IntKind.i64.bits 1023).toNat != 0) = supB v from rfl]
      cases supB v
      case true =>
        conv => lhs; whnf
        rfl
      case false =>
        conv => lhs; whnf
        refine call_to hT (agreement_spec (by omega)) ?_
        conv => lhs; whnf
        cases decide (v.slot < 0)
        case true =>
          conv => lhs; whnf
          rfl
        case false =>
          conv => lhs; whnf
          cases decide (v.slot ≥ 10)
          case true =>
            conv => lhs; whnf
            rfl
          case false =>
            conv => lhs; whnf
            refine call_to hT (agreement_spec (by omega)) ?_
            conv => lhs; whnf
            rw [show (v.value.a == 0 && (v.value.b == 0 && (v.value.c == 0 && (v.value.d == 0 && (v.value.e == 0 && (v.value.f == 0 && (v.value.g == 0 && (v.value.h == 0 && true)))))))) = zB v.value from rfl]
            cases (zB v.value == (v.choice == 1))
            case true =>
              conv => lhs; whnf
              rfl
            case false =>
              conv => lhs; whnf
              cases v.round == 0
              all_goals
                conv => lhs; whnf
                cases v.choice == 1
                all_goals
                  conv => lhs; whnf
                  rfl

set_option maxHeartbeats 2000000 in
theorem rvalid2 {n : Nat} (hn : 1 ≤ n) {v : Vot} (hk : v.kind = 2) : tab (n+1) 159 [v.pv] = some (tB (!(decide (v.signer < 0) || decide (v.signer ≥ 10) || supB v) && (!(decide (v.slot < 0) || decide (v.slot ≥ 10))) && !(zB v.value == (v.choice == 1)) && ((v.round == 0 && v.choice == 1) && v.support == 0)), []) := by
  refine tab_eval rfl rfl fun T L hT hL => ?_
  conv => lhs; whnf
  rw [hk]
  conv => lhs; whnf
  cases decide (v.signer < 0)
  case true =>
    conv => lhs; whnf
    rfl
  case false =>
    conv => lhs; whnf
    cases decide (v.signer ≥ 10)
    case true =>
      conv => lhs; whnf
      rfl
    case false =>
      conv => lhs; whnf
      rw [show (IntKind.i64.wrap (BitVec.ofInt IntKind.i64.bits v.support &&& ~~~ BitVec.ofInt IntKind.i64.bits 1023).toNat != 0) = supB v from rfl]
      cases supB v
      case true =>
        conv => lhs; whnf
        rfl
      case false =>
        conv => lhs; whnf
        refine call_to hT (agreement_spec (by omega)) ?_
        conv => lhs; whnf
        cases decide (v.slot < 0)
        case true =>
          conv => lhs; whnf
          rfl
        case false =>
          conv => lhs; whnf
          cases decide (v.slot ≥ 10)
          case true =>
            conv => lhs; whnf
            rfl
          case false =>
            conv => lhs; whnf
            refine call_to hT (agreement_spec (by omega)) ?_
            conv => lhs; whnf
            rw [show (v.value.a == 0 && (v.value.b == 0 && (v.value.c == 0 && (v.value.d == 0 && (v.value.e == 0 && (v.value.f == 0 && (v.value.g == 0 && (v.value.h == 0 && true)))))))) = zB v.value from rfl]
            cases (zB v.value == (v.choice == 1))
            case true =>
              conv => lhs; whnf
              rfl
            case false =>
              conv => lhs; whnf
              cases v.round == 0
              all_goals
                conv => lhs; whnf
                cases v.choice == 1
                all_goals
                  conv => lhs; whnf
                  rfl

set_option maxHeartbeats 2000000 in
theorem rvalid3 {n : Nat} (hn : 1 ≤ n) {v : Vot} (hk : v.kind = 3) : tab (n+1) 159 [v.pv] = some (tB (!(decide (v.signer < 0) || decide (v.signer ≥ 10) || supB v) && (!(decide (v.slot < 0) || decide (v.slot ≥ 10))) && !(zB v.value == (v.choice == 1)) && (((decide (v.round ≥ 1) && decide (v.round ≤ 12)) && (v.choice == 0 || v.choice == 1)) && ((v.round != 1 || v.choice != 0) || v.support == 0))), []) := by
  refine tab_eval rfl rfl fun T L hT hL => ?_
  conv => lhs; whnf
  rw [hk]
  conv => lhs; whnf
  cases decide (v.signer < 0)
  case true =>
    conv => lhs; whnf
    rfl
  case false =>
    conv => lhs; whnf
    cases decide (v.signer ≥ 10)
    case true =>
      conv => lhs; whnf
      rfl
    case false =>
      conv => lhs; whnf
      rw [show (IntKind.i64.wrap (BitVec.ofInt IntKind.i64.bits v.support &&& ~~~ BitVec.ofInt IntKind.i64.bits 1023).toNat != 0) = supB v from rfl]
      cases supB v
      case true =>
        conv => lhs; whnf
        rfl
      case false =>
        conv => lhs; whnf
        refine call_to hT (agreement_spec (by omega)) ?_
        conv => lhs; whnf
        cases decide (v.slot < 0)
        case true =>
          conv => lhs; whnf
          rfl
        case false =>
          conv => lhs; whnf
          cases decide (v.slot ≥ 10)
          case true =>
            conv => lhs; whnf
            rfl
          case false =>
            conv => lhs; whnf
            refine call_to hT (agreement_spec (by omega)) ?_
            conv => lhs; whnf
            rw [show (v.value.a == 0 && (v.value.b == 0 && (v.value.c == 0 && (v.value.d == 0 && (v.value.e == 0 && (v.value.f == 0 && (v.value.g == 0 && (v.value.h == 0 && true)))))))) = zB v.value from rfl]
            cases (zB v.value == (v.choice == 1))
            case true =>
              conv => lhs; whnf
              rfl
            case false =>
              conv => lhs; whnf
              cases decide (v.round ≥ 1)
              all_goals
                conv => lhs; whnf
                cases decide (v.round ≤ 12)
                all_goals
                  conv => lhs; whnf
                  cases v.choice == 0
                  all_goals
                    conv => lhs; whnf
                    cases v.choice == 1
                    all_goals
                      conv => lhs; whnf
                      cases v.round != 1
                      all_goals
                        conv => lhs; whnf
                        cases v.choice != 0
                        all_goals
                          conv => lhs; whnf
                          rfl

set_option maxHeartbeats 2000000 in
theorem rvalid4 {n : Nat} (hn : 1 ≤ n) {v : Vot} (hk : v.kind = 4) : tab (n+1) 159 [v.pv] = some (tB (!(decide (v.signer < 0) || decide (v.signer ≥ 10) || supB v) && (!(decide (v.slot < 0) || decide (v.slot ≥ 10))) && !(zB v.value == (v.choice == 1)) && (((decide (v.round ≥ 1) && decide (v.round ≤ 12)) && decide (v.choice ≥ 0)) && decide (v.choice ≤ 2))), []) := by
  refine tab_eval rfl rfl fun T L hT hL => ?_
  conv => lhs; whnf
  rw [hk]
  conv => lhs; whnf
  cases decide (v.signer < 0)
  case true =>
    conv => lhs; whnf
    rfl
  case false =>
    conv => lhs; whnf
    cases decide (v.signer ≥ 10)
    case true =>
      conv => lhs; whnf
      rfl
    case false =>
      conv => lhs; whnf
      rw [show (IntKind.i64.wrap (BitVec.ofInt IntKind.i64.bits v.support &&& ~~~ BitVec.ofInt IntKind.i64.bits 1023).toNat != 0) = supB v from rfl]
      cases supB v
      case true =>
        conv => lhs; whnf
        rfl
      case false =>
        conv => lhs; whnf
        refine call_to hT (agreement_spec (by omega)) ?_
        conv => lhs; whnf
        cases decide (v.slot < 0)
        case true =>
          conv => lhs; whnf
          rfl
        case false =>
          conv => lhs; whnf
          cases decide (v.slot ≥ 10)
          case true =>
            conv => lhs; whnf
            rfl
          case false =>
            conv => lhs; whnf
            refine call_to hT (agreement_spec (by omega)) ?_
            conv => lhs; whnf
            rw [show (v.value.a == 0 && (v.value.b == 0 && (v.value.c == 0 && (v.value.d == 0 && (v.value.e == 0 && (v.value.f == 0 && (v.value.g == 0 && (v.value.h == 0 && true)))))))) = zB v.value from rfl]
            cases (zB v.value == (v.choice == 1))
            case true =>
              conv => lhs; whnf
              rfl
            case false =>
              conv => lhs; whnf
              cases decide (v.round ≥ 1)
              all_goals
                conv => lhs; whnf
                cases decide (v.round ≤ 12)
                all_goals
                  conv => lhs; whnf
                  cases decide (v.choice ≥ 0)
                  all_goals
                    conv => lhs; whnf
                    rfl

set_option maxHeartbeats 2000000 in
theorem rvalid5 {n : Nat} (hn : 1 ≤ n) {v : Vot} (hk : v.kind = 5) : tab (n+1) 159 [v.pv] = some (tB (!(decide (v.signer < 0) || decide (v.signer ≥ 10) || supB v) && (!(v.slot != 0)) && !(zB v.value == (v.choice == 1)) && ((v.round == 0 && v.choice == 1) && v.support == 0)), []) := by
  refine tab_eval rfl rfl fun T L hT hL => ?_
  conv => lhs; whnf
  rw [hk]
  conv => lhs; whnf
  cases decide (v.signer < 0)
  case true =>
    conv => lhs; whnf
    rfl
  case false =>
    conv => lhs; whnf
    cases decide (v.signer ≥ 10)
    case true =>
      conv => lhs; whnf
      rfl
    case false =>
      conv => lhs; whnf
      rw [show (IntKind.i64.wrap (BitVec.ofInt IntKind.i64.bits v.support &&& ~~~ BitVec.ofInt IntKind.i64.bits 1023).toNat != 0) = supB v from rfl]
      cases supB v
      case true =>
        conv => lhs; whnf
        rfl
      case false =>
        conv => lhs; whnf
        refine call_to hT (agreement_spec (by omega)) ?_
        conv => lhs; whnf
        refine call_to hT (agreement_spec (by omega)) ?_
        conv => lhs; whnf
        cases v.slot != 0
        case true =>
          conv => lhs; whnf
          rfl
        case false =>
          conv => lhs; whnf
          rw [show (v.value.a == 0 && (v.value.b == 0 && (v.value.c == 0 && (v.value.d == 0 && (v.value.e == 0 && (v.value.f == 0 && (v.value.g == 0 && (v.value.h == 0 && true)))))))) = zB v.value from rfl]
          cases (zB v.value == (v.choice == 1))
          case true =>
            conv => lhs; whnf
            rfl
          case false =>
            conv => lhs; whnf
            cases v.round == 0
            all_goals
              conv => lhs; whnf
              cases v.choice == 1
              all_goals
                conv => lhs; whnf
                rfl

set_option maxHeartbeats 2000000 in
theorem rvalid6 {n : Nat} (hn : 1 ≤ n) {v : Vot} (hk : v.kind = 6) : tab (n+1) 159 [v.pv] = some (tB (!(decide (v.signer < 0) || decide (v.signer ≥ 10) || supB v) && (!(v.slot != 0)) && !(zB v.value == (v.choice == 1)) && ((v.round == 0 && v.choice == 1) && v.support == 0)), []) := by
  refine tab_eval rfl rfl fun T L hT hL => ?_
  conv => lhs; whnf
  rw [hk]
  conv => lhs; whnf
  cases decide (v.signer < 0)
  case true =>
    conv => lhs; whnf
    rfl
  case false =>
    conv => lhs; whnf
    cases decide (v.signer ≥ 10)
    case true =>
      conv => lhs; whnf
      rfl
    case false =>
      conv => lhs; whnf
      rw [show (IntKind.i64.wrap (BitVec.ofInt IntKind.i64.bits v.support &&& ~~~ BitVec.ofInt IntKind.i64.bits 1023).toNat != 0) = supB v from rfl]
      cases supB v
      case true =>
        conv => lhs; whnf
        rfl
      case false =>
        conv => lhs; whnf
        refine call_to hT (agreement_spec (by omega)) ?_
        conv => lhs; whnf
        refine call_to hT (agreement_spec (by omega)) ?_
        conv => lhs; whnf
        cases v.slot != 0
        case true =>
          conv => lhs; whnf
          rfl
        case false =>
          conv => lhs; whnf
          rw [show (v.value.a == 0 && (v.value.b == 0 && (v.value.c == 0 && (v.value.d == 0 && (v.value.e == 0 && (v.value.f == 0 && (v.value.g == 0 && (v.value.h == 0 && true)))))))) = zB v.value from rfl]
          cases (zB v.value == (v.choice == 1))
          case true =>
            conv => lhs; whnf
            rfl
          case false =>
            conv => lhs; whnf
            cases v.round == 0
            all_goals
              conv => lhs; whnf
              cases v.choice == 1
              all_goals
                conv => lhs; whnf
                rfl

set_option maxHeartbeats 2000000 in
theorem rvalid7 {n : Nat} (hn : 1 ≤ n) {v : Vot} (hk : v.kind = 7) : tab (n+1) 159 [v.pv] = some (tB (!(decide (v.signer < 0) || decide (v.signer ≥ 10) || supB v) && (!(v.slot != 0)) && !(zB v.value == (v.choice == 1)) && ((v.round == 0 && v.choice == 1) && v.support == 0)), []) := by
  refine tab_eval rfl rfl fun T L hT hL => ?_
  conv => lhs; whnf
  rw [hk]
  conv => lhs; whnf
  cases decide (v.signer < 0)
  case true =>
    conv => lhs; whnf
    rfl
  case false =>
    conv => lhs; whnf
    cases decide (v.signer ≥ 10)
    case true =>
      conv => lhs; whnf
      rfl
    case false =>
      conv => lhs; whnf
      rw [show (IntKind.i64.wrap (BitVec.ofInt IntKind.i64.bits v.support &&& ~~~ BitVec.ofInt IntKind.i64.bits 1023).toNat != 0) = supB v from rfl]
      cases supB v
      case true =>
        conv => lhs; whnf
        rfl
      case false =>
        conv => lhs; whnf
        refine call_to hT (agreement_spec (by omega)) ?_
        conv => lhs; whnf
        refine call_to hT (agreement_spec (by omega)) ?_
        conv => lhs; whnf
        cases v.slot != 0
        case true =>
          conv => lhs; whnf
          rfl
        case false =>
          conv => lhs; whnf
          rw [show (v.value.a == 0 && (v.value.b == 0 && (v.value.c == 0 && (v.value.d == 0 && (v.value.e == 0 && (v.value.f == 0 && (v.value.g == 0 && (v.value.h == 0 && true)))))))) = zB v.value from rfl]
          cases (zB v.value == (v.choice == 1))
          case true =>
            conv => lhs; whnf
            rfl
          case false =>
            conv => lhs; whnf
            cases v.round == 0
            all_goals
              conv => lhs; whnf
              cases v.choice == 1
              all_goals
                conv => lhs; whnf
                rfl

end Go.Pm

/- Votes that are valid: the reference and the program agree. -/
namespace Go.Pm
open Go
set_option maxRecDepth 100000

theorem same1 {v : Vot} (hk : v.kind = 1) : (!(decide (v.signer < 0) || decide (v.signer ≥ 10) || supB v) && (!(decide (v.slot < 0) || decide (v.slot ≥ 10))) && !(zB v.value == (v.choice == 1)) && ((v.round == 0 && v.choice == 1) && v.support == 0)) = validV v := by
  have e : validV v = ((decide (v.signer ≥ 0) && decide (v.signer ≤ 9)) && !((v.choice == 1) == zB v.value) && !supB v && restV v) := by simp [validV, hk]
  rw [e, restV, hk]
  rw [Bool.eq_iff_iff]
  cases zB v.value <;> cases supB v <;> simp <;> omega
theorem same2 {v : Vot} (hk : v.kind = 2) : (!(decide (v.signer < 0) || decide (v.signer ≥ 10) || supB v) && (!(decide (v.slot < 0) || decide (v.slot ≥ 10))) && !(zB v.value == (v.choice == 1)) && ((v.round == 0 && v.choice == 1) && v.support == 0)) = validV v := by
  have e : validV v = ((decide (v.signer ≥ 0) && decide (v.signer ≤ 9)) && !((v.choice == 1) == zB v.value) && !supB v && restV v) := by simp [validV, hk]
  rw [e, restV, hk]
  rw [Bool.eq_iff_iff]
  cases zB v.value <;> cases supB v <;> simp <;> omega
theorem same3 {v : Vot} (hk : v.kind = 3) : (!(decide (v.signer < 0) || decide (v.signer ≥ 10) || supB v) && (!(decide (v.slot < 0) || decide (v.slot ≥ 10))) && !(zB v.value == (v.choice == 1)) && (((decide (v.round ≥ 1) && decide (v.round ≤ 12)) && (v.choice == 0 || v.choice == 1)) && ((v.round != 1 || v.choice != 0) || v.support == 0))) = validV v := by
  have e : validV v = ((decide (v.signer ≥ 0) && decide (v.signer ≤ 9)) && !((v.choice == 1) == zB v.value) && !supB v && restV v) := by simp [validV, hk]
  rw [e, restV, hk]
  rw [Bool.eq_iff_iff]
  cases zB v.value <;> cases supB v <;> simp <;> omega
theorem same4 {v : Vot} (hk : v.kind = 4) : (!(decide (v.signer < 0) || decide (v.signer ≥ 10) || supB v) && (!(decide (v.slot < 0) || decide (v.slot ≥ 10))) && !(zB v.value == (v.choice == 1)) && (((decide (v.round ≥ 1) && decide (v.round ≤ 12)) && decide (v.choice ≥ 0)) && decide (v.choice ≤ 2))) = validV v := by
  have e : validV v = ((decide (v.signer ≥ 0) && decide (v.signer ≤ 9)) && !((v.choice == 1) == zB v.value) && !supB v && restV v) := by simp [validV, hk]
  rw [e, restV, hk]
  rw [Bool.eq_iff_iff]
  cases zB v.value <;> cases supB v <;> simp <;> omega
theorem same5 {v : Vot} (hk : v.kind = 5) : (!(decide (v.signer < 0) || decide (v.signer ≥ 10) || supB v) && (!(v.slot != 0)) && !(zB v.value == (v.choice == 1)) && ((v.round == 0 && v.choice == 1) && v.support == 0)) = validV v := by
  have e : validV v = ((decide (v.signer ≥ 0) && decide (v.signer ≤ 9)) && !((v.choice == 1) == zB v.value) && !supB v && restV v) := by simp [validV, hk]
  rw [e, restV, hk]
  rw [Bool.eq_iff_iff]
  cases zB v.value <;> cases supB v <;> simp <;> omega
theorem same6 {v : Vot} (hk : v.kind = 6) : (!(decide (v.signer < 0) || decide (v.signer ≥ 10) || supB v) && (!(v.slot != 0)) && !(zB v.value == (v.choice == 1)) && ((v.round == 0 && v.choice == 1) && v.support == 0)) = validV v := by
  have e : validV v = ((decide (v.signer ≥ 0) && decide (v.signer ≤ 9)) && !((v.choice == 1) == zB v.value) && !supB v && restV v) := by simp [validV, hk]
  rw [e, restV, hk]
  rw [Bool.eq_iff_iff]
  cases zB v.value <;> cases supB v <;> simp <;> omega
theorem same7 {v : Vot} (hk : v.kind = 7) : (!(decide (v.signer < 0) || decide (v.signer ≥ 10) || supB v) && (!(v.slot != 0)) && !(zB v.value == (v.choice == 1)) && ((v.round == 0 && v.choice == 1) && v.support == 0)) = validV v := by
  have e : validV v = ((decide (v.signer ≥ 0) && decide (v.signer ≤ 9)) && !((v.choice == 1) == zB v.value) && !supB v && restV v) := by simp [validV, hk]
  rw [e, restV, hk]
  rw [Bool.eq_iff_iff]
  cases zB v.value <;> cases supB v <;> simp <;> omega
theorem rvalid_spec {n : Nat} (hn : 2 ≤ n) {v : Vot} : tab n 159 [v.pv] = some (tB (validV v), []) := by
  obtain ⟨n, rfl⟩ : ∃ m, n = m + 1 := ⟨n - 1, by omega⟩
  by_cases h1 : v.kind < 1
  · rw [show validV v = false from by unfold validV; rw [show decide (v.kind ≥ 1) = false from decide_eq_false (by omega)]; rfl]
    refine tab_eval rfl rfl fun T L hT hL => ?_
    conv => lhs; whnf
    rw [show decide (v.kind < 1) = true from dec_ok h1]
    conv => lhs; whnf
    rfl
  by_cases h2 : v.kind > 7
  · rw [show validV v = false from by unfold validV; rw [show decide (v.kind ≤ 7) = false from decide_eq_false (by omega)]; simp]
    refine tab_eval rfl rfl fun T L hT hL => ?_
    conv => lhs; whnf
    rw [show decide (v.kind < 1) = false from decide_eq_false h1]
    conv => lhs; whnf
    rw [show decide (v.kind > 7) = true from dec_ok h2]
    conv => lhs; whnf
    rfl
  have hk2 : v.kind = 1 ∨ v.kind = 2 ∨ v.kind = 3 ∨ v.kind = 4 ∨ v.kind = 5 ∨ v.kind = 6 ∨ v.kind = 7 := by omega
  rcases hk2 with h | h | h | h | h | h | h
  · rw [← same1 h]; exact rvalid1 (by omega) h
  · rw [← same2 h]; exact rvalid2 (by omega) h
  · rw [← same3 h]; exact rvalid3 (by omega) h
  · rw [← same4 h]; exact rvalid4 (by omega) h
  · rw [← same5 h]; exact rvalid5 (by omega) h
  · rw [← same6 h]; exact rvalid6 (by omega) h
  · rw [← same7 h]; exact rvalid7 (by omega) h
end Go.Pm

/- Votes, written: of the program and of the reference. -/
namespace Go.Pm
open Go
set_option maxRecDepth 100000

theorem size_spec {n : Nat} (hn : 1 ≤ n) : tab n 104 [I 2] = some (I 370, []) := by
  obtain ⟨n, rfl⟩ : ∃ m, n = m + 1 := ⟨n - 1, by omega⟩
  refine tab_eval rfl rfl fun T L hT hL => ?_
  conv => lhs; whnf
  rfl
/-- A vote's bytes. -/
def encV (v : Vot) : List Int := [IntKind.u8.wrap v.kind, IntKind.u8.wrap v.slot, IntKind.u8.wrap v.round, IntKind.u8.wrap v.choice, IntKind.u8.wrap v.signer, be (IntKind.u64.wrap v.support) 1, be (IntKind.u64.wrap v.support) 0] ++ v.parent.list ++ v.value.list
def encR (v : Vot) : PV := bif validV v then .tup [byR (encV v), tB true] else .tup [nilS, tB false]
theorem be_wrap1 (s : Int) : IntKind.u8.wrap (s.fdiv (2 ^ 8)) = be (IntKind.u64.wrap s) 1 := by
  show s.fdiv 256 % 256 = ((s % 18446744073709551616).fdiv 256) % 256
  rw [Int.fdiv_eq_ediv_of_nonneg _ (by omega), Int.fdiv_eq_ediv_of_nonneg _ (by omega)]
  omega
theorem be_wrap0 (s : Int) : IntKind.u8.wrap s = be (IntKind.u64.wrap s) 0 := by
  show s % 256 = ((s % 18446744073709551616).fdiv 1) % 256
  rw [Int.fdiv_eq_ediv_of_nonneg _ (by omega)]
  omega
theorem henc_spec {n : Nat} (hn : 3 ≤ n) {v : Vot} : tab n 103 [v.pv] = some (encR v, []) := by
  obtain ⟨n, rfl⟩ : ∃ m, n = m + 1 := ⟨n - 1, by omega⟩
  unfold encR
  refine tab_eval rfl rfl fun T L hT hL => ?_
  conv => lhs; whnf
  refine call_to hT (hvalid_spec (by omega)) ?_
  cases validV v
  · conv => lhs; whnf
    rfl
  · conv => lhs; whnf
    refine call_to hT (au_spec (by omega) (.by) (by simp) (by simp)).1 ?_
    conv => lhs; whnf
    rfl
theorem renc_spec {n : Nat} (hn : 3 ≤ n) {v : Vot} : tab n 98 [v.pv] = some (encR v, []) := by
  obtain ⟨n, rfl⟩ : ∃ m, n = m + 1 := ⟨n - 1, by omega⟩
  unfold encR encV
  rw [← be_wrap1, ← be_wrap0]
  refine tab_eval rfl rfl fun T L hT hL => ?_
  conv => lhs; whnf
  refine call_to hT (rvalid_spec (by omega)) ?_
  cases validV v
  · conv => lhs; whnf
    rfl
  · conv => lhs; whnf
    rfl
end Go.Pm

/- Signed votes, written: of the program and of the reference. -/
namespace Go.Pm
open Go
set_option maxRecDepth 100000

def encS (s : Sgn) : PV := bif validV s.vote && decide (s.sig.length = 370) then .tup [byR (encV s.vote ++ s.sig), tB true] else .tup [nilS, tB false]
theorem hencS_spec {n : Nat} (hn : 4 ≤ n) {s : Sgn} : tab n 52 [s.pv] = some (encS s, []) := by
  obtain ⟨n, rfl⟩ : ∃ m, n = m + 1 := ⟨n - 1, by omega⟩
  cases hv : validV s.vote with
  | false =>
    rw [show encS s = .tup [nilS, tB false] from by simp [encS, hv]]
    refine tab_eval rfl rfl fun T L hT hL => ?_
    conv => lhs; whnf
    refine call_to hT (henc_spec (by omega) (v := s.vote)) ?_
    rw [show encR s.vote = .tup [nilS, tB false] from by simp [encR, hv]]
    conv => lhs; whnf
    rfl
  | true =>
    by_cases hl : s.sig.length = 370
    · rw [show encS s = .tup [byR (encV s.vote ++ s.sig), tB true] from by simp [encS, hv, hl]]
      refine tab_eval rfl rfl fun T L hT hL => ?_
      conv => lhs; whnf
      refine call_to hT (henc_spec (by omega) (v := s.vote)) ?_
      rw [show encR s.vote = .tup [byR (encV s.vote), tB true] from by simp [encR, hv]]
      conv => lhs; whnf
      refine call_to hT (size_spec (by omega)) ?_
      conv => lhs; whnf
      rw [show (((Els.ints .u8 s.sig).len : Int) != 370) = false from by simp [Els.len, hl]]
      conv => lhs; whnf
      refine asrt_step (by simp [Els.len, hl, bT1, gT1, Nat.ble_eq, encV, Nm.list]; (repeat' apply And.intro) <;> first | omega | exact rfl | exact dec_ok (by omega)) ?_
      conv => lhs; whnf
      rfl
    · rw [show encS s = .tup [nilS, tB false] from by simp [encS, hl]]
      refine tab_eval rfl rfl fun T L hT hL => ?_
      conv => lhs; whnf
      refine call_to hT (henc_spec (by omega) (v := s.vote)) ?_
      rw [show encR s.vote = .tup [byR (encV s.vote), tB true] from by simp [encR, hv]]
      conv => lhs; whnf
      refine call_to hT (size_spec (by omega)) ?_
      conv => lhs; whnf
      rw [show (((Els.ints .u8 s.sig).len : Int) != 370) = true from by simp [Els.len]; omega]
      conv => lhs; whnf
      rfl
theorem rencS_spec {n : Nat} (hn : 4 ≤ n) {s : Sgn} : tab n 57 [s.pv] = some (encS s, []) := by
  obtain ⟨n, rfl⟩ : ∃ m, n = m + 1 := ⟨n - 1, by omega⟩
  cases hv : validV s.vote with
  | false =>
    rw [show encS s = .tup [nilS, tB false] from by simp [encS, hv]]
    refine tab_eval rfl rfl fun T L hT hL => ?_
    conv => lhs; whnf
    refine call_to hT (renc_spec (by omega) (v := s.vote)) ?_
    rw [show encR s.vote = .tup [nilS, tB false] from by simp [encR, hv]]
    conv => lhs; whnf
    rfl
  | true =>
    by_cases hl : s.sig.length = 370
    · rw [show encS s = .tup [byR (encV s.vote ++ s.sig), tB true] from by simp [encS, hv, hl]]
      refine tab_eval rfl rfl fun T L hT hL => ?_
      conv => lhs; whnf
      refine call_to hT (renc_spec (by omega) (v := s.vote)) ?_
      rw [show encR s.vote = .tup [byR (encV s.vote), tB true] from by simp [encR, hv]]
      conv => lhs; whnf
      rw [show (((Els.ints .u8 s.sig).len : Int) != 370) = false from by simp [Els.len, hl]]
      conv => lhs; whnf
      refine asrt_step (by simp [Els.len, hl, bT1, gT1, Nat.ble_eq, encV, Nm.list]; (repeat' apply And.intro) <;> first | omega | exact rfl | exact dec_ok (by omega)) ?_
      conv => lhs; whnf
      rfl
    · rw [show encS s = .tup [nilS, tB false] from by simp [encS, hl]]
      refine tab_eval rfl rfl fun T L hT hL => ?_
      conv => lhs; whnf
      refine call_to hT (renc_spec (by omega) (v := s.vote)) ?_
      rw [show encR s.vote = .tup [byR (encV s.vote), tB true] from by simp [encR, hv]]
      conv => lhs; whnf
      rw [show (((Els.ints .u8 s.sig).len : Int) != 370) = true from by simp [Els.len]; omega]
      conv => lhs; whnf
      rfl
end Go.Pm

/- The order of names and of votes. -/
namespace Go.Pm
open Go
set_option maxRecDepth 100000

def eqN (a b : Nm) : Bool := a.a == b.a && (a.b == b.b && (a.c == b.c && (a.d == b.d && (a.e == b.e && (a.f == b.f && (a.g == b.g && (a.h == b.h && true)))))))
theorem eqN_iff {a b : Nm} : eqN a b = true ↔ a = b := by
  obtain ⟨a1, a2, a3, a4, a5, a6, a7, a8⟩ := a
  obtain ⟨b1, b2, b3, b4, b5, b6, b7, b8⟩ := b
  simp [eqN]
theorem rless_spec {n : Nat} (hn : 2 ≤ n) {a b : Nm} : tab n 132 [a.pv, b.pv] = some (tB (decide (numI a < numI b)), []) := by
  obtain ⟨n, rfl⟩ : ∃ m, n = m + 1 := ⟨n - 1, by omega⟩
  refine tab_eval rfl rfl fun T L hT hL => ?_
  conv => lhs; whnf
  refine call_to hT (num_spec (by omega) (v := a)) ?_
  conv => lhs; whnf
  refine call_to hT (num_spec (by omega) (v := b)) ?_
  conv => lhs; whnf
  rfl
theorem hless_spec {n : Nat} (hn : 2 ≤ n) {a b : Nm} : tab n 221 [a.pv, b.pv] = some (tB (decide (numI a < numI b)), []) := by
  obtain ⟨n, rfl⟩ : ∃ m, n = m + 1 := ⟨n - 1, by omega⟩
  cases he : eqN a b with
  | true =>
    have := eqN_iff.1 he
    rw [show decide (numI a < numI b) = false from by subst this; exact decide_eq_false (by omega)]
    refine tab_eval rfl rfl fun T L hT hL => ?_
    conv => lhs; whnf
    rw [show (a.a == b.a && (a.b == b.b && (a.c == b.c && (a.d == b.d && (a.e == b.e && (a.f == b.f && (a.g == b.g && (a.h == b.h && true)))))))) = eqN a b from rfl, he]
    conv => lhs; whnf
    rfl
  | false =>
    refine tab_eval rfl rfl fun T L hT hL => ?_
    conv => lhs; whnf
    rw [show (a.a == b.a && (a.b == b.b && (a.c == b.c && (a.d == b.d && (a.e == b.e && (a.f == b.f && (a.g == b.g && (a.h == b.h && true)))))))) = eqN a b from rfl, he]
    conv => lhs; whnf
    refine call_to hT (hnum_spec (by omega) (v := a)) ?_
    conv => lhs; whnf
    refine call_to hT (hnum_spec (by omega) (v := b)) ?_
    conv => lhs; whnf
    rfl
end Go.Pm

/- The order of votes. -/
namespace Go.Pm
open Go
set_option maxRecDepth 100000

def lessV (a b : Vot) : Bool :=
  bif !eqN a.parent b.parent then decide (numI a.parent < numI b.parent) else bif a.slot != b.slot then decide (a.slot < b.slot) else bif a.round != b.round then decide (a.round < b.round) else
  bif a.kind != b.kind then decide (a.kind < b.kind) else bif a.signer != b.signer then decide (a.signer < b.signer) else bif a.choice != b.choice then decide (a.choice < b.choice) else
  bif !eqN a.value b.value then decide (numI a.value < numI b.value) else decide (a.support < b.support)
theorem hlessV_spec {n : Nat} (hn : 3 ≤ n) {a b : Vot} : tab n 161 [a.pv, b.pv] = some (tB (lessV a b), []) := by
  obtain ⟨n, rfl⟩ : ∃ m, n = m + 1 := ⟨n - 1, by omega⟩
  unfold lessV
  refine tab_eval rfl rfl fun T L hT hL => ?_
  conv => lhs; whnf
  rw [show (a.parent.a == b.parent.a && (a.parent.b == b.parent.b && (a.parent.c == b.parent.c && (a.parent.d == b.parent.d && (a.parent.e == b.parent.e && (a.parent.f == b.parent.f && (a.parent.g == b.parent.g && (a.parent.h == b.parent.h && true)))))))) = eqN a.parent b.parent from rfl]
  cases eqN a.parent b.parent
  case false =>
    conv => lhs; whnf
    refine call_to hT (hless_spec (by omega) (a := a.parent) (b := b.parent)) ?_
    conv => lhs; whnf
    rfl
  conv => lhs; whnf
  refine loop_un hL 6 (by omega) fun q => ?_
  conv => lhs; whnf
  cases a.slot != b.slot
  case true =>
    conv => lhs; whnf
    rfl
  conv => lhs; whnf
  cases a.round != b.round
  case true =>
    conv => lhs; whnf
    rfl
  conv => lhs; whnf
  cases a.kind != b.kind
  case true =>
    conv => lhs; whnf
    rfl
  conv => lhs; whnf
  cases a.signer != b.signer
  case true =>
    conv => lhs; whnf
    rfl
  conv => lhs; whnf
  cases a.choice != b.choice
  case true =>
    conv => lhs; whnf
    rfl
  conv => lhs; whnf
  rw [show (a.value.a == b.value.a && (a.value.b == b.value.b && (a.value.c == b.value.c && (a.value.d == b.value.d && (a.value.e == b.value.e && (a.value.f == b.value.f && (a.value.g == b.value.g && (a.value.h == b.value.h && true)))))))) = eqN a.value b.value from rfl]
  cases eqN a.value b.value
  case false =>
    conv => lhs; whnf
    refine call_to hT (hless_spec (by omega) (a := a.value) (b := b.value)) ?_
    conv => lhs; whnf
    rfl
  conv => lhs; whnf
  rfl
theorem rlessV_spec {n : Nat} (hn : 3 ≤ n) {a b : Vot} : tab n 99 [a.pv, b.pv] = some (tB (lessV a b), []) := by
  obtain ⟨n, rfl⟩ : ∃ m, n = m + 1 := ⟨n - 1, by omega⟩
  unfold lessV
  refine tab_eval rfl rfl fun T L hT hL => ?_
  conv => lhs; whnf
  rw [show (a.parent.a == b.parent.a && (a.parent.b == b.parent.b && (a.parent.c == b.parent.c && (a.parent.d == b.parent.d && (a.parent.e == b.parent.e && (a.parent.f == b.parent.f && (a.parent.g == b.parent.g && (a.parent.h == b.parent.h && true)))))))) = eqN a.parent b.parent from rfl]
  cases eqN a.parent b.parent
  case false =>
    conv => lhs; whnf
    refine call_to hT (rless_spec (by omega) (a := a.parent) (b := b.parent)) ?_
    conv => lhs; whnf
    rfl
  conv => lhs; whnf
  refine loop_un hL 6 (by omega) fun q => ?_
  conv => lhs; whnf
  cases a.slot != b.slot
  case true =>
    conv => lhs; whnf
    rfl
  conv => lhs; whnf
  cases a.round != b.round
  case true =>
    conv => lhs; whnf
    rfl
  conv => lhs; whnf
  cases a.kind != b.kind
  case true =>
    conv => lhs; whnf
    rfl
  conv => lhs; whnf
  cases a.signer != b.signer
  case true =>
    conv => lhs; whnf
    rfl
  conv => lhs; whnf
  cases a.choice != b.choice
  case true =>
    conv => lhs; whnf
    rfl
  conv => lhs; whnf
  rw [show (a.value.a == b.value.a && (a.value.b == b.value.b && (a.value.c == b.value.c && (a.value.d == b.value.d && (a.value.e == b.value.e && (a.value.f == b.value.f && (a.value.g == b.value.g && (a.value.h == b.value.h && true)))))))) = eqN a.value b.value from rfl]
  cases eqN a.value b.value
  case false =>
    conv => lhs; whnf
    refine call_to hT (rless_spec (by omega) (a := a.value) (b := b.value)) ?_
    conv => lhs; whnf
    rfl
  conv => lhs; whnf
  rfl
end Go.Pm

/- The order of signed votes; texts that are the same. -/
namespace Go.Pm
open Go
set_option maxRecDepth 100000

def eqV (a b : Vot) : Bool := a.kind == b.kind && (a.slot == b.slot && (a.round == b.round && (a.choice == b.choice && (a.signer == b.signer && (a.support == b.support && (eqN a.parent b.parent && (eqN a.value b.value && true)))))))
theorem eqV_iff {a b : Vot} : eqV a b = true ↔ a = b := by
  obtain ⟨a1, a2, a3, a4, a5, a6, a7, a8⟩ := a
  obtain ⟨b1, b2, b3, b4, b5, b6, b7, b8⟩ := b
  simp [eqV, eqN_iff]
def strL (l : List Int) : List UInt8 := l.map fun n => UInt8.ofNat n.toNat
theorem strL_inj {a b : List Int} (ha : Bs a) (hb : Bs b) (h : strL a = strL b) : a = b := by
  induction a generalizing b with
  | nil => cases b with
    | nil => rfl
    | cons y r => cases h
  | cons x r ih =>
    cases b with
    | nil => cases h
    | cons y s =>
      simp only [strL, List.map_cons, List.cons.injEq] at h
      have hx := ha x (by simp)
      have hy := hb y (by simp)
      have e : x.toNat = y.toNat := by
        have := congrArg UInt8.toNat h.1
        simp only [UInt8.toNat_ofNat'] at this
        omega
      rw [show x = y by omega, ih (fun z hz => ha z (List.mem_cons_of_mem _ hz)) (fun z hz => hb z (List.mem_cons_of_mem _ hz)) h.2]
theorem data_bytesOf (l : List Int) : (bytesOf l).data.toList = strL l := by simp [bytesOf, strL]
theorem strEq {a b : List Int} (ha : Bs a) (hb : Bs b) : ((bytesOf a).data.toList == (bytesOf b).data.toList) = decide (a = b) := by
  rw [data_bytesOf, data_bytesOf]
  by_cases h : a = b
  · subst h; simp
  · rw [decide_eq_false h]
    exact beq_eq_false_iff_ne.2 fun e => h (strL_inj ha hb e)
theorem hequal_spec {n : Nat} (hn : 1 ≤ n) {a b : List Int} (ha : Bs a) (hb : Bs b) : tab n 31 [by_ a, by_ b] = some (tB (decide (a = b)), []) := by
  obtain ⟨n, rfl⟩ : ∃ m, n = m + 1 := ⟨n - 1, by omega⟩
  refine tab_eval rfl rfl fun T L hT hL => ?_
  conv => lhs; whnf
  rw [← strEq ha hb]
  cases (bytesOf a).data.toList == (bytesOf b).data.toList
  · conv => lhs; whnf
    rfl
  · conv => lhs; whnf
    rfl
theorem strLess {a b : List Int} (ha : Bs a) (hb : Bs b) : Op.bytesLess (bytesOf a).data.toList (bytesOf b).data.toList = decide (cmpL a b < 0) := by
  rw [data_bytesOf, data_bytesOf]
  induction a generalizing b with
  | nil => cases b with
    | nil => rfl
    | cons y s => rfl
  | cons x r ih =>
    cases b with
    | nil => rfl
    | cons y s =>
      have hx := ha x (by simp)
      have hy := hb y (by simp)
      have ih := ih (fun z hz => ha z (List.mem_cons_of_mem _ hz)) (b := s) (fun z hz => hb z (List.mem_cons_of_mem _ hz))
      have ex : (UInt8.ofNat x.toNat).toNat = x.toNat := by simp only [UInt8.toNat_ofNat']; omega
      have ey : (UInt8.ofNat y.toNat).toNat = y.toNat := by simp only [UInt8.toNat_ofNat']; omega
      simp only [strL, List.map_cons, Op.bytesLess, cmpL] at ih ⊢
      rcases Int.lt_trichotomy x y with h | h | h
      · have h1 : (UInt8.ofNat x.toNat < UInt8.ofNat y.toNat) := UInt8.lt_iff_toNat_lt.2 (by omega)
        simp [h, h1]
      · subst h
        have h1 : ¬ (UInt8.ofNat x.toNat < UInt8.ofNat x.toNat) := fun e => by have := UInt8.lt_iff_toNat_lt.1 e; omega
        simp only [h1, decide_false, Bool.false_or, beq_self_eq_true, Bool.true_and, ih, Int.lt_irrefl, cond_false]
      · have h1 : ¬ (UInt8.ofNat x.toNat < UInt8.ofNat y.toNat) := fun e => by have := UInt8.lt_iff_toNat_lt.1 e; omega
        have h2 : ¬ (UInt8.ofNat x.toNat = UInt8.ofNat y.toNat) := fun e => by have := congrArg UInt8.toNat e; omega
        have h3 : ¬ x < y := by omega
        simp [h, h1, h2, h3]
theorem cmpU_eq {a b : List Int} (ha : Bs a) (hb : Bs b) : cmpU a b = cmpL a b := by
  unfold cmpU
  induction a generalizing b with
  | nil => cases b <;> rfl
  | cons x r ih =>
    cases b with
    | nil => rfl
    | cons y s =>
      have hx := ha x (by simp)
      have hy := hb y (by simp)
      have ih := ih (fun z hz => ha z (List.mem_cons_of_mem _ hz)) (b := s) (fun z hz => hb z (List.mem_cons_of_mem _ hz))
      have ex : (UInt8.ofNat x.toNat).toNat = x.toNat := by simp only [UInt8.toNat_ofNat']; omega
      have ey : (UInt8.ofNat y.toNat).toNat = y.toNat := by simp only [UInt8.toNat_ofNat']; omega
      simp only [List.map_cons, Go.Lib.compareBytes, cmpL] at ih ⊢
      rcases Int.lt_trichotomy x y with h | h | h
      · have h1 : (UInt8.ofNat x.toNat < UInt8.ofNat y.toNat) := UInt8.lt_iff_toNat_lt.2 (by omega)
        simp [h, h1]
      · subst h
        have h1 : ¬ (UInt8.ofNat x.toNat < UInt8.ofNat x.toNat) := fun e => by have := UInt8.lt_iff_toNat_lt.1 e; omega
        simp only [h1, if_false, ih, Int.lt_irrefl, decide_false, cond_false]
      · have h1 : ¬ (UInt8.ofNat x.toNat < UInt8.ofNat y.toNat) := fun e => by have := UInt8.lt_iff_toNat_lt.1 e; omega
        have h2 : UInt8.ofNat y.toNat < UInt8.ofNat x.toNat := UInt8.lt_iff_toNat_lt.2 (by omega)
        have h3 : ¬ x < y := by omega
        simp [h, h1, h2, h3]
theorem cmp_spec {n : Nat} (hn : 1 ≤ n) {a b : List Int} (ha : Bs a) (hb : Bs b) : tab n 76 [by_ a, by_ b] = some (I (cmpL a b), []) := by
  obtain ⟨n, rfl⟩ : ∃ m, n = m + 1 := ⟨n - 1, by omega⟩
  rw [← cmpU_eq ha hb]
  rfl
def lessS (a b : Sgn) : Bool := bif !eqV a.vote b.vote then lessV a.vote b.vote else decide (cmpL a.sig b.sig < 0)
theorem hlessS_spec {n : Nat} (hn : 4 ≤ n) {a b : Sgn} (ha : Bs a.sig) (hb : Bs b.sig) : tab n 105 [a.pv, b.pv] = some (tB (lessS a b), []) := by
  obtain ⟨n, rfl⟩ : ∃ m, n = m + 1 := ⟨n - 1, by omega⟩
  unfold lessS
  refine tab_eval rfl rfl fun T L hT hL => ?_
  conv => lhs; whnf
  generalize hX : (a.vote.kind == b.vote.kind && _) = X
  have hX : eqV a.vote b.vote = X := hX
  rw [hX]
  cases X
  · conv => lhs; whnf
    refine call_to hT (hlessV_spec (by omega) (a := a.vote) (b := b.vote)) ?_
    conv => lhs; whnf
    rfl
  · conv => lhs; whnf
    refine call_to hT (cmp_spec (by omega) ha hb) ?_
    conv => lhs; whnf
    rfl
theorem rlessS_spec {n : Nat} (hn : 4 ≤ n) {a b : Sgn} (ha : Bs a.sig) (hb : Bs b.sig) : tab n 45 [a.pv, b.pv] = some (tB (lessS a b), []) := by
  obtain ⟨n, rfl⟩ : ∃ m, n = m + 1 := ⟨n - 1, by omega⟩
  unfold lessS
  refine tab_eval rfl rfl fun T L hT hL => ?_
  conv => lhs; whnf
  generalize hX : (a.vote.kind == b.vote.kind && _) = X
  have hX : eqV a.vote b.vote = X := hX
  rw [hX]
  cases X
  · conv => lhs; whnf
    refine call_to hT (rlessV_spec (by omega) (a := a.vote) (b := b.vote)) ?_
    conv => lhs; whnf
    rfl
  · conv => lhs; whnf
    rw [← strLess ha hb]
    cases Op.bytesLess (bytesOf a.sig).data.toList (bytesOf b.sig).data.toList
    · conv => lhs; whnf
      rfl
    · conv => lhs; whnf
      rfl
end Go.Pm

/- Votes and signed votes, read. -/
namespace Go.Pm
open Go
set_option maxRecDepth 100000

def mskI (a b : Int) : Int := IntKind.i64.wrap (BitVec.ofInt 64 (IntKind.i64.wrap (IntKind.i64.wrap a * 2 ^ 8)) ||| BitVec.ofInt 64 (IntKind.i64.wrap b)).toNat
theorem mskI_val {a b : Int} (ha : 0 ≤ a ∧ a < 256) (hb : 0 ≤ b ∧ b < 256) : mskI a b = a * 256 + b := by
  unfold mskI
  rw [i_wrap (n := a) (by omega) (by omega), i_wrap (n := b) (by omega) (by omega), i_wrap (n := a * 2 ^ 8) (by omega) (by omega)]
  have h := or_k 8 (a * 2 ^ 8) b (by omega) (by omega) (by omega) (by omega) (by omega)
  unfold orI at h
  have h2 : ((BitVec.ofInt 64 (a * 2 ^ 8) ||| BitVec.ofInt 64 b).toNat : Int) = a * 256 + b := by
    rw [u_wrap (by omega) (by omega)] at h
    omega
  rw [h2, i_wrap (by omega) (by omega)]
def Vot.zero : Vot := ⟨0, 0, 0, 0, 0, 0, Nm.zero, Nm.zero⟩
def nmAt (l : List Int) (k : Nat) : Nm := ⟨l.getD k 0, l.getD (k+1) 0, l.getD (k+2) 0, l.getD (k+3) 0, l.getD (k+4) 0, l.getD (k+5) 0, l.getD (k+6) 0, l.getD (k+7) 0⟩
def decV (l : List Int) : Vot := ⟨l.getD 0 0, l.getD 1 0, l.getD 2 0, l.getD 3 0, l.getD 4 0, l.getD 5 0 * 256 + l.getD 6 0, nmAt l 7, nmAt l 15⟩
def decVR (l : List Int) : PV := if l.length < 23 then .tup [Vot.zero.pv, I 2] else if l.length > 23 then .tup [Vot.zero.pv, I 3] else bif validV (decV l) then .tup [(decV l).pv, I 0] else .tup [Vot.zero.pv, I 11]
theorem len23 : ∀ {l : List Int}, l.length = 23 → ∃ a0 a1 a2 a3 a4 a5 a6 a7 a8 a9 a10 a11 a12 a13 a14 a15 a16 a17 a18 a19 a20 a21 a22, l = [a0, a1, a2, a3, a4, a5, a6, a7, a8, a9, a10, a11, a12, a13, a14, a15, a16, a17, a18, a19, a20, a21, a22]
  | [a0, a1, a2, a3, a4, a5, a6, a7, a8, a9, a10, a11, a12, a13, a14, a15, a16, a17, a18, a19, a20, a21, a22], _ => ⟨a0, a1, a2, a3, a4, a5, a6, a7, a8, a9, a10, a11, a12, a13, a14, a15, a16, a17, a18, a19, a20, a21, a22, rfl⟩
theorem hdecV_spec {n : Nat} (hn : 3 ≤ n) {l : List Int} (hb : Bs l) (hl : Short l) : tab n 113 [by_ l] = some (decVR l, []) := by
  obtain ⟨n, rfl⟩ : ∃ m, n = m + 1 := ⟨n - 1, by omega⟩
  by_cases h1 : l.length < 23
  · rw [show decVR l = .tup [Vot.zero.pv, I 2] from by simp [decVR, h1]]
    refine tab_eval rfl rfl fun T L hT hL => ?_
    conv => lhs; whnf
    rw [show decide (((Els.ints .u8 l).len : Int) < 23) = true from dec_ok (by simp [Els.len]; omega)]
    conv => lhs; whnf
    rfl
  by_cases h2 : l.length > 23
  · rw [show decVR l = .tup [Vot.zero.pv, I 3] from by simp [decVR, h1, h2]]
    refine tab_eval rfl rfl fun T L hT hL => ?_
    conv => lhs; whnf
    rw [show decide (((Els.ints .u8 l).len : Int) < 23) = false from decide_eq_false (by simp [Els.len]; omega)]
    conv => lhs; whnf
    rw [show decide (((Els.ints .u8 l).len : Int) > 23) = true from dec_ok (by simp [Els.len]; omega)]
    conv => lhs; whnf
    rfl
  obtain ⟨a0, a1, a2, a3, a4, a5, a6, a7, a8, a9, a10, a11, a12, a13, a14, a15, a16, a17, a18, a19, a20, a21, a22, rfl⟩ := len23 (show l.length = 23 by omega)
  refine tab_eval rfl rfl fun T L hT hL => ?_
  have hu : uintR [a0, a1, a2, a3, a4, a5, a6, a7, a8, a9, a10, a11, a12, a13, a14, a15, a16, a17, a18, a19, a20, a21, a22] 5 2 = .tup [U (a5 * 256 + a6), tB true] := by
    have := uint2_val (k := 5) hb (by simp)
    unfold uintR
    rw [this]
    rfl
  refine call_to hT (huint_spec (by omega) (k := 5) (w := 2) (.inl rfl) hl (by omega)) ?_
  rw [hu]
  conv => lhs; whnf
  refine call_to hT (hvalid_spec (by omega) (v := ⟨IntKind.i64.wrap a0, IntKind.i64.wrap a1, IntKind.i64.wrap a2, IntKind.i64.wrap a3, IntKind.i64.wrap a4, IntKind.i64.wrap (a5 * 256 + a6), ⟨a7, a8, a9, a10, a11, a12, a13, a14⟩, ⟨a15, a16, a17, a18, a19, a20, a21, a22⟩⟩)) ?_
  have e : (⟨IntKind.i64.wrap a0, IntKind.i64.wrap a1, IntKind.i64.wrap a2, IntKind.i64.wrap a3, IntKind.i64.wrap a4, IntKind.i64.wrap (a5 * 256 + a6), ⟨a7, a8, a9, a10, a11, a12, a13, a14⟩, ⟨a15, a16, a17, a18, a19, a20, a21, a22⟩⟩ : Vot) = decV [a0, a1, a2, a3, a4, a5, a6, a7, a8, a9, a10, a11, a12, a13, a14, a15, a16, a17, a18, a19, a20, a21, a22] := by
    have h (i : Nat) := getD_Bs hb i
    have g0 := h 0
    have g1 := h 1
    have g2 := h 2
    have g3 := h 3
    have g4 := h 4
    have g5 := h 5
    have g6 := h 6
    simp only [List.getD_cons_zero, List.getD_cons_succ] at g0 g1 g2 g3 g4 g5 g6
    rw [i_wrap (n := a0) (by omega) (by omega), i_wrap (n := a1) (by omega) (by omega), i_wrap (n := a2) (by omega) (by omega), i_wrap (n := a3) (by omega) (by omega), i_wrap (n := a4) (by omega) (by omega), i_wrap (n := a5 * 256 + a6) (by omega) (by omega)]
    rfl
  rw [show decVR [a0, a1, a2, a3, a4, a5, a6, a7, a8, a9, a10, a11, a12, a13, a14, a15, a16, a17, a18, a19, a20, a21, a22] = bif validV (decV [a0, a1, a2, a3, a4, a5, a6, a7, a8, a9, a10, a11, a12, a13, a14, a15, a16, a17, a18, a19, a20, a21, a22]) then .tup [(decV [a0, a1, a2, a3, a4, a5, a6, a7, a8, a9, a10, a11, a12, a13, a14, a15, a16, a17, a18, a19, a20, a21, a22]).pv, I 0] else .tup [Vot.zero.pv, I 11] from by simp [decVR], ← e]
  generalize validV _ = b
  cases b
  · conv => lhs; whnf
    rfl
  · conv => lhs; whnf
    rfl
theorem rdecV_spec {n : Nat} (hn : 3 ≤ n) {l : List Int} (hb : Bs l) (hl : Short l) : tab n 115 [by_ l] = some (decVR l, []) := by
  obtain ⟨n, rfl⟩ : ∃ m, n = m + 1 := ⟨n - 1, by omega⟩
  by_cases h1 : l.length < 23
  · rw [show decVR l = .tup [Vot.zero.pv, I 2] from by simp [decVR, h1]]
    refine tab_eval rfl rfl fun T L hT hL => ?_
    conv => lhs; whnf
    rw [show decide (((Els.ints .u8 l).len : Int) < 23) = true from dec_ok (by simp [Els.len]; omega)]
    conv => lhs; whnf
    rfl
  by_cases h2 : l.length > 23
  · rw [show decVR l = .tup [Vot.zero.pv, I 3] from by simp [decVR, h1, h2]]
    refine tab_eval rfl rfl fun T L hT hL => ?_
    conv => lhs; whnf
    rw [show decide (((Els.ints .u8 l).len : Int) < 23) = false from decide_eq_false (by simp [Els.len]; omega)]
    conv => lhs; whnf
    rw [show decide (((Els.ints .u8 l).len : Int) > 23) = true from dec_ok (by simp [Els.len]; omega)]
    conv => lhs; whnf
    rfl
  obtain ⟨a0, a1, a2, a3, a4, a5, a6, a7, a8, a9, a10, a11, a12, a13, a14, a15, a16, a17, a18, a19, a20, a21, a22, rfl⟩ := len23 (show l.length = 23 by omega)
  refine tab_eval rfl rfl fun T L hT hL => ?_
  conv => lhs; whnf
  refine call_to hT (rvalid_spec (by omega) (v := ⟨IntKind.i64.wrap a0, IntKind.i64.wrap a1, IntKind.i64.wrap a2, IntKind.i64.wrap a3, IntKind.i64.wrap a4, mskI a5 a6, ⟨a7, a8, a9, a10, a11, a12, a13, a14⟩, ⟨a15, a16, a17, a18, a19, a20, a21, a22⟩⟩)) ?_
  have e : (⟨IntKind.i64.wrap a0, IntKind.i64.wrap a1, IntKind.i64.wrap a2, IntKind.i64.wrap a3, IntKind.i64.wrap a4, mskI a5 a6, ⟨a7, a8, a9, a10, a11, a12, a13, a14⟩, ⟨a15, a16, a17, a18, a19, a20, a21, a22⟩⟩ : Vot) = decV [a0, a1, a2, a3, a4, a5, a6, a7, a8, a9, a10, a11, a12, a13, a14, a15, a16, a17, a18, a19, a20, a21, a22] := by
    have h (i : Nat) := getD_Bs hb i
    have g0 := h 0
    have g1 := h 1
    have g2 := h 2
    have g3 := h 3
    have g4 := h 4
    have g5 := h 5
    have g6 := h 6
    simp only [List.getD_cons_zero, List.getD_cons_succ] at g0 g1 g2 g3 g4 g5 g6
    rw [i_wrap (n := a0) (by omega) (by omega), i_wrap (n := a1) (by omega) (by omega), i_wrap (n := a2) (by omega) (by omega), i_wrap (n := a3) (by omega) (by omega), i_wrap (n := a4) (by omega) (by omega), mskI_val g5 g6]
    rfl
  rw [show decVR [a0, a1, a2, a3, a4, a5, a6, a7, a8, a9, a10, a11, a12, a13, a14, a15, a16, a17, a18, a19, a20, a21, a22] = bif validV (decV [a0, a1, a2, a3, a4, a5, a6, a7, a8, a9, a10, a11, a12, a13, a14, a15, a16, a17, a18, a19, a20, a21, a22]) then .tup [(decV [a0, a1, a2, a3, a4, a5, a6, a7, a8, a9, a10, a11, a12, a13, a14, a15, a16, a17, a18, a19, a20, a21, a22]).pv, I 0] else .tup [Vot.zero.pv, I 11] from by simp [decVR], ← e]
  generalize validV _ = b
  cases b
  · conv => lhs; whnf
    rfl
  · conv => lhs; whnf
    rfl
def zeroS : PV := .agg (Vot.zero.cells ++ [nilS])
def decS (l : List Int) : Sgn := ⟨decV (l.take 23), l.drop 23⟩
def sgnR (s : Sgn) : PV := .agg (s.vote.cells ++ [byR s.sig])
def decSR (l : List Int) : PV := if l.length < 393 then .tup [zeroS, I 2] else if l.length > 393 then .tup [zeroS, I 3] else bif validV (decV (l.take 23)) then .tup [sgnR (decS l), I 0] else .tup [zeroS, I 11]
theorem hdecS_spec {n : Nat} (hn : 4 ≤ n) {l : List Int} (hb : Bs l) (hl : Short l) : tab n 63 [by_ l] = some (decSR l, []) := by
  obtain ⟨n, rfl⟩ : ∃ m, n = m + 1 := ⟨n - 1, by omega⟩
  by_cases h1 : l.length < 393
  · rw [show decSR l = .tup [zeroS, I 2] from by simp [decSR, h1]]
    refine tab_eval rfl rfl fun T L hT hL => ?_
    conv => lhs; whnf
    rw [show decide (((Els.ints .u8 l).len : Int) < 393) = true from dec_ok (by simp [Els.len]; omega)]
    conv => lhs; whnf
    rfl
  by_cases h2 : l.length > 393
  · rw [show decSR l = .tup [zeroS, I 3] from by simp [decSR, h1, h2]]
    refine tab_eval rfl rfl fun T L hT hL => ?_
    conv => lhs; whnf
    rw [show decide (((Els.ints .u8 l).len : Int) < 393) = false from decide_eq_false (by simp [Els.len]; omega)]
    conv => lhs; whnf
    rw [show decide (((Els.ints .u8 l).len : Int) > 393) = true from dec_ok (by simp [Els.len]; omega)]
    conv => lhs; whnf
    rfl
  have hlen : l.length = 393 := by omega
  rw [show decSR l = bif validV (decV (l.take 23)) then .tup [sgnR (decS l), I 0] else .tup [zeroS, I 11] from by simp [decSR, h1, h2]]
  refine tab_eval rfl rfl fun T L hT hL => ?_
  conv => lhs; whnf
  rw [show decide (((Els.ints .u8 l).len : Int) < 393) = false from decide_eq_false (by simp [Els.len]; omega)]
  conv => lhs; whnf
  rw [show decide (((Els.ints .u8 l).len : Int) > 393) = false from decide_eq_false (by simp [Els.len]; omega)]
  conv => lhs; whnf
  refine asrt_step (by first | rfl | (simp [Els.len, eE1, eE2, eE3, bT1, gT1, bT2, gT2, bT3, gT3, Nat.ble_eq]; done) | (simp [Els.len, eE1, eE2, eE3, bT1, gT1, bT2, gT2, bT3, gT3, Nat.ble_eq]; (repeat' apply And.intro) <;> first | omega | exact rfl | exact dec_ok (by omega))) ?_
  conv => lhs; whnf
  have hb' : Bs (l.take 23) := fun z hz => hb z (List.mem_of_mem_take hz)
  have hd : tab n 113 [by_ (l.take 23)] = some (bif validV (decV (l.take 23)) then .tup [(decV (l.take 23)).pv, I 0] else .tup [Vot.zero.pv, I 11], []) := by
    rw [hdecV_spec (by omega) hb' (by simp [Short]; omega)]
    simp [decVR, hlen]
  refine call_to hT hd ?_
  cases validV (decV (l.take 23))
  · conv => lhs; whnf
    rfl
  · conv => lhs; whnf
    refine asrt_step (by first | rfl | (simp [Els.len, eE1, eE2, eE3, bT1, gT1, bT2, gT2, bT3, gT3, Nat.ble_eq]; done) | (simp [Els.len, eE1, eE2, eE3, bT1, gT1, bT2, gT2, bT3, gT3, Nat.ble_eq]; (repeat' apply And.intro) <;> first | omega | exact rfl | exact dec_ok (by omega))) ?_
    conv => lhs; whnf
    have hc : tab n 51 [by_ (List.drop (Int.toNat 23) (List.take ((Els.ints .u8 l).len : Int).toNat l)), U 0, I 0] = some (byR (l.drop 23), []) := by
      rw [show List.drop (Int.toNat 23) (List.take ((Els.ints .u8 l).len : Int).toNat l) = l.drop 23 from cut_drop (k := 23) rfl]
      exact (au_spec (by omega) .by (by simp; omega) (by simp; omega)).2.2
    refine call_to hT hc ?_
    conv => lhs; whnf
    rfl
theorem rdecS_spec {n : Nat} (hn : 4 ≤ n) {l : List Int} (hb : Bs l) (hl : Short l) : tab n 68 [by_ l] = some (decSR l, []) := by
  obtain ⟨n, rfl⟩ : ∃ m, n = m + 1 := ⟨n - 1, by omega⟩
  by_cases h1 : l.length < 393
  · rw [show decSR l = .tup [zeroS, I 2] from by simp [decSR, h1]]
    refine tab_eval rfl rfl fun T L hT hL => ?_
    conv => lhs; whnf
    rw [show decide (((Els.ints .u8 l).len : Int) < 393) = true from dec_ok (by simp [Els.len]; omega)]
    conv => lhs; whnf
    rfl
  by_cases h2 : l.length > 393
  · rw [show decSR l = .tup [zeroS, I 3] from by simp [decSR, h1, h2]]
    refine tab_eval rfl rfl fun T L hT hL => ?_
    conv => lhs; whnf
    rw [show decide (((Els.ints .u8 l).len : Int) < 393) = false from decide_eq_false (by simp [Els.len]; omega)]
    conv => lhs; whnf
    rw [show decide (((Els.ints .u8 l).len : Int) > 393) = true from dec_ok (by simp [Els.len]; omega)]
    conv => lhs; whnf
    rfl
  have hlen : l.length = 393 := by omega
  rw [show decSR l = bif validV (decV (l.take 23)) then .tup [sgnR (decS l), I 0] else .tup [zeroS, I 11] from by simp [decSR, h1, h2]]
  refine tab_eval rfl rfl fun T L hT hL => ?_
  conv => lhs; whnf
  rw [show decide (((Els.ints .u8 l).len : Int) < 393) = false from decide_eq_false (by simp [Els.len]; omega)]
  conv => lhs; whnf
  rw [show decide (((Els.ints .u8 l).len : Int) > 393) = false from decide_eq_false (by simp [Els.len]; omega)]
  conv => lhs; whnf
  refine asrt_step (by first | rfl | (simp [Els.len, eE1, eE2, eE3, bT1, gT1, bT2, gT2, bT3, gT3, Nat.ble_eq]; done) | (simp [Els.len, eE1, eE2, eE3, bT1, gT1, bT2, gT2, bT3, gT3, Nat.ble_eq]; (repeat' apply And.intro) <;> first | omega | exact rfl | exact dec_ok (by omega))) ?_
  conv => lhs; whnf
  have hb' : Bs (l.take 23) := fun z hz => hb z (List.mem_of_mem_take hz)
  have hd : tab n 115 [by_ (l.take 23)] = some (bif validV (decV (l.take 23)) then .tup [(decV (l.take 23)).pv, I 0] else .tup [Vot.zero.pv, I 11], []) := by
    rw [rdecV_spec (by omega) hb' (by simp [Short]; omega)]
    simp [decVR, hlen]
  refine call_to hT hd ?_
  cases validV (decV (l.take 23))
  · conv => lhs; whnf
    rfl
  · conv => lhs; whnf
    refine asrt_step (by first | rfl | (simp [Els.len, eE1, eE2, eE3, bT1, gT1, bT2, gT2, bT3, gT3, Nat.ble_eq]; done) | (simp [Els.len, eE1, eE2, eE3, bT1, gT1, bT2, gT2, bT3, gT3, Nat.ble_eq]; (repeat' apply And.intro) <;> first | omega | exact rfl | exact dec_ok (by omega))) ?_
    conv => lhs; whnf
    refine asrt_step (by first | rfl | (simp [Els.len, eE1, eE2, eE3, bT1, gT1, bT2, gT2, bT3, gT3, Nat.ble_eq]; done) | (simp [Els.len, eE1, eE2, eE3, bT1, gT1, bT2, gT2, bT3, gT3, Nat.ble_eq]; (repeat' apply And.intro) <;> first | omega | exact rfl | exact dec_ok (by omega))) ?_
    conv => lhs; whnf
    refine congrArg (fun z => some (PV.tup [PV.agg ((decV (l.take 23)).cells ++ [byR z]), I 0], [])) ?_
    exact cut_drop (k := 23) rfl
end Go.Pm

/- Views in order. -/
namespace Go.Pm
open Go
set_option maxRecDepth 100000

def SlV (l : List Sgn) : PV := .sl 62 (votesE l)
def SlT (l : List (List Int)) : PV := .sl 28 (textsE l)
def HV (x : PV) (l : List Sgn) : Prop := (x = nilS ∧ l = []) ∨ x = SlV l
def HT (x : PV) (l : List (List Int)) : Prop := (x = nilS ∧ l = []) ∨ x = SlT l
/-- f over each pair of neighbours. -/
def chain {α : Type} (f : α → α → Bool) : List α → Bool
  | [] => true
  | a :: r => (match r.head? with | none => true | some b => f a b) && chain f r
def ltL (a b : List Int) : Bool := decide (cmpL a b < 0)
def ordVw (vs : List Sgn) (ts : List (List Int)) : Bool := chain lessS vs && chain ltL ts
theorem votes_at {l : List Sgn} {i : Nat} (h : i < l.length) : (l.map Sgn.pv).getD i .junk = (l[i]).pv := by
  simp [List.getD_eq_getElem?_getD, h]
theorem votes_ix {l : List Sgn} {k : Nat} (h : k < l.length) : (l.map Sgn.pv).getD (k : Int).toNat .junk = (l[k]).pv := votes_at h
theorem texts_ix {l : List (List Int)} {k : Nat} (h : k < l.length) : (l.map by_).getD (k : Int).toNat .junk = by_ (l[k]) := by
  simp [List.getD_eq_getElem?_getD, h]
theorem votes_elt {l : List Sgn} {t : TypeId} {k : Nat} (h : k < l.length) : Els.elt t (.els (l.map Sgn.pv)) (k : Int).toNat = .el t (l[k]).pv := congrArg (PV.el t) (votes_at h)
theorem texts_elt {l : List (List Int)} {t : TypeId} {k : Nat} (h : k < l.length) : Els.elt t (.els (l.map by_)) (k : Int).toNat = .el t (by_ (l[k])) := congrArg (PV.el t) (by simp [List.getD_eq_getElem?_getD, h])
theorem texts_at {l : List (List Int)} {i : Nat} (h : i < l.length) : (l.map by_).getD i .junk = by_ (l[i]) := by
  simp [List.getD_eq_getElem?_getD, h]
theorem chain_drop {α : Type} (f : α → α → Bool) {l : List α} {i : Nat} (h : i + 1 < l.length) : chain f (l.drop i) = (f l[i] l[i+1] && chain f (l.drop (i + 1))) := by
  rw [List.drop_eq_getElem_cons (by omega : i < l.length), chain]
  have : (List.drop (i + 1) l).head? = some l[i+1] := by
    rw [List.drop_eq_getElem_cons h]; rfl
  rw [this]
theorem chain_end {α : Type} (f : α → α → Bool) {l : List α} {i : Nat} (h : l.length ≤ i + 1) : chain f (l.drop i) = true := by
  match hd : l.drop i with
  | [] => rfl
  | [a] => rfl
  | a :: b :: r =>
    have := congrArg List.length hd
    simp at this
    omega
theorem ordered_sl {n : Nat} (hn : 5 ≤ n) {vs : List Sgn} {ts : List (List Int)} (h1 : vs.length < 1000000000000) (h2 : ts.length < 1000000000000) (hs : ∀ s ∈ vs, Bs s.sig) (ht : ∀ t ∈ ts, Bs t) : tab n 54 [.agg [SlV vs, SlT ts]] = some (tB (ordVw vs ts), []) := by
  obtain ⟨n, rfl⟩ : ∃ m, n = m + 1 := ⟨n - 1, by omega⟩
  refine tab_eval rfl rfl fun T L hT hL => ?_
  conv => lhs; whnf
  refine loop_go hL (fun r s m => ∃ j : Nat, s = [.junk, .ptr 100 0, .junk, I ((j + 1 : Nat) : Int), .junk, .junk, .junk, .junk, .junk, .junk, .junk, .junk, .junk, .junk, .junk, .junk, .junk, .junk, .junk, .junk, .junk, .junk, .junk, .junk, .junk, .junk, .junk, .junk, .junk, .junk, .junk, .junk, .junk, .junk, .junk, .junk, .junk, .junk, .junk, .junk, .junk, .junk, .junk, .junk, .junk] ∧ m = [(100, .box 25 (.agg [SlV vs, SlT ts]), false)] ∧ j ≤ vs.length ∧ r = vs.length + 1 - j ∧ chain lessS (vs.drop j) = chain lessS vs) (vs.length + 1) rfl ⟨0, rfl, rfl, by omega, by omega, rfl⟩ (by omega) ?_
  rintro Lp r s m ⟨j, rfl, rfl, hj, hr, hp⟩ ih
  conv => lhs; whnf
  refine brch_step (fun h => ?_) (fun h => ?_)
  · replace h : ((j + 1 : Nat) : Int) < ((Els.els (vs.map Sgn.pv)).len : Int) := of_decide_eq_true h
    have hlt : j + 1 < vs.length := by simp [Els.len] at h; omega
    have hw : IntKind.i64.wrap (((j + 1 : Nat) : Int) - 1) = j := by rw [i_wrap (by omega) (by omega)]; omega
    conv => lhs; whnf
    rw [hw]
    refine asrt_step (by first | rfl | (simp [Els.len, eE1, eE2, eE3, bT1, gT1, bT2, gT2, bT3, gT3, Nat.ble_eq]; done) | (simp [Els.len, eE1, eE2, eE3, bT1, gT1, bT2, gT2, bT3, gT3, Nat.ble_eq]; (repeat' apply And.intro) <;> first | omega | exact rfl | exact dec_ok (by omega))) ?_
    conv => lhs; whnf
    try rw [votes_elt (by omega : j < vs.length)]
    try rw [votes_ix (by omega : j < vs.length)]
    conv => lhs; whnf
    refine asrt_step (by first | rfl | (simp [Els.len, eE1, eE2, eE3, bT1, gT1, bT2, gT2, bT3, gT3, Nat.ble_eq]; done) | (simp [Els.len, eE1, eE2, eE3, bT1, gT1, bT2, gT2, bT3, gT3, Nat.ble_eq]; (repeat' apply And.intro) <;> first | omega | exact rfl | exact dec_ok (by omega))) ?_
    conv => lhs; whnf
    try rw [votes_elt hlt]
    try rw [votes_ix hlt]
    conv => lhs; whnf
    refine call_to hT (hlessS_spec (by omega) (a := vs[j]) (b := vs[j+1]) (hs _ (List.getElem_mem _)) (hs _ (List.getElem_mem _))) ?_
    cases hl : lessS vs[j] vs[j+1]
    · conv => lhs; whnf
      rw [ordVw, ← hp, chain_drop _ hlt, hl]
      rfl
    · conv => lhs; whnf
      rw [show IntKind.i64.wrap (((j + 1 : Nat) : Int) + 1) = ((j + 1 + 1 : Nat) : Int) from i_wrap (by omega) (by omega)]
      exact ih (vs.length + 1 - (j + 1)) _ _ _ _ rfl ⟨j + 1, rfl, rfl, by omega, rfl, by rw [← hp, chain_drop _ hlt, hl]; rfl⟩ (by omega)
  · replace h : ¬ ((j + 1 : Nat) : Int) < ((Els.els (vs.map Sgn.pv)).len : Int) := of_decide_eq_false h
    have hlt : vs.length ≤ j + 1 := by simp [Els.len] at h; omega
    have hv : chain lessS vs = true := by rw [← hp]; exact chain_end _ hlt
    rw [ordVw, hv]
    clear ih hr h hp hj hlt
    conv => lhs; whnf
    refine loop_go hL (fun r s m => ∃ j : Nat, s = [.junk, .ptr 100 0, .junk, .junk, I ((j + 1 : Nat) : Int), .junk, .junk, .junk, .junk, .junk, .junk, .junk, .junk, .junk, .junk, .junk, .junk, .junk, .junk, .junk, .junk, .junk, .junk, .junk, .junk, .junk, .junk, .junk, .junk, .junk, .junk, .junk, .junk, .junk, .junk, .junk, .junk, .junk, .junk, .junk, .junk, .junk, .junk, .junk, .junk] ∧ m = [(100, .box 25 (.agg [SlV vs, SlT ts]), false)] ∧ j ≤ ts.length ∧ r = ts.length + 1 - j ∧ chain ltL (ts.drop j) = chain ltL ts) (ts.length + 1) rfl ⟨0, rfl, rfl, by omega, by omega, rfl⟩ (by omega) ?_
    rintro Lp r s m ⟨j, rfl, rfl, hj, hr, hp⟩ ih
    conv => lhs; whnf
    refine brch_step (fun h => ?_) (fun h => ?_)
    · replace h : ((j + 1 : Nat) : Int) < ((Els.els (ts.map by_)).len : Int) := of_decide_eq_true h
      have hlt : j + 1 < ts.length := by simp [Els.len] at h; omega
      have hw : IntKind.i64.wrap (((j + 1 : Nat) : Int) - 1) = j := by rw [i_wrap (by omega) (by omega)]; omega
      conv => lhs; whnf
      rw [hw]
      refine asrt_step (by first | rfl | (simp [Els.len, eE1, eE2, eE3, bT1, gT1, bT2, gT2, bT3, gT3, Nat.ble_eq]; done) | (simp [Els.len, eE1, eE2, eE3, bT1, gT1, bT2, gT2, bT3, gT3, Nat.ble_eq]; (repeat' apply And.intro) <;> first | omega | exact rfl | exact dec_ok (by omega))) ?_
      conv => lhs; whnf
      try rw [texts_elt (by omega : j < ts.length)]
      try rw [texts_ix (by omega : j < ts.length)]
      conv => lhs; whnf
      refine asrt_step (by first | rfl | (simp [Els.len, eE1, eE2, eE3, bT1, gT1, bT2, gT2, bT3, gT3, Nat.ble_eq]; done) | (simp [Els.len, eE1, eE2, eE3, bT1, gT1, bT2, gT2, bT3, gT3, Nat.ble_eq]; (repeat' apply And.intro) <;> first | omega | exact rfl | exact dec_ok (by omega))) ?_
      conv => lhs; whnf
      try rw [texts_elt hlt]
      try rw [texts_ix hlt]
      conv => lhs; whnf
      refine call_to hT (cmp_spec (by omega) (a := ts[j]) (b := ts[j+1]) (ht _ (List.getElem_mem _)) (ht _ (List.getElem_mem _))) ?_
      conv => lhs; whnf
      refine brch_step (fun h => ?_) (fun h => ?_)
      · have hl : ltL ts[j] ts[j+1] = false := decide_eq_false (Int.not_lt.2 (of_decide_eq_true h))
        conv => lhs; whnf
        rw [← hp, chain_drop _ hlt, hl]
        rfl
      · have hl : ltL ts[j] ts[j+1] = true := dec_ok (Int.not_le.1 (of_decide_eq_false h))
        conv => lhs; whnf
        rw [show IntKind.i64.wrap (((j + 1 : Nat) : Int) + 1) = ((j + 1 + 1 : Nat) : Int) from i_wrap (by omega) (by omega)]
        exact ih (ts.length + 1 - (j + 1)) _ _ _ _ rfl ⟨j + 1, rfl, rfl, by omega, rfl, by rw [← hp, chain_drop _ hlt, hl]; rfl⟩ (by omega)
    · replace h : ¬ ((j + 1 : Nat) : Int) < ((Els.els (ts.map by_)).len : Int) := of_decide_eq_false h
      have hlt : ts.length ≤ j + 1 := by simp [Els.len] at h; omega
      have hv : chain ltL ts = true := by rw [← hp]; exact chain_end _ hlt
      rw [hv]
      conv => lhs; whnf
      rfl
theorem wkV_eq {x y : PV} {vs : List Sgn} {ts : List (List Int)} (hx : HV x vs) (hy : HT y ts) : wkL [wkV] [.agg [x, y]] = [.agg [SlV vs, SlT ts]] := by
  rcases hx with ⟨rfl, rfl⟩ | rfl <;> rcases hy with ⟨rfl, rfl⟩ | rfl <;> rfl
theorem vw_wk {n d : Nat} {f : FuncId} {x y : PV} {vs : List Sgn} {ts : List (List Int)} {r : PV × List PV} (hx : HV x vs) (hy : HT y ts) (h0 : Nat.beq f 76 = false) (h1 : wkFind f wkT = some [wkV]) (h3 : Nat.ble 1000000 f = false) (hn : d + 1 ≤ n) (h : ∀ n, d ≤ n → tab n f [.agg [SlV vs, SlT ts]] = some r) : tab n f [.agg [x, y]] = some r := by
  cases hb : nilL [wkV] [.agg [x, y]] with
  | true =>
    obtain ⟨n, rfl⟩ : ∃ m, n = m + 1 := ⟨n - 1, by omega⟩
    exact tab_wk h0 h1 hb h3 (by rw [wkV_eq hx hy]; exact h n (by omega))
  | false =>
    have : x = SlV vs ∧ y = SlT ts := by
      rcases hx with ⟨rfl, rfl⟩ | rfl <;> rcases hy with ⟨rfl, rfl⟩ | rfl
      · cases hb
      · cases hb
      · cases hb
      · exact ⟨rfl, rfl⟩
    rw [this.1, this.2]
    exact h n (by omega)
theorem ordered_spec {n : Nat} (hn : 6 ≤ n) {x y : PV} {vs : List Sgn} {ts : List (List Int)} (hx : HV x vs) (hy : HT y ts) (h1 : vs.length < 1000000000000) (h2 : ts.length < 1000000000000) (hs : ∀ s ∈ vs, Bs s.sig) (ht : ∀ t ∈ ts, Bs t) : tab n 54 [.agg [x, y]] = some (tB (ordVw vs ts), []) :=
  vw_wk hx hy rfl rfl rfl (d := 5) (by omega) fun _ h => ordered_sl h h1 h2 hs ht
end Go.Pm

/- Views, written: of the program. -/
namespace Go.Pm
open Go
set_option maxRecDepth 100000

/-! ### Encode -/
/-- The votes' bytes, if all of them are valid. -/
def okS (s : Sgn) : Bool := validV s.vote && decide (s.sig.length = 370)
def encSL (s : Sgn) : List Int := encV s.vote ++ s.sig
def encVs (l : List Sgn) : List Int := l.flatMap encSL
def encT (t : List Int) : List Int := [be (wr t.length) 1] ++ [be (wr t.length) 0] ++ t
def encTs (l : List (List Int)) : List Int := l.flatMap encT
def hd4 (n : Nat) : List Int := [be (wr n) 3, be (wr n) 2, be (wr n) 1, be (wr n) 0]
def okT (t : List Int) : Bool := decide (t.length ≤ 65535)
def encVw (vs : List Sgn) (ts : List (List Int)) : List Int := hd4 vs.length ++ encVs vs ++ hd4 ts.length ++ encTs ts
/-- The encoding of a view, or its error. -/
def encVwR (vs : List Sgn) (ts : List (List Int)) : PV := bif !vs.all okS then .tup [nilS, I 1] else bif !ts.all okT then .tup [nilS, I 1] else bif !ordVw vs ts then .tup [nilS, I 10] else .tup [byR (encVw vs ts), I 0]
theorem encV_len (v : Vot) : (encV v).length = 23 := rfl
theorem encVs_len : ∀ {l : List Sgn}, l.all okS = true → (encVs l).length = 393 * l.length
  | [], _ => rfl
  | s :: r, h => by
    simp only [List.all_cons, Bool.and_eq_true] at h
    have ih := encVs_len h.2
    have h1 : s.sig.length = 370 := by
      have := h.1
      simp [okS] at this
      exact this.2
    simp only [encVs, List.flatMap_cons, List.length_append, List.length_cons, encSL, encV_len, h1] at ih ⊢
    omega
theorem encTs_len : ∀ {l : List (List Int)}, l.all okT = true → (encTs l).length ≤ 65537 * l.length
  | [], _ => by simp [encTs]
  | t :: r, h => by
    simp only [List.all_cons, Bool.and_eq_true] at h
    have ih := encTs_len h.2
    have h1 : t.length ≤ 65535 := of_decide_eq_true h.1
    simp only [encTs, List.flatMap_cons, List.length_append, List.length_cons, encT, List.length_nil] at ih ⊢
    omega
theorem take_next {α : Type} {l : List α} {j : Nat} (h : j < l.length) : l.take (j + 1) = l.take j ++ [l[j]] := by
  rw [List.take_add_one, List.getElem?_eq_getElem h]; rfl
theorem all_take {α : Type} {f : α → Bool} {l : List α} {j : Nat} (h : j < l.length) (h1 : (l.take j).all f = true) (h2 : f l[j] = true) : (l.take (j + 1)).all f = true := by
  rw [take_next h, List.all_append, h1]; simp [h2]
theorem all_not {α : Type} {f : α → Bool} {l : List α} {j : Nat} (h : j < l.length) (h2 : f l[j] = false) : l.all f = false := by
  rw [List.all_eq_false]
  exact ⟨l[j], List.getElem_mem h, by simp [h2]⟩
theorem encVs_next {l : List Sgn} {j : Nat} (h : j < l.length) : encVs (l.take (j + 1)) = encVs (l.take j) ++ encSL l[j] := by
  rw [take_next h]; simp only [encVs, List.flatMap_append, List.flatMap_cons, List.flatMap_nil, List.append_nil]
theorem encTs_next {l : List (List Int)} {j : Nat} (h : j < l.length) : encTs (l.take (j + 1)) = encTs (l.take j) ++ encT l[j] := by
  rw [take_next h]; simp only [encTs, List.flatMap_append, List.flatMap_cons, List.flatMap_nil, List.append_nil]
theorem encode_sl {n : Nat} (hn : 7 ≤ n) {vs : List Sgn} {ts : List (List Int)} (h1 : vs.length < 1000000) (h2 : ts.length < 1000000) (ht : ∀ t ∈ ts, t.length < 1000000000) (hsb : ∀ s ∈ vs, Bs s.sig) (htb : ∀ t ∈ ts, Bs t) : tab n 27 [.agg [SlV vs, SlT ts]] = some (encVwR vs ts, []) := by
  obtain ⟨n, rfl⟩ : ∃ m, n = m + 1 := ⟨n - 1, by omega⟩
  refine tab_eval rfl rfl fun T L hT hL => ?_
  conv => lhs; whnf
  refine call_to hT (au_spec (by omega) .nil (by simp) (by simp)).2.1 ?_
  conv => lhs; whnf
  refine loop_go hL (fun r s m => ∃ (j : Nat) (b : List Int), s = [.junk, .ptr 100 0, .junk, .junk, .ref 101, .junk, .junk, .junk, .junk, .junk, .junk, .junk, .junk, .junk, .junk, .junk, .junk, .junk, .junk, SlV vs, I ((votesE vs).len : Int), I (j : Int), .junk, .junk, .junk, .junk, .junk, .junk, .junk, .junk, .junk, .junk, .junk, .junk, .junk, .junk, .junk, .junk, .junk, .junk, .junk, .junk, .junk, .junk, .junk, .junk, .junk, .junk, .junk, .junk, .junk, .junk, .junk, .junk, .junk, .junk, .junk, .junk, .junk, .junk, .junk, .junk, .junk, .junk, .junk, .junk] ∧ m = [(100, .box 25 (.agg [SlV vs, SlT ts]), false), (101, .row 5 (.ints .u8 b), false)] ∧ j ≤ vs.length ∧ r = vs.length + 1 - j ∧ b = hd4 vs.length ++ encVs (vs.take j) ∧ (vs.take j).all okS = true) (vs.length + 1) rfl ⟨0, _, rfl, rfl, by omega, by omega, by simp [hd4, encVs, wr, Els.len], rfl⟩ (by omega) ?_
  rintro Lp r s m ⟨j, b, rfl, rfl, hj, hr, hb, hok⟩ ih
  have hbl : b.length ≤ 4 + 393 * vs.length := by
    rw [hb, List.length_append, encVs_len hok, List.length_take]
    simp [hd4]
    omega
  conv => lhs; whnf
  refine brch_step (fun h => ?_) (fun h => ?_)
  · replace h : (j : Int) < ((votesE vs).len : Int) := of_decide_eq_true h
    have hlt : j < vs.length := by simp [Els.len, votesE] at h; omega
    conv => lhs; whnf
    refine asrt_step (by first | rfl | (simp [Els.len, eE1, eE2, eE3, bT1, gT1, bT2, gT2, bT3, gT3, Nat.ble_eq]; done) | (simp [Els.len, eE1, eE2, eE3, bT1, gT1, bT2, gT2, bT3, gT3, Nat.ble_eq]; (repeat' apply And.intro) <;> first | omega | exact rfl | exact dec_ok (by omega))) ?_
    conv => lhs; whnf
    try rw [votes_elt hlt]
    try rw [votes_ix hlt]
    conv => lhs; whnf
    have he : tab n 52 [vs[j].pv] = some (bif okS vs[j] then .tup [byR (encSL vs[j]), tB true] else .tup [nilS, tB false], []) := hencS_spec (by omega)
    refine call_to hT he ?_
    cases hk : okS vs[j]
    · conv => lhs; whnf
      rw [encVwR, all_not hlt hk]
      rfl
    · have hl : (encSL vs[j]).length = 393 := by
        have : vs[j].sig.length = 370 := by
          simp [okS] at hk
          exact hk.2
        simp only [encSL, List.length_append, encV_len, this]
      conv => lhs; whnf
      refine asrt_step (by first | rfl | (simp [Els.len, eE1, eE2, eE3, bT1, gT1, bT2, gT2, bT3, gT3, Nat.ble_eq]; done) | (simp [Els.len, eE1, eE2, eE3, bT1, gT1, bT2, gT2, bT3, gT3, Nat.ble_eq]; (repeat' apply And.intro) <;> first | omega | exact rfl | exact dec_ok (by omega))) ?_
      conv => lhs; whnf
      rw [show IntKind.i64.wrap ((j : Int) + 1) = ((j + 1 : Nat) : Int) from i_wrap (by omega) (by omega)]
      exact ih (vs.length + 1 - (j + 1)) _ _ _ _ rfl ⟨j + 1, _, rfl, rfl, by omega, rfl, by rw [encVs_next hlt, ← List.append_assoc, ← hb], all_take hlt hok hk⟩ (by omega)
  · replace h : ¬ (j : Int) < ((votesE vs).len : Int) := of_decide_eq_false h
    have hle : vs.length ≤ j := by simp [Els.len, votesE] at h; omega
    have hav : vs.all okS = true := by rw [← hok, List.take_of_length_le hle]
    rw [List.take_of_length_le hle] at hb
    clear ih hr h hj hle hok
    rw [encVwR, hav]
    conv => lhs; whnf
    refine call_to hT (au_spec (by omega) .nil (by simp) (by simp)).2.1 ?_
    conv => lhs; whnf
    refine asrt_step (by first | rfl | (simp [Els.len, eE1, eE2, eE3, bT1, gT1, bT2, gT2, bT3, gT3, Nat.ble_eq]; done) | (simp [Els.len, eE1, eE2, eE3, bT1, gT1, bT2, gT2, bT3, gT3, Nat.ble_eq]; (repeat' apply And.intro) <;> first | omega | exact rfl | exact dec_ok (by omega))) ?_
    conv => lhs; whnf
    refine loop_go hL (fun r s m => ∃ (j : Nat) (c : List Int), s = [.junk, .ptr 100 0, .junk, .junk, .ref 101, .junk, .junk, .junk, .junk, .junk, .junk, .junk, .junk, .junk, .junk, .junk, .junk, .junk, .junk, .junk, .junk, .junk, .junk, .junk, .junk, .junk, .junk, .junk, .junk, .junk, .junk, .junk, .junk, .junk, .junk, .junk, .junk, .junk, .junk, .junk, .junk, .junk, .junk, .junk, SlT ts, I ((textsE ts).len : Int), I (j : Int), .junk, .junk, .junk, .junk, .junk, .junk, .junk, .junk, .junk, .junk, .junk, .junk, .junk, .junk, .junk, .junk, .junk, .junk, .junk] ∧ m = [(100, .box 25 (.agg [SlV vs, SlT ts]), false), (101, .row 5 (.ints .u8 c), false)] ∧ j ≤ ts.length ∧ r = ts.length + 1 - j ∧ c = b ++ hd4 ts.length ++ encTs (ts.take j) ∧ (ts.take j).all okT = true) (ts.length + 1) rfl ⟨0, _, rfl, rfl, by omega, by omega, by simp [hd4, encTs, wr, Els.len], rfl⟩ (by omega) ?_
    rintro Lp r s m ⟨j, c, rfl, rfl, hj, hr, hc, hok⟩ ih
    have hcl : c.length ≤ b.length + 4 + 65537 * ts.length := by
      have h1 := encTs_len hok
      rw [List.length_take] at h1
      have h2 : 65537 * min j ts.length ≤ 65537 * ts.length := Nat.mul_le_mul_left _ (Nat.min_le_right _ _)
      rw [hc, List.length_append, List.length_append]
      simp [hd4]
      omega
    conv => lhs; whnf
    refine brch_step (fun h => ?_) (fun h => ?_)
    · replace h : (j : Int) < ((textsE ts).len : Int) := of_decide_eq_true h
      have hlt : j < ts.length := by simp [Els.len, textsE] at h; omega
      have htl := ht ts[j] (List.getElem_mem hlt)
      conv => lhs; whnf
      refine asrt_step (by first | rfl | (simp [Els.len, eE1, eE2, eE3, bT1, gT1, bT2, gT2, bT3, gT3, Nat.ble_eq]; done) | (simp [Els.len, eE1, eE2, eE3, bT1, gT1, bT2, gT2, bT3, gT3, Nat.ble_eq]; (repeat' apply And.intro) <;> first | omega | exact rfl | exact dec_ok (by omega))) ?_
      conv => lhs; whnf
      try rw [texts_elt hlt]
      try rw [texts_ix hlt]
      conv => lhs; whnf
      cases hk : okT ts[j]
      · rw [show decide (((Els.ints .u8 ts[j]).len : Int) > 65535) = true from dec_ok (by have := of_decide_eq_false hk; simp [Els.len]; omega)]
        conv => lhs; whnf
        rw [all_not hlt hk]
        rfl
      · have htk : ts[j].length ≤ 65535 := of_decide_eq_true hk
        rw [show decide (((Els.ints .u8 ts[j]).len : Int) > 65535) = false from decide_eq_false (by simp [Els.len]; omega)]
        conv => lhs; whnf
        have he : tab n 53 [nilS, by_ ts[j]] = some (.tup [byR (encT ts[j]), tB true], []) := by
          rw [hab_spec (by omega) .nil (by simp) (by omega)]
          simp [appR, htk, encT]
        refine call_to hT he ?_
        have hl : (encT ts[j]).length ≤ 65537 := by simp [encT]; omega
        conv => lhs; whnf
        refine asrt_step (by first | rfl | (simp [Els.len, eE1, eE2, eE3, bT1, gT1, bT2, gT2, bT3, gT3, Nat.ble_eq]; done) | (simp [Els.len, eE1, eE2, eE3, bT1, gT1, bT2, gT2, bT3, gT3, Nat.ble_eq]; (repeat' apply And.intro) <;> first | omega | exact rfl | exact dec_ok (by omega))) ?_
        conv => lhs; whnf
        rw [show IntKind.i64.wrap ((j : Int) + 1) = ((j + 1 : Nat) : Int) from i_wrap (by omega) (by omega)]
        exact ih (ts.length + 1 - (j + 1)) _ _ _ _ rfl ⟨j + 1, _, rfl, rfl, by omega, rfl, by rw [encTs_next hlt, ← List.append_assoc, ← hc], all_take hlt hok hk⟩ (by omega)
    · replace h : ¬ (j : Int) < ((textsE ts).len : Int) := of_decide_eq_false h
      have hle : ts.length ≤ j := by simp [Els.len, textsE] at h; omega
      have hat : ts.all okT = true := by rw [← hok, List.take_of_length_le hle]
      rw [List.take_of_length_le hle] at hc
      clear ih hr h hj hle hok
      rw [hat]
      conv => lhs; whnf
      refine call_to hT (ordered_sl (by omega) (by omega) (by omega) hsb htb) ?_
      cases ordVw vs ts
      · conv => lhs; whnf
        rfl
      · conv => lhs; whnf
        rw [hc, hb]
        rfl
end Go.Pm

/- Views and parcels, written: of the program and of the reference. -/
namespace Go.Pm
open Go
set_option maxRecDepth 100000

def bigV (vs : List Sgn) (ts : List (List Int)) : Bool := decide (vs.length > 64) || decide (ts.length > 64)
theorem large_sl {n : Nat} (hn : 1 ≤ n) {vs : List Sgn} {ts : List (List Int)} : tab n 26 [.agg [SlV vs, SlT ts]] = some (tB (bigV vs ts), []) := by
  obtain ⟨n, rfl⟩ : ∃ m, n = m + 1 := ⟨n - 1, by omega⟩
  have e1 : decide (((Els.els (vs.map Sgn.pv)).len : Int) > 64) = decide (vs.length > 64) := decide_eq_decide.2 (by simp [Els.len]; omega)
  have e2 : decide (((Els.els (ts.map by_)).len : Int) > 64) = decide (ts.length > 64) := decide_eq_decide.2 (by simp [Els.len]; omega)
  unfold bigV
  refine tab_eval rfl rfl fun T L hT hL => ?_
  conv => lhs; whnf
  rw [e1]
  cases decide (vs.length > 64)
  · conv => lhs; whnf
    exact congrArg (fun z => some (tB z, [])) e2
  · conv => lhs; whnf
    rfl
def sumB (b : List Int) : Nm := sumI (89 :: b)
def pclR (b : List Int) : List Int := (sumB b).list ++ b
/-- The parcel of a view, or its error. -/
def encPR (vs : List Sgn) (ts : List (List Int)) : PV := bif bigV vs ts then .tup [nilS, I 5] else bif !vs.all okS then .tup [nilS, I 1] else bif !ts.all okT then .tup [nilS, I 1] else bif !ordVw vs ts then .tup [nilS, I 10] else .tup [byR (pclR (encVw vs ts)), I 0]
theorem encVw_len {vs : List Sgn} {ts : List (List Int)} (h1 : vs.all okS = true) (h2 : ts.all okT = true) : 8 ≤ (encVw vs ts).length ∧ (encVw vs ts).length ≤ 8 + 393 * vs.length + 65537 * ts.length := by
  have e1 := encVs_len h1
  have e2 := encTs_len h2
  simp only [encVw, List.length_append, e1, hd4, List.length_cons, List.length_nil]
  omega
theorem hencP_sl {n : Nat} (hn : 8 ≤ n) {vs : List Sgn} {ts : List (List Int)} (h1 : vs.length < 1000000) (h2 : ts.length < 1000000) (ht : ∀ t ∈ ts, t.length < 1000000000) (hsb : ∀ s ∈ vs, Bs s.sig) (htb : ∀ t ∈ ts, Bs t) : tab n 11 [.agg [SlV vs, SlT ts]] = some (encPR vs ts, []) := by
  obtain ⟨n, rfl⟩ : ∃ m, n = m + 1 := ⟨n - 1, by omega⟩
  unfold encPR
  refine tab_eval rfl rfl fun T L hT hL => ?_
  conv => lhs; whnf
  refine call_to hT (large_sl (by omega)) ?_
  cases bigV vs ts
  case true =>
    conv => lhs; whnf
    rfl
  have he := encode_sl (n := n) (by omega) h1 h2 ht hsb htb
  unfold encVwR at he
  conv => lhs; whnf
  refine call_to hT he ?_
  cases ha : vs.all okS
  · conv => lhs; whnf
    rfl
  cases hb : ts.all okT
  · conv => lhs; whnf
    rfl
  cases ordVw vs ts
  · conv => lhs; whnf
    rfl
  have hl := encVw_len ha hb
  conv => lhs; whnf
  refine call_to hT (htagged_spec (by omega) (by omega)) ?_
  conv => lhs; whnf
  have e : Nat.blt 0 (encVw vs ts).length = true := blt_step (by omega)
  refine asrt_step (show (Nat.ble ((8 + (encVw vs ts).length) * bytesT PP 5) 140737488355328 && goodT PP 5 && (!true || Nat.blt 0 (encVw vs ts).length)) = true from by
    rw [bT1, gT1, e, ble_step (by omega)]; rfl) ?_
  conv => lhs; whnf
  rfl
theorem hencP_spec {n : Nat} (hn : 9 ≤ n) {x y : PV} {vs : List Sgn} {ts : List (List Int)} (hx : HV x vs) (hy : HT y ts) (h1 : vs.length < 1000000) (h2 : ts.length < 1000000) (ht : ∀ t ∈ ts, t.length < 1000000000) (hsb : ∀ s ∈ vs, Bs s.sig) (htb : ∀ t ∈ ts, Bs t) : tab n 11 [.agg [x, y]] = some (encPR vs ts, []) :=
  vw_wk hx hy rfl rfl rfl (d := 8) (by omega) fun _ h => hencP_sl h h1 h2 ht hsb htb
theorem rencode_sl {n : Nat} (hn : 7 ≤ n) {vs : List Sgn} {ts : List (List Int)} (h1 : vs.length < 1000000) (h2 : ts.length < 1000000) (hs : ∀ s ∈ vs, Bs s.sig) (ht : ∀ t ∈ ts, t.length < 1000000000 ∧ Bs t) : tab n 29 [.agg [SlV vs, SlT ts]] = some (encVwR vs ts, []) := by
  obtain ⟨n, rfl⟩ : ∃ m, n = m + 1 := ⟨n - 1, by omega⟩
  refine tab_eval rfl rfl fun T L hT hL => ?_
  conv => lhs; whnf
  refine call_to hT (rau_spec (by omega) .nil (by simp)).2.1 ?_
  conv => lhs; whnf
  refine loop_go hL (fun r s m => ∃ (j : Nat) (b : List Int), s = [.junk, .ptr 100 0, .junk, .junk, .ref 101, I (j : Int), .junk, .junk, .junk, .junk, .junk, .junk, .junk, .junk, .junk, .junk, .junk, .junk, .junk, .junk, .junk, .junk, .junk, .junk, .junk, .junk, .junk, .junk, .junk, .junk, .junk, .junk, .junk, .junk, .junk, .junk, .junk, .junk, .junk, .junk, .junk, .junk, .junk, .junk, .junk, .junk, .junk, .junk, .junk, .junk, .junk, .junk, .junk, .junk, .junk, .junk, .junk, .junk, .junk, .junk, .junk, .junk, .junk, .junk, .junk, .junk, .junk, .junk, .junk, .junk, .junk, .junk, .junk, .junk, .junk, .junk, .junk, .junk, .junk, .junk, .junk, .junk, .junk, .junk, .junk, .junk, .junk, .junk, .junk, .junk, .junk, .junk, .junk, .junk, .junk, .junk, .junk, .junk, .junk, .junk, .junk, .junk, .junk, .junk, .junk, .junk, .junk] ∧ m = [(100, .box 25 (.agg [SlV vs, SlT ts]), false), (101, .row 5 (.ints .u8 b), false)] ∧ j ≤ vs.length ∧ r = vs.length + 1 - j ∧ b = hd4 vs.length ++ encVs (vs.take j) ∧ (vs.take j).all okS = true) (vs.length + 1) rfl ⟨0, _, rfl, rfl, by omega, by omega, by simp [hd4, encVs, wr, Els.len], rfl⟩ (by omega) ?_
  rintro Lp r s m ⟨j, b, rfl, rfl, hj, hr, hb, hok⟩ ih
  have hbl : b.length ≤ 4 + 393 * vs.length := by
    rw [hb, List.length_append, encVs_len hok, List.length_take]
    simp [hd4]
    omega
  conv => lhs; whnf
  refine brch_step (fun h => ?_) (fun h => ?_)
  · replace h : (j : Int) < ((votesE vs).len : Int) := of_decide_eq_true h
    have hlt : j < vs.length := by simp [Els.len, votesE] at h; omega
    conv => lhs; whnf
    refine asrt_step (by first | rfl | (simp [Els.len, eE1, eE2, eE3, bT1, gT1, bT2, gT2, bT3, gT3, Nat.ble_eq]; done) | (simp [Els.len, eE1, eE2, eE3, bT1, gT1, bT2, gT2, bT3, gT3, Nat.ble_eq]; (repeat' apply And.intro) <;> first | omega | exact rfl | exact dec_ok (by omega))) ?_
    conv => lhs; whnf
    try rw [votes_elt hlt]
    try rw [votes_ix hlt]
    conv => lhs; whnf
    have he : tab n 57 [vs[j].pv] = some (bif okS vs[j] then .tup [byR (encSL vs[j]), tB true] else .tup [nilS, tB false], []) := rencS_spec (by omega)
    refine call_to hT he ?_
    cases hk : okS vs[j]
    · conv => lhs; whnf
      rw [encVwR, all_not hlt hk]
      rfl
    · have hl : (encSL vs[j]).length = 393 := by
        have : vs[j].sig.length = 370 := by
          simp [okS] at hk
          exact hk.2
        simp only [encSL, List.length_append, encV_len, this]
      conv => lhs; whnf
      refine asrt_step (by first | rfl | (simp [Els.len, eE1, eE2, eE3, bT1, gT1, bT2, gT2, bT3, gT3, Nat.ble_eq]; done) | (simp [Els.len, eE1, eE2, eE3, bT1, gT1, bT2, gT2, bT3, gT3, Nat.ble_eq]; (repeat' apply And.intro) <;> first | omega | exact rfl | exact dec_ok (by omega))) ?_
      conv => lhs; whnf
      rw [show IntKind.i64.wrap ((j : Int) + 1) = ((j + 1 : Nat) : Int) from i_wrap (by omega) (by omega)]
      exact ih (vs.length + 1 - (j + 1)) _ _ _ _ rfl ⟨j + 1, _, rfl, rfl, by omega, rfl, by rw [encVs_next hlt, ← List.append_assoc, ← hb], all_take hlt hok hk⟩ (by omega)
  · replace h : ¬ (j : Int) < ((votesE vs).len : Int) := of_decide_eq_false h
    have hle : vs.length ≤ j := by simp [Els.len, votesE] at h; omega
    have hav : vs.all okS = true := by rw [← hok, List.take_of_length_le hle]
    rw [List.take_of_length_le hle] at hb
    clear ih hr h hj hle hok
    rw [encVwR, hav]
    conv => lhs; whnf
    refine call_to hT (rau_spec (by omega) .by (by omega)).2.1 ?_
    conv => lhs; whnf
    refine loop_go hL (fun r s m => ∃ (j : Nat) (c : List Int), s = [.junk, .ptr 100 0, .junk, .junk, .ref 101, .junk, .junk, .junk, I (j : Int), .junk, .junk, .junk, .junk, .junk, .junk, .junk, .junk, .junk, .junk, .junk, .junk, .junk, .junk, .junk, .junk, .junk, .junk, .junk, .junk, .junk, .junk, .junk, .junk, .junk, .junk, .junk, .junk, .junk, .junk, .junk, .junk, .junk, .junk, .junk, .junk, .junk, .junk, .junk, .junk, .junk, .junk, .junk, .junk, .junk, .junk, .junk, .junk, .junk, .junk, .junk, .junk, .junk, .junk, .junk, .junk, .junk, .junk, .junk, .junk, .junk, .junk, .junk, .junk, .junk, .junk, .junk, .junk, .junk, .junk, .junk, .junk, .junk, .junk, .junk, .junk, .junk, .junk, .junk, .junk, .junk, .junk, .junk, .junk, .junk, .junk, .junk, .junk, .junk, .junk, .junk, .junk, .junk, .junk, .junk, .junk, .junk, .junk] ∧ m = [(100, .box 25 (.agg [SlV vs, SlT ts]), false), (101, .row 5 (.ints .u8 c), false)] ∧ j ≤ ts.length ∧ r = ts.length + 1 - j ∧ c = b ++ hd4 ts.length ++ encTs (ts.take j) ∧ (ts.take j).all okT = true) (ts.length + 1) rfl ⟨0, _, rfl, rfl, by omega, by omega, by simp [hd4, encTs, wr, Els.len], rfl⟩ (by omega) ?_
    rintro Lp r s m ⟨j, c, rfl, rfl, hj, hr, hc, hok⟩ ih
    have hcl : c.length ≤ b.length + 4 + 65537 * ts.length := by
      have h1 := encTs_len hok
      rw [List.length_take] at h1
      have h2 : 65537 * min j ts.length ≤ 65537 * ts.length := Nat.mul_le_mul_left _ (Nat.min_le_right _ _)
      rw [hc, List.length_append, List.length_append]
      simp [hd4]
      omega
    conv => lhs; whnf
    refine brch_step (fun h => ?_) (fun h => ?_)
    · replace h : (j : Int) < ((textsE ts).len : Int) := of_decide_eq_true h
      have hlt : j < ts.length := by simp [Els.len, textsE] at h; omega
      have htl := ht ts[j] (List.getElem_mem hlt)
      conv => lhs; whnf
      refine asrt_step (by first | rfl | (simp [Els.len, eE1, eE2, eE3, bT1, gT1, bT2, gT2, bT3, gT3, Nat.ble_eq]; done) | (simp [Els.len, eE1, eE2, eE3, bT1, gT1, bT2, gT2, bT3, gT3, Nat.ble_eq]; (repeat' apply And.intro) <;> first | omega | exact rfl | exact dec_ok (by omega))) ?_
      conv => lhs; whnf
      try rw [texts_elt hlt]
      try rw [texts_ix hlt]
      conv => lhs; whnf
      have he : tab n 58 [by_ c, by_ ts[j]] = some (bif okT ts[j] then .tup [byR (c ++ encT ts[j]), tB true] else .tup [nilS, tB false], []) := by
        rw [rab_spec (by omega) .by (by omega) (by omega)]
        unfold appR okT
        rw [show c ++ encT ts[j] = c ++ [be (wr ts[j].length) 1] ++ [be (wr ts[j].length) 0] ++ ts[j] from by simp [encT]]
      refine call_to hT he ?_
      cases hk : okT ts[j]
      · conv => lhs; whnf
        rw [all_not hlt hk]
        rfl
      · conv => lhs; whnf
        rw [show IntKind.i64.wrap ((j : Int) + 1) = ((j + 1 : Nat) : Int) from i_wrap (by omega) (by omega)]
        exact ih (ts.length + 1 - (j + 1)) _ _ _ _ rfl ⟨j + 1, _, rfl, rfl, by omega, rfl, by rw [encTs_next hlt, ← List.append_assoc, ← hc], all_take hlt hok hk⟩ (by omega)
    · replace h : ¬ (j : Int) < ((textsE ts).len : Int) := of_decide_eq_false h
      have hle : ts.length ≤ j := by simp [Els.len, textsE] at h; omega
      have hat : ts.all okT = true := by rw [← hok, List.take_of_length_le hle]
      rw [List.take_of_length_le hle] at hc
      clear ih hr h hj hle hok
      rw [hat]
      conv => lhs; whnf
      refine loop_go hL (fun r s m => ∃ j : Nat, s = [.junk, .ptr 100 0, .junk, .junk, .ref 101, .junk, .junk, .junk, .junk, .junk, .junk, I ((j + 1 : Nat) : Int), .junk, .junk, .junk, .junk, .junk, .junk, .junk, .junk, .junk, .junk, .junk, .junk, .junk, .junk, .junk, .junk, .junk, .junk, .junk, .junk, .junk, .junk, .junk, .junk, .junk, .junk, .junk, .junk, .junk, .junk, .junk, .junk, .junk, .junk, .junk, .junk, .junk, .junk, .junk, .junk, .junk, .junk, .junk, .junk, .junk, .junk, .junk, .junk, .junk, .junk, .junk, .junk, .junk, .junk, .junk, .junk, .junk, .junk, .junk, .junk, .junk, .junk, .junk, .junk, .junk, .junk, .junk, .junk, .junk, .junk, .junk, .junk, .junk, .junk, .junk, .junk, .junk, .junk, .junk, .junk, .junk, .junk, .junk, .junk, .junk, .junk, .junk, .junk, .junk, .junk, .junk, .junk, .junk, .junk, .junk] ∧ m = [(100, .box 25 (.agg [SlV vs, SlT ts]), false), (101, .row 5 (.ints .u8 c), false)] ∧ j ≤ vs.length ∧ r = vs.length + 1 - j ∧ chain lessS (vs.drop j) = chain lessS vs) (vs.length + 1) rfl ⟨0, rfl, rfl, by omega, by omega, rfl⟩ (by omega) ?_
      rintro Lp r s m ⟨j, rfl, rfl, hj, hr, hp⟩ ih
      conv => lhs; whnf
      refine brch_step (fun h => ?_) (fun h => ?_)
      · replace h : ((j + 1 : Nat) : Int) < ((votesE vs).len : Int) := of_decide_eq_true h
        have hlt : j + 1 < vs.length := by simp [Els.len, votesE] at h; omega
        have hw : IntKind.i64.wrap (((j + 1 : Nat) : Int) - 1) = j := by rw [i_wrap (by omega) (by omega)]; omega
        conv => lhs; whnf
        rw [hw]
        refine asrt_step (by first | rfl | (simp [Els.len, eE1, eE2, eE3, bT1, gT1, bT2, gT2, bT3, gT3, Nat.ble_eq]; done) | (simp [Els.len, eE1, eE2, eE3, bT1, gT1, bT2, gT2, bT3, gT3, Nat.ble_eq]; (repeat' apply And.intro) <;> first | omega | exact rfl | exact dec_ok (by omega))) ?_
        conv => lhs; whnf
        try rw [votes_elt (by omega : j < vs.length)]
        try rw [votes_ix (by omega : j < vs.length)]
        conv => lhs; whnf
        refine asrt_step (by first | rfl | (simp [Els.len, eE1, eE2, eE3, bT1, gT1, bT2, gT2, bT3, gT3, Nat.ble_eq]; done) | (simp [Els.len, eE1, eE2, eE3, bT1, gT1, bT2, gT2, bT3, gT3, Nat.ble_eq]; (repeat' apply And.intro) <;> first | omega | exact rfl | exact dec_ok (by omega))) ?_
        conv => lhs; whnf
        try rw [votes_elt hlt]
        try rw [votes_ix hlt]
        conv => lhs; whnf
        refine call_to hT (rlessS_spec (by omega) (a := vs[j]) (b := vs[j+1]) (hs _ (List.getElem_mem _)) (hs _ (List.getElem_mem _))) ?_
        cases hl : lessS vs[j] vs[j+1]
        · conv => lhs; whnf
          rw [ordVw, ← hp, chain_drop _ hlt, hl]
          rfl
        · conv => lhs; whnf
          rw [show IntKind.i64.wrap (((j + 1 : Nat) : Int) + 1) = ((j + 1 + 1 : Nat) : Int) from i_wrap (by omega) (by omega)]
          exact ih (vs.length + 1 - (j + 1)) _ _ _ _ rfl ⟨j + 1, rfl, rfl, by omega, rfl, by rw [← hp, chain_drop _ hlt, hl]; rfl⟩ (by omega)
      · replace h : ¬ ((j + 1 : Nat) : Int) < ((votesE vs).len : Int) := of_decide_eq_false h
        have hlt : vs.length ≤ j + 1 := by simp [Els.len, votesE] at h; omega
        have hv : chain lessS vs = true := by rw [← hp]; exact chain_end _ hlt
        rw [ordVw, hv]
        clear ih hr h hp hj hlt
        conv => lhs; whnf
        refine loop_go hL (fun r s m => ∃ j : Nat, s = [.junk, .ptr 100 0, .junk, .junk, .ref 101, .junk, .junk, .junk, .junk, .junk, .junk, .junk, I ((j + 1 : Nat) : Int), .junk, .junk, .junk, .junk, .junk, .junk, .junk, .junk, .junk, .junk, .junk, .junk, .junk, .junk, .junk, .junk, .junk, .junk, .junk, .junk, .junk, .junk, .junk, .junk, .junk, .junk, .junk, .junk, .junk, .junk, .junk, .junk, .junk, .junk, .junk, .junk, .junk, .junk, .junk, .junk, .junk, .junk, .junk, .junk, .junk, .junk, .junk, .junk, .junk, .junk, .junk, .junk, .junk, .junk, .junk, .junk, .junk, .junk, .junk, .junk, .junk, .junk, .junk, .junk, .junk, .junk, .junk, .junk, .junk, .junk, .junk, .junk, .junk, .junk, .junk, .junk, .junk, .junk, .junk, .junk, .junk, .junk, .junk, .junk, .junk, .junk, .junk, .junk, .junk, .junk, .junk, .junk, .junk, .junk] ∧ m = [(100, .box 25 (.agg [SlV vs, SlT ts]), false), (101, .row 5 (.ints .u8 c), false)] ∧ j ≤ ts.length ∧ r = ts.length + 1 - j ∧ chain ltL (ts.drop j) = chain ltL ts) (ts.length + 1) rfl ⟨0, rfl, rfl, by omega, by omega, rfl⟩ (by omega) ?_
        rintro Lp r s m ⟨j, rfl, rfl, hj, hr, hp⟩ ih
        conv => lhs; whnf
        refine brch_step (fun h => ?_) (fun h => ?_)
        · replace h : ((j + 1 : Nat) : Int) < ((textsE ts).len : Int) := of_decide_eq_true h
          have hlt : j + 1 < ts.length := by simp [Els.len, textsE] at h; omega
          have hw : IntKind.i64.wrap (((j + 1 : Nat) : Int) - 1) = j := by rw [i_wrap (by omega) (by omega)]; omega
          conv => lhs; whnf
          rw [hw]
          refine asrt_step (by first | rfl | (simp [Els.len, eE1, eE2, eE3, bT1, gT1, bT2, gT2, bT3, gT3, Nat.ble_eq]; done) | (simp [Els.len, eE1, eE2, eE3, bT1, gT1, bT2, gT2, bT3, gT3, Nat.ble_eq]; (repeat' apply And.intro) <;> first | omega | exact rfl | exact dec_ok (by omega))) ?_
          conv => lhs; whnf
          try rw [texts_elt (by omega : j < ts.length)]
          try rw [texts_ix (by omega : j < ts.length)]
          conv => lhs; whnf
          refine asrt_step (by first | rfl | (simp [Els.len, eE1, eE2, eE3, bT1, gT1, bT2, gT2, bT3, gT3, Nat.ble_eq]; done) | (simp [Els.len, eE1, eE2, eE3, bT1, gT1, bT2, gT2, bT3, gT3, Nat.ble_eq]; (repeat' apply And.intro) <;> first | omega | exact rfl | exact dec_ok (by omega))) ?_
          conv => lhs; whnf
          try rw [texts_elt hlt]
          try rw [texts_ix hlt]
          conv => lhs; whnf
          have hsl := strLess (ht _ (List.getElem_mem (by omega : j < ts.length))).2 (ht _ (List.getElem_mem hlt)).2
          rw [hsl]
          cases hl : decide (cmpL ts[j] ts[j+1] < 0)
          · conv => lhs; whnf
            rw [← hp, chain_drop _ hlt, show ltL ts[j] ts[j+1] = false from hl]
            rfl
          · conv => lhs; whnf
            rw [show IntKind.i64.wrap (((j + 1 : Nat) : Int) + 1) = ((j + 1 + 1 : Nat) : Int) from i_wrap (by omega) (by omega)]
            exact ih (ts.length + 1 - (j + 1)) _ _ _ _ rfl ⟨j + 1, rfl, rfl, by omega, rfl, by rw [← hp, chain_drop _ hlt, show ltL ts[j] ts[j+1] = true from hl]; rfl⟩ (by omega)
        · replace h : ¬ ((j + 1 : Nat) : Int) < ((textsE ts).len : Int) := of_decide_eq_false h
          have hlt : ts.length ≤ j + 1 := by simp [Els.len, textsE] at h; omega
          have hv : chain ltL ts = true := by rw [← hp]; exact chain_end _ hlt
          rw [hv]
          conv => lhs; whnf
          rw [hc, hb]
          rfl
theorem rencode_spec {n : Nat} (hn : 8 ≤ n) {x y : PV} {vs : List Sgn} {ts : List (List Int)} (hx : HV x vs) (hy : HT y ts) (h1 : vs.length < 1000000) (h2 : ts.length < 1000000) (hs : ∀ s ∈ vs, Bs s.sig) (ht : ∀ t ∈ ts, t.length < 1000000000 ∧ Bs t) : tab n 29 [.agg [x, y]] = some (encVwR vs ts, []) :=
  vw_wk hx hy rfl rfl rfl (d := 7) (by omega) fun _ h => rencode_sl h h1 h2 hs ht
theorem Bs.append {a b : List Int} (ha : Bs a) (hb : Bs b) : Bs (a ++ b) := fun x hx => by
  rcases List.mem_append.1 hx with h | h
  · exact ha x h
  · exact hb x h
theorem Bs.cons {a : Int} {b : List Int} (ha : 0 ≤ a ∧ a < 256) (hb : Bs b) : Bs (a :: b) := fun x hx => by
  rcases List.mem_cons.1 hx with h | h
  · exact h ▸ ha
  · exact hb x h
theorem Bs.nil : Bs [] := fun x hx => absurd hx (by simp)
theorem wrap8 (v : Int) : 0 ≤ IntKind.u8.wrap v ∧ IntKind.u8.wrap v < 256 := by
  show 0 ≤ v % 256 ∧ v % 256 < 256
  omega
theorem Bs.flatMap {α : Type} {f : α → List Int} : ∀ {l : List α}, (∀ x ∈ l, Bs (f x)) → Bs (l.flatMap f)
  | [], _ => Bs.nil
  | a :: r, h => by
    rw [List.flatMap_cons]
    exact (h a (by simp)).append (Bs.flatMap fun x hx => h x (List.mem_cons_of_mem _ hx))
def Nm.ok (n : Nm) : Prop := Bs n.list
theorem encV_Bs {v : Vot} (hp : v.parent.ok) (hv : v.value.ok) : Bs (encV v) := by
  unfold encV
  refine Bs.append (Bs.append ?_ hp) hv
  iterate 7 refine Bs.cons (wrap8 _) ?_
  exact Bs.nil
def Sgn.ok (s : Sgn) : Prop := s.vote.parent.ok ∧ s.vote.value.ok ∧ Bs s.sig
theorem hd4_Bs (n : Nat) : Bs (hd4 n) := by
  unfold hd4
  iterate 4 refine Bs.cons (wrap8 _) ?_
  exact Bs.nil
theorem encVw_Bs {vs : List Sgn} {ts : List (List Int)} (h1 : ∀ s ∈ vs, s.ok) (h2 : ∀ t ∈ ts, Bs t) : Bs (encVw vs ts) := by
  unfold encVw
  refine (((hd4_Bs _).append (Bs.flatMap fun s hs => ?_)).append (hd4_Bs _)).append (Bs.flatMap fun t ht => ?_)
  · exact (encV_Bs (h1 s hs).1 (h1 s hs).2.1).append (h1 s hs).2.2
  · exact Bs.cons (wrap8 _) (Bs.cons (wrap8 _) (h2 t ht))
theorem rencP_sl {n : Nat} (hn : 8 ≤ n) {vs : List Sgn} {ts : List (List Int)} (h1 : vs.length < 1000000) (h2 : ts.length < 1000000) (ht : ∀ t ∈ ts, t.length < 1000000000) (hso : ∀ s ∈ vs, s.ok) (hto : ∀ t ∈ ts, Bs t) : tab n 12 [.agg [SlV vs, SlT ts]] = some (encPR vs ts, []) := by
  obtain ⟨n, rfl⟩ : ∃ m, n = m + 1 := ⟨n - 1, by omega⟩
  have e1 : decide (((Els.els (vs.map Sgn.pv)).len : Int) > 64) = decide (vs.length > 64) := decide_eq_decide.2 (by simp [Els.len]; omega)
  have e2 : decide (((Els.els (ts.map by_)).len : Int) > 64) = decide (ts.length > 64) := decide_eq_decide.2 (by simp [Els.len]; omega)
  have he := rencode_sl (n := n) (by omega) h1 h2 (fun s hx => (hso s hx).2.2) (fun t hx => ⟨ht t hx, hto t hx⟩)
  unfold encVwR at he
  unfold encPR bigV
  refine tab_eval rfl rfl fun T L hT hL => ?_
  conv => lhs; whnf
  rw [e1]
  cases decide (vs.length > 64)
  case true =>
    conv => lhs; whnf
    rfl
  conv => lhs; whnf
  rw [e2]
  cases decide (ts.length > 64)
  case true =>
    conv => lhs; whnf
    rfl
  conv => lhs; whnf
  refine call_to hT he ?_
  cases ha : vs.all okS
  · conv => lhs; whnf
    rfl
  cases hb : ts.all okT
  · conv => lhs; whnf
    rfl
  cases ordVw vs ts
  · conv => lhs; whnf
    rfl
  have hl := encVw_len ha hb
  conv => lhs; whnf
  refine call_to hT (tagged_spec (by omega) (Bs.cons (by omega) (encVw_Bs hso hto)) (by omega)) ?_
  conv => lhs; whnf
  refine asrt_step (show (Nat.ble ((8 + (encVw vs ts).length) * bytesT PP 5) 140737488355328 && goodT PP 5 && (!false || Nat.blt 0 (encVw vs ts).length)) = true from by
    rw [bT1, gT1, ble_step (by omega)]; rfl) ?_
  conv => lhs; whnf
  rfl
theorem rencP_spec {n : Nat} (hn : 9 ≤ n) {x y : PV} {vs : List Sgn} {ts : List (List Int)} (hx : HV x vs) (hy : HT y ts) (h1 : vs.length < 1000000) (h2 : ts.length < 1000000) (ht : ∀ t ∈ ts, t.length < 1000000000) (hso : ∀ s ∈ vs, s.ok) (hto : ∀ t ∈ ts, Bs t) : tab n 12 [.agg [x, y]] = some (encPR vs ts, []) :=
  vw_wk hx hy rfl rfl rfl (d := 8) (by omega) fun _ h => rencP_sl h h1 h2 ht hso hto
end Go.Pm

/- Views that are the same. -/
namespace Go.Pm
open Go
set_option maxRecDepth 100000

/-! ### Equality -/
theorem sameS_spec {n : Nat} (hn : 1 ≤ n) {a b : Sgn} (ha : Bs a.sig) (hb : Bs b.sig) : tab n 33 [a.pv, b.pv] = some (tB (decide (a = b)), []) := by
  obtain ⟨n, rfl⟩ : ∃ m, n = m + 1 := ⟨n - 1, by omega⟩
  refine tab_eval rfl rfl fun T L hT hL => ?_
  conv => lhs; whnf
  generalize hX : (a.vote.kind == b.vote.kind && _) = X
  have hX : eqV a.vote b.vote = X := hX
  cases X
  · have : decide (a = b) = false := decide_eq_false fun e => by
      rw [e, eqV_iff.2 rfl] at hX
      cases hX
    rw [this]
    conv => lhs; whnf
    cases (bytesOf a.sig).data.toList == (bytesOf b.sig).data.toList
    · conv => lhs; whnf
      rfl
    · conv => lhs; whnf
      rfl
  · have hv := eqV_iff.1 hX
    have : decide (a = b) = decide (a.sig = b.sig) := decide_eq_decide.2 ⟨fun e => by rw [e], fun e => by cases a; cases b; simp_all⟩
    rw [this, ← strEq ha hb]
    conv => lhs; whnf
    cases (bytesOf a.sig).data.toList == (bytesOf b.sig).data.toList
    · conv => lhs; whnf
      rfl
    · conv => lhs; whnf
      rfl
theorem sameT_sl {n : Nat} (hn : 1 ≤ n) {a b : List (List Int)} (h1 : a.length < 1000000000000) (h2 : b.length < 1000000000000) (ha : ∀ t ∈ a, Bs t) (hb : ∀ t ∈ b, Bs t) : tab n 18 [SlT a, SlT b] = some (tB (decide (a = b)), []) := by
  obtain ⟨n, rfl⟩ : ∃ m, n = m + 1 := ⟨n - 1, by omega⟩
  refine tab_eval rfl rfl fun T L hT hL => ?_
  conv => lhs; whnf
  by_cases hl : a.length = b.length
  · have e : (((Els.els (a.map by_)).len : Int) != ((Els.els (b.map by_)).len : Int)) = false := by simp [Els.len, hl]
    rw [e]
    conv => lhs; whnf
    refine loop_go hL (fun r s m => ∃ j : Nat, s = [SlT a, SlT b, .junk, .junk, .junk, I (j : Int), .junk, .junk, .junk, .junk, .junk, .junk, .junk, .junk, .junk, .junk, .junk, .junk, .junk, .junk, .junk, .junk, .junk, .junk, .junk, .junk, .junk, .junk] ∧ m = [] ∧ j ≤ a.length ∧ r = a.length + 1 - j ∧ a.take j = b.take j) (a.length + 1) rfl ⟨0, rfl, rfl, by omega, by omega, rfl⟩ (by omega) ?_
    rintro Lp r s m ⟨j, rfl, rfl, hj, hr, hp⟩ ih
    conv => lhs; whnf
    refine brch_step (fun h => ?_) (fun h => ?_)
    · replace h : (j : Int) < ((textsE a).len : Int) := of_decide_eq_true h
      have hlt : j < a.length := by simp [Els.len, textsE] at h; omega
      have hlt2 : j < b.length := by omega
      conv => lhs; whnf
      refine asrt_step (by first | rfl | (simp [Els.len, eE1, eE2, eE3, bT1, gT1, bT2, gT2, bT3, gT3, Nat.ble_eq]; done) | (simp [Els.len, eE1, eE2, eE3, bT1, gT1, bT2, gT2, bT3, gT3, Nat.ble_eq]; (repeat' apply And.intro) <;> first | omega | exact rfl | exact dec_ok (by omega))) ?_
      conv => lhs; whnf
      try rw [texts_elt hlt]
      try rw [texts_ix hlt]
      conv => lhs; whnf
      refine asrt_step (by first | rfl | (simp [Els.len, eE1, eE2, eE3, bT1, gT1, bT2, gT2, bT3, gT3, Nat.ble_eq]; done) | (simp [Els.len, eE1, eE2, eE3, bT1, gT1, bT2, gT2, bT3, gT3, Nat.ble_eq]; (repeat' apply And.intro) <;> first | omega | exact rfl | exact dec_ok (by omega))) ?_
      conv => lhs; whnf
      try rw [texts_elt hlt2]
      try rw [texts_ix hlt2]
      conv => lhs; whnf
      rw [strEq (ha _ (List.getElem_mem hlt)) (hb _ (List.getElem_mem hlt2))]
      cases hd : decide (a[j] = b[j])
      · have hd := of_decide_eq_false hd
        rw [show decide (a = b) = false from decide_eq_false fun e => hd (by simp only [e])]
        conv => lhs; whnf
        rfl
      · have hd := of_decide_eq_true hd
        conv => lhs; whnf
        rw [show IntKind.i64.wrap ((j : Int) + 1) = ((j + 1 : Nat) : Int) from i_wrap (by omega) (by omega)]
        exact ih (a.length + 1 - (j + 1)) _ _ _ _ rfl ⟨j + 1, rfl, rfl, by omega, rfl, by rw [take_next hlt, take_next hlt2, hp, hd]⟩ (by omega)
    · replace h : ¬ (j : Int) < ((textsE a).len : Int) := of_decide_eq_false h
      have hle : a.length ≤ j := by simp [Els.len, textsE] at h; omega
      rw [List.take_of_length_le hle, List.take_of_length_le (by omega)] at hp
      rw [show decide (a = b) = true from dec_ok hp]
      conv => lhs; whnf
      rfl
  · have e : (((Els.els (a.map by_)).len : Int) != ((Els.els (b.map by_)).len : Int)) = true := by simp [Els.len]; omega
    rw [e, show decide (a = b) = false from decide_eq_false fun e => hl (by rw [e])]
    conv => lhs; whnf
    rfl
theorem sameV_sl {n : Nat} (hn : 2 ≤ n) {vs ws : List Sgn} {ts us : List (List Int)} (h1 : vs.length < 1000000000000) (h2 : ws.length < 1000000000000) (h3 : ts.length < 1000000000000) (h4 : us.length < 1000000000000)
    (ha : ∀ s ∈ vs, Bs s.sig) (hb : ∀ s ∈ ws, Bs s.sig) (hc : ∀ t ∈ ts, Bs t) (hd : ∀ t ∈ us, Bs t) : tab n 14 [.agg [SlV vs, SlT ts], .agg [SlV ws, SlT us]] = some (tB (decide (vs = ws) && decide (ts = us)), []) := by
  obtain ⟨n, rfl⟩ : ∃ m, n = m + 1 := ⟨n - 1, by omega⟩
  refine tab_eval rfl rfl fun T L hT hL => ?_
  conv => lhs; whnf
  by_cases hl : vs.length = ws.length
  · have e : (((Els.els (vs.map Sgn.pv)).len : Int) != ((Els.els (ws.map Sgn.pv)).len : Int)) = false := by simp [Els.len, hl]
    rw [e]
    conv => lhs; whnf
    refine loop_go hL (fun r s m => ∃ j : Nat, s = [.junk, .junk, .ptr 100 0, .ptr 101 0, .junk, I (j : Int), .junk, .junk, .junk, .junk, .junk, .junk, .junk, .junk, .junk, .junk, .junk, .junk, .junk, .junk, .junk, .junk, .junk, .junk, .junk, .junk, .junk, .junk, .junk, .junk, .junk, .junk, .junk, .junk, .junk, .junk, .junk] ∧ m = [(100, .box 25 (.agg [SlV vs, SlT ts]), false), (101, .box 25 (.agg [SlV ws, SlT us]), false)] ∧ j ≤ vs.length ∧ r = vs.length + 1 - j ∧ vs.take j = ws.take j) (vs.length + 1) rfl ⟨0, rfl, rfl, by omega, by omega, rfl⟩ (by omega) ?_
    rintro Lp r s m ⟨j, rfl, rfl, hj, hr, hp⟩ ih
    conv => lhs; whnf
    refine brch_step (fun h => ?_) (fun h => ?_)
    · replace h : (j : Int) < ((votesE vs).len : Int) := of_decide_eq_true h
      have hlt : j < vs.length := by simp [Els.len, votesE] at h; omega
      have hlt2 : j < ws.length := by omega
      conv => lhs; whnf
      refine asrt_step (by first | rfl | (simp [Els.len, eE1, eE2, eE3, bT1, gT1, bT2, gT2, bT3, gT3, Nat.ble_eq]; done) | (simp [Els.len, eE1, eE2, eE3, bT1, gT1, bT2, gT2, bT3, gT3, Nat.ble_eq]; (repeat' apply And.intro) <;> first | omega | exact rfl | exact dec_ok (by omega))) ?_
      conv => lhs; whnf
      try rw [votes_elt hlt]
      try rw [votes_ix hlt]
      conv => lhs; whnf
      refine asrt_step (by first | rfl | (simp [Els.len, eE1, eE2, eE3, bT1, gT1, bT2, gT2, bT3, gT3, Nat.ble_eq]; done) | (simp [Els.len, eE1, eE2, eE3, bT1, gT1, bT2, gT2, bT3, gT3, Nat.ble_eq]; (repeat' apply And.intro) <;> first | omega | exact rfl | exact dec_ok (by omega))) ?_
      conv => lhs; whnf
      try rw [votes_elt hlt2]
      try rw [votes_ix hlt2]
      conv => lhs; whnf
      refine call_to hT (sameS_spec (by omega) (a := vs[j]) (b := ws[j]) (ha _ (List.getElem_mem hlt)) (hb _ (List.getElem_mem hlt2))) ?_
      cases hd : decide (vs[j] = ws[j])
      · have hd := of_decide_eq_false hd
        rw [show decide (vs = ws) = false from decide_eq_false fun e => hd (by simp only [e])]
        conv => lhs; whnf
        rfl
      · have hd := of_decide_eq_true hd
        conv => lhs; whnf
        rw [show IntKind.i64.wrap ((j : Int) + 1) = ((j + 1 : Nat) : Int) from i_wrap (by omega) (by omega)]
        exact ih (vs.length + 1 - (j + 1)) _ _ _ _ rfl ⟨j + 1, rfl, rfl, by omega, rfl, by rw [take_next hlt, take_next hlt2, hp, hd]⟩ (by omega)
    · replace h : ¬ (j : Int) < ((votesE vs).len : Int) := of_decide_eq_false h
      have hle : vs.length ≤ j := by simp [Els.len, votesE] at h; omega
      rw [List.take_of_length_le hle, List.take_of_length_le (by omega)] at hp
      rw [show decide (vs = ws) = true from dec_ok hp]
      conv => lhs; whnf
      refine call_to hT (sameT_sl (by omega) h3 h4 hc hd) ?_
      conv => lhs; whnf
      rfl
  · have e : (((Els.els (vs.map Sgn.pv)).len : Int) != ((Els.els (ws.map Sgn.pv)).len : Int)) = true := by simp [Els.len]; omega
    rw [e, show decide (vs = ws) = false from decide_eq_false fun e => hl (by rw [e])]
    conv => lhs; whnf
    rfl
theorem wkVV_eq {x y x' y' : PV} {vs ws : List Sgn} {ts us : List (List Int)} (hx : HV x vs) (hy : HT y ts) (hx' : HV x' ws) (hy' : HT y' us) : wkL [wkV, wkV] [.agg [x, y], .agg [x', y']] = [.agg [SlV vs, SlT ts], .agg [SlV ws, SlT us]] := by
  rcases hx with ⟨rfl, rfl⟩ | rfl <;> rcases hy with ⟨rfl, rfl⟩ | rfl <;> rcases hx' with ⟨rfl, rfl⟩ | rfl <;> rcases hy' with ⟨rfl, rfl⟩ | rfl <;> rfl
theorem vv_wk {n d : Nat} {f : FuncId} {x y x' y' : PV} {vs ws : List Sgn} {ts us : List (List Int)} {r : PV × List PV} (hx : HV x vs) (hy : HT y ts) (hx' : HV x' ws) (hy' : HT y' us) (h0 : Nat.beq f 76 = false) (h1 : wkFind f wkT = some [wkV, wkV]) (h3 : Nat.ble 1000000 f = false) (hn : d + 1 ≤ n) (h : ∀ n, d ≤ n → tab n f [.agg [SlV vs, SlT ts], .agg [SlV ws, SlT us]] = some r) : tab n f [.agg [x, y], .agg [x', y']] = some r := by
  cases hb : nilL [wkV, wkV] [.agg [x, y], .agg [x', y']] with
  | true =>
    obtain ⟨n, rfl⟩ : ∃ m, n = m + 1 := ⟨n - 1, by omega⟩
    exact tab_wk h0 h1 hb h3 (by rw [wkVV_eq hx hy hx' hy']; exact h n (by omega))
  | false =>
    have : x = SlV vs ∧ y = SlT ts ∧ x' = SlV ws ∧ y' = SlT us := by
      rcases hx with ⟨rfl, rfl⟩ | rfl <;> rcases hy with ⟨rfl, rfl⟩ | rfl <;> rcases hx' with ⟨rfl, rfl⟩ | rfl <;> rcases hy' with ⟨rfl, rfl⟩ | rfl <;> first | exact ⟨rfl, rfl, rfl, rfl⟩ | cases hb
    rw [this.1, this.2.1, this.2.2.1, this.2.2.2]
    exact h n (by omega)
theorem sameV_spec {n : Nat} (hn : 3 ≤ n) {x y x' y' : PV} {vs ws : List Sgn} {ts us : List (List Int)} (hx : HV x vs) (hy : HT y ts) (hx' : HV x' ws) (hy' : HT y' us) (h1 : vs.length < 1000000000000) (h2 : ws.length < 1000000000000) (h3 : ts.length < 1000000000000) (h4 : us.length < 1000000000000)
    (ha : ∀ s ∈ vs, Bs s.sig) (hb : ∀ s ∈ ws, Bs s.sig) (hc : ∀ t ∈ ts, Bs t) (hd : ∀ t ∈ us, Bs t) : tab n 14 [.agg [x, y], .agg [x', y']] = some (tB (decide (vs = ws) && decide (ts = us)), []) :=
  vv_wk hx hy hx' hy' rfl rfl rfl (d := 2) (by omega) fun _ h => sameV_sl h h1 h2 h3 h4 ha hb hc hd
end Go.Pm

/- Heavy views. -/
namespace Go.Pm
open Go
set_option maxRecDepth 100000

/-! ### Heavy views -/
def hvV : Nat → List Sgn → Nat
  | n, [] => n
  | n, s :: r => if n ≤ 300 then hvV (n + min s.sig.length 100000 / 400) r else n
def hvT : Nat → List (List Int) → Nat
  | n, [] => n
  | n, t :: r => if n ≤ 300 then hvT (n + min t.length 1000000 / 1000) r else n
def hvN (vs : List Sgn) (ts : List (List Int)) : Nat := hvT (hvV (vs.length + ts.length) vs) ts
theorem hvW {k a c d : Nat} (hk : k ≤ 300) (hc : c ≤ 1000000) (hd : 0 < d) : IntKind.i64.wrap ((k : Int) + IntKind.i64.wrap ((bif decide ((c : Int) < (a : Int)) then (c : Int) else (a : Int)).tdiv (d : Int))) = ((k + min a c / d : Nat) : Int) := by
  have e : (bif decide ((c : Int) < (a : Int)) then (c : Int) else (a : Int)) = ((min a c : Nat) : Int) := by
    by_cases h : (c : Int) < (a : Int)
    · rw [dec_ok h]; simp; omega
    · rw [decide_eq_false h]; simp; omega
  rw [e, ← Int.ofNat_tdiv]
  have h1 : min a c / d ≤ 1000000 := Nat.le_trans (Nat.div_le_self _ _) (Nat.le_trans (Nat.min_le_right _ _) hc)
  generalize min a c / d = q at h1 ⊢
  rw [i_wrap (n := (q : Int)) (by omega) (by omega), i_wrap (by omega) (by omega)]
  push_cast
  rfl
theorem heavy_sl {n : Nat} (hn : 1 ≤ n) {vs : List Sgn} {ts : List (List Int)} (h1 : vs.length < 1000000000000000) (h2 : ts.length < 1000000000000000) : tab n 9 [.agg [SlV vs, SlT ts]] = some (tB (decide (hvN vs ts > 300)), []) := by
  obtain ⟨n, rfl⟩ : ∃ m, n = m + 1 := ⟨n - 1, by omega⟩
  refine tab_eval rfl rfl fun T L hT hL => ?_
  conv => lhs; whnf
  rw [show IntKind.i64.wrap (((Els.els (vs.map Sgn.pv)).len : Int) + ((Els.els (ts.map by_)).len : Int)) = ((vs.length + ts.length : Nat) : Int) from by rw [i_wrap (by simp [Els.len]; omega) (by simp [Els.len]; omega)]; simp [Els.len]]
  refine loop_go hL (fun r s m => ∃ (j k : Nat), s = [.junk, .ptr 100 0, .junk, I (k : Int), I (j : Int), .junk, .junk, .junk, .junk, .junk, .junk, .junk, .junk, .junk, .junk, .junk, .junk, .junk, .junk, .junk, .junk, .junk, .junk, .junk, .junk, .junk, .junk, .junk, .junk, .junk, .junk, .junk, .junk, .junk, .junk, .junk, .junk, .junk, .junk, .junk, .junk, .junk, .junk, .junk, .junk, .junk, .junk, .junk, .junk, .junk, .junk, .junk, .junk, .junk, .junk, .junk, .junk, .junk] ∧ m = [(100, .box 25 (.agg [SlV vs, SlT ts]), false)] ∧ j ≤ vs.length ∧ r = vs.length + 1 - j ∧ hvV k (vs.drop j) = hvV (vs.length + ts.length) vs ∧ k ≤ vs.length + ts.length + 250 * j) (vs.length + 1) rfl ⟨0, _, rfl, rfl, by omega, by omega, rfl, by omega⟩ (by omega) ?_
  rintro Lp r s m ⟨j, k, rfl, rfl, hj, hr, hp, hk⟩ ih
  conv => lhs; whnf
  by_cases h : j < vs.length
  · rw [show decide ((j : Int) < ((Els.els (vs.map Sgn.pv)).len : Int)) = true from dec_ok (by simp [Els.len]; omega)]
    conv => lhs; whnf
    by_cases h' : k ≤ 300
    · rw [show decide ((k : Int) ≤ 300) = true from dec_ok (by omega)]
      conv => lhs; whnf
      refine asrt_step (by first | rfl | (simp [Els.len, eE1, eE2, eE3, bT1, gT1, bT2, gT2, bT3, gT3, Nat.ble_eq]; done) | (simp [Els.len, eE1, eE2, eE3, bT1, gT1, bT2, gT2, bT3, gT3, Nat.ble_eq]; (repeat' apply And.intro) <;> first | omega | exact rfl | exact dec_ok (by omega))) ?_
      conv => lhs; whnf
      try rw [votes_elt h]
      try rw [votes_ix h]
      conv => lhs; whnf
      rw [show IntKind.i64.wrap ((j : Int) + 1) = ((j + 1 : Nat) : Int) from i_wrap (by omega) (by omega)]
      rw [show IntKind.i64.wrap ((k : Int) + IntKind.i64.wrap ((bif decide ((100000 : Int) < ((Els.ints .u8 vs[j].sig).len : Int)) then (100000 : Int) else ((Els.ints .u8 vs[j].sig).len : Int)).tdiv (400 : Int))) = ((k + min vs[j].sig.length 100000 / 400 : Nat) : Int) from hvW (c := 100000) (d := 400) h' (by omega) (by omega)]
      refine ih (vs.length + 1 - (j + 1)) _ _ _ _ rfl ⟨j + 1, _, rfl, rfl, by omega, rfl, ?_, by omega⟩ (by omega)
      rw [← hp, List.drop_eq_getElem_cons h, hvV, if_pos h']
    · rw [show decide ((k : Int) ≤ 300) = false from decide_eq_false (by omega)]
      rw [List.drop_eq_getElem_cons h, hvV, if_neg h'] at hp
      obtain ⟨K, hv, hK⟩ : ∃ K, hvV (vs.length + ts.length) vs = K ∧ K = k := ⟨_, rfl, hp.symm⟩
      subst hK
      rw [hvN, hv]
      clear ih hr hp hj hk
      conv => lhs; whnf
      refine loop_go hL (fun r s m => ∃ (j k : Nat), s = [.junk, .ptr 100 0, .junk, I (k : Int), .junk, I (j : Int), .junk, .junk, .junk, .junk, .junk, .junk, .junk, .junk, .junk, .junk, .junk, .junk, .junk, .junk, .junk, .junk, .junk, .junk, .junk, .junk, .junk, .junk, .junk, .junk, .junk, .junk, .junk, .junk, .junk, .junk, .junk, .junk, .junk, .junk, .junk, .junk, .junk, .junk, .junk, .junk, .junk, .junk, .junk, .junk, .junk, .junk, .junk, .junk, .junk, .junk, .junk, .junk] ∧ m = [(100, .box 25 (.agg [SlV vs, SlT ts]), false)] ∧ j ≤ ts.length ∧ r = ts.length + 1 - j ∧ hvT k (ts.drop j) = hvT K ts ∧ k ≤ K + 1000 * j) (ts.length + 1) rfl ⟨0, K, rfl, rfl, by omega, by omega, rfl, by omega⟩ (by omega) ?_
      rintro Lp r s m ⟨j, k, rfl, rfl, hj, hr, hp, hk⟩ ih
      conv => lhs; whnf
      by_cases h : j < ts.length
      · rw [show decide ((j : Int) < ((Els.els (ts.map by_)).len : Int)) = true from dec_ok (by simp [Els.len]; omega)]
        conv => lhs; whnf
        by_cases h' : k ≤ 300
        · rw [show decide ((k : Int) ≤ 300) = true from dec_ok (by omega)]
          conv => lhs; whnf
          refine asrt_step (by first | rfl | (simp [Els.len, eE1, eE2, eE3, bT1, gT1, bT2, gT2, bT3, gT3, Nat.ble_eq]; done) | (simp [Els.len, eE1, eE2, eE3, bT1, gT1, bT2, gT2, bT3, gT3, Nat.ble_eq]; (repeat' apply And.intro) <;> first | omega | exact rfl | exact dec_ok (by omega))) ?_
          conv => lhs; whnf
          try rw [texts_elt h]
          try rw [texts_ix h]
          conv => lhs; whnf
          rw [show IntKind.i64.wrap ((j : Int) + 1) = ((j + 1 : Nat) : Int) from i_wrap (by omega) (by omega)]
          rw [show IntKind.i64.wrap ((k : Int) + IntKind.i64.wrap ((bif decide ((1000000 : Int) < ((Els.ints .u8 ts[j]).len : Int)) then (1000000 : Int) else ((Els.ints .u8 ts[j]).len : Int)).tdiv (1000 : Int))) = ((k + min ts[j].length 1000000 / 1000 : Nat) : Int) from hvW (c := 1000000) (d := 1000) h' (by omega) (by omega)]
          refine ih (ts.length + 1 - (j + 1)) _ _ _ _ rfl ⟨j + 1, _, rfl, rfl, by omega, rfl, ?_, by omega⟩ (by omega)
          rw [← hp, List.drop_eq_getElem_cons h, hvT, if_pos h']
        · rw [show decide ((k : Int) ≤ 300) = false from decide_eq_false (by omega)]
          rw [List.drop_eq_getElem_cons h, hvT, if_neg h'] at hp
          rw [← hp]
          conv => lhs; whnf
          refine congrArg (fun z => some (tB z, [])) ?_
          exact decide_eq_decide.2 (by omega)
      · rw [show decide ((j : Int) < ((Els.els (ts.map by_)).len : Int)) = false from decide_eq_false (by simp [Els.len]; omega)]
        rw [List.drop_of_length_le (by omega), hvT] at hp
        rw [← hp]
        conv => lhs; whnf
        refine congrArg (fun z => some (tB z, [])) ?_
        exact decide_eq_decide.2 (by omega)
  · rw [show decide ((j : Int) < ((Els.els (vs.map Sgn.pv)).len : Int)) = false from decide_eq_false (by simp [Els.len]; omega)]
    rw [List.drop_of_length_le (by omega), hvV] at hp
    obtain ⟨K, hv, hK⟩ : ∃ K, hvV (vs.length + ts.length) vs = K ∧ K = k := ⟨_, rfl, hp.symm⟩
    subst hK
    rw [hvN, hv]
    clear ih hr hp hj hk
    conv => lhs; whnf
    refine loop_go hL (fun r s m => ∃ (j k : Nat), s = [.junk, .ptr 100 0, .junk, I (k : Int), .junk, I (j : Int), .junk, .junk, .junk, .junk, .junk, .junk, .junk, .junk, .junk, .junk, .junk, .junk, .junk, .junk, .junk, .junk, .junk, .junk, .junk, .junk, .junk, .junk, .junk, .junk, .junk, .junk, .junk, .junk, .junk, .junk, .junk, .junk, .junk, .junk, .junk, .junk, .junk, .junk, .junk, .junk, .junk, .junk, .junk, .junk, .junk, .junk, .junk, .junk, .junk, .junk, .junk, .junk] ∧ m = [(100, .box 25 (.agg [SlV vs, SlT ts]), false)] ∧ j ≤ ts.length ∧ r = ts.length + 1 - j ∧ hvT k (ts.drop j) = hvT K ts ∧ k ≤ K + 1000 * j) (ts.length + 1) rfl ⟨0, K, rfl, rfl, by omega, by omega, rfl, by omega⟩ (by omega) ?_
    rintro Lp r s m ⟨j, k, rfl, rfl, hj, hr, hp, hk⟩ ih
    conv => lhs; whnf
    by_cases h : j < ts.length
    · rw [show decide ((j : Int) < ((Els.els (ts.map by_)).len : Int)) = true from dec_ok (by simp [Els.len]; omega)]
      conv => lhs; whnf
      by_cases h' : k ≤ 300
      · rw [show decide ((k : Int) ≤ 300) = true from dec_ok (by omega)]
        conv => lhs; whnf
        refine asrt_step (by first | rfl | (simp [Els.len, eE1, eE2, eE3, bT1, gT1, bT2, gT2, bT3, gT3, Nat.ble_eq]; done) | (simp [Els.len, eE1, eE2, eE3, bT1, gT1, bT2, gT2, bT3, gT3, Nat.ble_eq]; (repeat' apply And.intro) <;> first | omega | exact rfl | exact dec_ok (by omega))) ?_
        conv => lhs; whnf
        try rw [texts_elt h]
        try rw [texts_ix h]
        conv => lhs; whnf
        rw [show IntKind.i64.wrap ((j : Int) + 1) = ((j + 1 : Nat) : Int) from i_wrap (by omega) (by omega)]
        rw [show IntKind.i64.wrap ((k : Int) + IntKind.i64.wrap ((bif decide ((1000000 : Int) < ((Els.ints .u8 ts[j]).len : Int)) then (1000000 : Int) else ((Els.ints .u8 ts[j]).len : Int)).tdiv (1000 : Int))) = ((k + min ts[j].length 1000000 / 1000 : Nat) : Int) from hvW (c := 1000000) (d := 1000) h' (by omega) (by omega)]
        refine ih (ts.length + 1 - (j + 1)) _ _ _ _ rfl ⟨j + 1, _, rfl, rfl, by omega, rfl, ?_, by omega⟩ (by omega)
        rw [← hp, List.drop_eq_getElem_cons h, hvT, if_pos h']
      · rw [show decide ((k : Int) ≤ 300) = false from decide_eq_false (by omega)]
        rw [List.drop_eq_getElem_cons h, hvT, if_neg h'] at hp
        rw [← hp]
        conv => lhs; whnf
        refine congrArg (fun z => some (tB z, [])) ?_
        exact decide_eq_decide.2 (by omega)
    · rw [show decide ((j : Int) < ((Els.els (ts.map by_)).len : Int)) = false from decide_eq_false (by simp [Els.len]; omega)]
      rw [List.drop_of_length_le (by omega), hvT] at hp
      rw [← hp]
      conv => lhs; whnf
      refine congrArg (fun z => some (tB z, [])) ?_
      exact decide_eq_decide.2 (by omega)
end Go.Pm

/- Views, read: of the program. -/
namespace Go.Pm
open Go
set_option maxRecDepth 100000

theorem uint4_val {l : List Int} {k : Nat} (hb : Bs l) (h : k + 4 ≤ l.length) : uintL l k 4 = ((l.getD k 0 * 256 + l.getD (k + 1) 0) * 256 + l.getD (k + 1 + 1) 0) * 256 + l.getD (k + 1 + 1 + 1) 0 := by
  unfold uintL
  rw [take4 h]
  have h0 := getD_Bs hb k
  have h1 := getD_Bs hb (k + 1)
  have h2 := getD_Bs hb (k + 1 + 1)
  have h3 := getD_Bs hb (k + 1 + 1 + 1)
  simp only [List.foldl_cons, List.foldl_nil]
  rw [sl8_val (v := 0) (by omega) (by omega) h0, sl8_val (by omega) (by omega) h1, sl8_val (by omega) (by omega) h2, sl8_val (by omega) (by omega) h3]
  omega
def num4 (l : List Int) (k : Nat) : Nat := (((l.getD k 0 * 256 + l.getD (k + 1) 0) * 256 + l.getD (k + 1 + 1) 0) * 256 + l.getD (k + 1 + 1 + 1) 0).toNat
theorem num4_spec {l : List Int} {k : Nat} (hb : Bs l) (h : k + 4 ≤ l.length) : uintL l k 4 = (num4 l k : Int) ∧ num4 l k < 4294967296 := by
  rw [uint4_val hb h]
  have h0 := getD_Bs hb k
  have h1 := getD_Bs hb (k + 1)
  have h2 := getD_Bs hb (k + 1 + 1)
  have h3 := getD_Bs hb (k + 1 + 1 + 1)
  unfold num4
  omega
def voteAt (l : List Int) (k : Nat) : Sgn := decS ((l.drop k).take 393)
def okAt (l : List Int) (k : Nat) : Bool := decide (k + 393 ≤ l.length) && validV (decV (((l.drop k).take 393).take 23))
def decVs : Nat → List Int → Nat → Option (List Sgn)
  | 0, _, _ => some []
  | n + 1, l, k => if okAt l k then (decVs n l (k + 393)).map (voteAt l k :: ·) else none
def textAt (l : List Int) (k : Nat) : List Int := (l.drop (k + 2)).take (lenAt l k)
def okTx (l : List Int) (k : Nat) : Prop := k + 2 ≤ l.length ∧ k + 2 + lenAt l k ≤ l.length
instance (l : List Int) (k : Nat) : Decidable (okTx l k) := inferInstanceAs (Decidable (_ ∧ _))
def decTs : Nat → List Int → Nat → Option (List (List Int) × Nat)
  | 0, _, k => some ([], k)
  | n + 1, l, k => if okTx l k then (decTs n l (k + 2 + lenAt l k)).map (fun p => (textAt l k :: p.1, p.2)) else none
/-- What is behind the votes. -/
def decRest (vs : List Sgn) (l : List Int) (k : Nat) : Option (List Sgn × List (List Int)) :=
  if k + 4 ≤ l.length then match decTs (num4 l k) l (k + 4) with
    | some (ts, e) => if e = l.length ∧ ordVw vs ts = true then some (vs, ts) else none
    | none => none
  else none
def decVw (l : List Int) : Option (List Sgn × List (List Int)) :=
  if 4 ≤ l.length then match decVs (num4 l 0) l 4 with
    | some vs => decRest vs l (4 + 393 * num4 l 0)
    | none => none
  else none
def rowV (l : List Sgn) : PV := match l with
  | [] => nilS
  | l => .row 62 (votesE l)
def rowT (l : List (List Int)) : PV := match l with
  | [] => nilS
  | l => .row 28 (textsE l)
def zeroV : PV := .agg [nilS, nilS]
def decVwR (l : List Int) : PV := match decVw l with
  | some (vs, ts) => .tup [.agg [rowV vs, rowT ts], I 0]
  | none => .tup [zeroV, I 4]
theorem hdecS_nil {n : Nat} (hn : 1 ≤ n) : tab n 63 [nilS] = some (.tup [zeroS, I 2], []) := by
  obtain ⟨n, rfl⟩ : ∃ m, n = m + 1 := ⟨n - 1, by omega⟩
  refine tab_eval rfl rfl fun T L hT hL => ?_
  conv => lhs; whnf
  rfl
abbrev cvw (x y : PV) : Cont := .box 25 (.agg [x, y])
abbrev ccur (l : List Int) (k : Nat) (bad : Bool) : Cont := .box 159 (curP l k bad)
theorem decVs_step {n : Nat} {l : List Int} {k : Nat} : decVs (n + 1) l k = if okAt l k then (decVs n l (k + 393)).map (voteAt l k :: ·) else none := rfl
theorem decTs_step {n : Nat} {l : List Int} {k : Nat} : decTs (n + 1) l k = if okTx l k then (decTs n l (k + 2 + lenAt l k)).map (fun p => (textAt l k :: p.1, p.2)) else none := rfl
/-- What is to come when p votes are still to be read at k behind these. -/
def goVs (done : List Sgn) (p : Nat) (l : List Int) (k : Nat) : Option (List Sgn × List (List Int)) := match decVs p l k with
  | some vs => decRest (done ++ vs) l (k + 393 * p)
  | none => none
theorem goVs_step {done : List Sgn} {q : Nat} {l : List Int} {k : Nat} (h : okAt l k = true) : goVs done (q + 1) l k = goVs (done ++ [voteAt l k]) q l (k + 393) := by
  unfold goVs
  rw [decVs_step, if_pos h]
  cases decVs q l (k + 393) with
  | none => rfl
  | some vs => simp only [Option.map_some, List.append_assoc, List.cons_append, List.nil_append]; rw [show k + 393 * (q + 1) = k + 393 + 393 * q from by omega]
theorem goVs_none {done : List Sgn} {q : Nat} {l : List Int} {k : Nat} (h : okAt l k = false) : goVs done (q + 1) l k = none := by
  unfold goVs
  rw [decVs_step, if_neg (by simp [h])]
theorem goVs_zero {done : List Sgn} {l : List Int} {k : Nat} : goVs done 0 l k = decRest done l k := by
  simp [goVs, decVs]
def goTs (vs : List Sgn) (done : List (List Int)) (p : Nat) (l : List Int) (k : Nat) : Option (List Sgn × List (List Int)) := match decTs p l k with
  | some (ts, e) => if e = l.length ∧ ordVw vs (done ++ ts) = true then some (vs, done ++ ts) else none
  | none => none
theorem goTs_step {vs : List Sgn} {done : List (List Int)} {q : Nat} {l : List Int} {k : Nat} (h : okTx l k) : goTs vs done (q + 1) l k = goTs vs (done ++ [textAt l k]) q l (k + 2 + lenAt l k) := by
  unfold goTs
  rw [decTs_step, if_pos h]
  cases decTs q l (k + 2 + lenAt l k) with
  | none => rfl
  | some p => simp only [Option.map_some, List.append_assoc, List.cons_append, List.nil_append]
theorem goTs_none {vs : List Sgn} {done : List (List Int)} {q : Nat} {l : List Int} {k : Nat} (h : ¬ okTx l k) : goTs vs done (q + 1) l k = none := by
  unfold goTs
  rw [decTs_step, if_neg h]
theorem goTs_zero {vs : List Sgn} {done : List (List Int)} {l : List Int} {k : Nat} : goTs vs done 0 l k = if k = l.length ∧ ordVw vs done = true then some (vs, done) else none := by
  simp [goTs, decTs]
theorem decRest_go {vs : List Sgn} {l : List Int} {k : Nat} (h : k + 4 ≤ l.length) : decRest vs l k = goTs vs [] (num4 l k) l (k + 4) := by
  unfold decRest goTs
  rw [if_pos h]
  cases decTs (num4 l k) l (k + 4) with
  | none => rfl
  | some p => rfl
theorem decVwR_none {l : List Int} (h : decVw l = none) : decVwR l = .tup [zeroV, I 4] := by simp [decVwR, h]
theorem decVwR_some {l : List Int} {vs : List Sgn} {ts : List (List Int)} (h : decVw l = some (vs, ts)) : decVwR l = .tup [.agg [rowV vs, rowT ts], I 0] := by simp [decVwR, h]
theorem votes_app {done : List Sgn} {s : Sgn} : (done ++ [s]).map Sgn.pv = done.map Sgn.pv ++ [s.pv] := by simp
theorem texts_app {done : List (List Int)} {t : List Int} : (done ++ [t]).map by_ = done.map by_ ++ [by_ t] := by simp
theorem rowV_ne {l : List Sgn} (h : l ≠ []) : rowV l = .row 62 (votesE l) := by cases l with
  | nil => exact absurd rfl h
  | cons => rfl
theorem rowT_ne {l : List (List Int)} (h : l ≠ []) : rowT l = .row 28 (textsE l) := by cases l with
  | nil => exact absurd rfl h
  | cons => rfl
set_option maxHeartbeats 2000000 in
theorem hdecVw_spec {n : Nat} (hn : 7 ≤ n) {l : List Int} (hb : Bs l) (hl : l.length < 1000000000) : tab n 32 [by_ l] = some (decVwR l, []) := by
  obtain ⟨n, rfl⟩ : ∃ m, n = m + 1 := ⟨n - 1, by omega⟩
  refine tab_eval rfl rfl fun T L hT hL => ?_
  conv => lhs; whnf
  refine call_to hT (cnew_spec (by omega)) ?_
  conv => lhs; whnf
  by_cases h4 : 4 ≤ l.length
  case neg =>
    have hc : tab n 61 [curB l 0 false, I (4 : Nat)] = some (I 0, [curP l 0 true]) := by
      rw [cuint_spec (by omega) (by unfold Short; omega) (by omega), if_neg (by omega)]
    rw [decVwR_none (by rw [decVw, if_neg h4])]
    refine call_to hT hc ?_
    conv => lhs; whnf
    refine loop_un hL 1 (by omega) fun q => ?_
    conv => lhs; whnf
    have hc2 : tab n 61 [curB l 0 true, I (4 : Nat)] = some (I 0, [curP l 0 true]) := by
      rw [cuint_spec (by omega) (by unfold Short; omega) (by omega), if_neg (by simp)]
    refine call_to hT hc2 ?_
    conv => lhs; whnf
    refine loop_un hL 1 (by omega) fun q => ?_
    conv => lhs; whnf
    refine call_to hT (cdone_spec (by omega)) ?_
    conv => lhs; whnf
    rfl
  obtain ⟨hn4, hn4'⟩ := num4_spec (k := 0) hb (by omega)
  have hc : tab n 61 [curB l 0 false, I (4 : Nat)] = some (I (num4 l 0 : Int), [curP l 4 false]) := by
    rw [cuint_spec (by omega) (by unfold Short; omega) (by omega), if_pos ⟨rfl, by omega⟩, hn4, i_wrap (by omega) (by omega)]
  refine call_to hT hc ?_
  conv => lhs; whnf
  refine loop_go hL (fun r s m => ∃ (k p : Nat) (done : List Sgn) (E : List PV), s = [.junk, .junk, .ptr 100 0, .junk, .ptr 101 0, .ptr 102 0, I (p : Int), .junk, .junk, .junk, .junk, .junk, .junk, .junk, .junk, .junk, .junk, .junk, .junk, .junk, .junk, .junk, .junk, .junk, .junk, .junk, .junk, .junk, .junk, .junk, .junk, .junk, .junk, .junk, .junk, .junk, .junk, .junk, .junk, .junk, .junk, .junk, .junk, .junk, .junk, .junk, .junk, .junk, .junk, .junk, .junk, .junk, .junk, .junk, .junk, .junk, .junk, .junk, .junk, .junk, .junk, .junk, .junk, .junk] ∧ p < 4294967296 ∧ k ≤ l.length ∧ k = 4 + 393 * done.length ∧ r = p + 1 ∧ decVw l = goVs done p l k ∧ E = done.map Sgn.pv ∧ (∀ s ∈ done, Bs s.sig) ∧
    ((done = [] ∧ m = [(100, cvw nilS nilS, false), (101, ccur l k false, false), (102, cvw nilS nilS, false)]) ∨ (done ≠ [] ∧ m = [(100, cvw nilS nilS, false), (101, ccur l k false, false), (102, cvw (.ref 103) nilS, false), (103, .row 62 (.els E), false)]))) (num4 l 0 + 1) rfl
    ⟨4, num4 l 0, [], _, rfl, hn4', h4, rfl, rfl, by rw [decVw, if_pos h4]; rfl, rfl, by simp, .inl ⟨rfl, rfl⟩⟩ (by omega) ?_
  rintro Lp r s m ⟨k, p, done, E, rfl, hp, hk, hkd, hr, hgo, hE, hsb, hm⟩ ih
  have hEl : E.length = done.length := by rw [hE]; simp
  cases p with
  | succ q =>
    rcases hm with ⟨hd, rfl⟩ | ⟨hd, rfl⟩
    · conv => lhs; whnf
      rw [show decide (((q + 1 : Nat) : Int) > 0) = true from dec_ok (by omega)]
      conv => lhs; whnf
      refine call_to hT (cok_spec (by omega)) ?_
      conv => lhs; whnf
      by_cases hf : k + 393 ≤ l.length
      · have hfx : tab n 64 [curB l k false, I (393 : Nat)] = some (byR ((l.drop k).take 393), [curP l (k + 393) false]) := by
          rw [cfixed_spec (by omega) (by unfold Short; omega) (by omega), if_pos hf]
        refine call_to hT hfx ?_
        conv => lhs; whnf
        have hb' : Bs ((l.drop k).take 393) := fun z hz => hb z (List.mem_of_mem_drop (List.mem_of_mem_take hz))
        have hds : tab n 63 [by_ ((l.drop k).take 393)] = some (bif validV (decV (((l.drop k).take 393).take 23)) then .tup [sgnR (voteAt l k), I 0] else .tup [zeroS, I 11], []) := by
          rw [hdecS_spec (by omega) hb' (by unfold Short; rw [List.length_take]; omega)]
          rw [decSR, if_neg (by rw [List.length_take, List.length_drop]; omega), if_neg (by rw [List.length_take, List.length_drop]; omega)]
          rfl
        refine call_to hT hds ?_
        cases hv : validV (decV (((l.drop k).take 393).take 23))
        · have ho : okAt l k = false := by simp [okAt, hv]
          rw [decVwR_none (by rw [hgo, goVs_none ho])]
          conv => lhs; whnf
          rfl
        · have ho : okAt l k = true := by simp [okAt, hv, hf]
          conv => lhs; whnf
          refine asrt_step (by first | rfl | (simp [Els.len, eE1, eE2, eE3, bT1, gT1, bT2, gT2, bT3, gT3, Nat.ble_eq]; done) | (simp [Els.len, eE1, eE2, eE3, bT1, gT1, bT2, gT2, bT3, gT3, Nat.ble_eq]; (repeat' apply And.intro) <;> first | omega | exact rfl | exact dec_ok (by omega))) ?_
          conv => lhs; whnf
          rw [show IntKind.i64.wrap (((q + 1 : Nat) : Int) - 1) = (q : Int) from by rw [i_wrap (by omega) (by omega)]; omega]
          refine ih (q + 1) _ _ _ _ rfl ⟨k + 393, q, done ++ [voteAt l k], _, rfl, by omega, hf, by simp; omega, rfl, by rw [hgo, goVs_step ho], by subst hd; rfl, ?_, .inr ⟨by simp, rfl⟩⟩ (by omega)
          intro s hs
          rcases List.mem_append.1 hs with hs | hs
          · exact hsb s hs
          · rw [List.mem_singleton.1 hs]
            exact fun z hz => hb' z (List.mem_of_mem_drop hz)
      · have hfx : tab n 64 [curB l k false, I (393 : Nat)] = some (nilS, [curP l k true]) := by
          rw [cfixed_spec (by omega) (by unfold Short; omega) (by omega), if_neg hf]
        refine call_to hT hfx ?_
        conv => lhs; whnf
        refine call_to hT (hdecS_nil (by omega)) ?_
        have ho : okAt l k = false := by simp [okAt, hf]
        rw [decVwR_none (by rw [hgo, goVs_none ho])]
        conv => lhs; whnf
        rfl
    · conv => lhs; whnf
      rw [show decide (((q + 1 : Nat) : Int) > 0) = true from dec_ok (by omega)]
      conv => lhs; whnf
      refine call_to hT (cok_spec (by omega)) ?_
      conv => lhs; whnf
      by_cases hf : k + 393 ≤ l.length
      · have hfx : tab n 64 [curB l k false, I (393 : Nat)] = some (byR ((l.drop k).take 393), [curP l (k + 393) false]) := by
          rw [cfixed_spec (by omega) (by unfold Short; omega) (by omega), if_pos hf]
        refine call_to hT hfx ?_
        conv => lhs; whnf
        have hb' : Bs ((l.drop k).take 393) := fun z hz => hb z (List.mem_of_mem_drop (List.mem_of_mem_take hz))
        have hds : tab n 63 [by_ ((l.drop k).take 393)] = some (bif validV (decV (((l.drop k).take 393).take 23)) then .tup [sgnR (voteAt l k), I 0] else .tup [zeroS, I 11], []) := by
          rw [hdecS_spec (by omega) hb' (by unfold Short; rw [List.length_take]; omega)]
          rw [decSR, if_neg (by rw [List.length_take, List.length_drop]; omega), if_neg (by rw [List.length_take, List.length_drop]; omega)]
          rfl
        refine call_to hT hds ?_
        cases hv : validV (decV (((l.drop k).take 393).take 23))
        · have ho : okAt l k = false := by simp [okAt, hv]
          rw [decVwR_none (by rw [hgo, goVs_none ho])]
          conv => lhs; whnf
          rfl
        · have ho : okAt l k = true := by simp [okAt, hv, hf]
          conv => lhs; whnf
          refine asrt_step (by first | rfl | (simp [Els.len, eE1, eE2, eE3, bT1, gT1, bT2, gT2, bT3, gT3, Nat.ble_eq]; done) | (simp [Els.len, eE1, eE2, eE3, bT1, gT1, bT2, gT2, bT3, gT3, Nat.ble_eq]; (repeat' apply And.intro) <;> first | omega | exact rfl | exact dec_ok (by omega))) ?_
          conv => lhs; whnf
          rw [show IntKind.i64.wrap (((q + 1 : Nat) : Int) - 1) = (q : Int) from by rw [i_wrap (by omega) (by omega)]; omega]
          refine ih (q + 1) _ _ _ _ rfl ⟨k + 393, q, done ++ [voteAt l k], _, rfl, by omega, hf, by simp; omega, rfl, by rw [hgo, goVs_step ho], by rw [votes_app, hE]; rfl, ?_, .inr ⟨by simp, rfl⟩⟩ (by omega)
          intro s hs
          rcases List.mem_append.1 hs with hs | hs
          · exact hsb s hs
          · rw [List.mem_singleton.1 hs]
            exact fun z hz => hb' z (List.mem_of_mem_drop hz)
      · have hfx : tab n 64 [curB l k false, I (393 : Nat)] = some (nilS, [curP l k true]) := by
          rw [cfixed_spec (by omega) (by unfold Short; omega) (by omega), if_neg hf]
        refine call_to hT hfx ?_
        conv => lhs; whnf
        refine call_to hT (hdecS_nil (by omega)) ?_
        have ho : okAt l k = false := by simp [okAt, hf]
        rw [decVwR_none (by rw [hgo, goVs_none ho])]
        conv => lhs; whnf
        rfl
  | zero =>
    rcases hm with ⟨hd, rfl⟩ | ⟨hd, rfl⟩
    · conv => lhs; whnf
      by_cases h5 : k + 4 ≤ l.length
      case neg =>
        have hc : tab n 61 [curB l k false, I (4 : Nat)] = some (I 0, [curP l k true]) := by
          rw [cuint_spec (by omega) (by unfold Short; omega) (by omega), if_neg (by omega)]
        rw [decVwR_none (by rw [hgo, goVs_zero, decRest, if_neg h5])]
        refine call_to hT hc ?_
        conv => lhs; whnf
        refine loop_un hL 1 (by omega) fun q => ?_
        conv => lhs; whnf
        refine call_to hT (cdone_spec (by omega)) ?_
        conv => lhs; whnf
        rfl
      obtain ⟨hn5, hn5'⟩ := num4_spec (k := k) hb h5
      have hc : tab n 61 [curB l k false, I (4 : Nat)] = some (I (num4 l k : Int), [curP l (k + 4) false]) := by
        rw [cuint_spec (by omega) (by unfold Short; omega) (by omega), if_pos ⟨rfl, by omega⟩, hn5, i_wrap (by omega) (by omega)]
      refine call_to hT hc ?_
      rw [goVs_zero, decRest_go h5] at hgo
      have hvl : done.length < 1000000000000 := by omega
      clear ih hr hp hc hn5
      generalize hk5 : num4 l k = p0 at hn5' hgo ⊢
      conv => lhs; whnf
      refine loop_go hL (fun r s m => ∃ (k p : Nat) (td : List (List Int)) (F : List PV), s = [.junk, .junk, .ptr 100 0, .junk, .ptr 101 0, .ptr 102 0, .junk, .junk, .junk, I (p : Int), .junk, .junk, .junk, .junk, .junk, .junk, .junk, .junk, .junk, .junk, .junk, .junk, .junk, .junk, .junk, .junk, .junk, .junk, .junk, .junk, .junk, .junk, .junk, .junk, .junk, .junk, .junk, .junk, .junk, .junk, .junk, .junk, .junk, .junk, .junk, .junk, .junk, .junk, .junk, .junk, .junk, .junk, .junk, .junk, .junk, .junk, .junk, .junk, .junk, .junk, .junk, .junk, .junk, .junk] ∧ p < 4294967296 ∧ k ≤ l.length ∧ r = p + 1 ∧
        ((td = [] ∧ decVw l = goTs done td p l k ∧ m = [(100, cvw nilS nilS, false), (101, ccur l k false, false), (102, cvw nilS nilS, false)]) ∨ (td ≠ [] ∧ td.length ≤ k ∧ F = td.map by_ ∧ (∀ t ∈ td, Bs t) ∧ decVw l = goTs done td p l k ∧ m = [(100, cvw nilS nilS, false), (101, ccur l k false, false), (102, cvw nilS (.ref 103), false), (103, .row 28 (.els F), false)]) ∨ (decVw l = none ∧ m = [(100, cvw nilS nilS, false), (101, ccur l k true, false), (102, cvw nilS (.ref 103), false), (103, .row 28 (.els F), false)]))) (p0 + 1) rfl
        ⟨k + 4, p0, [], [], rfl, hn5', h5, rfl, .inl ⟨rfl, hgo, rfl⟩⟩ (by omega) ?_
      clear hgo h5 hk hkd hk5
      rintro Lp r s m ⟨k, p, td, F, rfl, hp, hk, hr, hm⟩ ih
      cases p with
      | succ q =>
        rcases hm with ⟨ht, hgo, rfl⟩ | ⟨ht, htl, hF, htb, hgo, rfl⟩ | ⟨hgo, rfl⟩
        · conv => lhs; whnf
          rw [show decide (((q + 1 : Nat) : Int) > 0) = true from dec_ok (by omega)]
          conv => lhs; whnf
          refine call_to hT (cok_spec (by omega)) ?_
          conv => lhs; whnf
          by_cases hf : okTx l k
          · have hfx : tab n 65 [curB l k false] = some (byR (textAt l k), [curP l (k + 2 + lenAt l k) false]) := by
              rw [cbytes_spec (by omega) hb (by unfold Short; omega) (by omega), if_pos (show k + 2 ≤ l.length ∧ k + 2 + lenAt l k ≤ l.length from hf)]; rfl
            have hf2 := hf.2
            refine call_to hT hfx ?_
            conv => lhs; whnf
            refine asrt_step (by first | rfl | (simp [Els.len, eE1, eE2, eE3, bT1, gT1, bT2, gT2, bT3, gT3, Nat.ble_eq]; done) | (simp [Els.len, eE1, eE2, eE3, bT1, gT1, bT2, gT2, bT3, gT3, Nat.ble_eq]; (repeat' apply And.intro) <;> first | omega | exact rfl | exact dec_ok (by omega))) ?_
            conv => lhs; whnf
            rw [show IntKind.i64.wrap (((q + 1 : Nat) : Int) - 1) = (q : Int) from by rw [i_wrap (by omega) (by omega)]; omega]
            refine ih (q + 1) _ _ _ _ rfl ⟨k + 2 + lenAt l k, q, td ++ [textAt l k], _, rfl, by omega, hf.2, rfl, .inr (.inl ⟨by simp, by subst ht; simp; omega, by subst ht; rfl, ?_, by rw [hgo, goTs_step hf], rfl⟩)⟩ (by omega)
            intro t hs
            rcases List.mem_append.1 hs with hs | hs
            · rw [ht] at hs; cases hs
            · rw [List.mem_singleton.1 hs]
              exact fun z hz => hb z (List.mem_of_mem_drop (List.mem_of_mem_take hz))
          · have hfx : tab n 65 [curB l k false] = some (nilS, [curP l k true]) := by
              rw [cbytes_spec (by omega) hb (by unfold Short; omega) (by omega), if_neg (show ¬ (k + 2 ≤ l.length ∧ k + 2 + lenAt l k ≤ l.length) from hf)]
            refine call_to hT hfx ?_
            conv => lhs; whnf
            refine asrt_step (by first | rfl | (simp [Els.len, eE1, eE2, eE3, bT1, gT1, bT2, gT2, bT3, gT3, Nat.ble_eq]; done) | (simp [Els.len, eE1, eE2, eE3, bT1, gT1, bT2, gT2, bT3, gT3, Nat.ble_eq]; (repeat' apply And.intro) <;> first | omega | exact rfl | exact dec_ok (by omega))) ?_
            conv => lhs; whnf
            rw [show IntKind.i64.wrap (((q + 1 : Nat) : Int) - 1) = (q : Int) from by rw [i_wrap (by omega) (by omega)]; omega]
            exact ih (q + 1) _ _ _ _ rfl ⟨k, q, td, _, rfl, by omega, hk, rfl, .inr (.inr ⟨by rw [hgo, goTs_none hf], rfl⟩)⟩ (by omega)
        · have hFl : F.length = td.length := by rw [hF]; simp
          conv => lhs; whnf
          rw [show decide (((q + 1 : Nat) : Int) > 0) = true from dec_ok (by omega)]
          conv => lhs; whnf
          refine call_to hT (cok_spec (by omega)) ?_
          conv => lhs; whnf
          by_cases hf : okTx l k
          · have hfx : tab n 65 [curB l k false] = some (byR (textAt l k), [curP l (k + 2 + lenAt l k) false]) := by
              rw [cbytes_spec (by omega) hb (by unfold Short; omega) (by omega), if_pos (show k + 2 ≤ l.length ∧ k + 2 + lenAt l k ≤ l.length from hf)]; rfl
            have hf2 := hf.2
            refine call_to hT hfx ?_
            conv => lhs; whnf
            refine asrt_step (by first | rfl | (simp [Els.len, eE1, eE2, eE3, bT1, gT1, bT2, gT2, bT3, gT3, Nat.ble_eq]; done) | (simp [Els.len, eE1, eE2, eE3, bT1, gT1, bT2, gT2, bT3, gT3, Nat.ble_eq]; (repeat' apply And.intro) <;> first | omega | exact rfl | exact dec_ok (by omega))) ?_
            conv => lhs; whnf
            rw [show IntKind.i64.wrap (((q + 1 : Nat) : Int) - 1) = (q : Int) from by rw [i_wrap (by omega) (by omega)]; omega]
            refine ih (q + 1) _ _ _ _ rfl ⟨k + 2 + lenAt l k, q, td ++ [textAt l k], _, rfl, by omega, hf.2, rfl, .inr (.inl ⟨by simp, by simp; omega, by rw [texts_app, hF]; rfl, ?_, by rw [hgo, goTs_step hf], rfl⟩)⟩ (by omega)
            intro t hs
            rcases List.mem_append.1 hs with hs | hs
            · exact htb t hs
            · rw [List.mem_singleton.1 hs]
              exact fun z hz => hb z (List.mem_of_mem_drop (List.mem_of_mem_take hz))
          · have hfx : tab n 65 [curB l k false] = some (nilS, [curP l k true]) := by
              rw [cbytes_spec (by omega) hb (by unfold Short; omega) (by omega), if_neg (show ¬ (k + 2 ≤ l.length ∧ k + 2 + lenAt l k ≤ l.length) from hf)]
            refine call_to hT hfx ?_
            conv => lhs; whnf
            refine asrt_step (by first | rfl | (simp [Els.len, eE1, eE2, eE3, bT1, gT1, bT2, gT2, bT3, gT3, Nat.ble_eq]; done) | (simp [Els.len, eE1, eE2, eE3, bT1, gT1, bT2, gT2, bT3, gT3, Nat.ble_eq]; (repeat' apply And.intro) <;> first | omega | exact rfl | exact dec_ok (by omega))) ?_
            conv => lhs; whnf
            rw [show IntKind.i64.wrap (((q + 1 : Nat) : Int) - 1) = (q : Int) from by rw [i_wrap (by omega) (by omega)]; omega]
            exact ih (q + 1) _ _ _ _ rfl ⟨k, q, td, _, rfl, by omega, hk, rfl, .inr (.inr ⟨by rw [hgo, goTs_none hf], rfl⟩)⟩ (by omega)
        · conv => lhs; whnf
          rw [show decide (((q + 1 : Nat) : Int) > 0) = true from dec_ok (by omega)]
          conv => lhs; whnf
          refine call_to hT (cok_spec (by omega)) ?_
          rw [decVwR_none hgo]
          conv => lhs; whnf
          refine call_to hT (cdone_spec (by omega)) ?_
          conv => lhs; whnf
          rfl
      | zero =>
        rcases hm with ⟨ht, hgo, rfl⟩ | ⟨ht, htl, hF, htb, hgo, rfl⟩ | ⟨hgo, rfl⟩
        · conv => lhs; whnf
          refine call_to hT (cdone_spec (by omega)) ?_
          rw [goTs_zero] at hgo
          by_cases hk2 : k = l.length
          · rw [show decide (k = l.length) = true from dec_ok hk2]
            conv => lhs; whnf
            refine call_to hT (ordered_spec (by omega) (vs := done) (ts := td) (.inl ⟨rfl, hd⟩) (.inl ⟨rfl, ht⟩) hvl (by subst ht; simp) hsb (by rw [ht]; simp)) ?_
            cases ho : ordVw done td
            · rw [decVwR_none (by rw [hgo, if_neg (by simp [ho])])]
              conv => lhs; whnf
              rfl
            · rw [decVwR_some (by rw [hgo, if_pos ⟨hk2, ho⟩])]
              conv => lhs; whnf
              subst hd
              subst ht
              rfl
          · rw [show decide (k = l.length) = false from decide_eq_false hk2]
            rw [decVwR_none (by rw [hgo, if_neg (by simp [hk2])])]
            conv => lhs; whnf
            rfl
        · conv => lhs; whnf
          refine call_to hT (cdone_spec (by omega)) ?_
          rw [goTs_zero] at hgo
          by_cases hk2 : k = l.length
          · rw [show decide (k = l.length) = true from dec_ok hk2]
            conv => lhs; whnf
            refine call_to hT (ordered_spec (by omega) (vs := done) (ts := td) (.inl ⟨rfl, hd⟩) (.inr (by rw [hF]; rfl)) hvl (by omega) hsb htb) ?_
            cases ho : ordVw done td
            · rw [decVwR_none (by rw [hgo, if_neg (by simp [ho])])]
              conv => lhs; whnf
              rfl
            · rw [decVwR_some (by rw [hgo, if_pos ⟨hk2, ho⟩])]
              conv => lhs; whnf
              subst hd
              rw [rowT_ne ht, textsE, ← hF]
              rfl
          · rw [show decide (k = l.length) = false from decide_eq_false hk2]
            rw [decVwR_none (by rw [hgo, if_neg (by simp [hk2])])]
            conv => lhs; whnf
            rfl
        · conv => lhs; whnf
          refine call_to hT (cdone_spec (by omega)) ?_
          rw [decVwR_none hgo]
          conv => lhs; whnf
          rfl
    · conv => lhs; whnf
      by_cases h5 : k + 4 ≤ l.length
      case neg =>
        have hc : tab n 61 [curB l k false, I (4 : Nat)] = some (I 0, [curP l k true]) := by
          rw [cuint_spec (by omega) (by unfold Short; omega) (by omega), if_neg (by omega)]
        rw [decVwR_none (by rw [hgo, goVs_zero, decRest, if_neg h5])]
        refine call_to hT hc ?_
        conv => lhs; whnf
        refine loop_un hL 1 (by omega) fun q => ?_
        conv => lhs; whnf
        refine call_to hT (cdone_spec (by omega)) ?_
        conv => lhs; whnf
        rfl
      obtain ⟨hn5, hn5'⟩ := num4_spec (k := k) hb h5
      have hc : tab n 61 [curB l k false, I (4 : Nat)] = some (I (num4 l k : Int), [curP l (k + 4) false]) := by
        rw [cuint_spec (by omega) (by unfold Short; omega) (by omega), if_pos ⟨rfl, by omega⟩, hn5, i_wrap (by omega) (by omega)]
      refine call_to hT hc ?_
      rw [goVs_zero, decRest_go h5] at hgo
      have hvl : done.length < 1000000000000 := by omega
      clear ih hr hp hc hn5
      generalize hk5 : num4 l k = p0 at hn5' hgo ⊢
      conv => lhs; whnf
      refine loop_go hL (fun r s m => ∃ (k p : Nat) (td : List (List Int)) (F : List PV), s = [.junk, .junk, .ptr 100 0, .junk, .ptr 101 0, .ptr 102 0, .junk, .junk, .junk, I (p : Int), .junk, .junk, .junk, .junk, .junk, .junk, .junk, .junk, .junk, .junk, .junk, .junk, .junk, .junk, .junk, .junk, .junk, .junk, .junk, .junk, .junk, .junk, .junk, .junk, .junk, .junk, .junk, .junk, .junk, .junk, .junk, .junk, .junk, .junk, .junk, .junk, .junk, .junk, .junk, .junk, .junk, .junk, .junk, .junk, .junk, .junk, .junk, .junk, .junk, .junk, .junk, .junk, .junk, .junk] ∧ p < 4294967296 ∧ k ≤ l.length ∧ r = p + 1 ∧
        ((td = [] ∧ decVw l = goTs done td p l k ∧ m = [(100, cvw nilS nilS, false), (101, ccur l k false, false), (102, cvw (.ref 103) nilS, false), (103, .row 62 (.els E), false)]) ∨ (td ≠ [] ∧ td.length ≤ k ∧ F = td.map by_ ∧ (∀ t ∈ td, Bs t) ∧ decVw l = goTs done td p l k ∧ m = [(100, cvw nilS nilS, false), (101, ccur l k false, false), (102, cvw (.ref 103) (.ref 104), false), (103, .row 62 (.els E), false), (104, .row 28 (.els F), false)]) ∨ (decVw l = none ∧ m = [(100, cvw nilS nilS, false), (101, ccur l k true, false), (102, cvw (.ref 103) (.ref 104), false), (103, .row 62 (.els E), false), (104, .row 28 (.els F), false)]))) (p0 + 1) rfl
        ⟨k + 4, p0, [], [], rfl, hn5', h5, rfl, .inl ⟨rfl, hgo, rfl⟩⟩ (by omega) ?_
      clear hgo h5 hk hkd hk5
      rintro Lp r s m ⟨k, p, td, F, rfl, hp, hk, hr, hm⟩ ih
      cases p with
      | succ q =>
        rcases hm with ⟨ht, hgo, rfl⟩ | ⟨ht, htl, hF, htb, hgo, rfl⟩ | ⟨hgo, rfl⟩
        · conv => lhs; whnf
          rw [show decide (((q + 1 : Nat) : Int) > 0) = true from dec_ok (by omega)]
          conv => lhs; whnf
          refine call_to hT (cok_spec (by omega)) ?_
          conv => lhs; whnf
          by_cases hf : okTx l k
          · have hfx : tab n 65 [curB l k false] = some (byR (textAt l k), [curP l (k + 2 + lenAt l k) false]) := by
              rw [cbytes_spec (by omega) hb (by unfold Short; omega) (by omega), if_pos (show k + 2 ≤ l.length ∧ k + 2 + lenAt l k ≤ l.length from hf)]; rfl
            have hf2 := hf.2
            refine call_to hT hfx ?_
            conv => lhs; whnf
            refine asrt_step (by first | rfl | (simp [Els.len, eE1, eE2, eE3, bT1, gT1, bT2, gT2, bT3, gT3, Nat.ble_eq]; done) | (simp [Els.len, eE1, eE2, eE3, bT1, gT1, bT2, gT2, bT3, gT3, Nat.ble_eq]; (repeat' apply And.intro) <;> first | omega | exact rfl | exact dec_ok (by omega))) ?_
            conv => lhs; whnf
            rw [show IntKind.i64.wrap (((q + 1 : Nat) : Int) - 1) = (q : Int) from by rw [i_wrap (by omega) (by omega)]; omega]
            refine ih (q + 1) _ _ _ _ rfl ⟨k + 2 + lenAt l k, q, td ++ [textAt l k], _, rfl, by omega, hf.2, rfl, .inr (.inl ⟨by simp, by subst ht; simp; omega, by subst ht; rfl, ?_, by rw [hgo, goTs_step hf], rfl⟩)⟩ (by omega)
            intro t hs
            rcases List.mem_append.1 hs with hs | hs
            · rw [ht] at hs; cases hs
            · rw [List.mem_singleton.1 hs]
              exact fun z hz => hb z (List.mem_of_mem_drop (List.mem_of_mem_take hz))
          · have hfx : tab n 65 [curB l k false] = some (nilS, [curP l k true]) := by
              rw [cbytes_spec (by omega) hb (by unfold Short; omega) (by omega), if_neg (show ¬ (k + 2 ≤ l.length ∧ k + 2 + lenAt l k ≤ l.length) from hf)]
            refine call_to hT hfx ?_
            conv => lhs; whnf
            refine asrt_step (by first | rfl | (simp [Els.len, eE1, eE2, eE3, bT1, gT1, bT2, gT2, bT3, gT3, Nat.ble_eq]; done) | (simp [Els.len, eE1, eE2, eE3, bT1, gT1, bT2, gT2, bT3, gT3, Nat.ble_eq]; (repeat' apply And.intro) <;> first | omega | exact rfl | exact dec_ok (by omega))) ?_
            conv => lhs; whnf
            rw [show IntKind.i64.wrap (((q + 1 : Nat) : Int) - 1) = (q : Int) from by rw [i_wrap (by omega) (by omega)]; omega]
            exact ih (q + 1) _ _ _ _ rfl ⟨k, q, td, _, rfl, by omega, hk, rfl, .inr (.inr ⟨by rw [hgo, goTs_none hf], rfl⟩)⟩ (by omega)
        · have hFl : F.length = td.length := by rw [hF]; simp
          conv => lhs; whnf
          rw [show decide (((q + 1 : Nat) : Int) > 0) = true from dec_ok (by omega)]
          conv => lhs; whnf
          refine call_to hT (cok_spec (by omega)) ?_
          conv => lhs; whnf
          by_cases hf : okTx l k
          · have hfx : tab n 65 [curB l k false] = some (byR (textAt l k), [curP l (k + 2 + lenAt l k) false]) := by
              rw [cbytes_spec (by omega) hb (by unfold Short; omega) (by omega), if_pos (show k + 2 ≤ l.length ∧ k + 2 + lenAt l k ≤ l.length from hf)]; rfl
            have hf2 := hf.2
            refine call_to hT hfx ?_
            conv => lhs; whnf
            refine asrt_step (by first | rfl | (simp [Els.len, eE1, eE2, eE3, bT1, gT1, bT2, gT2, bT3, gT3, Nat.ble_eq]; done) | (simp [Els.len, eE1, eE2, eE3, bT1, gT1, bT2, gT2, bT3, gT3, Nat.ble_eq]; (repeat' apply And.intro) <;> first | omega | exact rfl | exact dec_ok (by omega))) ?_
            conv => lhs; whnf
            rw [show IntKind.i64.wrap (((q + 1 : Nat) : Int) - 1) = (q : Int) from by rw [i_wrap (by omega) (by omega)]; omega]
            refine ih (q + 1) _ _ _ _ rfl ⟨k + 2 + lenAt l k, q, td ++ [textAt l k], _, rfl, by omega, hf.2, rfl, .inr (.inl ⟨by simp, by simp; omega, by rw [texts_app, hF]; rfl, ?_, by rw [hgo, goTs_step hf], rfl⟩)⟩ (by omega)
            intro t hs
            rcases List.mem_append.1 hs with hs | hs
            · exact htb t hs
            · rw [List.mem_singleton.1 hs]
              exact fun z hz => hb z (List.mem_of_mem_drop (List.mem_of_mem_take hz))
          · have hfx : tab n 65 [curB l k false] = some (nilS, [curP l k true]) := by
              rw [cbytes_spec (by omega) hb (by unfold Short; omega) (by omega), if_neg (show ¬ (k + 2 ≤ l.length ∧ k + 2 + lenAt l k ≤ l.length) from hf)]
            refine call_to hT hfx ?_
            conv => lhs; whnf
            refine asrt_step (by first | rfl | (simp [Els.len, eE1, eE2, eE3, bT1, gT1, bT2, gT2, bT3, gT3, Nat.ble_eq]; done) | (simp [Els.len, eE1, eE2, eE3, bT1, gT1, bT2, gT2, bT3, gT3, Nat.ble_eq]; (repeat' apply And.intro) <;> first | omega | exact rfl | exact dec_ok (by omega))) ?_
            conv => lhs; whnf
            rw [show IntKind.i64.wrap (((q + 1 : Nat) : Int) - 1) = (q : Int) from by rw [i_wrap (by omega) (by omega)]; omega]
            exact ih (q + 1) _ _ _ _ rfl ⟨k, q, td, _, rfl, by omega, hk, rfl, .inr (.inr ⟨by rw [hgo, goTs_none hf], rfl⟩)⟩ (by omega)
        · conv => lhs; whnf
          rw [show decide (((q + 1 : Nat) : Int) > 0) = true from dec_ok (by omega)]
          conv => lhs; whnf
          refine call_to hT (cok_spec (by omega)) ?_
          rw [decVwR_none hgo]
          conv => lhs; whnf
          refine call_to hT (cdone_spec (by omega)) ?_
          conv => lhs; whnf
          rfl
      | zero =>
        rcases hm with ⟨ht, hgo, rfl⟩ | ⟨ht, htl, hF, htb, hgo, rfl⟩ | ⟨hgo, rfl⟩
        · conv => lhs; whnf
          refine call_to hT (cdone_spec (by omega)) ?_
          rw [goTs_zero] at hgo
          by_cases hk2 : k = l.length
          · rw [show decide (k = l.length) = true from dec_ok hk2]
            conv => lhs; whnf
            refine call_to hT (ordered_spec (by omega) (vs := done) (ts := td) (.inr (by rw [hE]; rfl)) (.inl ⟨rfl, ht⟩) hvl (by subst ht; simp) hsb (by rw [ht]; simp)) ?_
            cases ho : ordVw done td
            · rw [decVwR_none (by rw [hgo, if_neg (by simp [ho])])]
              conv => lhs; whnf
              rfl
            · rw [decVwR_some (by rw [hgo, if_pos ⟨hk2, ho⟩])]
              conv => lhs; whnf
              rw [rowV_ne hd, votesE, ← hE]
              subst ht
              rfl
          · rw [show decide (k = l.length) = false from decide_eq_false hk2]
            rw [decVwR_none (by rw [hgo, if_neg (by simp [hk2])])]
            conv => lhs; whnf
            rfl
        · conv => lhs; whnf
          refine call_to hT (cdone_spec (by omega)) ?_
          rw [goTs_zero] at hgo
          by_cases hk2 : k = l.length
          · rw [show decide (k = l.length) = true from dec_ok hk2]
            conv => lhs; whnf
            refine call_to hT (ordered_spec (by omega) (vs := done) (ts := td) (.inr (by rw [hE]; rfl)) (.inr (by rw [hF]; rfl)) hvl (by omega) hsb htb) ?_
            cases ho : ordVw done td
            · rw [decVwR_none (by rw [hgo, if_neg (by simp [ho])])]
              conv => lhs; whnf
              rfl
            · rw [decVwR_some (by rw [hgo, if_pos ⟨hk2, ho⟩])]
              conv => lhs; whnf
              rw [rowV_ne hd, votesE, ← hE]
              rw [rowT_ne ht, textsE, ← hF]
              rfl
          · rw [show decide (k = l.length) = false from decide_eq_false hk2]
            rw [decVwR_none (by rw [hgo, if_neg (by simp [hk2])])]
            conv => lhs; whnf
            rfl
        · conv => lhs; whnf
          refine call_to hT (cdone_spec (by omega)) ?_
          rw [decVwR_none hgo]
          conv => lhs; whnf
          rfl
end Go.Pm

/- Views, read: of the reference. -/
namespace Go.Pm
open Go
set_option maxRecDepth 100000

theorem decVs_len : ∀ {n : Nat} {l : List Int} {k : Nat} {vs : List Sgn}, decVs n l k = some vs → vs.length = n ∧ (n = 0 ∨ k + 393 * n ≤ l.length) ∧ vs.all okS = true
  | 0, l, k, vs, h => by
    simp only [decVs, Option.some.injEq] at h
    subst h
    exact ⟨rfl, .inl rfl, rfl⟩
  | n + 1, l, k, vs, h => by
    rw [decVs_step] at h
    split at h
    · rename_i ho
      cases hd : decVs n l (k + 393) with
      | none => rw [hd] at h; cases h
      | some ws =>
        rw [hd] at h
        simp only [Option.map_some, Option.some.injEq] at h
        subst h
        obtain ⟨h1, h2, h3⟩ := decVs_len hd
        unfold okAt at ho
        simp only [Bool.and_eq_true, decide_eq_true_eq] at ho
        refine ⟨by simp [h1], .inr (by omega), ?_⟩
        rw [List.all_cons, h3, Bool.and_true, okS]
        have e1 : validV (voteAt l k).vote = true := ho.2
        have e2 : (voteAt l k).sig.length = 370 := by
          show (((l.drop k).take 393).drop 23).length = 370
          rw [List.length_drop, List.length_take, List.length_drop]
          omega
        rw [e1, e2]
        rfl
    · cases h
theorem decTs_len : ∀ {n : Nat} {l : List Int} {k e : Nat} {ts : List (List Int)}, decTs n l k = some (ts, e) → ts.length = n ∧ k + 2 * n ≤ e ∧ (n = 0 ∨ e ≤ l.length)
  | 0, l, k, e, ts, h => by
    simp only [decTs, Option.some.injEq, Prod.mk.injEq] at h
    obtain ⟨rfl, rfl⟩ := h
    exact ⟨rfl, by omega, .inl rfl⟩
  | n + 1, l, k, e, ts, h => by
    rw [decTs_step] at h
    split at h
    · rename_i ho
      cases hd : decTs n l (k + 2 + lenAt l k) with
      | none => rw [hd] at h; cases h
      | some p =>
        obtain ⟨us, e'⟩ := p
        rw [hd] at h
        simp only [Option.map_some, Option.some.injEq, Prod.mk.injEq] at h
        obtain ⟨rfl, rfl⟩ := h
        obtain ⟨h1, h2, h3⟩ := decTs_len hd
        have := ho.2
        refine ⟨by simp [h1], by omega, .inr ?_⟩
        rcases h3 with h3 | h3
        · subst h3
          simp only [decTs, Option.some.injEq, Prod.mk.injEq] at hd
          omega
        · exact h3
    · cases h
theorem goVs_many {done : List Sgn} {n : Nat} {l : List Int} {k : Nat} (h0 : 0 < n) (h : l.length < k + 393 * n) : goVs done n l k = none := by
  unfold goVs
  cases hd : decVs n l k with
  | none => rfl
  | some vs =>
    have := (decVs_len hd).2.1
    omega
theorem goTs_many {vs : List Sgn} {done : List (List Int)} {n : Nat} {l : List Int} {k : Nat} (h0 : 0 < n) (h : l.length < k + 2 * n) : goTs vs done n l k = none := by
  unfold goTs
  cases hd : decTs n l k with
  | none => rfl
  | some p =>
    obtain ⟨ts, e⟩ := p
    have := decTs_len hd
    omega
theorem okAt_okS {l : List Int} {k : Nat} (h : okAt l k = true) : okS (voteAt l k) = true := by
  have := (decVs_len (n := 1) (l := l) (k := k) (vs := [voteAt l k]) (by rw [decVs_step, if_pos h]; rfl)).2.2
  simpa using this
theorem textAt_len {l : List Int} {k : Nat} (hb : Bs l) (h : okTx l k) : (textAt l k).length < 65536 := by
  have := (lenAt_spec hb h.1).2
  unfold textAt
  rw [List.length_take]
  omega
theorem Bs.drop {l : List Int} (h : Bs l) (k : Nat) : Bs (l.drop k) := fun x hx => h x (List.mem_of_mem_drop hx)
theorem Bs.take {l : List Int} (h : Bs l) (k : Nat) : Bs (l.take k) := fun x hx => h x (List.mem_of_mem_take hx)
theorem quoW {n : Nat} {a : Int} {c : Nat} (hc : 0 < c) (ha : 0 ≤ a) (ha2 : a < 9223372036854775808) : decide ((n : Int) > IntKind.i64.wrap (a.tdiv (c : Int))) = decide (a < c * n) := by
  have h1 : a.tdiv (c : Int) = a / c := Int.tdiv_eq_ediv_of_nonneg ha
  have h2 : 0 ≤ a / (c : Int) := Int.ediv_nonneg ha (by omega)
  have h3 : a / (c : Int) ≤ a := Int.ediv_le_self _ ha
  rw [h1, i_wrap (by omega) (by omega)]
  refine decide_eq_decide.2 ?_
  rw [gt_iff_lt, Int.ediv_lt_iff_lt_mul (by omega), Int.mul_comm]
set_option maxHeartbeats 2000000 in
theorem rdecVw_spec {n : Nat} (hn : 10 ≤ n) {l : List Int} (hb : Bs l) (hl : l.length < 1000000) : tab n 34 [by_ l] = some (decVwR l, []) := by
  obtain ⟨n, rfl⟩ : ∃ m, n = m + 1 := ⟨n - 1, by omega⟩
  refine tab_eval rfl rfl fun T L hT hL => ?_
  conv => lhs; whnf
  by_cases h4 : 4 ≤ l.length
  case neg =>
    have hu : tab n 67 [by_ l, I (0 : Nat), I (4 : Nat)] = some (.tup [U 0, tB false], []) := by
      rw [uint_spec (by omega) (.inr rfl) (by unfold Short; omega) (by omega), uintR, decide_eq_false (by omega)]
      rfl
    refine call_to hT hu ?_
    rw [decVwR_none (by rw [decVw, if_neg h4])]
    conv => lhs; whnf
    rfl
  obtain ⟨hn4, hn4'⟩ := num4_spec (k := 0) hb (by omega)
  have hu : tab n 67 [by_ l, I (0 : Nat), I (4 : Nat)] = some (.tup [U (num4 l 0 : Int), tB true], []) := by
    rw [uint_spec (by omega) (.inr rfl) (by unfold Short; omega) (by omega), uintR, dec_ok (by omega), hn4]
    rfl
  refine call_to hT hu ?_
  have hgo0 : decVw l = goVs [] (num4 l 0) l 4 := by rw [decVw, if_pos h4]; rfl
  generalize num4 l 0 = N at hn4' hgo0 ⊢
  clear hn4 hu
  conv => lhs; whnf
  have hw1 : IntKind.i64.wrap (N : Int) = N := i_wrap (by omega) (by omega)
  have hw2 : IntKind.i64.wrap (((Els.ints .u8 l).len : Int) - 4) = (l.length : Int) - 4 := i_wrap (by simp [Els.len]; omega) (by simp [Els.len]; omega)
  have hq : decide (IntKind.i64.wrap (N : Int) > IntKind.i64.wrap ((IntKind.i64.wrap (((Els.ints .u8 l).len : Int) - 4)).tdiv 393)) = decide ((l.length : Int) - 4 < (393 : Nat) * N) := by
    rw [hw1, hw2]
    exact quoW (c := 393) (by omega) (by omega) (by omega)
  refine brch_step (fun h => ?_) (fun h => ?_)
  · have h : decide ((l.length : Int) - 4 < (393 : Nat) * N) = true := hq ▸ h
    have h := of_decide_eq_true h
    rw [decVwR_none (by rw [hgo0, goVs_many (by omega) (by omega)])]
    conv => lhs; whnf
    rfl
  have h : decide ((l.length : Int) - 4 < (393 : Nat) * N) = false := hq ▸ h
  have hN := of_decide_eq_false h
  clear h hq hw2
  conv => lhs; whnf
  refine loop_go hL (fun r s m => ∃ (i k : Nat) (done : List Sgn) (E : List PV), s = [by_ l, .junk, .ptr 100 0, .junk, .ptr 101 0, U (N : Int), .junk, I (k : Int), I (i : Int), .junk, .junk, .junk, .junk, .junk, .junk, .junk, .junk, .junk, .junk, .junk, .junk, .junk, .junk, .junk, .junk, .junk, .junk, .junk, .junk, .junk, .junk, .junk, .junk, .junk, .junk, .junk, .junk, .junk, .junk, .junk, .junk, .junk, .junk, .junk, .junk, .junk, .junk, .junk, .junk, .junk, .junk, .junk, .junk, .junk, .junk, .junk, .junk, .junk, .junk, .junk, .junk, .junk, .junk, .junk, .junk, .junk, .junk, .junk, .junk, .junk, .junk, .junk, .junk, .junk, .junk, .junk, .junk, .junk, .junk, .junk, .junk, .junk, .junk, .junk, .junk, .junk, .junk, .junk, .junk, .junk, .junk, .junk, .junk, .junk, .junk, .junk, .junk, .junk, .junk, .junk, .junk, .junk, .junk, .junk, .junk, .junk, .junk, .junk, .junk, .junk, .junk, .junk, .junk, .junk, .junk, .junk, .junk, .junk, .junk, .junk, .junk] ∧ i ≤ N ∧ k ≤ l.length ∧ k = 4 + 393 * i ∧ done.length = i ∧ r = N + 1 - i ∧ decVw l = goVs done (N - i) l k ∧ E = done.map Sgn.pv ∧ done.all okS = true ∧ (∀ s ∈ done, Bs s.sig) ∧
    ((done = [] ∧ m = [(100, cvw nilS nilS, false), (101, cvw nilS nilS, false)]) ∨ (done ≠ [] ∧ m = [(100, cvw nilS nilS, false), (101, cvw (.ref 102) nilS, false), (102, .row 62 (.els E), false)]))) (N + 1) rfl
    ⟨0, 4, [], _, rfl, by omega, h4, rfl, rfl, rfl, hgo0, rfl, rfl, by simp, .inl ⟨rfl, rfl⟩⟩ (by omega) ?_
  rintro Lp r s m ⟨i, k, done, E, rfl, hi, hk, hki, hdl, hr, hgo, hE, hall, hsb, hm⟩ ih
  have hEl : E.length = done.length := by rw [hE]; simp
  by_cases hlt : i < N
  · obtain ⟨q, hq⟩ : ∃ q, N - i = q + 1 := ⟨N - i - 1, by omega⟩
    rw [hq] at hgo
    have hf : k + 393 ≤ l.length := by omega
    have hq2 : N - (i + 1) = q := by omega
    rcases hm with ⟨hd, rfl⟩ | ⟨hd, rfl⟩
    · conv => lhs; whnf
      rw [hw1, show decide ((i : Int) < (N : Int)) = true from dec_ok (by omega)]
      conv => lhs; whnf
      have hw3 : IntKind.i64.wrap ((k : Int) + 393) = ((k + 393 : Nat) : Int) := i_wrap (by omega) (by omega)
      rw [hw3]
      refine asrt_step (by first | rfl | (simp [Els.len, eE1, eE2, eE3, bT1, gT1, bT2, gT2, bT3, gT3, Nat.ble_eq]; done) | (simp [Els.len, eE1, eE2, eE3, bT1, gT1, bT2, gT2, bT3, gT3, Nat.ble_eq]; (repeat' apply And.intro) <;> first | omega | exact rfl | exact dec_ok (by omega))) ?_
      conv => lhs; whnf
      have hct : List.drop (k : Int).toNat (List.take ((k + 393 : Nat) : Int).toNat l) = (l.drop k).take 393 := cut_take rfl (by omega)
      rw [hct]
      have hb' : Bs ((l.drop k).take 393) := fun z hz => hb z (List.mem_of_mem_drop (List.mem_of_mem_take hz))
      have hds : tab n 68 [by_ ((l.drop k).take 393)] = some (bif validV (decV (((l.drop k).take 393).take 23)) then .tup [sgnR (voteAt l k), I 0] else .tup [zeroS, I 11], []) := by
        rw [rdecS_spec (by omega) hb' (by unfold Short; rw [List.length_take]; omega)]
        rw [decSR, if_neg (by rw [List.length_take, List.length_drop]; omega), if_neg (by rw [List.length_take, List.length_drop]; omega)]
        rfl
      refine call_to hT hds ?_
      cases hv : validV (decV (((l.drop k).take 393).take 23))
      · have ho : okAt l k = false := by simp [okAt, hv]
        rw [decVwR_none (by rw [hgo, goVs_none ho])]
        conv => lhs; whnf
        rfl
      · have ho : okAt l k = true := by simp [okAt, hv, hf]
        conv => lhs; whnf
        refine asrt_step (by first | rfl | (simp [Els.len, eE1, eE2, eE3, bT1, gT1, bT2, gT2, bT3, gT3, Nat.ble_eq]; done) | (simp [Els.len, eE1, eE2, eE3, bT1, gT1, bT2, gT2, bT3, gT3, Nat.ble_eq]; (repeat' apply And.intro) <;> first | omega | exact rfl | exact dec_ok (by omega))) ?_
        conv => lhs; whnf
        rw [hw3, show IntKind.i64.wrap ((i : Int) + 1) = ((i + 1 : Nat) : Int) from i_wrap (by omega) (by omega)]
        refine ih (N + 1 - (i + 1)) _ _ _ _ rfl ⟨i + 1, k + 393, done ++ [voteAt l k], _, rfl, by omega, hf, by omega, by simp; omega, rfl, by rw [hgo, goVs_step ho, hq2], by subst hd; rfl, by rw [List.all_append, hall]; simp [okAt_okS ho], ?_, .inr ⟨by simp, rfl⟩⟩ (by omega)
        intro s hs
        rcases List.mem_append.1 hs with hs | hs
        · exact hsb s hs
        · rw [List.mem_singleton.1 hs]
          exact (hb'.drop 23)
    · conv => lhs; whnf
      rw [hw1, show decide ((i : Int) < (N : Int)) = true from dec_ok (by omega)]
      conv => lhs; whnf
      have hw3 : IntKind.i64.wrap ((k : Int) + 393) = ((k + 393 : Nat) : Int) := i_wrap (by omega) (by omega)
      rw [hw3]
      refine asrt_step (by first | rfl | (simp [Els.len, eE1, eE2, eE3, bT1, gT1, bT2, gT2, bT3, gT3, Nat.ble_eq]; done) | (simp [Els.len, eE1, eE2, eE3, bT1, gT1, bT2, gT2, bT3, gT3, Nat.ble_eq]; (repeat' apply And.intro) <;> first | omega | exact rfl | exact dec_ok (by omega))) ?_
      conv => lhs; whnf
      have hct : List.drop (k : Int).toNat (List.take ((k + 393 : Nat) : Int).toNat l) = (l.drop k).take 393 := cut_take rfl (by omega)
      rw [hct]
      have hb' : Bs ((l.drop k).take 393) := fun z hz => hb z (List.mem_of_mem_drop (List.mem_of_mem_take hz))
      have hds : tab n 68 [by_ ((l.drop k).take 393)] = some (bif validV (decV (((l.drop k).take 393).take 23)) then .tup [sgnR (voteAt l k), I 0] else .tup [zeroS, I 11], []) := by
        rw [rdecS_spec (by omega) hb' (by unfold Short; rw [List.length_take]; omega)]
        rw [decSR, if_neg (by rw [List.length_take, List.length_drop]; omega), if_neg (by rw [List.length_take, List.length_drop]; omega)]
        rfl
      refine call_to hT hds ?_
      cases hv : validV (decV (((l.drop k).take 393).take 23))
      · have ho : okAt l k = false := by simp [okAt, hv]
        rw [decVwR_none (by rw [hgo, goVs_none ho])]
        conv => lhs; whnf
        rfl
      · have ho : okAt l k = true := by simp [okAt, hv, hf]
        conv => lhs; whnf
        refine asrt_step (by first | rfl | (simp [Els.len, eE1, eE2, eE3, bT1, gT1, bT2, gT2, bT3, gT3, Nat.ble_eq]; done) | (simp [Els.len, eE1, eE2, eE3, bT1, gT1, bT2, gT2, bT3, gT3, Nat.ble_eq]; (repeat' apply And.intro) <;> first | omega | exact rfl | exact dec_ok (by omega))) ?_
        conv => lhs; whnf
        rw [hw3, show IntKind.i64.wrap ((i : Int) + 1) = ((i + 1 : Nat) : Int) from i_wrap (by omega) (by omega)]
        refine ih (N + 1 - (i + 1)) _ _ _ _ rfl ⟨i + 1, k + 393, done ++ [voteAt l k], _, rfl, by omega, hf, by omega, by simp; omega, rfl, by rw [hgo, goVs_step ho, hq2], by rw [votes_app, hE]; rfl, by rw [List.all_append, hall]; simp [okAt_okS ho], ?_, .inr ⟨by simp, rfl⟩⟩ (by omega)
        intro s hs
        rcases List.mem_append.1 hs with hs | hs
        · exact hsb s hs
        · rw [List.mem_singleton.1 hs]
          exact (hb'.drop 23)
  · have hiN : i = N := by omega
    rw [show N - i = 0 from by omega, goVs_zero] at hgo
    rcases hm with ⟨hd, rfl⟩ | ⟨hd, rfl⟩
    · conv => lhs; whnf
      rw [hw1, show decide ((i : Int) < (N : Int)) = false from decide_eq_false (by omega)]
      conv => lhs; whnf
      by_cases h5 : k + 4 ≤ l.length
      case neg =>
        have hu : tab n 67 [by_ l, I (k : Int), I (4 : Nat)] = some (.tup [U 0, tB false], []) := by
          rw [uint_spec (by omega) (.inr rfl) (by unfold Short; omega) (by omega), uintR, decide_eq_false (by omega)]
          rfl
        rw [decVwR_none (by rw [hgo, decRest, if_neg h5])]
        refine call_to hT hu ?_
        conv => lhs; whnf
        rfl
      obtain ⟨hn5, hn5'⟩ := num4_spec (k := k) hb h5
      have hu : tab n 67 [by_ l, I (k : Int), I (4 : Nat)] = some (.tup [U (num4 l k : Int), tB true], []) := by
        rw [uint_spec (by omega) (.inr rfl) (by unfold Short; omega) (by omega), uintR, dec_ok h5, hn5]
        rfl
      refine call_to hT hu ?_
      rw [decRest_go h5] at hgo
      have hvl : done.length < 1000000 := by omega
      clear ih hr hu hn5 hw1 hN hgo0
      generalize num4 l k = M at hn5' hgo ⊢
      have hw1 : IntKind.i64.wrap (M : Int) = M := i_wrap (by omega) (by omega)
      have hw2 : IntKind.i64.wrap (((Els.ints .u8 l).len : Int) - (k : Int)) = (l.length : Int) - k := i_wrap (by simp [Els.len]; omega) (by simp [Els.len]; omega)
      have hw3 : IntKind.i64.wrap ((l.length : Int) - (k : Int) - 4) = (l.length : Int) - k - 4 := i_wrap (by omega) (by omega)
      have hq : decide (IntKind.i64.wrap (M : Int) > IntKind.i64.wrap ((IntKind.i64.wrap (IntKind.i64.wrap (((Els.ints .u8 l).len : Int) - (k : Int)) - 4)).tdiv 2)) = decide ((l.length : Int) - k - 4 < (2 : Nat) * M) := by
        rw [hw1, hw2, hw3]
        exact quoW (c := 2) (by omega) (by omega) (by omega)
      conv => lhs; whnf
      refine brch_step (fun h => ?_) (fun h => ?_)
      · have h : decide ((l.length : Int) - k - 4 < (2 : Nat) * M) = true := hq ▸ h
        have h := of_decide_eq_true h
        rw [decVwR_none (by rw [hgo, goTs_many (by omega) (by omega)])]
        conv => lhs; whnf
        rfl
      have h : decide ((l.length : Int) - k - 4 < (2 : Nat) * M) = false := hq ▸ h
      have hM := of_decide_eq_false h
      clear h hq hw2 hw3
      conv => lhs; whnf
      rw [show IntKind.i64.wrap ((k : Int) + 4) = ((k + 4 : Nat) : Int) from i_wrap (by omega) (by omega)]
      refine loop_go hL (fun r s m => ∃ (i k : Nat) (td : List (List Int)) (F : List PV), s = [by_ l, .junk, .ptr 100 0, .junk, .ptr 101 0, .junk, .junk, I (k : Int), .junk, .junk, .junk, U (M : Int), I (i : Int), .junk, .junk, .junk, .junk, .junk, .junk, .junk, .junk, .junk, .junk, .junk, .junk, .junk, .junk, .junk, .junk, .junk, .junk, .junk, .junk, .junk, .junk, .junk, .junk, .junk, .junk, .junk, .junk, .junk, .junk, .junk, .junk, .junk, .junk, .junk, .junk, .junk, .junk, .junk, .junk, .junk, .junk, .junk, .junk, .junk, .junk, .junk, .junk, .junk, .junk, .junk, .junk, .junk, .junk, .junk, .junk, .junk, .junk, .junk, .junk, .junk, .junk, .junk, .junk, .junk, .junk, .junk, .junk, .junk, .junk, .junk, .junk, .junk, .junk, .junk, .junk, .junk, .junk, .junk, .junk, .junk, .junk, .junk, .junk, .junk, .junk, .junk, .junk, .junk, .junk, .junk, .junk, .junk, .junk, .junk, .junk, .junk, .junk, .junk, .junk, .junk, .junk, .junk, .junk, .junk, .junk, .junk, .junk] ∧ i ≤ M ∧ k ≤ l.length ∧ td.length = i ∧ i ≤ k ∧ r = M + 1 - i ∧ decVw l = goTs done td (M - i) l k ∧ F = td.map by_ ∧ td.all okT = true ∧ (∀ t ∈ td, t.length < 1000000000 ∧ Bs t) ∧
        ((td = [] ∧ m = [(100, cvw nilS nilS, false), (101, cvw nilS nilS, false)]) ∨ (td ≠ [] ∧ m = [(100, cvw nilS nilS, false), (101, cvw nilS (.ref 102), false), (102, .row 28 (.els F), false)]))) (M + 1) rfl
        ⟨0, k + 4, [], _, rfl, by omega, h5, rfl, by omega, rfl, hgo, rfl, rfl, by simp, .inl ⟨rfl, rfl⟩⟩ (by omega) ?_
      clear hgo h5 hk hki hi hiN hM
      rintro Lp r s m ⟨i, k, td, F, rfl, hi, hk, htl, hik, hr, hgo, hF, hallT, htb, hm⟩ ih
      have hFl : F.length = td.length := by rw [hF]; simp
      by_cases hlt : i < M
      · obtain ⟨q, hq⟩ : ∃ q, M - i = q + 1 := ⟨M - i - 1, by omega⟩
        rw [hq] at hgo
        have hq2 : M - (i + 1) = q := by omega
        rcases hm with ⟨ht, rfl⟩ | ⟨ht, rfl⟩
        · conv => lhs; whnf
          rw [hw1, show decide ((i : Int) < (M : Int)) = true from dec_ok (by omega)]
          conv => lhs; whnf
          refine call_to hT (bytes_spec (by omega) hb (by unfold Short; omega) (by omega)) ?_
          by_cases hf : okTx l k
          · have hb' := textAt_len hb hf
            rw [show bytesR l k = .tup [byR (textAt l k), I ((k + 2 + lenAt l k : Nat) : Int), tB true] from by simp [bytesR, hf.1, hf.2, textAt]]
            conv => lhs; whnf
            refine asrt_step (by first | rfl | (simp [Els.len, eE1, eE2, eE3, bT1, gT1, bT2, gT2, bT3, gT3, Nat.ble_eq]; done) | (simp [Els.len, eE1, eE2, eE3, bT1, gT1, bT2, gT2, bT3, gT3, Nat.ble_eq]; (repeat' apply And.intro) <;> first | omega | exact rfl | exact dec_ok (by omega))) ?_
            conv => lhs; whnf
            rw [show IntKind.i64.wrap ((i : Int) + 1) = ((i + 1 : Nat) : Int) from i_wrap (by omega) (by omega)]
            refine ih (M + 1 - (i + 1)) _ _ _ _ rfl ⟨i + 1, k + 2 + lenAt l k, td ++ [textAt l k], _, rfl, by omega, hf.2, by simp; omega, by omega, rfl, by rw [hgo, goTs_step hf, hq2], by subst ht; rfl, ?_, ?_, .inr ⟨by simp, rfl⟩⟩ (by omega)
            · rw [List.all_append, hallT]
              simp [okT]
              omega
            · intro t hs
              rcases List.mem_append.1 hs with hs | hs
              · exact htb t hs
              · rw [List.mem_singleton.1 hs]
                exact ⟨by omega, (hb.drop _).take _⟩
          · rw [decVwR_none (by rw [hgo, goTs_none hf])]
            rw [show bytesR l k = .tup [nilS, I 0, tB false] from by
              unfold bytesR
              rw [show (decide (k + 2 ≤ l.length) && decide (k + 2 + lenAt l k ≤ l.length)) = false from by
                cases hd : (decide (k + 2 ≤ l.length) && decide (k + 2 + lenAt l k ≤ l.length)) with
                | false => rfl
                | true => simp only [Bool.and_eq_true, decide_eq_true_eq] at hd; exact absurd hd hf]
              rfl]
            conv => lhs; whnf
            rfl
        · conv => lhs; whnf
          rw [hw1, show decide ((i : Int) < (M : Int)) = true from dec_ok (by omega)]
          conv => lhs; whnf
          refine call_to hT (bytes_spec (by omega) hb (by unfold Short; omega) (by omega)) ?_
          by_cases hf : okTx l k
          · have hb' := textAt_len hb hf
            rw [show bytesR l k = .tup [byR (textAt l k), I ((k + 2 + lenAt l k : Nat) : Int), tB true] from by simp [bytesR, hf.1, hf.2, textAt]]
            conv => lhs; whnf
            refine asrt_step (by first | rfl | (simp [Els.len, eE1, eE2, eE3, bT1, gT1, bT2, gT2, bT3, gT3, Nat.ble_eq]; done) | (simp [Els.len, eE1, eE2, eE3, bT1, gT1, bT2, gT2, bT3, gT3, Nat.ble_eq]; (repeat' apply And.intro) <;> first | omega | exact rfl | exact dec_ok (by omega))) ?_
            conv => lhs; whnf
            rw [show IntKind.i64.wrap ((i : Int) + 1) = ((i + 1 : Nat) : Int) from i_wrap (by omega) (by omega)]
            refine ih (M + 1 - (i + 1)) _ _ _ _ rfl ⟨i + 1, k + 2 + lenAt l k, td ++ [textAt l k], _, rfl, by omega, hf.2, by simp; omega, by omega, rfl, by rw [hgo, goTs_step hf, hq2], by rw [texts_app, hF]; rfl, ?_, ?_, .inr ⟨by simp, rfl⟩⟩ (by omega)
            · rw [List.all_append, hallT]
              simp [okT]
              omega
            · intro t hs
              rcases List.mem_append.1 hs with hs | hs
              · exact htb t hs
              · rw [List.mem_singleton.1 hs]
                exact ⟨by omega, (hb.drop _).take _⟩
          · rw [decVwR_none (by rw [hgo, goTs_none hf])]
            rw [show bytesR l k = .tup [nilS, I 0, tB false] from by
              unfold bytesR
              rw [show (decide (k + 2 ≤ l.length) && decide (k + 2 + lenAt l k ≤ l.length)) = false from by
                cases hd : (decide (k + 2 ≤ l.length) && decide (k + 2 + lenAt l k ≤ l.length)) with
                | false => rfl
                | true => simp only [Bool.and_eq_true, decide_eq_true_eq] at hd; exact absurd hd hf]
              rfl]
            conv => lhs; whnf
            rfl
      · rw [show M - i = 0 from by omega, goTs_zero] at hgo
        rcases hm with ⟨ht, rfl⟩ | ⟨ht, rfl⟩
        · conv => lhs; whnf
          rw [hw1, show decide ((i : Int) < (M : Int)) = false from decide_eq_false (by omega)]
          conv => lhs; whnf
          have he : ∀ x y, HV x done → HT y td → tab n 29 [.agg [x, y]] = some (bif !ordVw done td then .tup [nilS, I 10] else .tup [byR (encVw done td), I 0], []) := by
            intro x y hx hy
            rw [rencode_spec (by omega) hx hy (by omega) (by omega) hsb htb, encVwR, hall, hallT]
            rfl
          refine call_to hT (he _ _ (.inl ⟨rfl, hd⟩) (.inl ⟨rfl, ht⟩)) ?_
          cases ho : ordVw done td
          · rw [decVwR_none (by rw [hgo, if_neg (by simp [ho])])]
            conv => lhs; whnf
            cases (k : Int) != ((Els.ints .u8 l).len : Int)
            · conv => lhs; whnf
              rfl
            · conv => lhs; whnf
              rfl
          · conv => lhs; whnf
            by_cases hk2 : k = l.length
            · rw [show ((k : Int) != ((Els.ints .u8 l).len : Int)) = false from by simp [Els.len, hk2]]
              rw [decVwR_some (by rw [hgo, if_pos ⟨hk2, ho⟩])]
              conv => lhs; whnf
              subst hd
              subst ht
              rfl
            · rw [show ((k : Int) != ((Els.ints .u8 l).len : Int)) = true from by simp [Els.len]; omega]
              rw [decVwR_none (by rw [hgo, if_neg (by simp [hk2])])]
              conv => lhs; whnf
              rfl
        · conv => lhs; whnf
          rw [hw1, show decide ((i : Int) < (M : Int)) = false from decide_eq_false (by omega)]
          conv => lhs; whnf
          have he : ∀ x y, HV x done → HT y td → tab n 29 [.agg [x, y]] = some (bif !ordVw done td then .tup [nilS, I 10] else .tup [byR (encVw done td), I 0], []) := by
            intro x y hx hy
            rw [rencode_spec (by omega) hx hy (by omega) (by omega) hsb htb, encVwR, hall, hallT]
            rfl
          refine call_to hT (he _ _ (.inl ⟨rfl, hd⟩) (.inr (by rw [hF]; rfl))) ?_
          cases ho : ordVw done td
          · rw [decVwR_none (by rw [hgo, if_neg (by simp [ho])])]
            conv => lhs; whnf
            cases (k : Int) != ((Els.ints .u8 l).len : Int)
            · conv => lhs; whnf
              rfl
            · conv => lhs; whnf
              rfl
          · conv => lhs; whnf
            by_cases hk2 : k = l.length
            · rw [show ((k : Int) != ((Els.ints .u8 l).len : Int)) = false from by simp [Els.len, hk2]]
              rw [decVwR_some (by rw [hgo, if_pos ⟨hk2, ho⟩])]
              conv => lhs; whnf
              subst hd
              rw [rowT_ne ht, textsE, ← hF]
              rfl
            · rw [show ((k : Int) != ((Els.ints .u8 l).len : Int)) = true from by simp [Els.len]; omega]
              rw [decVwR_none (by rw [hgo, if_neg (by simp [hk2])])]
              conv => lhs; whnf
              rfl
    · conv => lhs; whnf
      rw [hw1, show decide ((i : Int) < (N : Int)) = false from decide_eq_false (by omega)]
      conv => lhs; whnf
      by_cases h5 : k + 4 ≤ l.length
      case neg =>
        have hu : tab n 67 [by_ l, I (k : Int), I (4 : Nat)] = some (.tup [U 0, tB false], []) := by
          rw [uint_spec (by omega) (.inr rfl) (by unfold Short; omega) (by omega), uintR, decide_eq_false (by omega)]
          rfl
        rw [decVwR_none (by rw [hgo, decRest, if_neg h5])]
        refine call_to hT hu ?_
        conv => lhs; whnf
        rfl
      obtain ⟨hn5, hn5'⟩ := num4_spec (k := k) hb h5
      have hu : tab n 67 [by_ l, I (k : Int), I (4 : Nat)] = some (.tup [U (num4 l k : Int), tB true], []) := by
        rw [uint_spec (by omega) (.inr rfl) (by unfold Short; omega) (by omega), uintR, dec_ok h5, hn5]
        rfl
      refine call_to hT hu ?_
      rw [decRest_go h5] at hgo
      have hvl : done.length < 1000000 := by omega
      clear ih hr hu hn5 hw1 hN hgo0
      generalize num4 l k = M at hn5' hgo ⊢
      have hw1 : IntKind.i64.wrap (M : Int) = M := i_wrap (by omega) (by omega)
      have hw2 : IntKind.i64.wrap (((Els.ints .u8 l).len : Int) - (k : Int)) = (l.length : Int) - k := i_wrap (by simp [Els.len]; omega) (by simp [Els.len]; omega)
      have hw3 : IntKind.i64.wrap ((l.length : Int) - (k : Int) - 4) = (l.length : Int) - k - 4 := i_wrap (by omega) (by omega)
      have hq : decide (IntKind.i64.wrap (M : Int) > IntKind.i64.wrap ((IntKind.i64.wrap (IntKind.i64.wrap (((Els.ints .u8 l).len : Int) - (k : Int)) - 4)).tdiv 2)) = decide ((l.length : Int) - k - 4 < (2 : Nat) * M) := by
        rw [hw1, hw2, hw3]
        exact quoW (c := 2) (by omega) (by omega) (by omega)
      conv => lhs; whnf
      refine brch_step (fun h => ?_) (fun h => ?_)
      · have h : decide ((l.length : Int) - k - 4 < (2 : Nat) * M) = true := hq ▸ h
        have h := of_decide_eq_true h
        rw [decVwR_none (by rw [hgo, goTs_many (by omega) (by omega)])]
        conv => lhs; whnf
        rfl
      have h : decide ((l.length : Int) - k - 4 < (2 : Nat) * M) = false := hq ▸ h
      have hM := of_decide_eq_false h
      clear h hq hw2 hw3
      conv => lhs; whnf
      rw [show IntKind.i64.wrap ((k : Int) + 4) = ((k + 4 : Nat) : Int) from i_wrap (by omega) (by omega)]
      refine loop_go hL (fun r s m => ∃ (i k : Nat) (td : List (List Int)) (F : List PV), s = [by_ l, .junk, .ptr 100 0, .junk, .ptr 101 0, .junk, .junk, I (k : Int), .junk, .junk, .junk, U (M : Int), I (i : Int), .junk, .junk, .junk, .junk, .junk, .junk, .junk, .junk, .junk, .junk, .junk, .junk, .junk, .junk, .junk, .junk, .junk, .junk, .junk, .junk, .junk, .junk, .junk, .junk, .junk, .junk, .junk, .junk, .junk, .junk, .junk, .junk, .junk, .junk, .junk, .junk, .junk, .junk, .junk, .junk, .junk, .junk, .junk, .junk, .junk, .junk, .junk, .junk, .junk, .junk, .junk, .junk, .junk, .junk, .junk, .junk, .junk, .junk, .junk, .junk, .junk, .junk, .junk, .junk, .junk, .junk, .junk, .junk, .junk, .junk, .junk, .junk, .junk, .junk, .junk, .junk, .junk, .junk, .junk, .junk, .junk, .junk, .junk, .junk, .junk, .junk, .junk, .junk, .junk, .junk, .junk, .junk, .junk, .junk, .junk, .junk, .junk, .junk, .junk, .junk, .junk, .junk, .junk, .junk, .junk, .junk, .junk, .junk] ∧ i ≤ M ∧ k ≤ l.length ∧ td.length = i ∧ i ≤ k ∧ r = M + 1 - i ∧ decVw l = goTs done td (M - i) l k ∧ F = td.map by_ ∧ td.all okT = true ∧ (∀ t ∈ td, t.length < 1000000000 ∧ Bs t) ∧
        ((td = [] ∧ m = [(100, cvw nilS nilS, false), (101, cvw (.ref 102) nilS, false), (102, .row 62 (.els E), false)]) ∨ (td ≠ [] ∧ m = [(100, cvw nilS nilS, false), (101, cvw (.ref 102) (.ref 103), false), (102, .row 62 (.els E), false), (103, .row 28 (.els F), false)]))) (M + 1) rfl
        ⟨0, k + 4, [], _, rfl, by omega, h5, rfl, by omega, rfl, hgo, rfl, rfl, by simp, .inl ⟨rfl, rfl⟩⟩ (by omega) ?_
      clear hgo h5 hk hki hi hiN hM
      rintro Lp r s m ⟨i, k, td, F, rfl, hi, hk, htl, hik, hr, hgo, hF, hallT, htb, hm⟩ ih
      have hFl : F.length = td.length := by rw [hF]; simp
      by_cases hlt : i < M
      · obtain ⟨q, hq⟩ : ∃ q, M - i = q + 1 := ⟨M - i - 1, by omega⟩
        rw [hq] at hgo
        have hq2 : M - (i + 1) = q := by omega
        rcases hm with ⟨ht, rfl⟩ | ⟨ht, rfl⟩
        · conv => lhs; whnf
          rw [hw1, show decide ((i : Int) < (M : Int)) = true from dec_ok (by omega)]
          conv => lhs; whnf
          refine call_to hT (bytes_spec (by omega) hb (by unfold Short; omega) (by omega)) ?_
          by_cases hf : okTx l k
          · have hb' := textAt_len hb hf
            rw [show bytesR l k = .tup [byR (textAt l k), I ((k + 2 + lenAt l k : Nat) : Int), tB true] from by simp [bytesR, hf.1, hf.2, textAt]]
            conv => lhs; whnf
            refine asrt_step (by first | rfl | (simp [Els.len, eE1, eE2, eE3, bT1, gT1, bT2, gT2, bT3, gT3, Nat.ble_eq]; done) | (simp [Els.len, eE1, eE2, eE3, bT1, gT1, bT2, gT2, bT3, gT3, Nat.ble_eq]; (repeat' apply And.intro) <;> first | omega | exact rfl | exact dec_ok (by omega))) ?_
            conv => lhs; whnf
            rw [show IntKind.i64.wrap ((i : Int) + 1) = ((i + 1 : Nat) : Int) from i_wrap (by omega) (by omega)]
            refine ih (M + 1 - (i + 1)) _ _ _ _ rfl ⟨i + 1, k + 2 + lenAt l k, td ++ [textAt l k], _, rfl, by omega, hf.2, by simp; omega, by omega, rfl, by rw [hgo, goTs_step hf, hq2], by subst ht; rfl, ?_, ?_, .inr ⟨by simp, rfl⟩⟩ (by omega)
            · rw [List.all_append, hallT]
              simp [okT]
              omega
            · intro t hs
              rcases List.mem_append.1 hs with hs | hs
              · exact htb t hs
              · rw [List.mem_singleton.1 hs]
                exact ⟨by omega, (hb.drop _).take _⟩
          · rw [decVwR_none (by rw [hgo, goTs_none hf])]
            rw [show bytesR l k = .tup [nilS, I 0, tB false] from by
              unfold bytesR
              rw [show (decide (k + 2 ≤ l.length) && decide (k + 2 + lenAt l k ≤ l.length)) = false from by
                cases hd : (decide (k + 2 ≤ l.length) && decide (k + 2 + lenAt l k ≤ l.length)) with
                | false => rfl
                | true => simp only [Bool.and_eq_true, decide_eq_true_eq] at hd; exact absurd hd hf]
              rfl]
            conv => lhs; whnf
            rfl
        · conv => lhs; whnf
          rw [hw1, show decide ((i : Int) < (M : Int)) = true from dec_ok (by omega)]
          conv => lhs; whnf
          refine call_to hT (bytes_spec (by omega) hb (by unfold Short; omega) (by omega)) ?_
          by_cases hf : okTx l k
          · have hb' := textAt_len hb hf
            rw [show bytesR l k = .tup [byR (textAt l k), I ((k + 2 + lenAt l k : Nat) : Int), tB true] from by simp [bytesR, hf.1, hf.2, textAt]]
            conv => lhs; whnf
            refine asrt_step (by first | rfl | (simp [Els.len, eE1, eE2, eE3, bT1, gT1, bT2, gT2, bT3, gT3, Nat.ble_eq]; done) | (simp [Els.len, eE1, eE2, eE3, bT1, gT1, bT2, gT2, bT3, gT3, Nat.ble_eq]; (repeat' apply And.intro) <;> first | omega | exact rfl | exact dec_ok (by omega))) ?_
            conv => lhs; whnf
            rw [show IntKind.i64.wrap ((i : Int) + 1) = ((i + 1 : Nat) : Int) from i_wrap (by omega) (by omega)]
            refine ih (M + 1 - (i + 1)) _ _ _ _ rfl ⟨i + 1, k + 2 + lenAt l k, td ++ [textAt l k], _, rfl, by omega, hf.2, by simp; omega, by omega, rfl, by rw [hgo, goTs_step hf, hq2], by rw [texts_app, hF]; rfl, ?_, ?_, .inr ⟨by simp, rfl⟩⟩ (by omega)
            · rw [List.all_append, hallT]
              simp [okT]
              omega
            · intro t hs
              rcases List.mem_append.1 hs with hs | hs
              · exact htb t hs
              · rw [List.mem_singleton.1 hs]
                exact ⟨by omega, (hb.drop _).take _⟩
          · rw [decVwR_none (by rw [hgo, goTs_none hf])]
            rw [show bytesR l k = .tup [nilS, I 0, tB false] from by
              unfold bytesR
              rw [show (decide (k + 2 ≤ l.length) && decide (k + 2 + lenAt l k ≤ l.length)) = false from by
                cases hd : (decide (k + 2 ≤ l.length) && decide (k + 2 + lenAt l k ≤ l.length)) with
                | false => rfl
                | true => simp only [Bool.and_eq_true, decide_eq_true_eq] at hd; exact absurd hd hf]
              rfl]
            conv => lhs; whnf
            rfl
      · rw [show M - i = 0 from by omega, goTs_zero] at hgo
        rcases hm with ⟨ht, rfl⟩ | ⟨ht, rfl⟩
        · conv => lhs; whnf
          rw [hw1, show decide ((i : Int) < (M : Int)) = false from decide_eq_false (by omega)]
          conv => lhs; whnf
          have he : ∀ x y, HV x done → HT y td → tab n 29 [.agg [x, y]] = some (bif !ordVw done td then .tup [nilS, I 10] else .tup [byR (encVw done td), I 0], []) := by
            intro x y hx hy
            rw [rencode_spec (by omega) hx hy (by omega) (by omega) hsb htb, encVwR, hall, hallT]
            rfl
          refine call_to hT (he _ _ (.inr (by rw [hE]; rfl)) (.inl ⟨rfl, ht⟩)) ?_
          cases ho : ordVw done td
          · rw [decVwR_none (by rw [hgo, if_neg (by simp [ho])])]
            conv => lhs; whnf
            cases (k : Int) != ((Els.ints .u8 l).len : Int)
            · conv => lhs; whnf
              rfl
            · conv => lhs; whnf
              rfl
          · conv => lhs; whnf
            by_cases hk2 : k = l.length
            · rw [show ((k : Int) != ((Els.ints .u8 l).len : Int)) = false from by simp [Els.len, hk2]]
              rw [decVwR_some (by rw [hgo, if_pos ⟨hk2, ho⟩])]
              conv => lhs; whnf
              rw [rowV_ne hd, votesE, ← hE]
              subst ht
              rfl
            · rw [show ((k : Int) != ((Els.ints .u8 l).len : Int)) = true from by simp [Els.len]; omega]
              rw [decVwR_none (by rw [hgo, if_neg (by simp [hk2])])]
              conv => lhs; whnf
              rfl
        · conv => lhs; whnf
          rw [hw1, show decide ((i : Int) < (M : Int)) = false from decide_eq_false (by omega)]
          conv => lhs; whnf
          have he : ∀ x y, HV x done → HT y td → tab n 29 [.agg [x, y]] = some (bif !ordVw done td then .tup [nilS, I 10] else .tup [byR (encVw done td), I 0], []) := by
            intro x y hx hy
            rw [rencode_spec (by omega) hx hy (by omega) (by omega) hsb htb, encVwR, hall, hallT]
            rfl
          refine call_to hT (he _ _ (.inr (by rw [hE]; rfl)) (.inr (by rw [hF]; rfl))) ?_
          cases ho : ordVw done td
          · rw [decVwR_none (by rw [hgo, if_neg (by simp [ho])])]
            conv => lhs; whnf
            cases (k : Int) != ((Els.ints .u8 l).len : Int)
            · conv => lhs; whnf
              rfl
            · conv => lhs; whnf
              rfl
          · conv => lhs; whnf
            by_cases hk2 : k = l.length
            · rw [show ((k : Int) != ((Els.ints .u8 l).len : Int)) = false from by simp [Els.len, hk2]]
              rw [decVwR_some (by rw [hgo, if_pos ⟨hk2, ho⟩])]
              conv => lhs; whnf
              rw [rowV_ne hd, votesE, ← hE]
              rw [rowT_ne ht, textsE, ← hF]
              rfl
            · rw [show ((k : Int) != ((Els.ints .u8 l).len : Int)) = true from by simp [Els.len]; omega]
              rw [decVwR_none (by rw [hgo, if_neg (by simp [hk2])])]
              conv => lhs; whnf
              rfl
end Go.Pm

/- Parcels, read. -/
namespace Go.Pm
open Go
set_option maxRecDepth 100000

theorem rowV_or (vs : List Sgn) : (rowV vs = nilS ∧ vs = []) ∨ rowV vs = .row 62 (votesE vs) := by
  cases vs with
  | nil => exact .inl ⟨rfl, rfl⟩
  | cons => exact .inr rfl
theorem rowT_or (ts : List (List Int)) : (rowT ts = nilS ∧ ts = []) ∨ rowT ts = .row 28 (textsE ts) := by
  cases ts with
  | nil => exact .inl ⟨rfl, rfl⟩
  | cons => exact .inr rfl
theorem ofI_Bs (v : Int) : Bs (ofI v).list := by
  unfold ofI Nm.list
  iterate 8 refine Bs.cons (wrap8 _) ?_
  exact Bs.nil
theorem sumI_Bs (l : List Int) : Bs (sumI l).list := ofI_Bs _
theorem large_spec {n : Nat} (hn : 2 ≤ n) {x y : PV} {vs : List Sgn} {ts : List (List Int)} (hx : HV x vs) (hy : HT y ts) : tab n 26 [.agg [x, y]] = some (tB (bigV vs ts), []) :=
  vw_wk hx hy rfl rfl rfl (d := 1) (by omega) fun _ h => large_sl h
/-- The view of a parcel. -/
def decP (l : List Int) : Option (List Sgn × List (List Int)) := match decVw (l.drop 8) with
  | some (vs, ts) => bif bigV vs ts then none else some (vs, ts)
  | none => none
def decPR (l : List Int) : PV :=
  if l.length < 8 then .tup [zeroV, I 2] else bif !decide ((sumB (l.drop 8)).list = l.take 8) then .tup [zeroV, I 104] else match decVw (l.drop 8) with
  | some (vs, ts) => bif bigV vs ts then .tup [zeroV, I 5] else .tup [.agg [rowV vs, rowT ts], I 0]
  | none => .tup [zeroV, I 4]
theorem hdecP_sl {n : Nat} (hn : 8 ≤ n) {l : List Int} (hb : Bs l) (hl : l.length < 1000000000) : tab n 13 [by_ l] = some (decPR l, []) := by
  obtain ⟨n, rfl⟩ : ∃ m, n = m + 1 := ⟨n - 1, by omega⟩
  refine tab_eval rfl rfl fun T L hT hL => ?_
  conv => lhs; whnf
  by_cases h8 : l.length < 8
  · rw [decPR, if_pos h8, show decide (((Els.ints .u8 l).len : Int) < 8) = true from dec_ok (by simp [Els.len]; omega)]
    conv => lhs; whnf
    rfl
  rw [decPR, if_neg h8, show decide (((Els.ints .u8 l).len : Int) < 8) = false from decide_eq_false (by simp [Els.len]; omega)]
  conv => lhs; whnf
  refine asrt_step (by first | rfl | (simp [Els.len, eE1, eE2, eE3, bT1, gT1, bT2, gT2, bT3, gT3, Nat.ble_eq]; done) | (simp [Els.len, eE1, eE2, eE3, bT1, gT1, bT2, gT2, bT3, gT3, Nat.ble_eq]; (repeat' apply And.intro) <;> first | omega | exact rfl | exact dec_ok (by omega))) ?_
  conv => lhs; whnf
  have hcd : List.drop (Int.toNat 8) (List.take ((Els.ints .u8 l).len : Int).toNat l) = l.drop 8 := cut_drop (k := 8) rfl
  rw [hcd]
  refine call_to hT (htagged_spec (by omega) (by rw [List.length_drop]; omega)) ?_
  conv => lhs; whnf
  refine asrt_step (by first | rfl | (simp [Els.len, eE1, eE2, eE3, bT1, gT1, bT2, gT2, bT3, gT3, Nat.ble_eq]; done) | (simp [Els.len, eE1, eE2, eE3, bT1, gT1, bT2, gT2, bT3, gT3, Nat.ble_eq]; (repeat' apply And.intro) <;> first | omega | exact rfl | exact dec_ok (by omega))) ?_
  conv => lhs; whnf
  refine call_to hT (hequal_spec (by omega) (a := (sumB (l.drop 8)).list) (b := l.take 8) (sumI_Bs _) (hb.take 8)) ?_
  cases decide ((sumB (l.drop 8)).list = l.take 8)
  · conv => lhs; whnf
    rfl
  conv => lhs; whnf
  refine asrt_step (by first | rfl | (simp [Els.len, eE1, eE2, eE3, bT1, gT1, bT2, gT2, bT3, gT3, Nat.ble_eq]; done) | (simp [Els.len, eE1, eE2, eE3, bT1, gT1, bT2, gT2, bT3, gT3, Nat.ble_eq]; (repeat' apply And.intro) <;> first | omega | exact rfl | exact dec_ok (by omega))) ?_
  conv => lhs; whnf
  rw [hcd]
  refine call_to hT (hdecVw_spec (by omega) (hb.drop 8) (by rw [List.length_drop]; omega)) ?_
  unfold decVwR
  cases hd : decVw (l.drop 8) with
  | none =>
    conv => lhs; whnf
    rfl
  | some p =>
    obtain ⟨vs, ts⟩ := p
    rcases rowV_or vs with ⟨e1, h1⟩ | e1 <;> rcases rowT_or ts with ⟨e2, h2⟩ | e2
    all_goals
      simp only [e1, e2]
      conv => lhs; whnf
    · refine call_to hT (large_spec (by omega) (vs := vs) (ts := ts) (.inl ⟨rfl, h1⟩) (.inl ⟨rfl, h2⟩)) ?_
      cases bigV vs ts
      · conv => lhs; whnf
        rfl
      · conv => lhs; whnf
        rfl
    · refine call_to hT (large_spec (by omega) (vs := vs) (ts := ts) (.inl ⟨rfl, h1⟩) (.inr rfl)) ?_
      cases bigV vs ts
      · conv => lhs; whnf
        rfl
      · conv => lhs; whnf
        rfl
    · refine call_to hT (large_spec (by omega) (vs := vs) (ts := ts) (.inr rfl) (.inl ⟨rfl, h2⟩)) ?_
      cases bigV vs ts
      · conv => lhs; whnf
        rfl
      · conv => lhs; whnf
        rfl
    · refine call_to hT (large_spec (by omega) (vs := vs) (ts := ts) (.inr rfl) (.inr rfl)) ?_
      cases bigV vs ts
      · conv => lhs; whnf
        rfl
      · conv => lhs; whnf
        rfl
theorem rdecP_sl {n : Nat} (hn : 11 ≤ n) {l : List Int} (hb : Bs l) (hl : l.length < 1000000) : tab n 15 [by_ l] = some (decPR l, []) := by
  obtain ⟨n, rfl⟩ : ∃ m, n = m + 1 := ⟨n - 1, by omega⟩
  refine tab_eval rfl rfl fun T L hT hL => ?_
  conv => lhs; whnf
  by_cases h8 : l.length < 8
  · rw [decPR, if_pos h8, show decide (((Els.ints .u8 l).len : Int) < 8) = true from dec_ok (by simp [Els.len]; omega)]
    conv => lhs; whnf
    rfl
  rw [decPR, if_neg h8, show decide (((Els.ints .u8 l).len : Int) < 8) = false from decide_eq_false (by simp [Els.len]; omega)]
  conv => lhs; whnf
  refine asrt_step (by first | rfl | (simp [Els.len, eE1, eE2, eE3, bT1, gT1, bT2, gT2, bT3, gT3, Nat.ble_eq]; done) | (simp [Els.len, eE1, eE2, eE3, bT1, gT1, bT2, gT2, bT3, gT3, Nat.ble_eq]; (repeat' apply And.intro) <;> first | omega | exact rfl | exact dec_ok (by omega))) ?_
  conv => lhs; whnf
  have hcd : List.drop (Int.toNat 8) (List.take ((Els.ints .u8 l).len : Int).toNat l) = l.drop 8 := cut_drop (k := 8) rfl
  rw [hcd]
  refine call_to hT (tagged_spec (by omega) (Bs.cons (by omega) (hb.drop 8)) (by rw [List.length_drop]; omega)) ?_
  conv => lhs; whnf
  refine asrt_step (by first | rfl | (simp [Els.len, eE1, eE2, eE3, bT1, gT1, bT2, gT2, bT3, gT3, Nat.ble_eq]; done) | (simp [Els.len, eE1, eE2, eE3, bT1, gT1, bT2, gT2, bT3, gT3, Nat.ble_eq]; (repeat' apply And.intro) <;> first | omega | exact rfl | exact dec_ok (by omega))) ?_
  conv => lhs; whnf
  have hs : ((bytesOf (sumB (l.drop 8)).list).data.toList == (bytesOf (l.take 8)).data.toList) = decide ((sumB (l.drop 8)).list = l.take 8) := strEq (sumI_Bs _) (hb.take 8)
  generalize hX : (BEq.beq (bytesOf _).data.toList (bytesOf _).data.toList) = X
  have hX : ((bytesOf (sumB (l.drop 8)).list).data.toList == (bytesOf (l.take 8)).data.toList) = X := hX
  rw [hs] at hX
  rw [hX]
  clear hs hX
  cases X
  · conv => lhs; whnf
    rfl
  conv => lhs; whnf
  refine asrt_step (by first | rfl | (simp [Els.len, eE1, eE2, eE3, bT1, gT1, bT2, gT2, bT3, gT3, Nat.ble_eq]; done) | (simp [Els.len, eE1, eE2, eE3, bT1, gT1, bT2, gT2, bT3, gT3, Nat.ble_eq]; (repeat' apply And.intro) <;> first | omega | exact rfl | exact dec_ok (by omega))) ?_
  conv => lhs; whnf
  rw [hcd]
  refine call_to hT (rdecVw_spec (by omega) (hb.drop 8) (by rw [List.length_drop]; omega)) ?_
  unfold decVwR
  cases hd : decVw (l.drop 8) with
  | none =>
    conv => lhs; whnf
    rfl
  | some p =>
    obtain ⟨vs, ts⟩ := p
    have e1 : decide (((Els.els (vs.map Sgn.pv)).len : Int) > 64) = decide (vs.length > 64) := decide_eq_decide.2 (by simp [Els.len]; omega)
    have e2 : decide (((Els.els (ts.map by_)).len : Int) > 64) = decide (ts.length > 64) := decide_eq_decide.2 (by simp [Els.len]; omega)
    rcases rowV_or vs with ⟨f1, h1⟩ | f1 <;> rcases rowT_or ts with ⟨f2, h2⟩ | f2
    all_goals
      simp only [f1, f2]
    · rw [show bigV vs ts = false from by rw [h1, h2]; rfl]
      conv => lhs; whnf
      rfl
    · rw [show bigV vs ts = decide (ts.length > 64) from by rw [h1]; rfl]
      conv => lhs; whnf
      rw [e2]
      cases decide (ts.length > 64)
      · conv => lhs; whnf
        rfl
      · conv => lhs; whnf
        rfl
    · rw [show bigV vs ts = decide (vs.length > 64) from by rw [h2]; simp [bigV]]
      conv => lhs; whnf
      rw [e1]
      cases decide (vs.length > 64)
      · conv => lhs; whnf
        rfl
      · conv => lhs; whnf
        rfl
    · rw [show bigV vs ts = (decide (vs.length > 64) || decide (ts.length > 64)) from rfl]
      conv => lhs; whnf
      rw [e1]
      cases decide (vs.length > 64)
      · conv => lhs; whnf
        rw [e2]
        cases decide (ts.length > 64)
        · conv => lhs; whnf
          rfl
        · conv => lhs; whnf
          rfl
      · conv => lhs; whnf
        rfl
theorem wkB_eq {x : PV} {l : List Int} (hx : Hold x l) : wkL [.sl (5, true)] [x] = [by_ l] := by
  rcases hx with ⟨rfl, rfl⟩ | rfl <;> rfl
theorem by_wk {n d : Nat} {f : FuncId} {x : PV} {l : List Int} {r : PV × List PV} (hx : Hold x l) (h0 : Nat.beq f 76 = false) (h1 : wkFind f wkT = some [.sl (5, true)]) (h3 : Nat.ble 1000000 f = false) (hn : d + 1 ≤ n) (h : ∀ n, d ≤ n → tab n f [by_ l] = some r) : tab n f [x] = some r := by
  rcases hx with ⟨rfl, rfl⟩ | rfl
  · obtain ⟨n, rfl⟩ : ∃ m, n = m + 1 := ⟨n - 1, by omega⟩
    exact tab_wk h0 h1 rfl h3 (by rw [wkB_eq (.inl ⟨rfl, rfl⟩)]; exact h n (by omega))
  · exact h n (by omega)
theorem hdecP_spec {n : Nat} (hn : 9 ≤ n) {x : PV} {l : List Int} (hx : Hold x l) (hb : Bs l) (hl : l.length < 1000000000) : tab n 13 [x] = some (decPR l, []) :=
  by_wk hx rfl rfl rfl (d := 8) (by omega) fun _ h => hdecP_sl h hb hl
theorem rdecP_spec {n : Nat} (hn : 12 ≤ n) {x : PV} {l : List Int} (hx : Hold x l) (hb : Bs l) (hl : l.length < 1000000) : tab n 15 [x] = some (decPR l, []) :=
  by_wk hx rfl rfl rfl (d := 11) (by omega) fun _ h => rdecP_sl h hb hl
end Go.Pm

/- What is written is read again, and what is read is written so. -/
namespace Go.Pm
open Go
set_option maxRecDepth 100000

/-! ### What is written is read again -/
theorem be_val {v : Int} (h : 0 ≤ v) (h2 : v < 4294967296) : be (IntKind.u64.wrap v) 3 = v / 16777216 % 256 ∧ be (IntKind.u64.wrap v) 2 = v / 65536 % 256 ∧ be (IntKind.u64.wrap v) 1 = v / 256 % 256 ∧ be (IntKind.u64.wrap v) 0 = v % 256 := by
  rw [u_wrap h (by omega)]
  refine ⟨?_, ?_, ?_, ?_⟩
  · show (v.fdiv 16777216) % 256 = _
    rw [Int.fdiv_eq_ediv_of_nonneg _ (by omega)]
  · show (v.fdiv 65536) % 256 = _
    rw [Int.fdiv_eq_ediv_of_nonneg _ (by omega)]
  · show (v.fdiv 256) % 256 = _
    rw [Int.fdiv_eq_ediv_of_nonneg _ (by omega)]
  · show (v.fdiv 1) % 256 = _
    rw [Int.fdiv_eq_ediv_of_nonneg _ (by omega), Int.ediv_one]
theorem wr_nat {n : Nat} (h : n < 4294967296) : wr n = n := u_wrap (by omega) (by omega)
theorem getD_pre {pre y : List Int} {i : Nat} : (pre ++ y).getD (pre.length + i) 0 = y.getD i 0 := by
  simp [List.getD_eq_getElem?_getD, List.getElem?_append_right]
theorem num4_hd {pre post : List Int} {n : Nat} (h : n < 4294967296) : num4 (pre ++ (hd4 n ++ post)) pre.length = n := by
  unfold num4
  rw [show pre.length + 1 + 1 + 1 = pre.length + 3 from rfl, show pre.length + 1 + 1 = pre.length + 2 from rfl, getD_pre, getD_pre, getD_pre]
  rw [show (pre ++ (hd4 n ++ post)).getD pre.length 0 = (hd4 n ++ post).getD 0 0 from getD_pre (i := 0)]
  obtain ⟨h3, h2, h1, h0⟩ := be_val (v := (n : Int)) (by omega) (by omega)
  show (((be (IntKind.u64.wrap n) 3 * 256 + be (IntKind.u64.wrap n) 2) * 256 + be (IntKind.u64.wrap n) 1) * 256 + be (IntKind.u64.wrap n) 0).toNat = n
  rw [h3, h2, h1, h0]
  omega
theorem lenAt_hd {pre post : List Int} {t : List Int} (h : t.length < 65536) : lenAt (pre ++ (encT t ++ post)) pre.length = t.length := by
  unfold lenAt
  rw [getD_pre]
  rw [show (pre ++ (encT t ++ post)).getD pre.length 0 = (encT t ++ post).getD 0 0 from getD_pre (i := 0)]
  obtain ⟨h3, h2, h1, h0⟩ := be_val (v := (t.length : Int)) (by omega) (by omega)
  show ((be (IntKind.u64.wrap t.length) 1 * 256 + be (IntKind.u64.wrap t.length) 0)).toNat = t.length
  rw [h1, h0]
  omega
theorem u8_id {a : Int} (h : 0 ≤ a ∧ a < 256) : IntKind.u8.wrap a = a := Int.emod_eq_of_lt h.1 (by show a < 256; omega)
theorem supB_range {v : Vot} (h : supB v = false) (h1 : -9223372036854775808 ≤ v.support) (h2 : v.support < 9223372036854775808) : 0 ≤ v.support ∧ v.support < 1024 := by
  have h0 : IntKind.i64.wrap (BitVec.ofInt 64 v.support &&& ~~~ BitVec.ofInt 64 1023).toNat = 0 := by
    unfold supB at h
    simpa using h
  generalize hx : BitVec.ofInt 64 v.support = x at h0
  have h3 : (x &&& ~~~ BitVec.ofInt 64 1023).toNat = 0 := by
    have hlt := (x &&& ~~~ BitVec.ofInt 64 1023).isLt
    generalize (x &&& ~~~ BitVec.ofInt 64 1023).toNat = y at h0 hlt
    have h0 : (if (true && decide ((y : Int) % 18446744073709551616 ≥ 9223372036854775808)) then (y : Int) % 18446744073709551616 - 18446744073709551616 else (y : Int) % 18446744073709551616) = 0 := h0
    simp only [Bool.true_and, decide_eq_true_eq] at h0
    split at h0 <;> omega
  have h4 : x &&& ~~~ BitVec.ofInt 64 1023 = 0#64 := BitVec.eq_of_toNat_eq (by rw [h3]; rfl)
  have h5 : x = x &&& BitVec.ofInt 64 1023 := by
    apply BitVec.eq_of_getLsbD_eq
    intro i hi
    have := congrArg (fun b : BitVec 64 => b.getLsbD i) h4
    simp only [BitVec.getLsbD_and, BitVec.getLsbD_not, hi, decide_true, Bool.true_and, BitVec.getLsbD_zero] at this ⊢
    cases hxi : x.getLsbD i <;> simp_all
  have h6 : x.toNat < 1024 := by
    rw [h5, BitVec.toNat_and]
    have : (BitVec.ofInt 64 1023).toNat = 1023 := rfl
    rw [this]
    exact Nat.lt_succ_of_le Nat.and_le_right
  rw [← hx, BitVec.toNat_ofInt] at h6
  omega
theorem valid_range {v : Vot} (h : validV v = true) : (0 ≤ v.kind ∧ v.kind < 256) ∧ (0 ≤ v.slot ∧ v.slot < 256) ∧ (0 ≤ v.round ∧ v.round < 256) ∧ (0 ≤ v.choice ∧ v.choice < 256) ∧ (0 ≤ v.signer ∧ v.signer < 256) ∧ supB v = false := by
  unfold validV restV at h
  simp only [Bool.and_eq_true, decide_eq_true_eq, Bool.not_eq_true', Bool.not_eq_eq_eq_not, Bool.not_true] at h
  obtain ⟨⟨⟨⟨⟨hk1, hk2⟩, hs1, hs2⟩, _⟩, hsup⟩, hr⟩ := h
  have hk : v.kind = 1 ∨ v.kind = 2 ∨ v.kind = 3 ∨ v.kind = 4 ∨ v.kind = 5 ∨ v.kind = 6 ∨ v.kind = 7 := by omega
  rcases hk with h | h | h | h | h | h | h <;> simp [h] at hr <;> refine ⟨by omega, by omega, by omega, by omega, by omega, hsup⟩
def Vot.wide (v : Vot) : Prop := -9223372036854775808 ≤ v.support ∧ v.support < 9223372036854775808
theorem nmAt_list {pre : List Int} {n : Nm} {post : List Int} : nmAt (pre ++ (n.list ++ post)) pre.length = n := by
  unfold nmAt
  rw [getD_pre, getD_pre, getD_pre, getD_pre, getD_pre, getD_pre, getD_pre]
  rw [show (pre ++ (n.list ++ post)).getD pre.length 0 = (n.list ++ post).getD 0 0 from getD_pre (i := 0)]
  rfl
theorem decV_encV {v : Vot} (h : validV v = true) (hw : v.wide) : decV (encV v) = v := by
  obtain ⟨h1, h2, h3, h4, h5, h6⟩ := valid_range h
  obtain ⟨h7, h8⟩ := supB_range h6 hw.1 hw.2
  obtain ⟨_, _, b1, b0⟩ := be_val (v := v.support) h7 (by omega)
  have e : decV (encV v) = ⟨IntKind.u8.wrap v.kind, IntKind.u8.wrap v.slot, IntKind.u8.wrap v.round, IntKind.u8.wrap v.choice, IntKind.u8.wrap v.signer, be (IntKind.u64.wrap v.support) 1 * 256 + be (IntKind.u64.wrap v.support) 0, v.parent, v.value⟩ := rfl
  rw [e, u8_id h1, u8_id h2, u8_id h3, u8_id h4, u8_id h5, b1, b0, show v.support / 256 % 256 * 256 + v.support % 256 = v.support from by omega]
theorem encV_decV {l : List Int} (hl : l.length = 23) (hb : Bs l) : encV (decV l) = l := by
  obtain ⟨a0, a1, a2, a3, a4, a5, a6, a7, a8, a9, a10, a11, a12, a13, a14, a15, a16, a17, a18, a19, a20, a21, a22, rfl⟩ := len23 hl
  have h (i : Nat) := getD_Bs hb i
  have g0 := h 0
  have g1 := h 1
  have g2 := h 2
  have g3 := h 3
  have g4 := h 4
  have g5 := h 5
  have g6 := h 6
  simp only [List.getD_cons_zero, List.getD_cons_succ] at g0 g1 g2 g3 g4 g5 g6
  obtain ⟨_, _, b1, b0⟩ := be_val (v := a5 * 256 + a6) (by omega) (by omega)
  show [IntKind.u8.wrap a0, IntKind.u8.wrap a1, IntKind.u8.wrap a2, IntKind.u8.wrap a3, IntKind.u8.wrap a4, be (IntKind.u64.wrap (a5 * 256 + a6)) 1, be (IntKind.u64.wrap (a5 * 256 + a6)) 0, a7, a8, a9, a10, a11, a12, a13, a14, a15, a16, a17, a18, a19, a20, a21, a22] = _
  rw [u8_id g0, u8_id g1, u8_id g2, u8_id g3, u8_id g4, b1, b0, show (a5 * 256 + a6) / 256 % 256 = a5 from by omega, show (a5 * 256 + a6) % 256 = a6 from by omega]
theorem decS_encSL {s : Sgn} (h : okS s = true) (hw : s.vote.wide) : decS (encSL s) = s := by
  unfold okS at h
  simp only [Bool.and_eq_true, decide_eq_true_eq] at h
  have e1 : (encSL s).take 23 = encV s.vote := by
    unfold encSL
    rw [List.take_append_of_le_length (by rw [encV_len]; omega), List.take_of_length_le (by rw [encV_len]; omega)]
  have e2 : (encSL s).drop 23 = s.sig := by
    unfold encSL
    rw [List.drop_append_of_le_length (by rw [encV_len]; omega), List.drop_of_length_le (by rw [encV_len]; omega)]
    rfl
  unfold decS
  rw [e1, e2, decV_encV h.1 hw]
theorem encSL_len {s : Sgn} (h : okS s = true) : (encSL s).length = 393 := by
  unfold okS at h
  simp only [Bool.and_eq_true, decide_eq_true_eq] at h
  rw [encSL, List.length_append, encV_len, h.2]
theorem cut_mid {pre x post : List Int} {k n : Nat} (hk : pre.length = k) (hn : x.length = n) : ((pre ++ (x ++ post)).drop k).take n = x := by
  subst hk hn
  rw [List.drop_left, List.take_left]
theorem decVs_encVs : ∀ {vs : List Sgn} {pre post l : List Int} {k : Nat}, vs.all okS = true → (∀ s ∈ vs, s.vote.wide) → l = pre ++ (encVs vs ++ post) → pre.length = k → decVs vs.length l k = some vs
  | [], _, _, _, _, _, _, _, _ => rfl
  | s :: r, pre, post, l, k, h, hw, hl, hk => by
    rw [List.all_cons, Bool.and_eq_true] at h
    have hs := encSL_len h.1
    have hl2 : l = pre ++ (encSL s ++ (encVs r ++ post)) := by rw [hl]; simp [encVs]
    have hc : (l.drop k).take 393 = encSL s := by rw [hl2]; exact cut_mid hk hs
    have ho : okAt l k = true := by
      unfold okAt
      rw [hc]
      have e1 : (encSL s).take 23 = encV s.vote := by
        unfold encSL
        rw [List.take_append_of_le_length (by rw [encV_len]; omega), List.take_of_length_le (by rw [encV_len]; omega)]
      have h1 := h.1
      unfold okS at h1
      simp only [Bool.and_eq_true, decide_eq_true_eq] at h1
      rw [e1, decV_encV h1.1 (hw s (by simp)), h1.1, Bool.and_true]
      refine dec_ok ?_
      rw [hl2, List.length_append, List.length_append, hs, hk]
      omega
    rw [List.length_cons, decVs_step, if_pos ho]
    have hv : voteAt l k = s := by unfold voteAt; rw [hc, decS_encSL h.1 (hw s (by simp))]
    rw [hv, decVs_encVs (pre := pre ++ encSL s) (post := post) h.2 (fun x hx => hw x (by simp [hx])) (by rw [hl2]; simp) (by rw [List.length_append, hs, hk])]
    rfl
theorem encT_len (t : List Int) : (encT t).length = t.length + 2 := by simp [encT]
theorem decTs_encTs : ∀ {ts : List (List Int)} {pre post l : List Int} {k : Nat}, ts.all okT = true → l = pre ++ (encTs ts ++ post) → pre.length = k → decTs ts.length l k = some (ts, k + (encTs ts).length)
  | [], _, _, _, _, _, _, _ => rfl
  | t :: r, pre, post, l, k, h, hl, hk => by
    rw [List.all_cons, Bool.and_eq_true] at h
    have ht : t.length ≤ 65535 := of_decide_eq_true h.1
    have hl2 : l = pre ++ (encT t ++ (encTs r ++ post)) := by rw [hl]; simp [encTs]
    have hla : lenAt l k = t.length := by rw [hl2, ← hk]; exact lenAt_hd (by omega)
    have ho : okTx l k := by
      unfold okTx
      rw [hla, hl2, List.length_append, List.length_append, encT_len, hk]
      omega
    have hta : textAt l k = t := by
      unfold textAt
      rw [hla]
      have e : l = (pre ++ [be (wr t.length) 1, be (wr t.length) 0]) ++ (t ++ (encTs r ++ post)) := by rw [hl2]; simp [encT]
      rw [e]
      exact cut_mid (by simp; omega) rfl
    rw [List.length_cons, decTs_step, if_pos ho, hla, hta]
    rw [decTs_encTs (pre := pre ++ encT t) (post := post) h.2 (by rw [hl2]; simp) (by rw [List.length_append, encT_len, hk]; omega)]
    simp only [Option.map_some]
    rw [show encTs (t :: r) = encT t ++ encTs r from by simp [encTs], List.length_append, encT_len]
    rw [show k + 2 + t.length + (encTs r).length = k + (t.length + 2 + (encTs r).length) from by omega]
/-- A view's bytes are read as the view. -/
theorem decVw_encVw {vs : List Sgn} {ts : List (List Int)} (h1 : vs.all okS = true) (h2 : ts.all okT = true) (h3 : ordVw vs ts = true) (hw : ∀ s ∈ vs, s.vote.wide) (hn : vs.length < 4294967296) (hm : ts.length < 4294967296) : decVw (encVw vs ts) = some (vs, ts) := by
  have hl : encVw vs ts = [] ++ (hd4 vs.length ++ (encVs vs ++ (hd4 ts.length ++ encTs ts))) := by simp [encVw]
  have n0 : num4 (encVw vs ts) 0 = vs.length := by rw [hl]; exact num4_hd hn
  have hlen := encVw_len h1 h2
  have ev := encVs_len h1
  unfold decVw
  rw [if_pos (by omega), n0]
  rw [decVs_encVs (k := 4) (pre := hd4 vs.length) (post := hd4 ts.length ++ encTs ts) h1 hw (by rw [hl]; simp) rfl]
  simp only
  have hl2 : encVw vs ts = (hd4 vs.length ++ encVs vs) ++ (hd4 ts.length ++ encTs ts) := by simp [encVw]
  have hpl : (hd4 vs.length ++ encVs vs).length = 4 + 393 * vs.length := by rw [List.length_append, ev]; rfl
  have n1 : num4 (encVw vs ts) (4 + 393 * vs.length) = ts.length := by rw [hl2, ← hpl]; exact num4_hd hm
  have hlen2 : (encVw vs ts).length = 4 + 393 * vs.length + 4 + (encTs ts).length := by rw [hl2, List.length_append, hpl, List.length_append]; simp [hd4]; omega
  unfold decRest
  rw [if_pos (by omega), n1, decTs_encTs (pre := hd4 vs.length ++ encVs vs ++ hd4 ts.length) (post := []) h2 (by simp [encVw]) (by rw [List.length_append, hpl]; rfl)]
  simp only
  rw [if_pos ⟨by omega, h3⟩]
/-! ### What is read is written so -/
theorem hd4_num4 {l : List Int} {k : Nat} (hb : Bs l) (h : k + 4 ≤ l.length) : hd4 (num4 l k) = (l.drop k).take 4 := by
  rw [take4 h]
  have h0 := getD_Bs hb k
  have h1 := getD_Bs hb (k + 1)
  have h2 := getD_Bs hb (k + 1 + 1)
  have h3 := getD_Bs hb (k + 1 + 1 + 1)
  unfold hd4 num4 wr
  generalize l.getD k 0 = a at *
  generalize l.getD (k + 1) 0 = b at *
  generalize l.getD (k + 1 + 1) 0 = c at *
  generalize l.getD (k + 1 + 1 + 1) 0 = d at *
  obtain ⟨e3, e2, e1, e0⟩ := be_val (v := ((((a * 256 + b) * 256 + c) * 256 + d).toNat : Int)) (by omega) (by omega)
  rw [e3, e2, e1, e0, Int.toNat_of_nonneg (by omega)]
  simp only [List.cons.injEq, and_true]
  omega
theorem enc2_lenAt {l : List Int} {k : Nat} (hb : Bs l) (h : k + 2 ≤ l.length) : [be (wr (lenAt l k)) 1, be (wr (lenAt l k)) 0] = (l.drop k).take 2 := by
  rw [take2 h]
  have h0 := getD_Bs hb k
  have h1 := getD_Bs hb (k + 1)
  unfold lenAt wr
  generalize l.getD k 0 = a at *
  generalize l.getD (k + 1) 0 = b at *
  obtain ⟨_, _, e1, e0⟩ := be_val (v := ((a * 256 + b).toNat : Int)) (by omega) (by omega)
  rw [e1, e0, Int.toNat_of_nonneg (by omega)]
  simp only [List.cons.injEq, and_true]
  omega
theorem cut_cut {l : List Int} {k a b : Nat} : (l.drop k).take a ++ (l.drop (k + a)).take b = (l.drop k).take (a + b) := by
  rw [← List.drop_drop, List.take_add]
theorem encVs_decVs : ∀ {n : Nat} {l : List Int} {k : Nat} {vs : List Sgn}, Bs l → decVs n l k = some vs → encVs vs = (l.drop k).take (393 * n)
  | 0, l, k, vs, _, h => by
    simp only [decVs, Option.some.injEq] at h
    subst h
    rfl
  | n + 1, l, k, vs, hb, h => by
    rw [decVs_step] at h
    split at h
    · rename_i ho
      cases hd : decVs n l (k + 393) with
      | none => rw [hd] at h; cases h
      | some ws =>
        rw [hd] at h
        simp only [Option.map_some, Option.some.injEq] at h
        subst h
        have ih := encVs_decVs hb hd
        unfold okAt at ho
        simp only [Bool.and_eq_true, decide_eq_true_eq] at ho
        have hl : ((l.drop k).take 393).length = 393 := by rw [List.length_take, List.length_drop]; omega
        have e : encSL (voteAt l k) = (l.drop k).take 393 := by
          unfold voteAt decS encSL
          rw [encV_decV (by rw [List.length_take, hl]; rfl) (((hb.drop k).take 393).take 23), List.take_append_drop]
        rw [show encVs (voteAt l k :: ws) = encSL (voteAt l k) ++ encVs ws from by simp [encVs], e, ih, cut_cut, show 393 + 393 * n = 393 * (n + 1) from by omega]
    · cases h
theorem encTs_decTs : ∀ {n : Nat} {l : List Int} {k e : Nat} {ts : List (List Int)}, Bs l → decTs n l k = some (ts, e) → encTs ts = (l.drop k).take (e - k) ∧ ts.all okT = true ∧ ∀ t ∈ ts, Bs t
  | 0, l, k, e, ts, _, h => by
    simp only [decTs, Option.some.injEq, Prod.mk.injEq] at h
    obtain ⟨rfl, rfl⟩ := h
    exact ⟨by simp [encTs], rfl, by simp⟩
  | n + 1, l, k, e, ts, hb, h => by
    rw [decTs_step] at h
    split at h
    · rename_i ho
      cases hd : decTs n l (k + 2 + lenAt l k) with
      | none => rw [hd] at h; cases h
      | some p =>
        obtain ⟨us, e'⟩ := p
        rw [hd] at h
        simp only [Option.map_some, Option.some.injEq, Prod.mk.injEq] at h
        obtain ⟨rfl, rfl⟩ := h
        obtain ⟨h1, h2, h3⟩ := encTs_decTs hb hd
        have hlen := (decTs_len hd).2.1
        have htl := textAt_len hb ho
        have hl : (textAt l k).length = lenAt l k := by
          have := ho.2
          unfold textAt
          rw [List.length_take, List.length_drop]
          omega
        have e : encT (textAt l k) = (l.drop k).take (2 + lenAt l k) := by
          unfold encT
          rw [hl, show [be (wr (lenAt l k)) 1] ++ [be (wr (lenAt l k)) 0] = [be (wr (lenAt l k)) 1, be (wr (lenAt l k)) 0] from rfl, enc2_lenAt hb ho.1, textAt, cut_cut]
        refine ⟨?_, ?_, ?_⟩
        · rw [show encTs (textAt l k :: us) = encT (textAt l k) ++ encTs us from by simp [encTs], e, h1, show k + 2 + lenAt l k = k + (2 + lenAt l k) from by omega, cut_cut, show 2 + lenAt l k + (e' - (k + (2 + lenAt l k))) = e' - k from by omega]
        · rw [List.all_cons, h2, Bool.and_true, okT]
          exact dec_ok (by omega)
        · intro t ht
          rcases List.mem_cons.1 ht with ht | ht
          · rw [ht]; exact (hb.drop _).take _
          · exact h3 t ht
    · cases h
/-- What is known of a view that was read. -/
theorem decVw_some {l : List Int} {vs : List Sgn} {ts : List (List Int)} (hb : Bs l) (h : decVw l = some (vs, ts)) : encVw vs ts = l ∧ vs.all okS = true ∧ ts.all okT = true ∧ ordVw vs ts = true ∧ (∀ t ∈ ts, Bs t) ∧ vs.length ≤ l.length ∧ ts.length ≤ l.length := by
  unfold decVw at h
  split at h
  · rename_i h4
    split at h
    · rename_i ws hv
      unfold decRest at h
      split at h
      · rename_i h5
        split at h
        · rename_i us e ht
          split at h
          · rename_i he
            simp only [Option.some.injEq, Prod.mk.injEq] at h
            obtain ⟨rfl, rfl⟩ := h
            obtain ⟨v1, v2, v3⟩ := decVs_len hv
            obtain ⟨t1, t2, _⟩ := decTs_len ht
            obtain ⟨u1, u2, u3⟩ := encTs_decTs hb ht
            have w1 := encVs_decVs hb hv
            refine ⟨?_, v3, u2, he.2, u3, by omega, by omega⟩
            unfold encVw
            rw [v1, t1, hd4_num4 hb (by omega), hd4_num4 hb (by omega), w1, u1, he.1]
            rw [List.drop_zero, ← List.take_add, ← List.take_add, ← List.take_add]
            exact List.take_of_length_le (by omega)
          · cases h
        · cases h
      · cases h
    · cases h
  · cases h
theorem nmAt_ok {l : List Int} (hb : Bs l) (k : Nat) : (nmAt l k).ok := by
  unfold Nm.ok nmAt Nm.list
  iterate 8 refine Bs.cons (getD_Bs hb _) ?_
  exact Bs.nil
theorem decS_ok {l : List Int} (hb : Bs l) : (decS l).ok ∧ (decS l).vote.wide := by
  refine ⟨⟨nmAt_ok (hb.take 23) 7, nmAt_ok (hb.take 23) 15, hb.drop 23⟩, ?_⟩
  have h5 := getD_Bs (hb.take 23) 5
  have h6 := getD_Bs (hb.take 23) 6
  unfold Vot.wide
  show -9223372036854775808 ≤ (l.take 23).getD 5 0 * 256 + (l.take 23).getD 6 0 ∧ (l.take 23).getD 5 0 * 256 + (l.take 23).getD 6 0 < 9223372036854775808
  omega
theorem decVs_ok : ∀ {n : Nat} {l : List Int} {k : Nat} {vs : List Sgn}, Bs l → decVs n l k = some vs → ∀ s ∈ vs, s.ok ∧ s.vote.wide
  | 0, l, k, vs, _, h => by
    simp only [decVs, Option.some.injEq] at h
    subst h
    simp
  | n + 1, l, k, vs, hb, h => by
    rw [decVs_step] at h
    split at h
    · cases hd : decVs n l (k + 393) with
      | none => rw [hd] at h; cases h
      | some ws =>
        rw [hd] at h
        simp only [Option.map_some, Option.some.injEq] at h
        subst h
        intro s hs
        rcases List.mem_cons.1 hs with hs | hs
        · rw [hs]; exact decS_ok ((hb.drop k).take 393)
        · exact decVs_ok hb hd s hs
    · cases h
theorem decVw_ok {l : List Int} {vs : List Sgn} {ts : List (List Int)} (hb : Bs l) (h : decVw l = some (vs, ts)) : ∀ s ∈ vs, s.ok ∧ s.vote.wide := by
  unfold decVw at h
  split at h
  · split at h
    · rename_i ws hv
      have : ws = vs := by
        unfold decRest at h
        split at h
        · split at h
          · split at h
            · simp only [Option.some.injEq, Prod.mk.injEq] at h; exact h.1
            · cases h
          · cases h
        · cases h
      subst this
      exact decVs_ok hb hv
    · cases h
  · cases h
end Go.Pm

/- The row that is given: bytes.Compare; all rows of the table are right. -/
namespace Go.Pm
open Go
set_option maxRecDepth 100000

open Go.RowKit

theorem hcell_cell {H : Sharing} {w : World} {b o : Nat} {v : Value} (hk : HOk H w) (h : HCell H b o v) : w.cell? ⟨b, o, none⟩ = some v := by
  obtain ⟨cs, e, fr, h1, h2⟩ := h
  have := hk b _ h1
  unfold World.cell?
  simp only [this]
  simpa using h2
/-- The bytes that a pure slice of bytes stands for are what the model reads. -/
theorem sh_bytes {H : Sharing} {w : World} {x : PV} {v : Value} {l : List Int} (hk : HOk H w) (hs : Sh PP H x v) (hl : byL x = some l) : (Extern.Bytes.bytesOf v).run PP w = .ok ⟨(l.map fun n => UInt8.ofNat n.toNat).toArray⟩ w := by
  unfold byL at hl
  split at hl
  · simp only [Option.some.injEq] at hl
    subst hl
    rename_i e l
    cases hs with
    | sl _ _ A c f hc hm hA hS =>
      by_cases h0 : l.length = 0
      · have : l = [] := List.length_eq_zero_iff.1 h0
        subst this
        cases A <;> rfl
      · obtain ⟨b, o, rfl, hE⟩ := hA (by simp only [Els.len]; omega)
        have hf : ∀ i, i < l.length → f i = .int .u8 (l.getD i 0) := by
          intro i hi
          have h : Sh PP H (.val (.int .u8 (l.getD i 0))) (f i) := hS i hi
          generalize f i = y at h
          cases h
          rfl
        have hcell : ∀ j x, l[j]? = some x → w.cell? (Addr.add ⟨b, o, none⟩ j) = some (.int .u8 x) := by
          intro j x hx
          have hj : j < l.length := (List.getElem?_eq_some_iff.1 hx).1
          obtain ⟨e1, _, _, e4⟩ := hE j hj
          rw [hf j hj] at e1 e4
          have hsz : sizeT PP e = 1 := e1.symm
          have := hcell_cell hk (e4 0 (.int .u8 (l.getD j 0)) rfl)
          rw [hsz, Nat.mul_one, Nat.add_zero] at this
          have ha : Addr.add ⟨b, o, none⟩ j = ⟨b, o + j, none⟩ := by
            unfold Addr.add
            split
            · rename_i h; subst h; rfl
            · rfl
          rw [ha, this, List.getD_eq_getElem?_getD, hx]
          rfl
        have := Go.Lib.run_loadBytesX (P := PP) w l ⟨b, o, none⟩ .empty hcell
        show (Extern.Bytes.loadBytes ⟨b, o, none⟩ l.length .empty).run PP w = _
        rw [this]
        congr 1
        apply ByteArray.ext
        show (#[] : Array UInt8) ++ (Go.Lib.bytesOf l).toArray = _
        simp [Go.Lib.bytesOf]
  · simp only [Option.some.injEq] at hl
    subst hl
    cases hs
    rfl
  · cases hl
theorem compare_run {w : World} {v1 v2 : Value} {a b : List Int} (h1 : (Extern.Bytes.bytesOf v1).run PP w = .ok ⟨(a.map fun n => UInt8.ofNat n.toNat).toArray⟩ w) (h2 : (Extern.Bytes.bytesOf v2).run PP w = .ok ⟨(b.map fun n => UInt8.ofNat n.toNat).toArray⟩ w) :
    (Extern.BytealgCompare.compare #[v1, v2]).run PP w = .ok (.int .i64 (cmpU a b)) w := by
  change Sem.run PP (do pure (goInt (Extern.BytealgCompare.cmp (← Extern.Bytes.bytesOf v1) (← Extern.Bytes.bytesOf v2)))) w = _
  simp only [Sem.run_bind, Sem.run_pure, h1, h2, Result.andThen]
  rw [Go.Lib.cmp_eq]
  rfl
set_option maxHeartbeats 1000000 in
theorem compare_calls {w : World} {v1 v2 : Value} {a b : List Int} (h1 : (Extern.Bytes.bytesOf v1).run PP w = .ok ⟨(a.map fun n => UInt8.ofNat n.toNat).toArray⟩ w) (h2 : (Extern.Bytes.bytesOf v2).run PP w = .ok ⟨(b.map fun n => UInt8.ofNat n.toNat).toArray⟩ w) :
    Calls PP 76 #[v1, v2] w fun e w' => e = .returned (.int .i64 (cmpU a b)) ∧ w' = w := by
  have hc := compare_run h1 h2
  clear h1 h2
  go_enter Go.Proofs.Tryz.func76, Go.Proofs.Tryz.ntmps76
  go_wp2
  rw [run_callFunc_extern Go.Proofs.Tryz.func123 (by kernel_rfl) (by kernel_rfl) (by kernel_rfl) (e := Extern.BytealgCompare.compare) (by kernel_rfl), hc]
  simp only [Result.andThen]
  rw [Oper.upon_value]
  go_wp2
  go_ret
  exact ⟨rfl, rfl⟩
theorem compare_contract {x y : PV} {a b : List Int} (hx : byL x = some a) (hy : byL y = some b) : Contract PP 76 [x, y] (.val (.int .i64 (cmpU a b))) [] := by
  intro w H vals pb hk hA hn
  obtain ⟨vs⟩ := vals
  have hnb : ∀ {z : PV} {l : List Int}, byL z = some l → (∀ t y, z ≠ .bx t y) ∧ (∀ e E, z ≠ .row e E) := by
    intro z l h
    exact ⟨fun t y e => by subst e; simp [byL] at h, fun t y e => by subst e; simp [byL] at h⟩
  obtain ⟨x1, x2⟩ := hnb hx
  obtain ⟨y1, y2⟩ := hnb hy
  match vs, hA with
  | [v1, v2], ⟨b1, b2, e1, h1, ⟨b3, b4, e2, h2, h3⟩⟩ =>
    obtain ⟨s1, rfl⟩ := (A1.of_sh x1 x2).1 h1
    obtain ⟨s2, rfl⟩ := (A1.of_sh y1 y2).1 h2
    have h3 : b4 = [] := h3
    subst h3
    have e1 : pb = [] := by rw [e1, e2]; rfl
    subst e1
    have hd : handed [x, y] [v1, v2] = [] := by rw [handed_skip x1 x2, handed_skip y1 y2]; rfl
    refine (compare_calls (sh_bytes hk s1 hx) (sh_bytes hk s2 hy)).mono fun e w' ⟨he, hw⟩ => ?_
    subst hw
    refine ⟨_, H, [], he, fun _ _ h => h, fun b cs (h : H b = some cs) (h0 : H b = none) => (by rw [h] at h0; cases h0), hk, ⟨rfl, rfl, rfl, Nat.le_refl _⟩, fun _ _ _ => rfl, ⟨.val _ rfl, rfl⟩, List.nodup_nil, by simp, ?_⟩
    show OL PP H w' [] (handed [x, y] [v1, v2])
    rw [hd]
    trivial
/-- The rows that are given are right. -/
theorem prim_ok (T : FuncId → List PV → Option (PV × List PV)) (hT : TableOk PP T) (f : FuncId) (args : List PV) (r : PV) (outs : List PV) (hf : f < 1000000) (h : primE T f args = some (r, outs)) : Entered PP f ∧ Contract PP f args r outs := by
  unfold primE at h
  cases hb : Nat.beq f 76 with
  | true =>
    rw [hb, cond_true] at h
    have hf76 := Nat.eq_of_beq_eq_true hb
    subst hf76
    refine ⟨⟨_, Go.Proofs.Tryz.func76, by kernel_rfl, by kernel_rfl⟩, ?_⟩
    split at h
    · split at h
      · rename_i x y _ _ a b hx hy
        simp only [Option.some.injEq, Prod.mk.injEq] at h
        obtain ⟨rfl, rfl⟩ := h
        exact compare_contract hx hy
      · cases h
    · cases h
  | false =>
    rw [hb, cond_false] at h
    split at h
    · rename_i ks hks
      cases hn : nilL ks args with
      | false => rw [hn] at h; cases h
      | true =>
        rw [hn, cond_true] at h
        obtain ⟨h1, h2⟩ := hT f _ _ _ hf h
        exact ⟨h1, h2.wk⟩
    · cases h
/-- All rows of the table are right. -/
theorem tab_ok (n : Nat) : TableOk PP (TT n) := tabF_ok (by kernel_rfl) (fun _ _ _ h => fnOf_ok h) prim_ok n
theorem tab_contract {n : Nat} {f : FuncId} {args : List PV} {r : PV} {outs : List PV} (hf : f < 1000000) (h : tab n f args = some (r, outs)) : Contract PP f args r outs := by
  refine (tab_ok n f args r outs hf ?_).2
  unfold TT wrap
  have : Nat.ble 1000000 f = false := by
    cases hb : Nat.ble 1000000 f with
    | false => rfl
    | true => exact absurd (Nat.le_of_ble_eq_true hb) (Nat.not_le.2 hf)
  rw [this, cond_false]
  exact h
end Go.Pm

/- The last conjunct of each statement: it is evaluated. -/
namespace Go.Pm
open Go
theorem awake_val : tab 30 10 [] = some (tB true, []) := by kernel_rfl
end Go.Pm
