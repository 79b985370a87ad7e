/- Words of numbers, compared, appended, cut, joined -/
import Derived.Test.YtmiiolgbjicocaaProg
import Derived.Test.YtmiiolgbjicocaaLib
import Derived.Laws.AppendOwnNone
import Derived.Lib.SliceRun
namespace Go.Proofs.Ytmiiolgbjicocaa
open Go.RowKit
def lessL : List Int → List Int → Bool
  | [], [] => false
  | [], _ :: _ => true
  | _ :: _, [] => false
  | x :: xs, y :: ys => if x = y then lessL xs ys else decide (x < y)
theorem lessL_drop : ∀ (k : Nat) (xs ys : List Int), k ≤ xs.length → k ≤ ys.length → xs.take k = ys.take k → lessL xs ys = lessL (xs.drop k) (ys.drop k)
  | 0, _, _, _, _, _ => rfl
  | k + 1, x :: xs, y :: ys, hx, hy, h => by
    simp only [List.take_succ_cons, List.cons.injEq] at h
    rw [lessL, if_pos h.1, List.drop_succ_cons, List.drop_succ_cons]
    exact lessL_drop k xs ys (by simpa using hx) (by simpa using hy) h.2
theorem lessL_at {k : Nat} {xs ys : List Int} (hx : k < xs.length) (hy : k < ys.length) (h : xs.take k = ys.take k) (hne : xs[k] ≠ ys[k]) : lessL xs ys = decide (xs[k] < ys[k]) := by
  rw [lessL_drop k xs ys (by omega) (by omega) h, List.drop_eq_getElem_cons hx, List.drop_eq_getElem_cons hy]
  simp [lessL, hne]
theorem lessL_end {xs ys : List Int} {k : Nat} (hx : k ≤ xs.length) (hy : k ≤ ys.length) (h : xs.take k = ys.take k) (he : k = xs.length ∨ k = ys.length) : lessL xs ys = decide (xs.length < ys.length) := by
  rw [lessL_drop k xs ys hx hy h]
  rcases he with rfl | rfl
  · rw [List.drop_length]
    cases hd : ys.drop xs.length with
    | nil => have := congrArg List.length hd; simp at this; simp [lessL]; omega
    | cons y t => have := congrArg List.length hd; simp at this; simp [lessL]; omega
  · rw [List.drop_length]
    cases hd : xs.drop ys.length with
    | nil => have := congrArg List.length hd; simp at this; simp [lessL]; omega
    | cons y t => have := congrArg List.length hd; simp at this; simp [lessL]; omega
theorem lessL_same : ∀ xs ys : List Int, (!lessL xs ys && !lessL ys xs) = decide (xs = ys)
  | [], [] => by simp [lessL]
  | [], _ :: _ => by simp [lessL]
  | _ :: _, [] => by simp [lessL]
  | x :: xs, y :: ys => by
    have := lessL_same xs ys
    by_cases h : x = y
    · subst h; simp [lessL, this]
    · have h' : ¬ y = x := fun e => h e.symm
      simp only [lessL, h, h', if_false, List.cons.injEq, false_and, decide_false]
      simp; omega
theorem less_any {B : Nat} {a b : Option Addr} {ca cb : Nat} {xs ys : List Int} {w : World} (ha : Ints w B a xs) (hb : Ints w B b ys) (hx : xs.length ≤ 9223372036854775807) (hy : ys.length ≤ 9223372036854775807) :
    Calls Try.prog 40 #[.slice a xs.length ca, .slice b ys.length cb] w fun e w' => e = .returned (.bool (lessL xs ys)) ∧ ∃ n, w' = w.drewN n := by
  have HA := Lib.hid ha
  have HB := Lib.hid hb
  clear ha hb
  go_enter Try.func40, Try.ntmps40
  go_wp2
  go_loopw [5] (fun i wr => ∃ k n : Nat, k ≤ xs.length ∧ k ≤ ys.length ∧ xs.take k = ys.take k ∧ i = .int .i64 k ∧ wr = w.drewN n) (fun i _ => xs.length - (intOf i).toNat)
  case atStart => exact ⟨0, 0, by omega, by omega, rfl, rfl, rfl⟩
  case round =>
    obtain ⟨k, n, hk, hk2, ht, rfl, rfl⟩ := hrel
    have HT := Lib.hid ht
    clear ht
    by_cases hlt : k < xs.length
    · by_cases hlt2 : k < ys.length
      · obtain ⟨b1, o1, rfl, hb1, hc1⟩ := HA.out k hlt
        obtain ⟨b2, o2, rfl, hb2, hc2⟩ := HB.out k hlt2
        have hi1 : (k : Int) < xs.length := by omega
        have hi2 : (k : Int) < ys.length := by omega
        by_cases he : xs[k] = ys[k]
        · have he' : (xs[k] != ys[k]) = false := by simp [he]
          have HE := Lib.hid he
          clear he
          go_wp2
          go_quiet (fail)
          go_wp2
          go_roundw
          case rel => exact ⟨k + 1, _, by omega, by omega, by rw [List.take_succ_eq_append_getElem hlt, List.take_succ_eq_append_getElem hlt2, HT.out, HE.out], by go_num, rfl⟩
          case measure => simp [intOf]; omega
        · have he' : (xs[k] != ys[k]) = true := by simp [he]
          have HL := Lib.hid (lessL_at hlt hlt2 HT.out he)
          clear he
          go_wp2
          go_quiet (fail)
          go_wp2
          go_quiet (fail)
          go_wp2
          go_ret
          exact ⟨by rw [HL.out]; rfl, _, by rw [World.drewN_drewN, World.drewN_drewN]⟩
      · have HL := Lib.hid (lessL_end hk hk2 HT.out (.inr (by omega)))
        have hi1 : (k : Int) < xs.length := by omega
        have hi2 : ¬ (k : Int) < ys.length := by omega
        go_wp2
        go_ret
        exact ⟨by rw [HL.out]; simp, _, rfl⟩
    · have HL := Lib.hid (lessL_end hk hk2 HT.out (.inl (by omega)))
      have hi1 : ¬ (k : Int) < xs.length := by omega
      go_wp2
      go_ret
      exact ⟨by rw [HL.out]; simp, _, rfl⟩
theorem ints_drewN {w : World} {B : Nat} {a : Option Addr} {xs : List Int} (h : Ints w B a xs) (n : Nat) : Ints (w.drewN n) B a xs := h
theorem same_any {B : Nat} {a b : Option Addr} {ca cb : Nat} {xs ys : List Int} {w : World} (ha : Ints w B a xs) (hb : Ints w B b ys) (hx : xs.length ≤ 9223372036854775807) (hy : ys.length ≤ 9223372036854775807) :
    Calls Try.prog 15 #[.slice a xs.length ca, .slice b ys.length cb] w fun e w' => e = .returned (.bool (decide (xs = ys))) ∧ ∃ n, w' = w.drewN n := by
  have HA := Lib.hid (less_any (ca := ca) (cb := cb) ha hb hx hy)
  have HB := fun n => Lib.hid (less_any (ca := cb) (cb := ca) (ints_drewN hb n) (ints_drewN ha n) hy hx)
  have HS := Lib.hid (lessL_same xs ys)
  clear ha hb
  generalize lessL xs ys = p at *
  generalize lessL ys xs = q at *
  cases p
  · go_enter Try.func15, Try.ntmps15
    go_wp2_with fail
    refine HA.out.mono ?_
    rintro e w' ⟨rfl, n, rfl⟩
    go_wp2_with fail
    refine (HB n).out.mono ?_
    rintro e w' ⟨rfl, m, rfl⟩
    go_wp2
    go_ret
    exact ⟨by rw [← HS.out]; simp, _, rfl⟩
  · go_enter Try.func15, Try.ntmps15
    go_wp2_with fail
    refine HA.out.mono ?_
    rintro e w' ⟨rfl, n, rfl⟩
    go_wp2
    go_ret
    exact ⟨by rw [← HS.out]; simp, _, rfl⟩
end Go.Proofs.Ytmiiolgbjicocaa
namespace Go.Proofs.Ytmiiolgbjicocaa
open Go.RowKit
def cmpL (xs ys : List Int) : Int := if lessL xs ys then -1 else if xs = ys then 0 else 1
theorem isNaN_any (x : Int) (w : World) : Calls Try.prog 102 #[.int .i64 x] w fun e w' => e = .returned (.bool false) ∧ w = w' := by
  have h : (x != x) = false := by simp
  go_enter Try.func102, Try.ntmps102
  go_wp2
  go_ret
  exact ⟨rfl, rfl⟩
theorem cmp_any (x y : Int) (w : World) : Calls Try.prog 96 #[.int .i64 x, .int .i64 y] w fun e w' => e = .returned (.int .i64 (if x < y then -1 else if y < x then 1 else 0)) ∧ w = w' := by
  by_cases h1 : x < y
  · rw [if_pos h1]
    go_enter Try.func96, Try.ntmps96
    go_wp2_with (first | (go_at_call 102; refine (isNaN_any _ _).mono ?_; rintro e w' ⟨rfl, rfl⟩))
    go_ret
    exact ⟨rfl, rfl⟩
  · by_cases h2 : y < x
    · rw [if_neg h1, if_pos h2]
      go_enter Try.func96, Try.ntmps96
      go_wp2_with (first | (go_at_call 102; refine (isNaN_any _ _).mono ?_; rintro e w' ⟨rfl, rfl⟩))
      go_ret
      exact ⟨rfl, rfl⟩
    · rw [if_neg h1, if_neg h2]
      go_enter Try.func96, Try.ntmps96
      go_wp2_with (first | (go_at_call 102; refine (isNaN_any _ _).mono ?_; rintro e w' ⟨rfl, rfl⟩))
      go_ret
      exact ⟨rfl, rfl⟩
theorem cmp_self (x : Int) (w : World) : Calls Try.prog 96 #[.int .i64 x, .int .i64 x] w fun e w' => e = .returned (.int .i64 0) ∧ w = w' := by
  have h := cmp_any x x w
  rw [if_neg (by omega), if_neg (by omega)] at h
  exact h
theorem scmp_any {B : Nat} {a b : Option Addr} {ca cb : Nat} {xs ys : List Int} {w : World} (ha : Ints w B a xs) (hb : Ints w B b ys) (hx : xs.length ≤ 9223372036854775807) (hy : ys.length ≤ 9223372036854775807) :
    Calls Try.prog 85 #[.slice a xs.length ca, .slice b ys.length cb] w fun e w' => e = .returned (.int .i64 (cmpL xs ys)) ∧ w = w' := by
  have HA := Lib.hid ha
  have HB := Lib.hid hb
  clear ha hb
  go_enter Try.func85, Try.ntmps85
  go_wp2
  go_loop [11] (fun i => ∃ k : Nat, k ≤ xs.length ∧ k ≤ ys.length ∧ i = .int .i64 k ∧ Hid (xs.take k = ys.take k)) (fun i => xs.length - (intOf i).toNat)
  case atStart => exact ⟨0, by omega, by omega, rfl, Lib.hid (by simp)⟩
  case round =>
    obtain ⟨k, hk, hk2, rfl, hf⟩ := hrel
    by_cases hlt : k < xs.length
    · have hki : (k : Int) < xs.length := by omega
      obtain ⟨b1, o1, rfl, h1, hc1⟩ := HA.out k hlt
      by_cases hlt2 : k < ys.length
      · have hki2 : (k : Int) < ys.length := by omega
        have hki3 : ¬ (ys.length : Int) ≤ k := by omega
        obtain ⟨b2, o2, rfl, h2, hc2⟩ := HB.out k hlt2
        by_cases he : xs[k] = ys[k]
        · have HT := Lib.hid (show xs.take (k + 1) = ys.take (k + 1) by rw [List.take_succ_eq_append_getElem hlt, List.take_succ_eq_append_getElem hlt2, hf.out, he])
          rw [he] at hc1
          have HC := fun W => Lib.hid (cmp_self ys[k] W)
          clear he
          generalize ys[k] = y at *
          go_wp2_with (first | (go_at_call 96; refine (HC _).out.mono ?_; rintro e w' ⟨rfl, rfl⟩))
          go_round
          case rel => exact ⟨k + 1, by omega, by omega, by go_num, HT⟩
          case measure => simp [intOf]; omega
        · have HL := Lib.hid (lessL_at hlt hlt2 hf.out he)
          have HN : Hid (xs ≠ ys) := Lib.hid (fun h => he (by subst h; rfl))
          have HV : Hid (cmpL xs ys = if xs[k] < ys[k] then -1 else if ys[k] < xs[k] then 1 else 0) := Lib.hid (by
            unfold cmpL
            rw [HL.out]
            by_cases h3 : xs[k] < ys[k]
            · simp [h3]
            · rw [if_neg (by simpa using h3), if_neg h3, if_neg HN.out, if_pos (by omega)])
          have HC := fun W => Lib.hid (cmp_any xs[k] ys[k] W)
          rw [← HV.out] at HC
          have hnz : (cmpL xs ys != 0) = true := by
            rw [HV.out]
            by_cases h3 : xs[k] < ys[k]
            · simp [h3]
            · rw [if_neg h3, if_pos (by omega)]; rfl
          clear he
          go_wp2_with (first | (go_at_call 96; refine (HC _).out.mono ?_; rintro e w' ⟨rfl, rfl⟩))
          go_ret
          exact ⟨rfl, rfl⟩
      · have hki3 : (ys.length : Int) ≤ k := by omega
        have HV : Hid (cmpL xs ys = 1) := Lib.hid (by
          have hl := lessL_end hk hk2 hf.out (.inr (by omega))
          unfold cmpL
          rw [hl, if_neg (by simp; omega), if_neg (fun h => by subst h; omega)])
        go_wp2
        go_ret
        exact ⟨by rw [HV.out]; rfl, rfl⟩
    · have hki : ¬ (k : Int) < xs.length := by omega
      have hl := Lib.hid (lessL_end hk hk2 hf.out (.inl (by omega)))
      by_cases hlt2 : xs.length < ys.length
      · have HV : Hid (cmpL xs ys = -1) := Lib.hid (by unfold cmpL; rw [hl.out, if_pos (by simpa using hlt2)])
        have hki2 : (xs.length : Int) < ys.length := by omega
        go_wp2
        go_ret
        exact ⟨by rw [HV.out]; rfl, rfl⟩
      · have HV : Hid (cmpL xs ys = 0) := Lib.hid (by
          have e : xs = ys := by
            have h := hf.out
            rwa [List.take_of_length_le (by omega), List.take_of_length_le (by omega)] at h
          unfold cmpL
          rw [hl.out, if_neg (by simpa using hlt2), if_pos e])
        have hki2 : ¬ (xs.length : Int) < ys.length := by omega
        go_wp2
        go_ret
        exact ⟨by rw [HV.out]; rfl, rfl⟩
theorem compare_any {B : Nat} {a b : Option Addr} {ca cb : Nat} {xs ys : List Int} {w : World} (ha : Ints w B a xs) (hb : Ints w B b ys) (hx : xs.length ≤ 9223372036854775807) (hy : ys.length ≤ 9223372036854775807) :
    Calls Try.prog 69 #[.slice a xs.length ca, .slice b ys.length cb] w fun e w' => e = .returned (.int .i64 (cmpL xs ys)) ∧ w = w' := by
  have H := fun W => Lib.hid (fun h1 h2 => scmp_any (B := B) (ca := ca) (cb := cb) (w := W) (a := a) (b := b) (xs := xs) (ys := ys) h1 h2 hx hy)
  have HA := Lib.hid ha
  have HB := Lib.hid hb
  clear ha hb
  go_enter Try.func69, Try.ntmps69
  go_wp2_with (first | (go_at_call 85; refine ((H _).out HA.out HB.out).mono ?_; rintro e w' ⟨rfl, rfl⟩))
  go_ret
  exact ⟨rfl, rfl⟩
end Go.Proofs.Ytmiiolgbjicocaa
namespace Go
open Go.RowKit
/-- The slice value v owns the numbers xs, in a block from base on. -/
def Own (w : World) (base : Nat) (v : Value) (xs : List Int) : Prop := w.ownsRow base 3 1 v xs.length (xs.map (Value.int .i64))
/-- The numbers at an address, wherever. -/
def SrcI (w : World) (a : Option Addr) (xs : List Int) : Prop :=
  ∀ i (h : i < xs.length), ∃ b off, a = some ⟨b, off, none⟩ ∧ w.cell? ⟨b, off + i, none⟩ = some (.int .i64 xs[i])
theorem own_nil (w : World) (base : Nat) : Own w base (.slice none 0 0) [] := World.ownsRow_nil _ _ _ _
theorem Own.kept {w w' : World} {base : Nat} {v : Value} {xs : List Int} (h : Own w base v xs) (hk : ∀ g, v.ownBlock = some g → w'.heap[g]? = w.heap[g]?) : Own w' base v xs := by
  obtain ⟨h1, h2⟩ := h
  refine ⟨h1, ?_⟩
  rcases h2 with h2 | ⟨g, cap, cur, rfl, hg, hh, r⟩
  · exact .inl h2
  · exact .inr ⟨g, cap, cur, rfl, hg, by rw [hk g rfl]; exact hh, r⟩
theorem Own.lt {w : World} {base : Nat} {v : Value} {xs : List Int} (h : Own w base v xs) {g : Nat} (hg : v.ownBlock = some g) : g < w.heap.size ∧ base ≤ g := by
  obtain ⟨h1, h2⟩ := h
  rcases h2 with ⟨rfl, _⟩ | ⟨g', cap, cur, rfl, hg', hh, r⟩
  · simp [Value.ownBlock] at hg
  · simp [Value.ownBlock] at hg
    subst hg
    exact ⟨lt_of_block hh, hg'⟩
theorem Own.below {w w' : World} {base : Nat} {v : Value} {xs : List Int} (h : Own w base v xs) (hk : Below w.heap.size w w') : Own w' base v xs :=
  h.kept (fun _ hg => hk.block _ (h.lt hg).1)
theorem Own.alloc {w : World} {base : Nat} {v : Value} {xs : List Int} (h : Own w base v xs) (o : Obj) : Own (w.alloc o) base v xs :=
  h.kept (fun _ hg => Below.heap_alloc _ _ _ (h.lt hg).1)
/-- What is owned, as a slice that is read. -/
theorem Own.shape {w : World} {base : Nat} {v : Value} {xs : List Int} (h : Own w base v xs) : ∃ a cap, v = .slice a xs.length cap ∧ (a = none → cap = 0 ∧ xs = []) ∧ Ints w w.heap.size a xs ∧ cap ≤ maxLen ∧ xs.length ≤ cap := by
  obtain ⟨h1, h2⟩ := h
  rcases h2 with ⟨rfl, h0⟩ | ⟨g, cap, cur, rfl, hg, hh, hn, hc, hsz, htk⟩
  · have : xs = [] := List.length_eq_zero_iff.1 h0
    subst this
    exact ⟨none, 0, rfl, fun _ => ⟨rfl, rfl⟩, fun i hi => by simp at hi, by simp, by simp⟩
  · refine ⟨some ⟨g, 0, none⟩, cap, rfl, (fun h => by cases h), (fun i hi => ⟨g, 0, rfl, lt_of_block hh, ?_⟩), hc, hn⟩
    have hcc : w.cell? ⟨g, 0 + i, none⟩ = cur[0 + i]? := cell_of_block hh
    rw [hcc, Nat.zero_add]
    have h3 : (cur.toList.take (xs.length * 1))[i]? = (xs.map (Value.int .i64))[i]? := by rw [htk]
    rw [List.getElem?_take, if_pos (by omega), List.getElem?_map, List.getElem?_eq_getElem hi] at h3
    simpa using h3
theorem Own.ints {w : World} {base : Nat} {a : Option Addr} {n cap : Nat} {xs : List Int} (h : Own w base (.slice a n cap) xs) : n = xs.length ∧ Ints w w.heap.size a xs := by
  obtain ⟨a', cap', hv, _, hi, _⟩ := h.shape
  injection hv with h1 h2 h3
  subst h1
  exact ⟨h2, hi⟩
theorem Ints.src {w : World} {B : Nat} {a : Option Addr} {xs : List Int} (h : Ints w B a xs) : SrcI w a xs := fun i hi => by
  obtain ⟨b, off, h1, _, h2⟩ := h i hi
  exact ⟨b, off, h1, h2⟩
theorem src_one (w : World) (x : Int) (t : TypeId) : SrcI (w.alloc (.cells #[.int .i64 x] t)) (some ⟨w.heap.size, 0, none⟩) [x] := fun i hi => by
  have : i = 0 := by simpa using hi
  subst this
  refine ⟨w.heap.size, 0, rfl, ?_⟩
  rw [Nat.add_zero, cell_of_block (off := 0) (heap_alloc_this w (.cells #[.int .i64 x] t))]
  rfl
theorem src_nil (w : World) (a : Option Addr) : SrcI w a [] := fun i hi => by simp at hi
theorem src_take {w : World} {a : Option Addr} {xs : List Int} (h : SrcI w a xs) (k : Nat) : SrcI w a (xs.take k) := fun i hi => by
  have h1 : i < xs.length := by simp at hi; omega
  obtain ⟨b, off, ha, hc⟩ := h i h1
  exact ⟨b, off, ha, by rw [List.getElem_take]; exact hc⟩
theorem src_drop {w : World} {b off : Nat} {xs : List Int} (h : SrcI w (some ⟨b, off, none⟩) xs) (k : Nat) : SrcI w (some ⟨b, off + k, none⟩) (xs.drop k) := fun i hi => by
  have h1 : k + i < xs.length := by simp at hi; omega
  obtain ⟨b', off', ha, hc⟩ := h (k + i) h1
  injection ha with ha
  injection ha with hb ho
  subst hb ho
  exact ⟨b, off + k, rfl, by rw [List.getElem_drop, Nat.add_assoc]; exact hc⟩
theorem append_ints {P : Program} {w : World} {ops : Array Oper} {rest : List Oper} {o : Oper} {a : Act} {Q : Exit → Act → World → Prop} (hgd : o.guard = none) (s x : Operand) (t : TypeId)
    (ho : o.op = .call { callee := .builtin .append, args := #[s, x], argTypes := #[t, t] }) (ht : P.underlying t = some (.slice 3))
    (hinfo : (P.info? 3).map (fun i => (i.zero, i.size, i.bytes)) = some (some (.int .i64 0), 1, 8))
    (base : Nat) (v : Value) (xs : List Int) (hs : a.eval s = v) (hown : Own w base v xs) (ao : Option Addr) (c m : Nat) (ys : List Int) (hx : a.eval x = .slice ao m c) (hm : m = ys.length)
    (hnone : ao = none → c = 0) (hsrc : SrcI w ao ys) (hb : (xs.length + ys.length) * 8 ≤ 140737488355328) (hbase : base ≤ w.heap.size)
    (h : ∀ v' w', Own w' base v' (xs ++ ys) → w.grownBy w' v.ownBlock → wpList P ops Q rest (a.put o.dst v') w') : wpList P ops Q (o :: rest) a w := by
  obtain ⟨i0, hi, hz0, hz1, hz2⟩ := info_parts hinfo
  cases ao with
  | none =>
    have hc := hnone rfl
    subst hc
    have hy : ys = [] := by
      cases ys with
      | nil => rfl
      | cons y t => obtain ⟨_, _, h, _⟩ := hsrc 0 (by simp); cases h
    subst hy
    simp only [List.length_nil] at hm
    subst hm
    refine wpList_append_own_none hgd s x t ho base 3 i0 1 ht hi v xs.length _ hs hown hx ?_
    refine h v w (by rw [List.append_nil]; exact hown) ⟨rfl, rfl, rfl, Nat.le_refl _, fun _ _ _ => rfl⟩
  | some ad =>
    subst hm
    refine wpList_append_own w hgd s x t ho base 3 i0 (.int .i64 0) 1 8 ht hi hz0 hz1 hz2 rfl (by decide) v xs.length _ hs hown ad ys.length c (ys.map (Value.int .i64)) hx (by simp) ?_ ?_ ?_ hb hbase ?_
    · intro j u hj
      rw [List.getElem?_map] at hj
      have hjl : j < ys.length := by
        rcases Nat.lt_or_ge j ys.length with h | h
        · exact h
        · rw [List.getElem?_eq_none h] at hj; cases hj
      rw [List.getElem?_eq_getElem hjl] at hj
      obtain ⟨b, off, hae, hc⟩ := hsrc j hjl
      injection hae with hae
      subst hae
      rw [addr_add, hc]
      exact hj
    · intro u hu
      obtain ⟨y, _, rfl⟩ := List.mem_map.1 hu
      rfl
    · unfold maxLen; omega
    · intro v' w' h1 h2 _
      exact h v' w' (by unfold Own; rw [List.length_append, List.map_append]; exact h1) h2
theorem own_empty (w : World) {base : Nat} (h : base ≤ w.heap.size) : Own (w.alloc (.cells #[] 3)) base (.slice (some ⟨w.heap.size, 0, none⟩) 0 0) [] :=
  ⟨rfl, .inr ⟨w.heap.size, 0, #[], rfl, h, heap_alloc_this _ _, Nat.le_refl _, Nat.zero_le _, rfl, rfl⟩⟩
/-- What an append leaves below base. -/
theorem below_grown {w w' : World} {base : Nat} {v : Value} {xs : List Int} (h : Own w base v xs) (hg : w.grownBy w' v.ownBlock) (hb : base ≤ w.heap.size) : Below base w w' :=
  (Below.refl _ _).grown hg hb (fun _ hk => (h.lt hk).2)
end Go
namespace Go.Proofs.Ytmiiolgbjicocaa
open Go.RowKit
theorem info3 : (Try.prog.info? 3).map (fun i => (i.zero, i.size, i.bytes)) = some (some (.int .i64 0), 1, 8) := by kernel_rfl
def WPost (xs : List Int) (w : World) (e : Ending) (w' : World) : Prop := ∃ v, e = .returned v ∧ Own w' w.heap.size v xs ∧ Below w.heap.size w w'
def cutL (xs : List Int) (k : Int) : List Int := xs.take k.toNat
def joinL (xs ys : List Int) (k : Int) : List Int := (xs ++ ys).take k.toNat
set_option maxRecDepth 100000 in
theorem slice_h (W : World) (a : Option Addr) (len cap c : Nat) (h : c ≤ cap) :
    (Instr.slice 26 (.slice a len cap) none (some (.int .i64 (c : Int))) none).run Try.prog W = .ok (.slice a c cap) W := by
  have hz : (Go.sizeOf 3).run Try.prog W = .ok 1 W := rfl
  have he : Try.prog.elem 26 = 3 := by simp [Program.elem, Try.underlying26]
  rw [run_slice_h W 26 _ _ _ (by simp [Program.elem, Try.underlying26]) .i64 _ (by omega) (by omega), he, hz]
  simp [Result.andThen, sliced, Addr.add]
theorem own_mono {w : World} {b b' : Nat} {v : Value} {xs : List Int} (h : Own w b v xs) (hb : b' ≤ b) : Own w b' v xs := by
  obtain ⟨h1, h2⟩ := h
  refine ⟨h1, ?_⟩
  rcases h2 with h2 | ⟨g, cap, cur, rfl, hg, r⟩
  · exact .inl h2
  · exact .inr ⟨g, cap, cur, rfl, by omega, r⟩
theorem cut_num (k : Int) (n : Nat) : ∃ m : Nat, m ≤ n ∧ ∀ xs : List Int, xs.length = n → cutL xs k = xs.take m := by
  by_cases h : k.toNat ≤ n
  · exact ⟨k.toNat, h, fun xs hx => rfl⟩
  · exact ⟨n, Nat.le_refl _, fun xs hx => by unfold cutL; rw [List.take_of_length_le (by omega), List.take_of_length_le (by omega)]⟩
set_option maxHeartbeats 1000000 in
theorem cut_any {B : Nat} {a : Option Addr} {cap : Nat} {xs : List Int} {w : World} (h : Ints w B a xs) (hn : a = none → cap = 0) (hl : xs.length ≤ 1000000) (hc : xs.length ≤ cap) (k : Int) :
    Calls Try.prog 42 #[.slice a xs.length cap, .int .i64 k] w (WPost (cutL xs k) w) := by
  have H := Lib.hid h
  clear h
  obtain ⟨m, hm, hk⟩ : ∃ m : Nat, m ≤ xs.length ∧ ((k < 0 ∧ m = 0) ∨ (0 ≤ k ∧ k ≤ xs.length ∧ (m : Int) = k) ∨ ((xs.length : Int) < k ∧ m = xs.length)) := by
    by_cases h1 : k < 0
    · exact ⟨0, by omega, .inl ⟨h1, rfl⟩⟩
    · by_cases h2 : k ≤ xs.length
      · exact ⟨k.toNat, by omega, .inr (.inl ⟨by omega, h2, by omega⟩)⟩
      · exact ⟨xs.length, by omega, .inr (.inr ⟨by omega, rfl⟩)⟩
  have HE : Hid (cutL xs k = xs.take m) := Lib.hid (by
    unfold cutL
    rcases hk with ⟨h1, h2⟩ | ⟨h1, h2, h3⟩ | ⟨h1, h2⟩
    · rw [h2, show k.toNat = 0 by omega]
    · rw [show k.toNat = m by omega]
    · rw [h2, List.take_of_length_le (by omega), List.take_of_length_le (by omega)])
  have hs := fun W => slice_h W a xs.length cap m (by omega)
  have htl : (xs.take m).length = m := by simp; omega
  have HT := Lib.hid htl
  have hcm : (m : Int) ≤ cap := by omega
  have hm0 : (0 : Int) ≤ m := by omega
  rcases hk with ⟨h1, h2⟩ | ⟨h1, h2, h3⟩ | ⟨h1, h2⟩
  · have g1 : ¬ (xs.length : Int) < k := by omega
    have g2 : ¬ 0 < k := by omega
    subst h2
    clear htl
    go_enter Try.func42, Try.ntmps42
    go_wp2_with (first
      | (at_builtin; (refine append_ints rfl (.const (.slice none 0 0)) (.tmp 12) 26 rfl Try.underlying26 info3 w.heap.size (.slice none 0 0) [] rfl (own_nil _ _) a _ 0 (xs.take 0) rfl (by simp) hn (src_take H.out.src 0) (by simp) (Nat.le_refl _) ?_); intro v' w1 hown hgrow))
    go_ret
    exact ⟨_, rfl, by rw [HE.out]; exact hown, below_grown (own_nil _ _) hgrow (Nat.le_refl _)⟩
  · subst h3
    have g1 : ¬ (xs.length : Int) < m := by omega
    by_cases g2 : 0 < (m : Int)
    · clear htl
      go_enter Try.func42, Try.ntmps42
      go_wp2_with (first
        | (at_builtin; (refine append_ints rfl (.const (.slice none 0 0)) (.tmp 12) 26 rfl Try.underlying26 info3 w.heap.size (.slice none 0 0) [] rfl (own_nil _ _) a _ m (xs.take m) rfl HT.out.symm hn (src_take H.out.src m) (by rw [HT.out]; simp only [List.length_nil]; omega) (Nat.le_refl _) ?_); intro v' w1 hown hgrow))
      go_ret
      exact ⟨_, rfl, by rw [HE.out]; exact hown, below_grown (own_nil _ _) hgrow (Nat.le_refl _)⟩
    · have hm00 : m = 0 := by omega
      subst hm00
      clear htl
      go_enter Try.func42, Try.ntmps42
      go_wp2_with (first
        | (at_builtin; (refine append_ints rfl (.const (.slice none 0 0)) (.tmp 12) 26 rfl Try.underlying26 info3 w.heap.size (.slice none 0 0) [] rfl (own_nil _ _) a _ 0 (xs.take 0) rfl (by simp) hn (src_take H.out.src 0) (by simp) (Nat.le_refl _) ?_); intro v' w1 hown hgrow))
      go_ret
      have e : cutL xs 0 = xs.take 0 := HE.out
      exact ⟨_, rfl, by rw [e]; exact hown, below_grown (own_nil _ _) hgrow (Nat.le_refl _)⟩
  · subst h2
    clear htl
    by_cases g2 : 0 < (xs.length : Int)
    · go_enter Try.func42, Try.ntmps42
      go_wp2_with (first
        | (at_builtin; (refine append_ints rfl (.const (.slice none 0 0)) (.tmp 12) 26 rfl Try.underlying26 info3 w.heap.size (.slice none 0 0) [] rfl (own_nil _ _) a _ xs.length (xs.take xs.length) rfl HT.out.symm hn (src_take H.out.src xs.length) (by rw [HT.out]; simp only [List.length_nil]; omega) (Nat.le_refl _) ?_); intro v' w1 hown hgrow))
      go_ret
      exact ⟨_, rfl, by rw [HE.out]; exact hown, below_grown (own_nil _ _) hgrow (Nat.le_refl _)⟩
    · have hx0 : xs = [] := List.eq_nil_of_length_eq_zero (by omega)
      subst hx0
      simp only [List.length_nil] at *
      go_enter Try.func42, Try.ntmps42
      go_wp2_with (first
        | (at_builtin; (refine append_ints rfl (.const (.slice none 0 0)) (.tmp 12) 26 rfl Try.underlying26 info3 w.heap.size (.slice none 0 0) [] rfl (own_nil _ _) a _ 0 [] rfl (by simp) hn (fun i hi => by simp at hi) (by simp) (Nat.le_refl _) ?_); intro v' w1 hown hgrow))
      go_ret
      exact ⟨_, rfl, by rw [HE.out]; exact hown, below_grown (own_nil _ _) hgrow (Nat.le_refl _)⟩
theorem cut_at (xs : List Int) (k : Int) : ∃ m : Nat, m ≤ xs.length ∧ cutL xs k = xs.take m ∧ ∀ j : Nat, j < m ↔ (j < xs.length ∧ (j : Int) < k) := by
  by_cases h1 : k < 0
  · exact ⟨0, by omega, by unfold cutL; rw [show k.toNat = 0 by omega], fun j => by omega⟩
  · by_cases h2 : k ≤ xs.length
    · exact ⟨k.toNat, by omega, rfl, fun j => by omega⟩
    · exact ⟨xs.length, by omega, by unfold cutL; rw [List.take_of_length_le (by omega), List.take_of_length_le (by omega)], fun j => by omega⟩
set_option maxHeartbeats 1000000 in
theorem rcut_any {B : Nat} {a : Option Addr} {cap : Nat} {xs : List Int} {w : World} (h : Ints w B a xs) (hB : B ≤ w.heap.size) (hl : xs.length ≤ 1000000) (k : Int) :
    Calls Try.prog 18 #[.slice a xs.length cap, .int .i64 k] w (WPost (cutL xs k) w) := by
  have H := Lib.hid h
  clear h
  obtain ⟨m, hm, hE, hj⟩ := cut_at xs k
  have HE := Lib.hid hE
  have HJ := Lib.hid hj
  clear hE hj
  go_enter Try.func18, Try.ntmps18
  go_wp2
  go_loopw [5, 6] (fun v i wr => ∃ j : Nat, j ≤ m ∧ i = .int .i64 j ∧ Hid (Own wr w.heap.size v (xs.take j) ∧ Below w.heap.size w wr)) (fun _ i _ => m - (intOf i).toNat)
  case atStart => exact ⟨0, by omega, rfl, own_empty _ (Nat.le_refl _), (Below.refl _ _).alloc (Nat.le_refl _) _⟩
  case round =>
    obtain ⟨j, hj, rfl, hf⟩ := hrel
    by_cases hlt : j < m
    · obtain ⟨h1, h2⟩ := (HJ.out j).1 hlt
      have hki : (j : Int) < xs.length := by omega
      obtain ⟨b, off, rfl, hb, hc⟩ := (H.out.below (hf.out.2.mono hB)) j h1
      have HT := Lib.hid (show xs.take (j + 1) = xs.take j ++ [xs[j]] from List.take_succ_eq_append_getElem h1)
      have hsz := hf.out.2.size
      have hlk : (xs.take j).length ≤ 1000000 := by simp; omega
      generalize xs[j] = x at *
      go_wp2_with (first
        | (at_builtin; (refine append_ints rfl _ _ 26 rfl Try.underlying26 info3 w.heap.size _ (xs.take j) rfl (hf.out.1.alloc _) (some ⟨_, 0, none⟩) 1 1 [x] rfl rfl (fun h => by cases h) (src_one _ _ _) (by simp only [List.length_singleton]; omega) (by simp only [World.size_alloc]; omega) ?_); intro v' w1 hown hgrow))
      go_roundw
      case rel => exact ⟨j + 1, by omega, by go_num, by rw [HT.out]; exact hown, (hf.out.2.alloc hsz _).trans (below_grown (hf.out.1.alloc _) hgrow (by simp only [World.size_alloc]; omega))⟩
      case measure => simp [intOf]; omega
    · have hjm : j = m := by omega
      have hn := fun h => hlt ((HJ.out j).2 h)
      by_cases h1 : j < xs.length
      · have h2 : ¬ (j : Int) < k := fun h => hn ⟨h1, h⟩
        have hki : (j : Int) < xs.length := by omega
        clear hn
        go_wp2
        go_ret
        exact ⟨_, rfl, by rw [HE.out, ← hjm]; exact hf.out.1, hf.out.2⟩
      · have hki : ¬ (j : Int) < xs.length := by omega
        clear hn
        go_wp2
        go_ret
        exact ⟨_, rfl, by rw [HE.out, ← hjm]; exact hf.out.1, hf.out.2⟩
set_option maxHeartbeats 1000000 in
theorem clone_any {B : Nat} {a : Option Addr} {cap : Nat} {xs : List Int} {w : World} (h : Ints w B a xs) (hn : a = none → cap = 0) (hl : xs.length ≤ 1000000) :
    Calls Try.prog 66 #[.slice a xs.length cap] w (WPost xs w) := by
  cases a with
  | none =>
    have hx : xs = [] := by
      cases xs with
      | nil => rfl
      | cons y t => obtain ⟨_, _, h, _⟩ := h 0 (by simp); cases h
    subst hx
    clear h
    have q22 : ∀ (w : World) (a : Option Addr) (n c n' c' : Nat), (binOp .eql 26 (.slice a n c) (.slice none n' c')).run Try.prog w = .ok (.bool a.isNone) w := fun w a n c n' c' => Lib.run_eql_slice_nil w _ _ a n c n' c' Try.underlying26
    go_enter Try.func66, Try.ntmps66
    go_wp2
    go_ret
    exact ⟨_, rfl, own_nil _ _, Below.refl _ _⟩
  | some ad =>
    have HO := Lib.hid (own_empty w (base := w.heap.size) (Nat.le_refl _))
    have HS := Lib.hid ((h.below ((Below.refl B w).trans (Below.refl B w))).src)
    have HA : Hid (SrcI (w.alloc (.cells #[] 3)) (some ad) xs) := Lib.hid (fun i hi => by
      obtain ⟨b, off, ha, hb, hc⟩ := h i hi
      exact ⟨b, off, ha, cell_alloc_keep (block_of_cell hc) hc⟩)
    clear h
    have q22 : ∀ (w : World) (a : Option Addr) (n c n' c' : Nat), (binOp .eql 26 (.slice a n c) (.slice none n' c')).run Try.prog w = .ok (.bool a.isNone) w := fun w a n c n' c' => Lib.run_eql_slice_nil w _ _ a n c n' c' Try.underlying26
    go_enter Try.func66, Try.ntmps66
    go_wp2_with (first
      | (at_builtin; (refine append_ints rfl (.tmp 5) (.tmp 6) 26 rfl Try.underlying26 info3 w.heap.size (.slice (some ⟨w.heap.size, 0, none⟩) 0 0) [] rfl HO.out (some ad) cap xs.length xs rfl rfl hn HA.out (by simp only [List.length_nil]; omega) (by simp) ?_); intro v' w1 hown hgrow))
    go_ret
    exact ⟨_, rfl, hown, ((Below.refl _ _).alloc (Nat.le_refl _) _).trans (below_grown HO.out hgrow (by simp))⟩
theorem join_split (xs ys : List Int) (k : Int) : joinL xs ys k = cutL xs k ++ ys.take (k.toNat - (cutL xs k).length) := by
  unfold joinL cutL
  rw [List.take_append]
  congr 2
  simp only [List.length_take]
  omega
theorem join_at (xs ys : List Int) (k : Int) : ∃ n : Nat, n ≤ ys.length ∧ joinL xs ys k = cutL xs k ++ ys.take n ∧
    ((k - (cutL xs k).length < 0 ∧ n = 0) ∨ (0 ≤ k - (cutL xs k).length ∧ k - (cutL xs k).length ≤ ys.length ∧ (n : Int) = k - (cutL xs k).length) ∨ ((ys.length : Int) < k - (cutL xs k).length ∧ n = ys.length)) := by
  rw [join_split]
  have hc : (cutL xs k).length = min k.toNat xs.length := by unfold cutL; simp
  by_cases h1 : k - (cutL xs k).length < 0
  · exact ⟨0, by omega, by rw [show k.toNat - (cutL xs k).length = 0 by omega], .inl ⟨h1, rfl⟩⟩
  · by_cases h2 : k - (cutL xs k).length ≤ ys.length
    · exact ⟨k.toNat - (cutL xs k).length, by omega, rfl, .inr (.inl ⟨by omega, h2, by omega⟩)⟩
    · exact ⟨ys.length, by omega, by rw [List.take_of_length_le (by omega), List.take_of_length_le (by omega)], .inr (.inr ⟨by omega, rfl⟩)⟩
end Go.Proofs.Ytmiiolgbjicocaa
namespace Go.Proofs.Ytmiiolgbjicocaa
open Go.RowKit
set_option maxHeartbeats 1000000 in
theorem join_any {B : Nat} {a : Option Addr} {cap : Nat} {xs : List Int} {w : World} (h : Ints w B a xs) (hn : a = none → cap = 0) (hl : xs.length ≤ 100000) (hc : xs.length ≤ cap)
    {b : Option Addr} {cb : Nat} {ys : List Int} (h2 : Ints w B b ys) (hn2 : b = none → cb = 0) (hl2 : ys.length ≤ 100000) (hc2 : ys.length ≤ cb) (hB : B ≤ w.heap.size) (k : Int) (hk : -9223372036854775808 ≤ k ∧ k ≤ 9223372036854775807) :
    Calls Try.prog 95 #[.slice a xs.length cap, .slice b ys.length cb, .int .i64 k] w (WPost (joinL xs ys k) w) := by
  have HC := Lib.hid (cut_any (k := k) h hn (by omega) hc)
  have H2 := Lib.hid h2
  clear h h2
  obtain ⟨m, hm, he, hcase⟩ := join_at xs ys k
  have HE := Lib.hid he
  clear he
  have hcl : (cutL xs k).length ≤ xs.length := by unfold cutL; simp; omega
  have hkl : k < 0 → (cutL xs k).length = 0 := fun h => by unfold cutL; rw [show k.toNat = 0 by omega]; rfl
  have hkl2 : (cutL xs k).length ≤ k.toNat := by unfold cutL; simp; omega
  have hs := fun W => slice_h W b ys.length cb m (by omega)
  have HT := Lib.hid (show (ys.take m).length = m by simp; omega)
  have hcm : (m : Int) ≤ cb := by omega
  have hm0 : (0 : Int) ≤ m := by omega
  generalize cutL xs k = C at *
  have hw : IntKind.i64.wrap (k - (C.length : Int)) = k - (C.length : Int) := by rw [IntKind.wrap_i64]; omega
  go_enter Try.func95, Try.ntmps95
  go_wp2_with fail
  refine HC.out.mono ?_
  rintro e w1 ⟨v, rfl, hown, hb⟩
  obtain ⟨va, vc, rfl, hvn, -, hvm, hvl⟩ := hown.shape
  have HO := Lib.hid (And.intro hown (And.intro hb ((H2.out.below (hb.mono hB)).src)))
  clear hown hb
  have hsz := HO.out.2.1.size
  rcases hcase with ⟨h1, h2⟩ | ⟨h1, h2, h3⟩ | ⟨h1, h2⟩
  · have g1 : ¬ (ys.length : Int) < k - (C.length : Int) := by omega
    have g2 : ¬ 0 < k - (C.length : Int) := by omega
    subst h2
    go_wp2_with (first
      | (at_builtin; (refine append_ints rfl (.tmp 11) (.tmp 21) 26 rfl Try.underlying26 info3 w.heap.size (.slice va C.length vc) C rfl HO.out.1 b cb 0 (ys.take 0) rfl (by simp) hn2 (src_take HO.out.2.2 0) (by simp; omega) hsz ?_); intro v' w2 hown hgrow))
    go_ret
    exact ⟨_, rfl, by rw [HE.out]; exact hown, HO.out.2.1.trans (below_grown HO.out.1 hgrow hsz)⟩
  · have g1 : ¬ (ys.length : Int) < k - (C.length : Int) := by omega
    have hs2 : ∀ W, (Instr.slice 26 (.slice b ys.length cb) none (some (.int .i64 (k - (C.length : Int)))) none).run Try.prog W = .ok (.slice b m cb) W := fun W => by rw [← h3]; exact hs W
    have H3 := Lib.hid h3
    clear h3
    by_cases g2 : 0 < k - (C.length : Int)
    · have g3 : k - (C.length : Int) ≤ cb := by omega
      have g4 : 0 ≤ k - (C.length : Int) := by omega
      go_wp2_with (first
        | (at_builtin; (refine append_ints rfl (.tmp 11) (.tmp 21) 26 rfl Try.underlying26 info3 w.heap.size (.slice va C.length vc) C rfl HO.out.1 b cb m (ys.take m) rfl HT.out.symm hn2 (src_take HO.out.2.2 m) (by rw [HT.out]; omega) hsz ?_); intro v' w2 hown hgrow))
      go_ret
      exact ⟨_, rfl, by rw [HE.out]; exact hown, HO.out.2.1.trans (below_grown HO.out.1 hgrow hsz)⟩
    · have hm00 : m = 0 := by have := H3.out; omega
      subst hm00
      go_wp2_with (first
        | (at_builtin; (refine append_ints rfl (.tmp 11) (.tmp 21) 26 rfl Try.underlying26 info3 w.heap.size (.slice va C.length vc) C rfl HO.out.1 b cb 0 (ys.take 0) rfl (by simp) hn2 (src_take HO.out.2.2 0) (by simp; omega) hsz ?_); intro v' w2 hown hgrow))
      go_ret
      exact ⟨_, rfl, by rw [HE.out]; exact hown, HO.out.2.1.trans (below_grown HO.out.1 hgrow hsz)⟩
  · subst h2
    by_cases g2 : 0 < (ys.length : Int)
    · go_wp2_with (first
        | (at_builtin; (refine append_ints rfl (.tmp 11) (.tmp 21) 26 rfl Try.underlying26 info3 w.heap.size (.slice va C.length vc) C rfl HO.out.1 b cb ys.length (ys.take ys.length) rfl HT.out.symm hn2 (src_take HO.out.2.2 ys.length) (by rw [HT.out]; omega) hsz ?_); intro v' w2 hown hgrow))
      go_ret
      exact ⟨_, rfl, by rw [HE.out]; exact hown, HO.out.2.1.trans (below_grown HO.out.1 hgrow hsz)⟩
    · have hx0 : ys = [] := List.eq_nil_of_length_eq_zero (by omega)
      subst hx0
      simp only [List.length_nil] at *
      have h1' : (0 : Int) < k - (C.length : Int) := by omega
      go_wp2_with (first
        | (at_builtin; (refine append_ints rfl (.tmp 11) (.tmp 21) 26 rfl Try.underlying26 info3 w.heap.size (.slice va C.length vc) C rfl HO.out.1 b cb 0 [] rfl (by simp) hn2 (fun i hi => by simp at hi) (by simp; omega) hsz ?_); intro v' w2 hown hgrow))
      go_ret
      exact ⟨_, rfl, by rw [HE.out]; exact hown, HO.out.2.1.trans (below_grown HO.out.1 hgrow hsz)⟩
set_option maxHeartbeats 1000000 in
theorem rjoin_any {B : Nat} {a : Option Addr} {cap : Nat} {xs : List Int} {w : World} (h : Ints w B a xs) (hn : a = none → cap = 0) (hl : xs.length ≤ 100000)
    {b : Option Addr} {cb : Nat} {ys : List Int} (h2 : Ints w B b ys) (hn2 : b = none → cb = 0) (hl2 : ys.length ≤ 100000) (hB : B ≤ w.heap.size) (k : Int) :
    Calls Try.prog 78 #[.slice a xs.length cap, .slice b ys.length cb, .int .i64 k] w (WPost (joinL xs ys k) w) := by
  have HO := Lib.hid (own_empty w (base := w.heap.size) (Nat.le_refl _))
  have hb0 : Below w.heap.size w (w.alloc (.cells #[] 3)) := (Below.refl _ _).alloc (Nat.le_refl _) _
  have H1 := Lib.hid ((h.below (hb0.mono hB)).src)
  have H2 := Lib.hid h2
  have HB0 := Lib.hid hb0
  clear h h2 hb0
  go_enter Try.func78, Try.ntmps78
  go_wp2_with (first
    | (at_builtin; (refine append_ints rfl (.tmp 9) (.tmp 10) 26 rfl Try.underlying26 info3 w.heap.size v1 ([] ++ xs) rfl HG.out.1 b cb ys.length ys rfl rfl hn2 ((H2.out.below (HG.out.2.mono hB)).src) (by rw [List.nil_append]; omega) HG.out.2.size ?_); intro v2 w2 hown2 hgrow2; have HG2 := Lib.hid (And.intro hown2 (HG.out.2.trans (below_grown HG.out.1 hgrow2 HG.out.2.size))); clear hown2 hgrow2 HG)
    | (at_builtin; (refine append_ints rfl (.tmp 7) (.tmp 8) 26 rfl Try.underlying26 info3 w.heap.size (.slice (some ⟨w.heap.size, 0, none⟩) 0 0) [] rfl HO.out a cap xs.length xs rfl rfl hn H1.out (by simp only [List.length_nil]; omega) (by simp) ?_); intro v1 w1 hown1 hgrow1; have HG := Lib.hid (And.intro hown1 (HB0.out.trans (below_grown HO.out hgrow1 (by simp)))); clear hown1 hgrow1 HO)
    | fail)
  obtain ⟨va, vc, hv, -, hvi, -, -⟩ := HG2.out.1.shape
  subst hv
  have hll : ([] ++ xs ++ ys).length ≤ 1000000 := by simp; omega
  have HR := Lib.hid (rcut_any (k := k) (cap := vc) hvi (Nat.le_refl _) hll)
  clear hvi
  refine HR.out.mono ?_
  rintro e w3 ⟨v3, rfl, hown3, hb3⟩
  have HZ := Lib.hid (And.intro (own_mono hown3 HG2.out.2.size) (HG2.out.2.trans (hb3.mono HG2.out.2.size)))
  clear hown3 hb3
  go_wp2
  go_ret
  exact ⟨_, rfl, by have := HZ.out.1; simpa [joinL, cutL] using this, HZ.out.2⟩
end Go.Proofs.Ytmiiolgbjicocaa
