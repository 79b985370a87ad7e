/- The reference's Run: how much is left, was spent, how many were done, was all. -/
import Derived.Test.YtdekakhkhkidhaaTry
namespace Go.Proofs.Ytdekakhkhkidhaa
open Go.RowKit
theorem results_tmp4 {fn : Func} {t u v x : Tmp} (h : fn.results = #[.tmp t, .tmp u, .tmp v, .tmp x]) (tmps : Array Value) (P : Program) (w : World) :
    (results fn tmps).run P w = .ok (.tuple #[tmps.getD t undef, tmps.getD u undef, tmps.getD v undef, tmps.getD x undef]) w := by simp [results, h]

def refRun (l : Int) (xs : List Int) : Value :=
  if did l xs = xs.length then .tuple #[.int .i64 (l - sumN xs), .int .i64 (sumN xs), .int .i64 xs.length, .bool true]
  else .tuple #[.int .i64 0, .int .i64 l, .int .i64 (did l xs : Nat), .bool false]

theorem c15 {B : Nat} {l : Int} {a : Option Addr} {cap : Nat} {xs : List Int} {w : World} (hl0 : 0 ≤ l) (hl : l ≤ 1000000) (hx : Ints w B a xs) (hlen : xs.length ≤ 100) :
    Calls Try.prog 15 #[.int .i64 l, .slice a xs.length cap] w fun e w' => e = .returned (refRun l xs) ∧ w = w' := by
  have HX := Lib.hid hx
  clear hx
  have hdl := did_le l xs
  go_enter Try.func15, Try.ntmps15
  go_wp2
  go_loop [0, 8, 9] (fun x y i => ∃ k : Nat, k ≤ did l xs ∧ i = .int .i64 k ∧ x = .int .i64 (l - sumN (xs.take k)) ∧ y = .int .i64 (sumN (xs.take k))) (fun _ _ i => xs.length - (intOf i).toNat)
  case atStart => exact ⟨0, Nat.zero_le _, rfl, by simp [sumN], by simp [sumN]⟩
  case round =>
    obtain ⟨k, hk, rfl, rfl, rfl⟩ := hrel
    have hpre := did_pre xs l k hl0 hk
    have hnn := sumN_nonneg (xs.take k)
    by_cases hlt : k < xs.length
    · obtain ⟨ab, off, rfl, hab, hcx⟩ := HX.out k hlt
      have hlt' : (k : Int) < xs.length := by omega
      have hne := nn_nonneg xs[k]
      by_cases hd : k < did l xs
      · have hy := did_yes xs l k hlt hd
        have HS := Lib.hid (sumN_take_succ xs k hlt)
        have HN := Lib.hid (show nn xs[k] = if xs[k] < 0 then 0 else xs[k] from rfl)
        by_cases h0 : xs[k] < 0
        all_goals
          have hn : nn xs[k] = if xs[k] < 0 then 0 else xs[k] := rfl
          simp only [h0, if_true, if_false] at hn
          have hy' : ¬ l - sumN (xs.take k) < xs[k] := by omega
          have hy2 : xs[k] ≤ l - sumN (xs.take k) := by omega
          have HV := Lib.hid hn
          clear hn
          go_wp2
          go_round
          case rel =>
            refine ⟨k + 1, by omega, by go_num, ?_, ?_⟩
            · rw [HS.out, HV.out]; try go_num
            · rw [HS.out, HV.out]; try go_num
          case measure => simp [intOf]; omega
      · have hkd : k = did l xs := by omega
        have hy := did_no xs l k hlt hkd
        have h0 : ¬ xs[k] < 0 := by intro h; unfold nn at hy; rw [if_pos h] at hy; omega
        have hy' : l - sumN (xs.take k) < xs[k] := by unfold nn at hy; rw [if_neg h0] at hy; exact hy
        have HKD := Lib.hid hkd
        clear hkd
        go_wp2
        refine bodyPost_ret (results_tmp4 rfl _ _ _) rfl ⟨?_, rfl⟩
        have := HKD.out
        unfold refRun
        rw [if_neg (by omega), ← this]
        simp
        omega
    · have hkl : k = xs.length := by omega
      have HKL := Lib.hid hkl
      have hlt' : ¬ (k : Int) < xs.length := by omega
      clear hkl
      go_wp2
      refine bodyPost_ret (results_tmp4 rfl _ _ _) rfl ⟨?_, rfl⟩
      have h1 := HKL.out
      unfold refRun
      rw [if_pos (by omega)]
      rw [List.take_of_length_le (by omega)]
      simp
end Go.Proofs.Ytdekakhkhkidhaa
