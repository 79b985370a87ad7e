/- The weight of a text: the reference's Read, at every text. -/
import Derived.Test.YticdihfjnmjkmaaRefW
namespace Go.Proofs.Yticdihfjnmjkmaa
open Go.RowKit
theorem rread_any (s : ByteArray) (hs : s.size ≤ 9223372036854775807) (w : World) : Calls Try.prog 42 #[.string s] w (ReadPost s.data.toList w) := by
  by_cases h1 : s.data.toList = [110, 97, 110]
  · have := rread_nan w
    rw [h1]
    rwa [show (⟨#[110, 97, 110]⟩ : ByteArray) = s by rw [← bOf_self s, h1]; rfl] at this
  by_cases h2 : s.data.toList = [105, 110, 102]
  · have := rread_inf w
    rw [h2]
    rwa [show (⟨#[105, 110, 102]⟩ : ByteArray) = s by rw [← bOf_self s, h2]; rfl] at this
  by_cases h3 : s.data.toList = [45, 105, 110, 102]
  · have := rread_minf w
    rw [h3]
    rwa [show (⟨#[45, 105, 110, 102]⟩ : ByteArray) = s by rw [← bOf_self s, h3]; rfl] at this
  have hr : readL s.data.toList = if okP (cutL (Lib.trimPrefix s.data.toList [45])).1 (cutL (Lib.trimPrefix s.data.toList [45])).2.1 (cutL (Lib.trimPrefix s.data.toList [45])).2.2 = true then some (quoS (Lib.hasPrefix s.data.toList [45]) (cutL (Lib.trimPrefix s.data.toList [45])).1 (cutL (Lib.trimPrefix s.data.toList [45])).2.1) else none := by
    unfold readL
    rw [if_neg h1, if_neg h2, if_neg h3]
  have e1 := beq_str h1
  have e2 := beq_str h2
  have e3 := beq_str h3
  have HP := fun W => parts_all s hs W
  have hnone := cut_none (Lib.trimPrefix s.data.toList [45])
  generalize Lib.hasPrefix s.data.toList [45] = p at *
  generalize Lib.trimPrefix s.data.toList [45] = r at *
  generalize (cutL r).1 = H at *
  generalize (cutL r).2.1 = T at *
  generalize (cutL r).2.2 = pt at *
  unfold ReadPost
  rw [hr]
  by_cases hok : okP H T pt = true
  · rw [if_pos hok] at HP ⊢
    have hok2 := hok
    unfold okP at hok
    rw [Bool.and_eq_true, Bool.and_eq_true] at hok
    obtain ⟨⟨hx, -⟩, hy⟩ := hok
    obtain ⟨a1, a2, a3⟩ := digsB_iff (lo := 1) (hi := 9) |>.1 hx
    have hT : T.all digC = true ∧ T.length ≤ 6 := by
      cases pt
      · rw [hnone rfl]; exact ⟨rfl, by simp⟩
      · have := digsB_iff (lo := 1) (hi := 6) |>.1 (by simpa using hy)
        exact ⟨this.1, this.2.2⟩
    have hq := quoF_run (numA 0 (H ++ T)) T.length hT.2
    have hlt := quoF_lt (numA 0 (H ++ T)) T.length hT.2
    have := rread_yes s e1 e2 e3 w p (bOf H) (bOf T) (by rw [bOf_size]; exact a3) (by rw [bOf_size]; exact hT.2) (by rw [bOf_list, bOf_list, List.all_append, a1, hT.1]; rfl) (quoF (numA 0 (H ++ T)) (10 ^ T.length))
      (fun W => by rw [bOf_list, bOf_list, bOf_size]; exact run_float_arith W .quo 34 .f64 _ _ _ hq) (fun W => HP W)
    rw [setS_or _ hlt] at this
    exact this
  · rw [if_neg hok] at HP ⊢
    exact rread_no s e1 e2 e3 w (fun W => HP W)
end Go.Proofs.Yticdihfjnmjkmaa
