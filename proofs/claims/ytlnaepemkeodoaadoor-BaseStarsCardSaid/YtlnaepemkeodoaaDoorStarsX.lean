/- What a star makes known: the law, walked. -/
import Derived.Test.YtlnaepemkeodoaaDoorStarsW
namespace Go.Proofs.YtlnaepemkeodoaaDoor
open Go.RowKit
def cycT : ByteArray := { data := #[99, 121, 99, 108, 101, 32] }
theorem join2 (x y : List UInt8) : Lib.join [x, y] [32] = x ++ 32 :: y := by rw [Lib.join_cons]; simp [Lib.joinTail]
theorem join3 (x y z : List UInt8) : Lib.join [x, y, z] [32] = x ++ 32 :: (y ++ 32 :: z) := by rw [Lib.join_cons]; simp [Lib.joinTail]
theorem join4 (x y z u : List UInt8) : Lib.join [x, y, z, u] [32] = x ++ 32 :: (y ++ 32 :: (z ++ 32 :: u)) := by rw [Lib.join_cons]; simp [Lib.joinTail]
structure KK (w W : World) (base bb : Nat) (A : List UInt8) : Prop where
  k : Below w.heap.size w W
  b : BI W base bb [Lib.join [useW, A] [32]] [Lib.join [cycW, A] [32]]
theorem star_base {A : List UInt8} (hA : Word A) : Base [Lib.join [useW, A] [32]] [Lib.join [cycW, A] [32]] := by
  have := read_base (starT A)
  rwa [star_read hA] at this
theorem KK.go {w W W' : World} {base bb : Nat} {A : List UInt8} (h : KK w W base bb A) (hb : Below W.heap.size W W') : KK w W' base bb A := ⟨h.k.trans (hb.mono h.k.size), h.b.go hb⟩
theorem q_any {w W : World} {base bb : Nat} {A : List UInt8} {ws : List (List UInt8)} {X : ByteArray} {r : Bool} (h : KK w W base bb A) (hA : Word A) (hne : ws ≠ []) (hc : ∀ x ∈ ws, Clean x) (hX : X.data.toList = Lib.join ws [32]) (hl : (Lib.join ws [32]).length ≤ 80000) (hr : (decide (ws = [useW, A]) || decide (ws.take 2 = [cycW, A])) = r) :
    Calls Tryd.prog 9 #[.pointer (some ⟨bb, 0, none⟩), .string X] W fun e w' => e = .returned (.bool r) ∧ Hid (KK w w' base bb A) := by
  have h1 := has_b (x := Lib.join ws [32]) h.b (star_base hA) hl
  rw [stars_has hA hne hc, hr, ← hX, bOf_self] at h1
  exact h1.mono (fun _ _ h2 => ⟨h2.1, Lib.hid (h.go h2.2)⟩)
theorem read_star {w W : World} {a X : ByteArray} {m : Int} (hm : w.cell? ⟨0, 0, none⟩ = some (.int .i64 m)) (hA : Word a.data.toList) (hX : X.data.toList = starT a.data.toList) (hW : Below w.heap.size w W) :
    Calls Tryd.prog 6 #[.string X] W fun e w' => ∃ bb base a' c, e = .returned (.tuple #[.pointer (some ⟨bb, 0, none⟩), .slice a' 0 c]) ∧ Hid (KK w w' base bb a.data.toList) := by
  have hl : (starT a.data.toList).length ≤ 65536 := by
    have := hA.hi
    unfold starT
    rw [join3, join2]
    simp [cycW, useW]
    simp at this
    omega
  have h := read_any (starT a.data.toList) hl m W (cell_below hm hW)
  rw [← hX, bOf_self, hX] at h
  refine h.mono ?_
  rintro e w' ⟨bb, base, a', c, rfl, hB, _, hb⟩
  rw [star_read hA] at hB ⊢
  exact ⟨bb, base, a', c, rfl, Lib.hid ⟨hW.trans (hb.mono hW.size), hB⟩⟩
theorem word_r {w W : World} {s : ByteArray} {r : Bool} (hs : s.size ≤ maxLen) (hr : wordB s.data.toList = r) (h : Below w.heap.size w W) : Calls Tryd.prog 10 #[.string s] W fun e w' => e = .returned (.bool r) ∧ Hid (Below w.heap.size w w') := by
  rw [← hr]
  refine (word_any s hs W).mono ?_
  rintro e w' ⟨rfl, rfl⟩
  exact ⟨rfl, Lib.hid h⟩
set_option maxHeartbeats 4000000 in
set_option maxRecDepth 100000 in
theorem stars_core {a b c : ByteArray} {m : Int} {w : World} (ha : a.size ≤ maxLen) (hb : b.size ≤ maxLen) (hc : c.size ≤ maxLen) (hm : w.cell? ⟨0, 0, none⟩ = some (.int .i64 m)) (hA : Word a.data.toList) (hB : Word b.data.toList) (hC : Word c.data.toList)
    {r : Bool} (hr : decide (b.data.toList = a.data.toList) = r) (hr2 : (a.toList == b.toList) = r) :
    Calls Tryd.prog 4 #[.string a, .string b, .string c] w (Yes w) := by
  have HA := Lib.hid (alive_any m w hm)
  have hal : a.data.toList.length = a.size := by simp
  have hbl : b.data.toList.length = b.size := by simp
  have hcl : c.data.toList.length = c.size := by simp
  have ha20 : a.size ≤ 20 := by have := hA.hi; omega
  have hb20 : b.size ≤ 20 := by have := hB.hi; omega
  have hc20 : c.size ≤ 20 := by have := hC.hi; omega
  have hc1 : 1 ≤ c.size := by have := hC.lo; omega
  have HWa := Lib.hid (fun W (h : Below w.heap.size w W) => word_r ha ((word_iff _).2 hA) h)
  have HWb := Lib.hid (fun W (h : Below w.heap.size w W) => word_r hb ((word_iff _).2 hB) h)
  have HWc := Lib.hid (fun W (h : Below w.heap.size w W) => word_r hc ((word_iff _).2 hC) h)
  have HRd := Lib.hid (fun W (h : Below w.heap.size w W) => read_star (X := { data := #[99, 121, 99, 108, 101, 32] } ++ a ++ { data := #[32, 42, 10, 117, 115, 101, 108, 101, 115, 115, 32] } ++ a ++ { data := #[10] }) hm hA (by
    unfold starT
    rw [join3, join2]
    simp [cycW, useW]) h)
  have HLn := Lib.hid (fun W base bb (h : KK w W base bb a.data.toList) => show Calls Tryd.prog 8 #[.pointer (some ⟨bb, 0, none⟩)] W fun e w' => e = .returned (.int .i64 2) ∧ Hid (KK w w' base bb a.data.toList) from
    (len_b h.b (star_base hA)).mono (fun _ _ h2 => ⟨h2.1, Lib.hid (h.go h2.2)⟩))
  have ca := clean_of hA.ch
  have cb := clean_of hB.ch
  have cc := clean_of hC.ch
  have cy := clean_of cycW_l
  have cu := clean_of useW_l
  have cn := clean_of conW_l
  have hac : a.data.toList ++ c.data.toList ≠ a.data.toList := fun e => by
    have := congrArg List.length e
    rw [List.length_append] at this
    omega
  have hcu : cycW ≠ useW := by decide
  have hnu : conW ≠ useW := by decide
  have hnc : conW ≠ cycW := by decide
  have Q1 := Lib.hid (fun W base bb (h : KK w W base bb a.data.toList) => q_any (ws := [cycW, a.data.toList]) (X := { data := #[99, 121, 99, 108, 101, 32] } ++ a) (r := true) h hA (by simp) (by simp [cy, ca]) (by rw [join2]; simp [cycW]) (by rw [join2]; simp [cycW]; omega) (by simp))
  have Q2 := Lib.hid (fun W base bb (h : KK w W base bb a.data.toList) => q_any (ws := [cycW, a.data.toList, b.data.toList]) (X := { data := #[99, 121, 99, 108, 101, 32] } ++ a ++ { data := #[32] } ++ b) (r := true) h hA (by simp) (by simp [cy, ca, cb]) (by rw [join3]; simp [cycW]) (by rw [join3]; simp [cycW]; omega) (by simp))
  have Q3 := Lib.hid (fun W base bb (h : KK w W base bb a.data.toList) => q_any (ws := [cycW, a.data.toList, b.data.toList, c.data.toList]) (X := { data := #[99, 121, 99, 108, 101, 32] } ++ a ++ { data := #[32] } ++ b ++ { data := #[32] } ++ c) (r := true) h hA (by simp) (by simp [cy, ca, cb, cc]) (by rw [join4]; simp [cycW]) (by rw [join4]; simp [cycW]; omega) (by simp))
  have Q4 := Lib.hid (fun W base bb (h : KK w W base bb a.data.toList) => q_any (ws := [cycW, b.data.toList]) (X := { data := #[99, 121, 99, 108, 101, 32] } ++ b) (r := r) h hA (by simp) (by simp [cy, cb]) (by rw [join2]; simp [cycW]) (by rw [join2]; simp [cycW]; omega) (by rw [← hr]; simp [hcu]))
  have Q5 := Lib.hid (fun W base bb (h : KK w W base bb a.data.toList) => q_any (ws := [cycW, a.data.toList ++ c.data.toList]) (X := { data := #[99, 121, 99, 108, 101, 32] } ++ a ++ c) (r := false) h hA (by simp) (by
    intro x hx
    simp only [List.mem_cons, List.mem_nil_iff, or_false] at hx
    rcases hx with rfl | rfl
    · exact cy
    · intro d hd
      rcases List.mem_append.1 hd with hd | hd
      · exact ca d hd
      · exact cc d hd) (by rw [join2]; simp [cycW]) (by rw [join2]; simp [cycW]; omega) (by
    rw [decide_eq_false (by simp [hcu]), decide_eq_false (by intro e; injection e with _ e; injection e with e _; exact hac e)]; rfl))
  have Q6 := Lib.hid (fun W base bb (h : KK w W base bb a.data.toList) => q_any (ws := [useW, a.data.toList]) (X := { data := #[117, 115, 101, 108, 101, 115, 115, 32] } ++ a) (r := true) h hA (by simp) (by simp [cu, ca]) (by rw [join2]; simp [useW]) (by rw [join2]; simp [useW]; omega) (by simp))
  have Q7 := Lib.hid (fun W base bb (h : KK w W base bb a.data.toList) => q_any (ws := [useW, a.data.toList, b.data.toList]) (X := { data := #[117, 115, 101, 108, 101, 115, 115, 32] } ++ a ++ { data := #[32] } ++ b) (r := false) h hA (by simp) (by simp [cu, ca, cb]) (by rw [join3]; simp [useW]) (by rw [join3]; simp [useW]; omega) (by simp [hcu.symm]))
  have Q8 := Lib.hid (fun W base bb (h : KK w W base bb a.data.toList) => q_any (ws := [cycW]) (X := { data := #[99, 121, 99, 108, 101] }) (r := false) h hA (by simp) (by simp [cy]) (by rw [Lib.join_one]; rfl) (by rw [Lib.join_one]; decide) (by simp))
  have Q9 := Lib.hid (fun W base bb (h : KK w W base bb a.data.toList) => q_any (ws := [conW, a.data.toList]) (X := { data := #[99, 111, 110, 102, 108, 105, 99, 116, 32] } ++ a) (r := false) h hA (by simp) (by simp [cn, ca]) (by rw [join2]; simp [conW]) (by rw [join2]; simp [conW]; omega) (by simp [hnu, hnc]))
  have hr5 : ((a ++ c).toList == a.toList) = false := by
    rw [beq_eq_false_iff_ne]
    intro e
    rw [ByteArray.toList_eq, ByteArray.toList_eq] at e
    exact hac (by rw [← app_data]; exact e)
  generalize a.data.toList = A at *
  clear hr hA hB hC ca cb cc cy cu cn hac hcu hnu hnc hal hbl hcl ha hb hc
  go_enter Tryd.func4, Tryd.ntmps4
  go_wp2_with (first
    | (go_at_call 9; refine (Q9.out _ _ _ K9.out).mono ?_; rintro e w9 ⟨rfl, K10⟩)
    | (go_at_call 9; refine (Q8.out _ _ _ K8.out).mono ?_; rintro e w8 ⟨rfl, K9⟩)
    | (go_at_call 9; refine (Q7.out _ _ _ K7.out).mono ?_; rintro e w7 ⟨rfl, K8⟩)
    | (go_at_call 9; refine (Q6.out _ _ _ K6.out).mono ?_; rintro e w6 ⟨rfl, K7⟩)
    | (go_at_call 9; refine (Q5.out _ _ _ K5.out).mono ?_; rintro e w5 ⟨rfl, K6⟩)
    | (go_at_call 9; refine (Q4.out _ _ _ K4.out).mono ?_; rintro e w4 ⟨rfl, K5⟩)
    | (go_at_call 9; refine (Q3.out _ _ _ K3.out).mono ?_; rintro e w3 ⟨rfl, K4⟩)
    | (go_at_call 9; refine (Q2.out _ _ _ K2.out).mono ?_; rintro e w2 ⟨rfl, K3⟩)
    | (go_at_call 9; refine (Q1.out _ _ _ K1.out).mono ?_; rintro e w1 ⟨rfl, K2⟩)
    | (go_at_call 8; refine (HLn.out _ _ _ K0.out).mono ?_; rintro e w0 ⟨rfl, K1⟩)
    | (go_at_call 6; refine (HRd.out _ A3.out).mono ?_; rintro e v0 ⟨bb, base, a', cc, rfl, K0⟩)
    | (go_at_call 10; refine (HWc.out _ A2.out).mono ?_; rintro e v0 ⟨rfl, A3⟩)
    | (go_at_call 10; refine (HWb.out _ A1.out).mono ?_; rintro e v0 ⟨rfl, A2⟩)
    | (go_at_call 10; refine (HWa.out _ A0.out).mono ?_; rintro e v0 ⟨rfl, A1⟩)
    | (go_at_call 5; refine HA.out.mono ?_; rintro e w0 ⟨rfl, hb⟩; have A0 := Lib.hid hb; clear hb))
  all_goals (first | exact ⟨rfl, K10.out.k⟩ | (go_ret; exact ⟨rfl, K10.out.k⟩))
end Go.Proofs.YtlnaepemkeodoaaDoor
