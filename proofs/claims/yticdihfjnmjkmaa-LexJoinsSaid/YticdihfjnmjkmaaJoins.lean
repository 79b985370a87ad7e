/-
  LexJoins answers true, and leaves its arguments as they were, for all pairs of texts. No conditions.
-/
import Derived.Test.YticdihfjnmjkmaaJoinsP
import Derived.Test.YticdihfjnmjkmaaRows
import Derived.WalkKit
import Derived.ProofKit
import Derived.OpenShut
import Derived.ShutString
import Derived.ChangeOld
import Derived.ChangeMaps5
import Derived.Below
namespace Go.Proofs.Yticdihfjnmjkmaa.lexJoins
open Go.ChangeShapes Go.WideShapes Go.ChangeAt Go.RowKit
set_option linter.unusedVariables false

theorem own : ownKnob Try.prog.godebug = none := by kernel_rfl
theorem laidOut : laidOutB Try.prog = true := by kernel_rfl
attribute [local go_sem] run_store_float
theorem z_size (a b : ByteArray) : (a ++ ⟨#[10]⟩ ++ b).size = a.size + 1 + b.size := by
  rw [ByteArray.size_append, ByteArray.size_append]; rfl
theorem z_list (a b : ByteArray) : (a ++ ⟨#[10]⟩ ++ b).data.toList = a.data.toList ++ 10 :: b.data.toList := by simp
set_option maxRecDepth 100000 in
set_option maxHeartbeats 1000000 in
theorem walk {w : World} (a : ByteArray) (hsa : a.size ≤ maxLen) (b : ByteArray) (hsb : b.size ≤ maxLen) : Calls Try.prog 6 #[.string a, .string b] w fun e w' => e = .returned (.bool true) ∧ Below w.heap.size w w' := by
  unfold maxLen at hsa hsb
  go_enter Try.func6, Try.ntmps6
  go_wp2_with fail
  refine (alive_any _).mono ?_
  rintro e w1 ⟨rfl, hb⟩
  have H1 := Lib.hid hb
  clear hb
  by_cases hl1 : (600 : Int) < a.size
  · go_wp2
    go_ret
    exact ⟨rfl, H1.out⟩
  by_cases hl2 : (600 : Int) < b.size
  · go_wp2
    go_ret
    exact ⟨rfl, H1.out⟩
  obtain ⟨tx, ef, af, hX⟩ : ∃ ts er x, LexT a.data.toList ts er x := lex_total _ _ _ (Nat.le_refl _)
  obtain ⟨ty, eg, ag, hY⟩ : ∃ ts er x, LexT b.data.toList ts er x := lex_total _ _ _ (Nat.le_refl _)
  by_cases hef : ef = 0
  rotate_left
  · have HZ := fun W => Lib.hid (pall_no (s := a ++ ⟨#[10]⟩ ++ b) (by rw [z_size]; omega) (by rw [z_list]; exact join_err hX hef) hef W)
    have HA := fun W => Lib.hid (pall_no (s := a) (by omega) hX hef W)
    have HB := fun W => Lib.hid (pall_some (s := b) (by omega) W)
    have he1 : (ef != 0) = true := by simpa using hef
    clear hX hY hef
    go_wp2_with fail
    refine (HA _).out.mono ?_
    rintro e w2 ⟨rfl, hb2⟩
    go_wp2_with fail
    refine (HB _).out.mono ?_
    rintro e w3 ⟨ad3, n3, c3, er3, a3, rfl, hb3⟩
    go_wp2_with fail
    refine (HZ _).out.mono ?_
    rintro e w4 ⟨rfl, hb4⟩
    obtain ⟨f0, f1, _, _⟩ := fcell (hb3.mono (by simp))
    have hw2 := hb2.size
    have hw3 := hb3.size
    have hw4 := hb4.size
    simp only [World.size_alloc] at hw3 hw4
    have q0 := ((((below_one w3 _).mono (Nat.le_refl _)).trans (hb4.mono (by simp))).cell (p := ⟨w2.heap.size, 0, none⟩) (by show w2.heap.size < _; omega)).trans f0
    have q1 := ((((below_one w3 _).mono (Nat.le_refl _)).trans (hb4.mono (by simp))).cell (p := ⟨w2.heap.size, 1, none⟩) (by show w2.heap.size < _; omega)).trans f1
    have hwl : w2.heap.size < w4.heap.size := by omega
    have HBE := Lib.hid ((H1.out.trans (hb2.mono H1.out.size)).trans ((((below_one w2 _).mono (Nat.le_refl _)).trans (hb3.mono (by simp))).trans (((below_one w3 _).trans (hb4.mono (by simp))).mono (by omega)) |>.mono (Nat.le_trans H1.out.size hw2)))
    clear hb2 hb3 hb4 f0 f1
    go_wp2
    go_ret
    exact ⟨rfl, HBE.out.alloc HBE.out.size _⟩
  subst hef
  obtain rfl := LexL.zero hX rfl
  obtain ⟨ts0, htx, hZ⟩ := join_ok hX hY
  by_cases heg : eg = 0
  rotate_left
  · have hagl := hY.at_le
    rw [size_len] at hagl
    rw [if_neg heg] at hZ
    have HZ := fun W => Lib.hid (pall_no (s := a ++ ⟨#[10]⟩ ++ b) (by rw [z_size]; omega) (by rw [z_list]; exact hZ) heg W)
    rw [size_len, show ((ag + (a.size + 1) : Nat) : Int) = (ag : Int) + a.size + 1 by omega] at HZ
    have HA := fun W => Lib.hid (pall_yes (s := a) (by omega) hX W)
    have HB := fun W => Lib.hid (pall_no (s := b) (by omega) hY heg W)
    have he1 : (eg != 0) = true := by simpa using heg
    clear hX hY hZ heg
    go_wp2_with fail
    refine (HA _).out.mono ?_
    rintro e w2 ⟨ad2, c2, rfl, hc2, ht2, hb2⟩
    go_wp2_with fail
    refine (HB _).out.mono ?_
    rintro e w3 ⟨rfl, hb3⟩
    go_wp2_with fail
    refine (HZ _).out.mono ?_
    rintro e w4 ⟨rfl, hb4⟩
    obtain ⟨f0, f1, _, _⟩ := fcell (hb3.mono (by simp))
    obtain ⟨g0, g1, _, _⟩ := fcell (hb4.mono (by simp))
    have hw2 := hb2.size
    have hw3 := hb3.size
    have hw4 := hb4.size
    simp only [World.size_alloc] at hw3 hw4
    have q0 := ((((below_one w3 _).mono (Nat.le_refl _)).trans (hb4.mono (by simp))).cell (p := ⟨w2.heap.size, 0, none⟩) (by show w2.heap.size < _; omega)).trans f0
    have q1 := ((((below_one w3 _).mono (Nat.le_refl _)).trans (hb4.mono (by simp))).cell (p := ⟨w2.heap.size, 1, none⟩) (by show w2.heap.size < _; omega)).trans f1
    have hwl : w2.heap.size < w4.heap.size := by omega
    have hwl3 : w3.heap.size < w4.heap.size := by omega
    have hB34 : Below w3.heap.size w3 w4 := (below_one w3 _).trans (hb4.mono (by simp))
    have hB24 : Below w2.heap.size w2 w4 := ((below_one w2 _).trans (hb3.mono (by simp))).trans (hB34.mono (by omega))
    have HBE := Lib.hid ((H1.out.trans (hb2.mono H1.out.size)).trans (hB24.mono (Nat.le_trans H1.out.size hw2)))
    clear hb2 hb3 hb4 f0 f1 hB34 hB24
    go_wp2
    go_ret
    exact ⟨rfl, HBE.out.alloc HBE.out.size _⟩
  subst heg
  obtain ⟨nx, tz, hZ2, hJ⟩ := join_both hX hY
  clear htx
  obtain rfl := LexL.zero hY rfl
  have hly := hY.len
  have hlx := hX.len
  have hyp : 0 < ty.length := List.length_pos_iff.2 (hY.pos rfl)
  have htxl := hJ.lx
  have HPX := Lib.hid (fun j hj => hX.pos_le (j := j) hj)
  have HPY := Lib.hid (fun j hj => hY.pos_le (j := j) hj)
  have htzl := hJ.lz
  rw [size_len] at hly hlx hJ
  have HZ := fun W => Lib.hid (pall_yes (s := a ++ ⟨#[10]⟩ ++ b) (by rw [z_size]; omega) (by rw [z_list]; exact hZ2) W)
  have HA := fun W => Lib.hid (pall_yes (s := a) (by omega) hX W)
  have HB := fun W => Lib.hid (pall_yes (s := b) (by omega) hY W)
  rw [htzl] at HZ
  rw [htxl] at HA hlx
  obtain ⟨ny, hny⟩ : ∃ ny, ny = ty.length := ⟨_, rfl⟩
  rw [← hny] at HZ HB hly hyp htzl
  have HLX := Lib.hid htxl
  have HLZ := Lib.hid htzl
  have HNN := Lib.hid hny.symm
  have HJ := Lib.hid hJ
  clear hny htxl htzl hX hY hZ hZ2 hJ
  go_wp2_with fail
  refine (HA _).out.mono ?_
  rintro e w2 ⟨ax, c2, rfl, hc2, ht2, hb2⟩
  go_wp2_with fail
  refine (HB _).out.mono ?_
  rintro e w3 ⟨ay, c3, rfl, hc3, ht3, hb3⟩
  go_wp2_with fail
  refine (HZ _).out.mono ?_
  rintro e w4 ⟨az, c4, rfl, hc4, ht4, hb4⟩
  obtain ⟨f0, f1, _, _⟩ := fcell (hb3.mono (by simp))
  obtain ⟨g0, g1, _, _⟩ := fcell (hb4.mono (by simp))
  have hw2 := hb2.size
  have hw3 := hb3.size
  have hw4 := hb4.size
  simp only [World.size_alloc] at hw3 hw4
  have q0 := ((((below_one w3 _).mono (Nat.le_refl _)).trans (hb4.mono (by simp))).cell (p := ⟨w2.heap.size, 0, none⟩) (by show w2.heap.size < _; omega)).trans f0
  have q1 := ((((below_one w3 _).mono (Nat.le_refl _)).trans (hb4.mono (by simp))).cell (p := ⟨w2.heap.size, 1, none⟩) (by show w2.heap.size < _; omega)).trans f1
  have hwl : w2.heap.size < w4.heap.size := by omega
  have hwl3 : w3.heap.size < w4.heap.size := by omega
  have hB34 : Below w3.heap.size w3 w4 := (below_one w3 _).trans (hb4.mono (by simp))
  have hB24 : Below w2.heap.size w2 w4 := ((below_one w2 _).trans (hb3.mono (by simp))).trans (hB34.mono (by omega))
  have HBE := Lib.hid ((H1.out.trans (hb2.mono H1.out.size)).trans (hB24.mono (Nat.le_trans H1.out.size hw2)))
  have HTX := Lib.hid (ht2.go hB24 (by omega : w2.heap.size ≤ w4.heap.size))
  have HTY := Lib.hid (ht3.go hB34 (by omega : w3.heap.size ≤ w4.heap.size))
  have HTZ := Lib.hid ht4
  clear hb2 hb3 hb4 f0 f1 hB34 hB24 ht2 ht3 ht4
  go_wp2
  go_loopw [94] (fun i wr => ∃ (k : Nat), k ≤ nx + ny ∧ i = .int .i64 k ∧ Hid (Below w4.heap.size w4 wr)) (fun i _ => nx + ny - (intOf i).toNat)
  case atStart => exact ⟨0, by omega, rfl, below_one _ _⟩
  case round =>
    obtain ⟨k, hk, rfl, hf⟩ := hrel
    have hsz := hf.out.size
    by_cases hlt : k < nx + ny
    · obtain ⟨bz, oz, rfl, hbz, z0, z1, z2, z3⟩ := HTZ.out.cells hf.out (k := k) (by rw [HLZ.out]; exact hlt)
      by_cases hkx : k < nx
      · obtain ⟨bx, ox, rfl, hbx, x0, x1, x2, x3⟩ := HTX.out.cells hf.out (k := k) (by rw [HLX.out]; omega)
        obtain ⟨bY, oy, rfl, hby, y0, y1, y2, y3⟩ := HTY.out.cells hf.out (k := 0) (by rw [HNN.out]; exact hyp)
        obtain ⟨e1, e2, e3⟩ := HJ.out.lo k (by rw [HLX.out]; omega) (by rw [HLZ.out]; exact hlt) hkx
        rw [e1] at x0
        rw [e2] at x2
        rw [e3] at x1
        simp only [Nat.zero_mul, Nat.add_zero] at y0 y1 y2 y3
        have hmax : max 0 ((k : Int) - ((nx : Int) + 1) + 1) = 0 := by omega
        have hk2 : (k : Int) < (nx : Int) + 1 - 1 := by omega
        have hpos : (tz[k]'(by rw [HLZ.out]; exact hlt)).pos ≤ 600 := by rw [← e3]; have := HPX.out k (by rw [HLX.out]; omega); rw [size_len] at this; omega
        have hwx : bx < wr.heap.size := by omega
        have hwy : bY < wr.heap.size := by omega
        have hwz : bz < wr.heap.size := by omega
        clear e1 e2 e3 HA HB HZ
        go_wp2
        go_roundw
        case rel => exact ⟨k + 1, by omega, by go_num, (hf.out.alloc hsz _).alloc (by simp only [World.size_alloc]; omega) _⟩
        case measure => simp [intOf]; omega
      · obtain ⟨j, rfl⟩ : ∃ j, k = nx + j := ⟨k - nx, by omega⟩
        have hj : j < ny := by omega
        obtain ⟨bY, oy, rfl, hby, y0, y1, y2, y3⟩ := HTY.out.cells hf.out (k := j) (by rw [HNN.out]; exact hj)
        obtain ⟨e1, e2, e3⟩ := HJ.out.hi j (by rw [HNN.out]; exact hj) (by rw [HLZ.out]; exact hlt)
        rw [e1] at y0
        rw [e2] at y2
        rw [e3] at z1
        have hmax : max 0 (((nx : Int) + j) - ((nx : Int) + 1) + 1) = j := by omega
        have hwy : bY < wr.heap.size := by omega
        have hwz : bz < wr.heap.size := by omega
        have hk2 : ¬ ((nx : Int) + j) < (nx : Int) + 1 - 1 := by omega
        have hpos : (ty[j]'(by rw [HNN.out]; exact hj)).pos ≤ 600 := by have := HPY.out j (by rw [HNN.out]; exact hj); rw [size_len] at this; omega
        clear e1 e2 e3 HA HB HZ
        go_wp2
        go_roundw
        case rel => exact ⟨nx + j + 1, by omega, by go_num, (hf.out.alloc hsz _).alloc (by simp only [World.size_alloc]; omega) _⟩
        case measure => simp [intOf]; omega
    · go_wp2
      go_ret
      exact ⟨rfl, HBE.out.trans (hf.out.mono HBE.out.size)⟩

set_option maxRecDepth 100000 in
theorem lifted (os : Os) (started : os.Started) (H : Type) (enc : TypeId × Value → H) :
    ReturnsInHanded {} Try.checked os 6 .any (Rows.lexJoinsSpec.pre6 enc Try.prog Try.f6 Rows.lexJoinsRow.domain false) (Rows.lexJoinsSpec.post enc Try.prog Try.f6 false true false false) := by
  refine returnsInHanded_of_change (C := Try.checked) own started (by kernel_rfl) Try.func6
    (ChangeSpec.witness6 (enc := enc) (C := Try.checked) false ⟨#[], #[.string ⟨#[]⟩, .string ⟨#[]⟩], []⟩ 8 (by kernel_rfl) (by kernel_rfl) (by kernel_rfl) (by kernel_rfl)) ?_
  intro W base args ds gs before hval0 hW hcnd _
  have hval : ∀ (j : Nat) t v, Try.f6.params[j]? = some t → args[j]? = some v → Value.okWide Try.prog W .any base t v := hval0
  have hW' := hW
  obtain ⟨p, q, hA0, hV, rfl, hfz, hnd⟩ := hW
  have hA : DataW.TrodAll enc Try.prog W 0 (fun _ => true) true Try.f6.params.toList args.toList ds p := hA0
  rw [Try.params6] at hA hval
  obtain ⟨v0, vs0, d0, ds0, p0, q0, hargs, rfl, rfl, h0, r0⟩ := trodAll_cons hA
  obtain ⟨v1, vs1, d1, ds1, p1, q1, rfl, rfl, rfl, h1, r1⟩ := trodAll_cons r0
  obtain ⟨rfl, rfl, rfl⟩ := trodAll_nil r1
  obtain rfl : args = #[v0, v1] := by cases args; simp_all
  obtain ⟨rfl, rfl⟩ := trodVars_none hV
  obtain ⟨s0, rfl, rfl, rfl, w0⟩ := Go.ChangeMaps.open_string Try.underlying9 (hval 0 9 v0 rfl rfl) h0
  obtain ⟨s1, rfl, rfl, rfl, w1⟩ := Go.ChangeMaps.open_string Try.underlying9 (hval 1 9 v1 rfl rfl) h1
  clear hA0 hval0
  refine (walk s0 w0 s1 w1).mono fun e W' ⟨he, bel⟩ => ?_
  subst he
  exact ⟨_, rfl, _, _, _, [], _, [], hW', trodAll_mk1 (shut_bool Try.underlying4 _), (trodAll_cons_mk (Go.ChangeMaps.shut_string Try.underlying9 w0) (trodAll_cons_mk (Go.ChangeMaps.shut_string Try.underlying9 w1) trodAll_mk0)), rfl, bel.frame _, fun h => by cases h⟩

theorem over : Rows.lexJoinsRow.holds Try.pinned (OpenSpec.ofChange Rows.lexJoinsSpec) :=
  OpenClaim.holds_of_wide 6 Try.f6 rfl rfl rfl rfl rfl rfl rfl ⟨rfl, rfl, rfl, rfl, rfl⟩ rfl rfl rfl rfl rfl (by kernel_rfl) Try.func6 (by kernel_rfl)
    (of_decide_eq_true (by kernel_rfl)) (by unfold Func.isWrapper; first | (rw [if_pos (by decide +kernel)]; kernel_rfl) | (rw [if_neg (by decide +kernel)]; exact ⟨rfl, rfl⟩))
    (fun os started H enc _ => lifted os started H enc)

theorem proved : Rows.LexJoinsSaid := over
#print axioms proved
end Go.Proofs.Yticdihfjnmjkmaa.lexJoins
