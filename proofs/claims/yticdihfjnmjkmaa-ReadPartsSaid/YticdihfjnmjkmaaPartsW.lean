/- The walk of ReadParts. -/
import Derived.Test.YticdihfjnmjkmaaRd7
import Derived.IntWalk
namespace Go.Proofs.Yticdihfjnmjkmaa
open Go.RowKit
attribute [local go_sem] run_store_float
theorem z5_size (a b : ByteArray) : (a ++ ⟨#[10]⟩ ++ b).size = a.size + 1 + b.size := by
  rw [ByteArray.size_append, ByteArray.size_append]; rfl
theorem z5_list (a b : ByteArray) : (a ++ ⟨#[10]⟩ ++ b).data.toList = a.data.toList ++ 10 :: b.data.toList := by simp
/-- What lies where three calls have told faults. -/
theorem three_flt {w1 w2 w3 w4 : World} {x0 x1 y0 y1 : Value} (h2 : Below w1.heap.size w1 w2) (h3 : Below (w2.alloc (.cells #[x0, x1] 26)).heap.size (w2.alloc (.cells #[x0, x1] 26)) w3) (h4 : Below (w3.alloc (.cells #[y0, y1] 26)).heap.size (w3.alloc (.cells #[y0, y1] 26)) w4) :
    w4.cell? ⟨w2.heap.size, 0, none⟩ = some x0 ∧ w4.cell? ⟨w2.heap.size, 1, none⟩ = some x1 ∧ w4.cell? ⟨w3.heap.size, 0, none⟩ = some y0 ∧ w4.cell? ⟨w3.heap.size, 1, none⟩ = some y1 ∧ w2.heap.size < w3.heap.size ∧ w3.heap.size < w4.heap.size ∧ Below w1.heap.size w1 w4 ∧ Below w2.heap.size w2 w4 ∧ Below w3.heap.size w3 w4 := by
  have s2 := h2.size
  have s3 := h3.size
  have s4 := h4.size
  simp only [World.size_alloc] at s3 s4
  have b34 : Below w3.heap.size w3 w4 := (below_one w3 _).trans (h4.mono (by simp))
  have b24 : Below w2.heap.size w2 w4 := ((below_one w2 _).trans (h3.mono (by simp))).trans (b34.mono (by omega))
  have q := h3.block w2.heap.size (by simp)
  rw [heap_alloc_this] at q
  have q4 := (b34.block w2.heap.size (by omega)).trans q
  have r := h4.block w3.heap.size (by simp)
  rw [heap_alloc_this] at r
  exact ⟨cell_of_block (off := 0) q4, cell_of_block (off := 1) q4, cell_of_block (off := 0) r, cell_of_block (off := 1) r, by omega, by omega, h2.trans (b24.mono s2), b24, b34⟩
set_option maxRecDepth 100000 in
set_option maxHeartbeats 4000000 in
theorem parts_walk {w : World} (a : ByteArray) (hsa : a.size ≤ maxLen) (b : ByteArray) (hsb : b.size ≤ maxLen) : Calls Try.prog 8 #[.string a, .string b] w fun e w' => e = .returned (.bool true) ∧ Below w.heap.size w w' := by
  unfold maxLen at hsa hsb
  go_enter Try.func8, Try.ntmps8
  go_wp2_with fail
  refine (alive5_any _).mono ?_
  rintro e w1 ⟨rfl, hb⟩
  have H1 := Lib.hid hb
  clear hb
  by_cases hl1 : (600 : Int) < a.size
  · go_wp2
    go_ret
    exact ⟨rfl, H1.out⟩
  by_cases hl2 : (600 : Int) < b.size
  · go_wp2
    go_ret
    exact ⟨rfl, H1.out⟩
  have hzs : (a ++ ⟨#[10]⟩ ++ b).size ≤ 65536 := by rw [z5_size]; omega
  obtain ⟨ox, hX⟩ := parse_total a
  obtain ⟨oy, hY⟩ := parse_total b
  have HSB := fun W => Lib.hid (parse_some b W)
  cases ox with
  | err e p =>
    have he1 : (e != 0) = true := by simpa using hX.ne0
    have HA := fun W => Lib.hid (parse_fault hX W)
    have HB := HSB
    by_cases hp : p = a.size
    · subst hp
      have HZ := fun W => Lib.hid (parse_some (a ++ ⟨#[10]⟩ ++ b) W)
      clear hX hY HSB hzs
      go_wp2_with fail
      refine (HA _).out.mono ?_
      rintro e2 w2 ⟨rfl, hb2⟩
      go_wp2_with fail
      refine (HB _).out.mono ?_
      rintro e3 w3 ⟨ay, ny, cy, ey, py, rfl, hb3⟩
      go_wp2_with fail
      refine (HZ _).out.mono ?_
      rintro e4 w4 ⟨az, nz, cz, ez, pz, rfl, hb4⟩
      obtain ⟨q0, q1, q2, q3, hwl, hwl3, hB14, hB24, hB34⟩ := three_flt hb2 hb3 hb4
      have HBE := Lib.hid (H1.out.trans (hB14.mono H1.out.size))
      have hwe : w1.heap.size ≤ w4.heap.size := hB14.size
      have hwl2 : w2.heap.size < w4.heap.size := by omega
      clear hb2 hb3 hb4 hB14 hB24 hB34
      go_wp2
      go_ret
      exact ⟨rfl, HBE.out.alloc HBE.out.size _⟩
    · obtain ⟨ez, pz, hZ⟩ := parts_bad (by omega) hX hp (z5_list a b) hzs
      have HZ := fun W => Lib.hid (parse_fault hZ W)
      have he2 : (ez != 0) = true := by simpa using hZ.ne0
      have hp1 : ((p : Int) == a.size) = false := by simpa using (by omega : (p : Int) ≠ a.size)
      clear hX hY HSB hzs hZ hp
      go_wp2_with fail
      refine (HA _).out.mono ?_
      rintro e2 w2 ⟨rfl, hb2⟩
      go_wp2_with fail
      refine (HB _).out.mono ?_
      rintro e3 w3 ⟨ay, ny, cy, ey, py, rfl, hb3⟩
      go_wp2_with fail
      refine (HZ _).out.mono ?_
      rintro e4 w4 ⟨rfl, hb4⟩
      obtain ⟨q0, q1, q2, q3, hwl, hwl3, hB14, hB24, hB34⟩ := three_flt hb2 hb3 hb4
      have HBE := Lib.hid (H1.out.trans (hB14.mono H1.out.size))
      have hwe : w1.heap.size ≤ w4.heap.size := hB14.size
      have hwl2 : w2.heap.size < w4.heap.size := by omega
      clear hb2 hb3 hb4 hB14 hB24 hB34
      go_wp2
      go_ret
      exact ⟨rfl, HBE.out.alloc HBE.out.size _⟩
  | ok nx rx =>
    have HA := fun W => Lib.hid (parse_view hX W)
    obtain ⟨hnx, hxat⟩ := hX.few
    have HXF := Lib.hid hxat
    clear hxat
    cases oy with
    | err e p =>
      have he1 : (e != 0) = true := by simpa using hY.ne0
      have HB := fun W => Lib.hid (parse_fault hY W)
      rcases parts_half hX hY (by omega) (z5_list a b) hzs with ⟨rz, hZ⟩ | ⟨ez, pz, hZ, hpz⟩
      · have HZ := fun W => Lib.hid (parse_view hZ W)
        clear hX hY hZ HSB hzs
        obtain ⟨mx, hmx⟩ : ∃ mx, mx = nx.length := ⟨_, rfl⟩
        rw [← hmx] at hnx
        simp only [← hmx] at HA HZ
        clear hmx
        go_wp2_with fail
        refine (HA _).out.mono ?_
        rintro e2 w2 ⟨ax, cx, rfl, _, _, hb2⟩
        go_wp2_with fail
        refine (HB _).out.mono ?_
        rintro e3 w3 ⟨rfl, hb3⟩
        go_wp2_with fail
        refine (HZ _).out.mono ?_
        rintro e4 w4 ⟨az, cz, rfl, _, _, hb4⟩
        obtain ⟨q0, q1, q2, q3, hwl, hwl3, hB14, hB24, hB34⟩ := three_flt hb2 hb3 hb4
        have HBE := Lib.hid (H1.out.trans (hB14.mono H1.out.size))
        have hwe : w1.heap.size ≤ w4.heap.size := hB14.size
        have hwl2 : w2.heap.size < w4.heap.size := by omega
        clear hb2 hb3 hb4 hB14 hB24 hB34
        go_wp2
        go_ret
        exact ⟨rfl, HBE.out.alloc HBE.out.size _⟩
      · have HZ := fun W => Lib.hid (parse_fault hZ W)
        have he2 : (ez != 0) = true := by simpa using hZ.ne0
        have he3 : (ez == 0) = false := by simpa using hZ.ne0
        have hpz1 : (a.size : Int) < (pz : Int) := by omega
        clear hX hY hZ HSB hzs hpz
        go_wp2_with fail
        refine (HA _).out.mono ?_
        rintro e2 w2 ⟨ax, cx, rfl, _, _, hb2⟩
        go_wp2_with fail
        refine (HB _).out.mono ?_
        rintro e3 w3 ⟨rfl, hb3⟩
        go_wp2_with fail
        refine (HZ _).out.mono ?_
        rintro e4 w4 ⟨rfl, hb4⟩
        obtain ⟨q0, q1, q2, q3, hwl, hwl3, hB14, hB24, hB34⟩ := three_flt hb2 hb3 hb4
        have HBE := Lib.hid (H1.out.trans (hB14.mono H1.out.size))
        have hwe : w1.heap.size ≤ w4.heap.size := hB14.size
        have hwl2 : w2.heap.size < w4.heap.size := by omega
        clear hb2 hb3 hb4 hB14 hB24 hB34
        go_wp2
        go_ret
        exact ⟨rfl, HBE.out.alloc HBE.out.size _⟩
    | ok ny ry =>
      obtain ⟨rz, hZ, hne⟩ := parts_both hX hY (z5_list a b) hzs
      have HREL := Lib.hid (parts_rel (k := a.size + 1) (nx := nx) hY.forms)
      obtain ⟨hny, hyat⟩ := hY.few
      have HYF := Lib.hid hyat
      have HB := fun W => Lib.hid (parse_view hY W)
      have HZ := fun W => Lib.hid (parse_view hZ W)
      obtain ⟨mx, hmx⟩ : ∃ mx, mx = nx.length := ⟨_, rfl⟩
      obtain ⟨my, hmy⟩ : ∃ my, my = ny.length := ⟨_, rfl⟩
      have hmz : (nx ++ PN.shL (a.size + 1) ny).length = mx + my := by rw [List.length_append, PN.shL_length, hmx, hmy]
      have hmx0 : 0 < mx := by rw [hmx]; exact List.length_pos_iff.2 hne
      rw [← hmx] at hnx
      rw [← hmy] at hny
      simp only [hmz] at HZ
      simp only [← hmx] at HA
      simp only [← hmy] at HB
      have HLX := Lib.hid (show (nx.map PN.view).length = mx by rw [List.length_map, hmx])
      have HLY := Lib.hid (show (ny.map PN.view).length = my by rw [List.length_map, hmy])
      have HLZ := Lib.hid (show ((nx ++ PN.shL (a.size + 1) ny).map PN.view).length = mx + my by rw [List.length_map, hmz])
      generalize (nx ++ PN.shL (a.size + 1) ny).map PN.view = vz at *
      generalize nx.map PN.view = vx at *
      generalize ny.map PN.view = vy at *
      clear hmx hmy hmz hX hY hZ hne HSB hzs hyat
      go_wp2_with fail
      refine (HA _).out.mono ?_
      rintro e2 w2 ⟨ax, cx, rfl, hcx, htx, hb2⟩
      go_wp2_with fail
      refine (HB _).out.mono ?_
      rintro e3 w3 ⟨ay, cy, rfl, hcy, hty, hb3⟩
      go_wp2_with fail
      refine (HZ _).out.mono ?_
      rintro e4 w4 ⟨az, cz, rfl, hcz, htz, hb4⟩
      obtain ⟨q0, q1, q2, q3, hwl, hwl3, hB14, hB24, hB34⟩ := three_flt hb2 hb3 hb4
      have HBE := Lib.hid (H1.out.trans (hB14.mono H1.out.size))
      have hwe : w1.heap.size ≤ w4.heap.size := hB14.size
      have hwl2 : w2.heap.size < w4.heap.size := by omega
      have HTX := Lib.hid (htx.go hB24 (by omega : w2.heap.size ≤ w4.heap.size))
      have HTY := Lib.hid (hty.go hB34 (by omega : w3.heap.size ≤ w4.heap.size))
      have HTZ := Lib.hid htz
      clear hb2 hb3 hb4 hB14 hB24 hB34 htx hty htz
      go_wp2
      go_loopw [96] (fun i wr => ∃ (k : Nat), k ≤ mx + my ∧ i = .int .i64 k ∧ Hid (Below w4.heap.size w4 wr)) (fun i _ => mx + my - (intOf i).toNat)
      case atStart => exact ⟨0, by omega, rfl, below_one _ _⟩
      case round =>
        obtain ⟨k, hk, rfl, hf⟩ := hrel
        have hsz := hf.out.size
        by_cases hlt : k < mx + my
        · obtain ⟨bz, oz, zs, zc, rfl, hbz, z0, z1, z2⟩ := (HTZ.out.go hf.out (Nat.le_refl _)) k (by rw [HLZ.out]; exact hlt)
          by_cases hkx : k < mx
          · obtain ⟨bx, oo, xs, xc, rfl, hbx, x0, x1, x2⟩ := (HTX.out.go hf.out (Nat.le_refl _)) k (by rw [HLX.out]; exact hkx)
            have hv := HREL.out.lo k (by rw [HLX.out]; exact hkx) (by rw [HLZ.out]; exact hlt)
            rw [hv] at z0 z1 z2
            have hat := HXF.out k (by rw [HLX.out]; exact hkx)
            generalize (vx[k]'(by rw [HLX.out]; exact hkx)) = dx at *
            obtain ⟨dat, dnm, dn⟩ := dx
            simp only at *
            have hmin : min (k : Int) ((mx : Int) - 1) = k := by omega
            have hge : ¬ ((mx : Int) ≤ k) := by omega
            have hwx : bx < wr.heap.size := by omega
            have hwz : bz < wr.heap.size := by omega
            clear hv HA HB HZ HTX HTY HTZ
            have hk0 : (0 : Int) ≤ (k : Int) := by omega
            have hk1 : (k : Int) < (mx : Int) := by omega
            have hnz : bx ≠ wr.heap.size := by omega
            go_wp2
            go_region
            all_goals go_wp2
            all_goals exact ⟨⟨k + 1, by omega, by go_num, ((hf.out.alloc hsz _).alloc (by simp only [World.size_alloc]; omega) _).drew⟩, by simp [intOf]; omega⟩
          · obtain ⟨j, rfl⟩ : ∃ j, k = mx + j := ⟨k - mx, by omega⟩
            have hj : j < my := by omega
            obtain ⟨q, hq⟩ : ∃ q, mx = q + 1 := ⟨mx - 1, by omega⟩
            obtain ⟨bx, oo, xs, xc, rfl, hbx, x0, x1, x2⟩ := (HTX.out.go hf.out (Nat.le_refl _)) q (by rw [HLX.out]; omega)
            obtain ⟨bY, oy, ys, yc, rfl, hby, y0, y1, y2⟩ := (HTY.out.go hf.out (Nat.le_refl _)) j (by rw [HLY.out]; exact hj)
            have hv := HREL.out.hi j (by rw [HLY.out]; exact hj)
            rw [HLX.out] at hv
            have hv2 := hv (by rw [HLZ.out]; exact hlt)
            rw [hv2] at z0 z1 z2
            have hat := HYF.out j (by rw [HLY.out]; exact hj)
            generalize (vy[j]'(by rw [HLY.out]; exact hj)) = dx at *
            generalize (vx[q]'(by rw [HLX.out]; omega)) = de at *
            obtain ⟨dat, dnm, dn⟩ := dx
            obtain ⟨eat, enm, en⟩ := de
            simp only at *
            rw [show ((dat + (a.size + 1) : Nat) : Int) = (dat : Int) + ((a.size : Int) + 1) by omega] at z0
            have hmin : min ((mx : Int) + j) ((mx : Int) - 1) = q := by omega
            have hge : (mx : Int) ≤ (mx : Int) + j := by omega
            have hq0 : (0 : Int) ≤ (q : Int) := by omega
            have hq1 : (q : Int) < (mx : Int) := by omega
            have hj0 : (0 : Int) ≤ (j : Int) := by omega
            have hj1 : (j : Int) < (my : Int) := by omega
            have hwx : bx < wr.heap.size := by omega
            have hwy : bY < wr.heap.size := by omega
            have hwz : bz < wr.heap.size := by omega
            have hnx1 : bx ≠ wr.heap.size := by omega
            have hny1 : bY ≠ wr.heap.size := by omega
            have hny2 : bY ≠ wr.heap.size + 1 := by omega
            have hsub : (mx : Int) + j - mx = j := by omega
            have hws : IntKind.i64.wrap ((a.size : Int) + 1) = (a.size : Int) + 1 := IntWalk.i64_in _ (by omega)
            have hwj : IntKind.i64.wrap ((mx : Int) + j - mx) = j := by rw [hsub]; exact IntWalk.i64_in _ (by omega)
            have hdn : Hid (mx = q + 1) := hq
            clear hv hv2 HA HB HZ HTX HTY HTZ hq
            go_wp2
            go_region
            all_goals go_wp2
            all_goals go_region
            all_goals go_wp2
            all_goals exact ⟨⟨mx + j + 1, by omega, by go_num, ((hf.out.alloc hsz _).alloc (by simp only [World.size_alloc]; omega) _).drew.drew⟩, by simp [intOf]; omega⟩
        · go_wp2
          go_ret
          exact ⟨rfl, HBE.out.trans (hf.out.mono HBE.out.size)⟩
end Go.Proofs.Yticdihfjnmjkmaa
