/-
  LexBlanks answers true, and leaves its arguments as they were, for all texts and all ways of blanks. No conditions.
-/
import Derived.Test.YticdihfjnmjkmaaOpenB
import Derived.Test.YticdihfjnmjkmaaRows
import Derived.WalkKit
import Derived.ProofKit
import Derived.OpenShut
import Derived.ShutString
import Derived.ChangeOld
import Derived.ChangeMaps5
import Derived.Below
namespace Go.Proofs.Yticdihfjnmjkmaa.lexBlanks
open Go.ChangeShapes Go.WideShapes Go.ChangeAt Go.RowKit
set_option linter.unusedVariables false

theorem own : ownKnob Try.prog.godebug = none := by kernel_rfl
theorem laidOut : laidOutB Try.prog = true := by kernel_rfl
attribute [local go_sem] run_store_float
set_option maxRecDepth 100000 in
set_option maxHeartbeats 16000000 in
theorem walk {w : World} (s : ByteArray) (hs : s.size ≤ maxLen) (ah : Option Addr) (hw : List Int) (ch : Nat) (hb : BytesAt w w.heap.size ah hw) (hn : hw.length ≤ maxLen) : Calls Try.prog 5 #[.string s, .slice ah hw.length ch] w fun e w' => e = .returned (.bool true) ∧ Below w.heap.size w w' := by
  unfold maxLen at hs hn
  have HBY := Lib.hid hb
  clear hb
  go_enter Try.func5, Try.ntmps5
  go_wp2_with fail
  refine (alive_any _).mono ?_
  rintro e w1 ⟨rfl, hb⟩
  have H1 := Lib.hid hb
  clear hb
  by_cases hl1 : (600 : Int) < s.size
  · go_wp2
    go_ret
    exact ⟨rfl, H1.out⟩
  by_cases hl2 : hw.length = 0
  · have hl3 : ((hw.length : Int) == 0) = true := by simp [hl2]
    clear hl2
    go_wp2
    go_ret
    exact ⟨rfl, H1.out⟩
  have hl3 : ((hw.length : Int) == 0) = false := by simpa using hl2
  obtain ⟨ts, er, a, hX⟩ : ∃ ts er x, LexT s.data.toList ts er x := lex_total _ _ _ (Nat.le_refl _)
  by_cases her : er = 0
  rotate_left
  · have HA := fun W => Lib.hid (pall_no (s := s) (by omega) hX her W)
    have hat := hX.at_lt her
    rw [size_len] at hat
    have he1 : (er != 0) = true := by simpa using her
    have hat2 : (a : Int) < s.size := by omega
    clear hX her hat
    go_wp2_with fail
    refine (HA _).out.mono ?_
    rintro e w2 ⟨rfl, hb2⟩
    go_wp2
    go_ret
    exact ⟨rfl, (H1.out.trans (hb2.mono H1.out.size)).alloc (Nat.le_trans H1.out.size hb2.size) _⟩
  subst her
  obtain rfl := LexL.zero hX rfl
  have HA := fun W => Lib.hid (pall_yes (s := s) (by omega) hX W)
  have hlen := hX.len
  rw [size_len] at hlen
  have HF := Lib.hid (fun t (ht : t ∈ ts) => foundT hX ht)
  have HFD := Lib.hid (found hX rfl)
  have HLA := Lib.hid (LexL.last hX rfl)
  obtain ⟨bl, hbl⟩ : ∃ bl : Nat → List UInt8, bl = fun k => blk (bits .and .u8 (hw.getD (k % hw.length) 0) 3) := ⟨_, rfl⟩
  have HK : ∀ k, Blk (bl k) := fun k => by rw [hbl]; exact blk_ok _
  have hdl := dressF_len bl HK hX 0
  obtain ⟨ts', hX', hcore⟩ := redress bl HK hX rfl 0 0
  have hX2 := lexT_S.2 hX'
  rw [List.length_drop, size_len] at hdl
  have hlen' : ts'.length = ts.length := by have := congrArg List.length hcore; simpa using this
  have HDL := Lib.hid (show (dressF bl 0 ts).length ≤ 5000 by omega)
  have HZ := fun W => Lib.hid (pall_yes (s := bOf (dressF bl 0 ts)) (by rw [bOf_size]; omega) (by rw [bOf_list]; exact hX2) W)
  rw [hlen'] at HZ
  have HL := Lib.hid hlen'
  have HCO := Lib.hid hcore
  have HBL := Lib.hid hbl
  clear hX hX' hX2 hlen' hcore hbl hdl HK
  obtain ⟨n, hnn⟩ : ∃ n, n = ts.length := ⟨_, rfl⟩
  rw [← hnn] at HA HZ hlen
  have HNN := Lib.hid hnn.symm
  clear hnn
  go_wp2_with fail
  refine (HA _).out.mono ?_
  rintro e w2 ⟨ax, cx, rfl, hcx, htx, hb2⟩
  have HBE := Lib.hid (H1.out.trans (hb2.mono H1.out.size))
  have HBY2 := Lib.hid (show BytesAt w2 w2.heap.size ah hw from fun i hi => by
    obtain ⟨b, o, rfl, h1, h2, h3⟩ := HBY.out i hi
    exact ⟨b, o, rfl, Nat.lt_of_lt_of_le h1 HBE.out.size, (HBE.out.cell (p := ⟨b, o + i, none⟩) h1).trans h2, h3⟩)
  have HTX := Lib.hid htx
  clear hb2 htx HA HBY H1
  go_wp2
  go_loopw [7, 51] (fun v i wr => ∃ (k : Nat), k ≤ n ∧ i = .int .i64 k ∧ v = .string (bOf (dressF bl 0 (ts.take k))) ∧ Hid (Below w2.heap.size w2 wr)) (fun _ i _ => n - (intOf i).toNat)
  case atStart => exact ⟨0, by omega, rfl, rfl, below_one _ _⟩
  case round =>
    obtain ⟨k, hk, rfl, rfl, hf⟩ := hrel
    have hsz := hf.out.size
    by_cases hlt : k < n
    · have hkl : k < ts.length := by rw [HNN.out]; exact hlt
      obtain ⟨bx, ox, rfl, hbx, x0, x1, x2, x3⟩ := HTX.out.cells hf.out (k := k) hkl
      obtain ⟨p1, p2, p3⟩ := HF.out ts[k] (List.getElem_mem hkl)
      rw [size_len] at p1 p3
      have hml : k % hw.length < hw.length := Nat.mod_lt _ (by omega)
      obtain ⟨bh, oh, rfl, hbh, hc, hx0, hx1⟩ := HBY2.out (k % hw.length) hml
      have hc2 := (hf.out.cell (p := ⟨bh, oh + k % hw.length, none⟩) hbh).trans hc
      have HD := Lib.hid (show dressF bl 0 (ts.take (k + 1)) = dressF bl 0 (ts.take k) ++ (bl k ++ dress ts[k]) by
        rw [List.take_succ_eq_append_getElem hkl, dressF_snoc]
        rw [show 0 + (ts.take k).length = k by rw [List.length_take]; omega])
      have HB := Lib.hid (show bl k = blk (bits .and .u8 (hw[k % hw.length]) 3) by
        rw [HBL.out]
        show blk (bits .and .u8 (hw.getD (k % hw.length) 0) 3) = _
        rw [List.getD_eq_getElem?_getD, List.getElem?_eq_getElem hml]
        rfl)
      obtain ⟨jj, hjj, hj4⟩ : ∃ jj : Nat, bits .and .u8 (hw[k % hw.length]) 3 = (jj : Int) ∧ jj < 4 := by
        rcases and3 (hw[k % hw.length]) with h | h | h | h
        · exact ⟨0, h, by decide⟩
        · exact ⟨1, h, by decide⟩
        · exact ⟨2, h, by decide⟩
        · exact ⟨3, h, by decide⟩
      rw [hjj] at HB
      have HNX := Lib.hid (fun h1 => HFD.out.2.1 k h1)
      have HNL := Lib.hid (fun h0 => HLA.out k hkl h0)
      have HN0 := Lib.hid (fun h0 => HFD.out.2.2 k hkl h0)
      have HTXC := Lib.hid (fun h1 => HTX.out.cells hf.out (k := k + 1) h1)
      have hsl : ∀ W, (Instr.slice 9 (.string s) (some (.int .i64 ((ts[k]).pos : Int))) (some (.int .i64 ((ts[k]).pos + (bOf (dress ts[k])).size : Int))) none).run Try.prog W = .ok (.string (bOf (dress ts[k]))) W := fun W => by
        rw [slice_str W s _ _ (by omega) (by omega) (by rw [bOf_size]; omega)]
        refine congrArg (fun x => Result.ok (Value.string x) W) ?_
        rw [show (((ts[k]).pos : Int) + ((bOf (dress ts[k])).size : Int)).toNat = (ts[k]).pos + (dress ts[k]).length by rw [bOf_size]; omega, show (((ts[k]).pos : Nat) : Int).toNat = (ts[k]).pos from rfl, ext_bOf]
        exact congrArg bOf p2
      have hps : (ts[k]).pos + (bOf (dress ts[k])).size ≤ s.size := by rw [bOf_size]; exact p1
      have HDR := Lib.hid (show dress ts[k] = if (ts[k]).kind = 2 then 39 :: ((ts[k]).text ++ [39]) else if (ts[k]).kind = 3 then 37 :: (ts[k]).text else (ts[k]).text from rfl)
      clear p1 p2 hc hx0 hx1
      generalize hw[k % hw.length] = x at *
      obtain ⟨DT, hDT⟩ : ∃ DT, DT = bOf (dress ts[k]) := ⟨_, rfl⟩
      obtain ⟨TX, hTX⟩ : ∃ TX, TX = bOf (ts[k]).text := ⟨_, rfl⟩
      obtain ⟨BB, hBB⟩ : ∃ BB, BB = bOf (blk jj) := ⟨_, rfl⟩
      obtain ⟨DK, hDK⟩ : ∃ DK, DK = bOf (dressF bl 0 (ts.take k)) := ⟨_, rfl⟩
      have hfour : ([.string ⟨#[32]⟩, .string ⟨#[10]⟩, .string ⟨#[9, 35, 32, 120, 32, 39, 10]⟩, .string ⟨#[13]⟩] : List Value)[jj]'(by simp; omega) = .string BB := by
        subst hBB
        rcases (by omega : jj = 0 ∨ jj = 1 ∨ jj = 2 ∨ jj = 3) with h | h | h | h <;> subst h <;> rfl
      have HDD := Lib.hid (show bOf (dressF bl 0 (ts.take (k + 1))) = DK ++ (BB ++ DT) by
        rw [HD.out, HB.out, hDK, hBB, hDT, bOf_append, bOf_append])
      have hd2 : (ts[k]).kind = 2 → ⟨#[39]⟩ ++ TX ++ ⟨#[39]⟩ = DT := fun h => by
        rw [hDT, hTX, HDR.out, if_pos h, show (⟨#[39]⟩ : ByteArray) = bOf [39] from rfl, bOf_append, bOf_append]
        rfl
      have hd3 : (ts[k]).kind = 3 → ⟨#[37]⟩ ++ TX = DT := fun h => by
        rw [hDT, hTX, HDR.out, if_neg (by omega), if_pos h, show (⟨#[37]⟩ : ByteArray) = bOf [37] from rfl, bOf_append]
        rfl
      have hd1 : (ts[k]).kind ≠ 2 → (ts[k]).kind ≠ 3 → TX = DT := fun h h' => by
        rw [hDT, hTX, HDR.out, if_neg h, if_neg h']
      have hz1 : TX.size ≤ 600 := by have := dress_ge ts[k]; rw [bOf_size] at hps; rw [hTX, bOf_size]; omega
      have hz2 : BB.size ≤ 7 := by rw [hBB, bOf_size]; exact (blk_ok jj).len
      have hz3 : DK.size ≤ 5000 := by have := dressF_take bl ts 0 k; have := HDL.out; rw [hDK, bOf_size]; omega
      rw [← hDT] at hsl hps
      rw [← hTX] at x2
      rw [← hDK]
      clear hDT hTX hBB hDK HDR HD HB
      have hrem : (k : Int).tmod (hw.length : Int) = ((k % hw.length : Nat) : Int) := rfl
      have hwx : bx < wr.heap.size := by omega
      have hwh : bh < wr.heap.size := by omega
      by_cases hlast : k + 1 < n
      · obtain ⟨by', oy, hy, _, y0, y1, y2, y3⟩ := HTXC.out (by rw [HNN.out]; exact hlast)
        simp only [Option.some.injEq, Addr.mk.injEq, and_true] at hy
        obtain ⟨rfl, rfl⟩ := hy
        have hle := HNX.out (by rw [HNN.out]; exact hlast)
        have hk0 : (ts[k]).kind ≠ 0 := fun h => by have := HN0.out h; rw [HNN.out] at this; omega
        have hk0b : ((ts[k]).kind == 0) = false := by simpa using hk0
        by_cases hk2 : (ts[k]).kind = 2
        · have hq := hd2 hk2
          clear HTXC HNX HN0 HNL hd2 hd3 hd1 p3
          go_wp2
          go_roundw
          case rel => exact ⟨k + 1, by omega, by go_num, by rw [HDD.out], (hf.out.alloc hsz _).alloc (by simp only [World.size_alloc]; omega) _⟩
          case measure => simp [intOf]; omega
        by_cases hk3 : (ts[k]).kind = 3
        · have hq := hd3 hk3
          clear HTXC HNX HN0 HNL hd2 hd3 hd1 p3
          go_wp2
          go_roundw
          case rel => exact ⟨k + 1, by omega, by go_num, by rw [HDD.out], (hf.out.alloc hsz _).alloc (by simp only [World.size_alloc]; omega) _⟩
          case measure => simp [intOf]; omega
        · have hq := hd1 hk2 hk3
          have hk2b : ((ts[k]).kind == 2) = false := by simpa using hk2
          have hk3b : ((ts[k]).kind == 3) = false := by simpa using hk3
          subst hq
          clear HTXC HNX HN0 HNL hd2 hd3 hd1 p3 hk2 hk3
          go_wp2
          go_roundw
          case rel => exact ⟨k + 1, by omega, by go_num, by rw [HDD.out], (hf.out.alloc hsz _).alloc (by simp only [World.size_alloc]; omega) _⟩
          case measure => simp [intOf]; omega
      · have hk0 := HNL.out (by rw [HNN.out]; omega)
        have hq := hd1 (by omega) (by omega)
        have hpe : (((ts[k]).pos : Int) != (s.size : Int)) = false := by simp [p3 hk0]
        have hkn : ((k : Int) != (n : Int) - 1) = false := by simp; omega
        subst hq
        clear HTXC HNX HN0 HNL hd2 hd3 hd1 p3
        go_wp2
        go_roundw
        case rel => exact ⟨k + 1, by omega, by go_num, by rw [HDD.out], (hf.out.alloc hsz _).alloc (by simp only [World.size_alloc]; omega) _⟩
        case measure => simp [intOf]; omega
    · obtain rfl : n = k := by omega
      have HTK := Lib.hid (show ts.take n = ts by rw [← HNN.out, List.take_length])
      rw [HTK.out]
      go_wp2_with fail
      refine (HZ _).out.mono ?_
      rintro e w3 ⟨ay, cy, rfl, hcy, hty, hb3⟩
      have hw3 := hb3.size
      have hwl : w2.heap.size ≤ w3.heap.size := Nat.le_trans hsz hw3
      have HBF := Lib.hid (HBE.out.trans ((hf.out.trans (hb3.mono hsz)).mono HBE.out.size))
      have HTX3 := Lib.hid (HTX.out.go (hf.out.trans (hb3.mono hsz)) hwl)
      have HTY3 := Lib.hid hty
      clear hty hb3 HZ HTX
      go_wp2
      go_loopw [164] (fun i wr => ∃ (k : Nat), k ≤ n ∧ i = .int .i64 k ∧ Hid (Below w3.heap.size w3 wr)) (fun i _ => n - (intOf i).toNat)
      case atStart => exact ⟨0, by omega, rfl, below_one _ _⟩
      case round =>
        obtain ⟨k, hk, rfl, hf⟩ := hrel
        have hsz := hf.out.size
        by_cases hlt : k < n
        · have hkl : k < ts.length := by rw [HNN.out]; exact hlt
          have hkl2 : k < ts'.length := by rw [HL.out]; exact hkl
          obtain ⟨bx, ox, rfl, hbx, x0, x1, x2, x3⟩ := HTX3.out.cells hf.out (k := k) hkl
          obtain ⟨bY, oy, rfl, hby, y0, y1, y2, y3⟩ := HTY3.out.cells hf.out (k := k) hkl2
          obtain ⟨e1, e2, e3⟩ := core_at HCO.out hkl2 hkl
          rw [e1] at y0
          rw [e2] at y2
          rw [e3] at y3
          have hwx : bx < wr.heap.size := by omega
          have hwy : bY < wr.heap.size := by omega
          have HS := fun W => Lib.hid (fsame_val (ts[k]).wt (ts[k]).wt W)
          rw [sameF_self] at HS
          clear e1 e2 e3
          generalize (ts[k]).wt = wt at *
          generalize bOf (ts[k]).text = T at *
          generalize (ts[k]).kind = kd at *
          generalize (ts[k]).pos = ps at *
          generalize (ts'[k]).pos = ps' at *
          go_wp2
          go_quiet ((go_at_call 18; exact Calls.quiet_of_same ((HS _).out.mono (fun _ _ h => ⟨h.1, h.2.symm⟩))))
          go_wp2
          go_roundw
          case rel => exact ⟨k + 1, by omega, by go_num, below_drewN (hf.out.alloc hsz _) _⟩
          case measure => simp [intOf]; omega
        · go_wp2
          go_ret
          exact ⟨rfl, HBF.out.trans (hf.out.mono HBF.out.size)⟩

set_option maxRecDepth 100000 in
theorem lifted (os : Os) (started : os.Started) (H : Type) (enc : TypeId × Value → H) :
    ReturnsInHanded {} Try.checked os 5 .any (Rows.lexBlanksSpec.pre6 enc Try.prog Try.f5 Rows.lexBlanksRow.domain false) (Rows.lexBlanksSpec.post enc Try.prog Try.f5 false true false false) := by
  refine returnsInHanded_of_change (C := Try.checked) own started (by kernel_rfl) Try.func5
    (ChangeSpec.witness6 (enc := enc) (C := Try.checked) false ⟨#[], #[.string ⟨#[]⟩, .slice none 0 0], []⟩ 8 (by kernel_rfl) (by kernel_rfl) (by kernel_rfl) (by kernel_rfl)) ?_
  intro W base args ds gs before hval0 hW hcnd _
  have hval : ∀ (j : Nat) t v, Try.f5.params[j]? = some t → args[j]? = some v → Value.okWide Try.prog W .any base t v := hval0
  have hW' := hW
  obtain ⟨p, q, hA0, hV, rfl, hfz, hnd⟩ := hW
  have hA : DataW.TrodAll enc Try.prog W 0 (fun _ => true) true Try.f5.params.toList args.toList ds p := hA0
  rw [Try.params5] at hA hval
  obtain ⟨v0, vs0, d0, ds0, p0, q0, hargs, rfl, rfl, h0, r0⟩ := trodAll_cons hA
  obtain ⟨v1, vs1, d1, ds1, p1, q1, rfl, rfl, rfl, h1, r1⟩ := trodAll_cons r0
  obtain ⟨rfl, rfl, rfl⟩ := trodAll_nil r1
  obtain rfl : args = #[v0, v1] := by cases args; simp_all
  obtain ⟨rfl, rfl⟩ := trodVars_none hV
  obtain ⟨s0, rfl, rfl, rfl, w0⟩ := Go.ChangeMaps.open_string Try.underlying9 (hval 0 9 v0 rfl rfl) h0
  have k1 := h1
  have lt1 : ∀ x ∈ p1, x.block < W.heap.size := by obtain ⟨m, hm⟩ := k1; exact DataW.trod_lt m _ _ _ hm
  obtain ⟨a1, xs1, cap1, rfl, hi1, hl1⟩ := bytes_of_val (hval 1 37 v1 rfl rfl) h1
  clear hA0 hval0
  refine (walk s0 w0 a1 xs1 cap1 hi1 hl1).mono fun e W' ⟨he, bel⟩ => ?_
  subst he
  exact ⟨_, rfl, _, _, _, [], _, [], hW', trodAll_mk1 (shut_bool Try.underlying4 _), (trodAll_cons_mk (Go.ChangeMaps.shut_string Try.underlying9 w0) (trodAll_cons_mk (Below.trod laidOut (by kernel_rfl) (of_decide_eq_true (by kernel_rfl)) k1 bel lt1) trodAll_mk0)), rfl, bel.frame _, fun h => by cases h⟩

theorem over : Rows.lexBlanksRow.holds Try.pinned (OpenSpec.ofChange Rows.lexBlanksSpec) :=
  OpenClaim.holds_of_wide 5 Try.f5 rfl rfl rfl rfl rfl rfl rfl ⟨rfl, rfl, rfl, rfl, rfl⟩ rfl rfl rfl rfl rfl (by kernel_rfl) Try.func5 (by kernel_rfl)
    (of_decide_eq_true (by kernel_rfl)) (by unfold Func.isWrapper; first | (rw [if_pos (by decide +kernel)]; kernel_rfl) | (rw [if_neg (by decide +kernel)]; exact ⟨rfl, rfl⟩))
    (fun os started H enc _ => lifted os started H enc)

theorem proved : Rows.LexBlanksSaid := over
#print axioms proved
end Go.Proofs.Yticdihfjnmjkmaa.lexBlanks
