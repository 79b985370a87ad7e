/- A tree's text: the walk. -/
import Derived.Test.YtfiafmhnmafnbaaTextP
import Derived.Deep.RegionLaw
import Derived.Deep.AppendLies
namespace Go.Proofs.Ytfiafmhnmafnbaa
open Go.RowKit Go.Shelf
theorem info9 : (Try.prog.info? 9).map (fun i => (i.zero, i.size, i.bytes)) = some (some (.string ⟨#[]⟩), 1, 16) := by kernel_rfl
theorem row_one {w : World} {b base : Nat} {x : Value} {t : TypeId} (h : w.heap[b]? = some (.cells #[x] t (0, 0))) (hb : base ≤ b) : w.ownsRow base t 1 (.slice (some ⟨b, 0, none⟩) 1 1) 1 [x] :=
  ⟨rfl, .inr ⟨b, 1, #[x], rfl, hb, h, Nat.le_refl _, by unfold maxLen; omega, rfl, rfl⟩⟩
def partsS (g : GramD) (s : Int) (kids : List PT) : List ByteArray := nameS g s :: kids.map fun c => strOf (c.text g)
theorem parts_step {g : GramD} {s : Int} {ks : List PT} {c : PT} : partsS g s (ks ++ [c]) = partsS g s ks ++ [strOf (c.text g)] := by
  unfold partsS
  rw [List.map_append]
  rfl
theorem parts_join {g : GramD} {s : Int} {kids : List PT} : Lib.join ((partsS g s kids).map (·.data.toList)) [32] = (nameS g s).data.toList ++ PT.textL g kids := by
  unfold partsS
  rw [List.map_cons, Lib.join_cons, List.map_map]
  rw [show ((fun x => x.data.toList) ∘ fun c => strOf (PT.text g c)) = PT.text g from by funext c; simp [strOf]]
  rw [joinTail_text]
theorem text_var {g : GramD} {s r : Int} {kids : List PT} (hs : 0 ≤ s) {X : ByteArray} (hX : X = strOf (Lib.join ((partsS g s kids).map (·.data.toList)) [32])) :
    ByteArray.append (ByteArray.append ⟨#[40]⟩ X) ⟨#[41]⟩ = strOf ((PT.node s r kids).text g) := by
  rw [app_list, app_list, hX, parts_join, PT.text, if_pos hs]
  simp [strOf]
theorem run_store_string (P : Program) (w : World) (a : Addr) (m : Mode) (s : ByteArray) : (store a (.string s) m).run P w = stored P w a (.string s) m := run_store P w a _ m rfl
theorem undrew {B : Nat} {w w1 : World} (h : Below B w.drew w1) : Below B w w1 := ⟨h.os, h.tape, h.output, h.size, h.block⟩
set_option maxRecDepth 100000 in
set_option maxHeartbeats 2000000 in
theorem text_any {B : Nat} {g : GramD} (hbr : Brief g) (t : MT) {w : World} {lo : Nat} (h : GramAt w B g) (hB : B ≤ w.heap.size) (ht : MT.At w lo t) (hnm : t.pt.named g) (hs : t.pt.size ≤ 10000) :
    Calls Try.prog 14 #[t.ptr, GV g] w (StrPost (strOf (t.pt.text g)) w) := by
  induction t using MT.ind generalizing w with | h b v s r kids ih => ?_
  have HS := Lib.hid (boxed_start h hB)
  have hb1 : Below w.heap.size w (w.alloc (.cells #[.slice g.ta g.terms.length g.tc, .slice g.va g.vars.length g.vc, .slice g.ra g.rules.length g.rc] 25)) := (Below.refl _ _).alloc (Nat.le_refl _) _
  have hta := ht.below hb1
  obtain ⟨a, cap, rfl, hn, hcap, hmax, hc⟩ := hta.reads
  have HT := Lib.hid hta
  have HB1 := Lib.hid hb1
  have HTL := Lib.hid (fun x hx => (ht.lt x hx).2)
  have g0 := cell_of_block (off := 0) hta.2.1
  have g2 := cell_of_block (off := 2) hta.2.1
  simp at g0 g2
  have HI := fun W => Lib.hid (isVar_any s W)
  rw [MT.pt_node, PT.named] at hnm
  rw [MT.pt_node, PT.size] at hs
  have hkl : kids.length ≤ 10000 := by have := PT.len_le (kids.map MT.pt); simp at this; omega
  have HNM : ∀ W, GramAt W B g → B ≤ W.heap.size → Hid (Calls Try.prog 36 #[GV g, .int .i64 s] W (StrPost (nameS g s) W)) := fun W h1 h2 => name_any h1 h2 hbr hnm.1
  have IH : Hid (∀ k (hk : k < kids.length) (W : World), GramAt W B g → B ≤ W.heap.size → MT.At W lo kids[k] → Calls Try.prog 14 #[kids[k].ptr, GV g] W (StrPost (strOf (kids[k].pt.text g)) W)) :=
    Lib.hid fun k hk W h1 h2 h3 => ih _ (List.getElem_mem hk) h1 h2 h3 (namedL_iff.1 hnm.2 _ (List.mem_map_of_mem (List.getElem_mem hk))) (by have := PT.size_le (List.mem_map_of_mem (f := MT.pt) (List.getElem_mem hk)); omega)
  rw [MT.pt_node]
  have HZL := Lib.hid (text_len hbr (.node s r (kids.map MT.pt)))
  dsimp only [MT.ptr, MT.blk]
  obtain ⟨i0, hi, hz0, hz1, hz2⟩ := info_parts info9
  clear hta ht hc h hb1 ih hnm
  by_cases hneg : s < 0
  · rw [show isv s = false by simp [isv]; omega] at HI
    have HE := Lib.hid (show strOf ((PT.node s r (kids.map MT.pt)).text g) = nameS g s by rw [PT.text, if_neg (by omega)]; simp [strOf])
    unfold GV
    go_enter Try.func14, Try.ntmps14
    go_wp2_with (first | (go_at_call 35; refine (HI _).out.mono ?_; rintro e w' ⟨rfl, rfl⟩))
    generalize (w.alloc (.cells #[.slice g.ta g.terms.length g.tc, .slice g.va g.vars.length g.vc, .slice g.ra g.rules.length g.rc] 25)) = W1 at *
    have gc0 := cell_of_block (off := 0) HS.out.blk
    have gc1 := cell_of_block (off := 1) HS.out.blk
    have gc2 := cell_of_block (off := 2) HS.out.blk
    simp only [List.getElem?_toArray, List.getElem?_cons_succ, List.getElem?_cons_zero] at gc0 gc1 gc2
    have hsz := HS.out.size
    have HN := HNM W1.drew (HS.out.drewN hB 1).gram (by show B ≤ W1.heap.size; omega)
    unfold GV at HN
    go_region_law (first | (go_simp; go_at_call 36; refine HN.out.mono ?_; rintro e w1 ⟨rfl, hbw⟩))
    all_goals
      go_wp2
      go_ret
      exact ⟨by rw [HE.out]; rfl, HB1.out.trans (undrew (hbw.mono (by show w.heap.size ≤ W1.heap.size; omega)))⟩
  · have hz : (0 : Int) ≤ s := by omega
    rw [show isv s = true by simp [isv]; omega] at HI
    unfold GV
    go_enter Try.func14, Try.ntmps14
    go_wp2_with (first | (go_at_call 35; refine (HI _).out.mono ?_; rintro e w' ⟨rfl, rfl⟩))
    generalize (w.alloc (.cells #[.slice g.ta g.terms.length g.tc, .slice g.va g.vars.length g.vc, .slice g.ra g.rules.length g.rc] 25)) = W1 at *
    have gc0 := cell_of_block (off := 0) HS.out.blk
    have gc1 := cell_of_block (off := 1) HS.out.blk
    have gc2 := cell_of_block (off := 2) HS.out.blk
    simp only [List.getElem?_toArray, List.getElem?_cons_succ, List.getElem?_cons_zero] at gc0 gc1 gc2
    have hsz := HS.out.size
    have HN := HNM W1.drew (HS.out.drewN hB 1).gram (by show B ≤ W1.heap.size; omega)
    unfold GV at HN
    go_region_law (first | (go_simp; go_at_call 36; refine HN.out.mono ?_; rintro e w1 ⟨rfl, hbw⟩))
    all_goals
      have HP := Lib.hid (row_one (base := w.heap.size + 1) (heap_alloc_this w1 (.cells #[.string (nameS g s)] 9)) (by have := hbw.size; have : W1.drew.heap.size = W1.heap.size := rfl; omega))
      have hbw2 : Below W1.heap.size W1 (w1.alloc (.cells #[.string (nameS g s)] 9)) := (undrew hbw).trans ((Below.refl _ _).alloc (by have := hbw.size; exact this) _)
      have HSx := Lib.hid (HS.out.next hB hbw2)
      have HTx := Lib.hid (HT.out.below hbw2)
      have g2x : (w1.alloc (.cells #[.string (nameS g s)] 9)).cell? ⟨b, 2, none⟩ = some (.slice a kids.length cap) := by
        have := cell_of_block (off := 2) HTx.out.2.1
        simpa only [List.getElem?_toArray, List.getElem?_cons_succ, List.getElem?_cons_zero] using this
      clear hbw hbw2 HN HNM HI HS HT g0 g2 gc0 gc1 gc2 hsz HB1
      generalize (w1.alloc (.cells #[.string (nameS g s)] 9)) = W2 at *
      generalize w1.heap.size = pb at *
      go_wp2
      go_loopw [5, 32] (fun v i wr => ∃ k : Nat, k ≤ kids.length ∧ i = .int .i64 k ∧ Hid (wr.ownsRow (w.heap.size + 1) 9 1 v (k + 1) ((partsS g s ((kids.take k).map MT.pt)).map Value.string) ∧ Boxed w B g wr ∧ MT.At wr lo (.node b (.slice a kids.length cap) s r kids))) (fun _ i _ => kids.length - (intOf i).toNat)
      case atStart => exact ⟨0, by omega, rfl, HP.out, HSx.out, HTx.out⟩
      case round =>
        clear HP HSx HTx g2x
        obtain ⟨k, hk, rfl, hh⟩ := hrel
        have hsz := hh.out.2.1.size
        have gc0 := cell_of_block (off := 0) hh.out.2.1.blk
        have gc1 := cell_of_block (off := 1) hh.out.2.1.blk
        have gc2 := cell_of_block (off := 2) hh.out.2.1.blk
        simp only [List.getElem?_toArray, List.getElem?_cons_succ, List.getElem?_cons_zero] at gc0 gc1 gc2
        obtain ⟨a', cap', hav, -, -, -, hc⟩ := hh.out.2.2.reads
        injection hav with hav1 hav2 hav3
        subst hav1 hav3
        clear hav2
        obtain ⟨pa, pcap, rfl⟩ := ownsRow_succ hh.out.1
        by_cases hlt : k < kids.length
        · obtain ⟨gb, rfl, hcp⟩ := hc k hlt
          have hki : (k : Int) < kids.length := by omega
          have IHk := Lib.hid (IH.out k hlt wr hh.out.2.1.gram (by omega) (hh.out.2.2.kid (List.getElem_mem hlt)))
          have HTK : Hid ((partsS g s ((kids.take (k + 1)).map MT.pt)).map Value.string = (partsS g s ((kids.take k).map MT.pt)).map Value.string ++ [.string (strOf (kids[k].pt.text g))]) := Lib.hid (by
            rw [List.take_succ_eq_append_getElem hlt, List.map_append, List.map_cons, List.map_nil, parts_step, List.map_append]
            rfl)
          dsimp only [GV, MT.ptr] at IHk hcp
          generalize (kids[k]'hlt).blk = kb at IHk hcp
          generalize strOf ((kids[k]'hlt).pt.text g) = X at IHk HTK
          clear hc
          go_wp2_with (first
            | (go_at_call 14; refine IHk.out.mono ?_; rintro e w1 ⟨rfl, hbw⟩
               have HW := Lib.hid hbw
               have HR : Hid ((w1.alloc (.cells #[.string X] 9)).ownsRow (w.heap.size + 1) 9 1 (.slice (some ⟨pa, 0, none⟩) (k + 1) pcap) (k + 1) ((partsS g s ((kids.take k).map MT.pt)).map Value.string)) := row_kept hh.out.1 fun x hx => by
                 have h5 := (row_lt hh.out.1 hx).2
                 exact (Below.heap_alloc _ _ _ (Nat.lt_of_lt_of_le h5 hbw.size)).trans (hbw.block x h5)
               have hsw := hbw.size
               clear hbw)
            | (at_builtin; (refine wpList_append_lies _ rfl (.tmp 36) (.tmp 40) 22 rfl (w.heap.size + 1) 9 i0 (.string ⟨#[]⟩) 1 16 Try.underlying22 hi hz0 hz1 hz2 rfl (by decide) (.slice (some ⟨pa, 0, none⟩) (k + 1) pcap) (k + 1) _ (by rfl) HR.out ⟨w1.heap.size, 0, none⟩ 1 1 [.string X] (by rfl) (by rfl) (World.news_of_block (cs := #[.string X]) (t := 9) (fr := (0, 0)) (heap_alloc_new _ _)) (by simp [Value.oneCell']) (by omega) (by simp only [maxLen]; omega) (by omega) (by simp; omega) (w1.heap.size + 1) (by simp) ?_); intro gg cap2 w2 hown hgrow hat hlt2))
          have hbf : Below (w.heap.size + 1) wr w2 := by
            refine (HW.out.mono (by omega)).trans (((Below.refl _ _).alloc (by omega) _).trans ((Below.refl _ _).grown hgrow (by simp only [World.size_alloc]; omega) fun j ej => ?_))
            exact (row_lt HR.out ej).1
          go_roundw
          case rel => exact ⟨k + 1, by omega, by go_num, by rw [HTK.out]; exact hown, hh.out.2.1.next1 hB hbf, hh.out.2.2.kept (fun x hx => hbf.block x (by have := HTL.out x hx; omega))⟩
          case measure => simp [intOf]; omega
        · have hki : ¬ (k : Int) < kids.length := by omega
          obtain rfl : k = kids.length := by omega
          have HP : Hid (wr.ownsRow (w.heap.size + 1) 9 1 (.slice (some ⟨pa, 0, none⟩) (kids.length + 1) pcap) (kids.length + 1) ((partsS g s (kids.map MT.pt)).map Value.string)) := by
            have := hh.out.1
            rw [List.take_length] at this
            exact this
          have hpl : (partsS g s (kids.map MT.pt)).length = kids.length + 1 := by simp [partsS]
          have hpw : pa < wr.heap.size := (row_lt HP.out (g := pa) rfl).2
          have HJ : Hid (Calls Try.prog 37 #[.slice (some ⟨pa, 0, none⟩) (kids.length + 1) pcap, .string ⟨#[32]⟩] wr (StrPost (strOf (Lib.join ((partsS g s (kids.map MT.pt)).map (·.data.toList)) [32])) wr)) := by
            have h7 := HP.out
            rw [show kids.length + 1 = ((partsS g s (kids.map MT.pt)).map Value.string).length by rw [List.length_map, hpl]] at h7
            obtain ⟨ra, rcap, he, -, hl7, -, hrd⟩ := row_reads h7
            injection he with he1 he2 he3
            subst he1 he3
            have := join_any pa 0 pcap (partsS g s (kids.map MT.pt)) ⟨#[32]⟩ wr (fun j x hj => by
              have hjl : j < (partsS g s (kids.map MT.pt)).length := by
                rcases Nat.lt_or_ge j (partsS g s (kids.map MT.pt)).length with h | h
                · exact h
                · rw [List.getElem?_eq_none h] at hj; cases hj
              obtain ⟨gx, hgx, hcx⟩ := hrd j (by rw [List.length_map]; exact hjl)
              injection hgx with hgx
              injection hgx with hgx
              subst hgx
              rw [List.getElem?_eq_getElem hjl] at hj
              rw [Nat.zero_add, hcx, List.getElem_map]
              injection hj with hj
              rw [hj]) hpw (by omega) (by simpa using hl7) (by
                show (Lib.join ((partsS g s (kids.map MT.pt)).map (·.data.toList)) [32]).length ≤ _
                rw [parts_join]
                have h8 := HZL.out
                rw [PT.text, if_pos hz, PT.size] at h8
                simp only [List.length_cons, List.length_append, List.length_nil] at h8 ⊢
                omega)
            rw [hpl] at this
            exact this
          have HXE := Lib.hid (text_var (g := g) (s := s) (r := r) (kids := kids.map MT.pt) hz (X := strOf (Lib.join ((partsS g s (kids.map MT.pt)).map (·.data.toList)) [32])) rfl)
          have hxs : (strOf (Lib.join ((partsS g s (kids.map MT.pt)).map (·.data.toList)) [32])).size ≤ 100000000000 := by
            show (Lib.join ((partsS g s (kids.map MT.pt)).map (·.data.toList)) [32]).toArray.size ≤ _
            rw [List.size_toArray, parts_join]
            have h8 := HZL.out
            rw [PT.text, if_pos hz, PT.size] at h8
            simp only [List.length_cons, List.length_append, List.length_nil] at h8 ⊢
            omega
          have HBX := Lib.hid hh.out.2.1
          generalize strOf (Lib.join ((partsS g s (kids.map MT.pt)).map (·.data.toList)) [32]) = X at *
          have hn1 : ¬ 9223372036854775807 < 1 + X.size := by omega
          have hn2 : ¬ 9223372036854775807 < 1 + X.size + 1 := by omega
          clear hh hc HP hpl hpw
          go_wp2_with (first | (go_at_call 37; refine HJ.out.mono ?_; rintro e w1 ⟨rfl, hbw⟩))
          go_ret
          exact ⟨by rw [← HXE.out]; rfl, (HBX.out.next hB hbw).below⟩
end Go.Proofs.Ytfiafmhnmafnbaa
