/- Alternatives are read. -/
import Derived.Test.YticdihfjnmjkmaaRd2
import Derived.Test.YticdihfjnmjkmaaRd1
import Derived.Deep.LoopGhost
import Derived.Deep.RegionLaw
namespace Go.Proofs.Yticdihfjnmjkmaa
open Go.RowKit
attribute [local go_sem] run_store_float
set_option maxRecDepth 100000 in
set_option maxHeartbeats 4000000 in
theorem alt_w {n : Nat} (HI : ItemAny n) {d : Nat} (hd : d ≤ 16) {t : Tok} {r : List Tok} {o : Out} (hk : t.kind = 3) (hp : Ps .items d r o) (he : Ends r) (hn : r.length ≤ n) {w : World} {rb : Nat} (h : RD w rb (t :: r) d) :
    Calls Try.prog 73 #[.pointer (some ⟨rb, 0, none⟩)] w (AltPost rb d (o.alt t) w) := by
  have HN := fun o => Lib.hid (now_rd (h.alloc o))
  have HR := fun o => Lib.hid (h.alloc o)
  have hlt := h.lt
  have HII := Lib.hid HI
  clear h HI
  obtain ⟨i0, hi0, hz0, hz1, hz2⟩ := info_parts info68
  unfold tokC at HN
  obtain ⟨kd, ps, tx, wt⟩ := t
  simp only at hk
  subst hk
  obtain ⟨t', r', rfl⟩ := he.ne
  have hfl := field_tok1
  generalize hTT : bOf tx = T at *
  have HTT := Lib.hid hTT
  clear hTT
  go_enter Try.func73, Try.ntmps73
  go_wp2_with fail
  refine (HN _).out.mono ?_
  rintro e w1 ⟨rfl, hb⟩
  have hR1 := (HR _).out.below hb
  have HK1 := Lib.hid (((Kept.refl (· = rb) w).alloc (.cells #[.int .i64 0, .float .f64 0, .slice none 0 0] 66)).trans (kept_of_below hb))
  have hs1 := hb.size
  simp only [World.size_alloc] at hs1
  have g2 := hb.block w.heap.size (by simp only [World.size_alloc]; omega)
  rw [heap_alloc_this] at g2
  have G2 := Lib.hid g2
  have HN2 := fun o => Lib.hid (now_rd (hR1.alloc o))
  unfold tokC at HN2
  simp only [HTT.out] at HN2
  have HR1 := Lib.hid hR1
  clear hb g2 hR1 HN HR
  go_wp2_with fail
  refine (HN2 _).out.mono ?_
  rintro e w2 ⟨rfl, hb⟩
  have hs2 := hb.size
  simp only [World.size_alloc] at hs2
  have hb3 : w1.heap.size < w2.heap.size := by omega
  have hb2 : w.heap.size < w2.heap.size := by omega
  have hrb2 : rb < w2.heap.size := by omega
  have g3 := hb.block w1.heap.size (by simp only [World.size_alloc]; omega)
  rw [heap_alloc_this] at g3
  have g2 := hb.block w.heap.size (by simp only [World.size_alloc]; omega)
  rw [Below.heap_alloc _ _ _ (by omega), G2.out] at g2
  have hR2 := (HR1.out.alloc (.cells #[.int .i64 ps, .float .f64 0, .slice none 0 0] 66)).below (hb.mono (Nat.le_refl _))
  have hK2 : Kept (· = rb) w w2 := HK1.out.trans (((Kept.refl _ _).alloc _).trans (kept_of_below hb))
  obtain ⟨p, hp1, c1, hP⟩ := hR2.turn
  have f1 := hR2.free 1
  have f3 : w2.frozen? ⟨w1.heap.size, 1, none⟩ = false := free_of_block g3
  have hb3c : w2.cell? ⟨w1.heap.size, 1, none⟩ = some (.float .f64 0) := cell_of_block (off := 1) g3
  have hnr : rb ≠ w1.heap.size := by omega
  have hA := AltInv.start3 (n := n) (wt := wt) hn he g2 g3 hP hK2 hp ⟨hlt, by omega, by omega⟩ (.cells #[.int .i64 3, .int .i64 ps, .string T, .float .f64 wt] 36)
  have HA := Lib.hid hA
  clear hb hP g2 g3 hR2 hK2 hs2 hA HN2
  go_wp2_with fail
  go_loopg [] (t' :: r').length (fun m wr => ∃ (is : List MN) (a : Option Addr) (c : Nat) (t : Tok) (r : List Tok) (ok : Out), Hid (AltInv n rb d w.heap.size w1.heap.size ps wt o w wr m is a c t r ok))
  case atStart => exact ⟨[], none, 0, t', r', o, HA.out⟩
  case round =>
    obtain ⟨is, a, c, t, r, ok, hI⟩ := hrel
    have HIv := Lib.hid hI.out
    have hfew := hI.out.few
    have hsl := hI.out.lt
    have hrd := hI.out.rd
    have hbk := hI.out.blk
    have HBK := Lib.hid hbk
    have HRE := Lib.hid hI.out.res
    rcases items_inv hI.out.ps with ⟨hs0, hok⟩ | ⟨hs1, ⟨ns, l1, o1, hpi, hpm, hok⟩ | ⟨er, ep, hpi, hok⟩⟩
    · subst hok
      have HN := Lib.hid (item_none hrd hs0)
      clear hI hs0 hrd hbk
      go_wp2_with fail
      refine HN.out.mono ?_
      rintro e w3 ⟨rfl, hr3, hk3⟩
      have hs3 := hk3.size
      have hl3 : w1.heap.size < w3.heap.size := by omega
      have hl2 : w.heap.size < w3.heap.size := by omega
      obtain ⟨e0, e1, e2⟩ := blk3 (hk3.get HBK.out (by omega))
      have g2 := hk3.get HRE.out (by omega)
      obtain ⟨d0, d1, d2⟩ := blk3 g2
      obtain ⟨f0, f1, f2, _, _⟩ := blk5f g2
      have hn2 : w.heap.size ≠ w3.heap.size := by omega
      have HR3 := Lib.hid hr3
      have HK3 := Lib.hid hk3
      clear hr3 hk3 g2 hs3
      go_wp2_with fail
      refine bodyPost_ret (v := .agg #[.int .i64 ps, .float .f64 wt, .slice a is.length c]) (by simp [results, Try.results73, go_sem, *]) rfl ?_
      exact HIv.out.post (u := ⟨3, ps, tx, wt⟩) HK3.out HR3.out (stores3 _ _ _ _ _)
    · have HN := Lib.hid (HII.out d t r _ hd hs1 hpi hI.out.ends hI.out.le wr rb hrd)
      have HPI := Lib.hid hpi
      have HPM := Lib.hid hpm
      have HOK := Lib.hid hok
      clear hI hs1 hrd hbk hpi hpm hok
      go_wp2_with fail
      refine HN.out.mono ?_
      rintro e w3 ⟨at2, kd, op, tx2, a', c', ms, rfl, hns, hrow, hr3, hk3⟩
      have hs3 := hk3.size
      have hl3 : w1.heap.size < w3.heap.size := by omega
      obtain ⟨e0, e1, e2⟩ := blk3 (hk3.get HBK.out (by omega))
      have HR3 := Lib.hid hr3
      have HK3 := Lib.hid hk3
      have HNS := Lib.hid hns
      have HROW := Lib.hid hrow
      have HOWN := Lib.hid (HIv.out.own hk3)
      clear hr3 hk3 hns hrow
      have hnews := World.news_of_block (w := (w3.alloc (.cells #[.int .i64 at2, .int .i64 kd, .string tx2, .slice a' ms.length c', .int .u8 op] 68)).alloc (.cells #[.int .i64 at2, .int .i64 kd, .string tx2, .slice a' ms.length c', .int .u8 op] 68)) (B := w3.heap.size + 1) (cs := #[.int .i64 at2, .int .i64 kd, .string tx2, .slice a' ms.length c', .int .u8 op]) (t := 68) (fr := (0, 0)) (by have := heap_alloc_this (w3.alloc (.cells #[.int .i64 at2, .int .i64 kd, .string tx2, .slice a' ms.length c', .int .u8 op] 68)) (.cells #[.int .i64 at2, .int .i64 kd, .string tx2, .slice a' ms.length c', .int .u8 op] 68); rw [World.size_alloc] at this; exact this)
      have HNEWS := Lib.hid hnews
      clear hnews
      go_wp2_with (first
        | (at_builtin; go_loud (refine wpList_append_lies _ rfl (.tmp 35) (.tmp 37) 64 rfl (w1.heap.size + 1) 68 i0 _ 5 64 Try.underlying64 hi0 hz0 hz1 hz2 rfl (by decide) (.slice a is.length c) is.length _ (by rfl) (HOWN.out _ _) ⟨w3.heap.size + 1, 0, none⟩ 1 1 [.int .i64 at2, .int .i64 kd, .string tx2, .slice a' ms.length c', .int .u8 op] (by rfl) (by rfl) HNEWS.out (by simp [Value.oneCell']) (by omega) (by simp only [maxLen]; omega) (by omega) (by simp; omega) (w3.heap.size + 1 + 1) (by simp) ?_); intro g cap w4 hown1 hgrow hat hlt4
           have HG4 := Lib.hid (HIv.out.after HK3.out hgrow)
           have f4 := free_of_block (off := 2) HG4.out
           have b4 := cell_of_block (off := 2) HG4.out
           simp only [List.getElem?_toArray, List.getElem?_cons_succ, List.getElem?_cons_zero] at b4
           have HGR := Lib.hid hgrow
           have HOW := Lib.hid hown1
           have HAT := Lib.hid hat
           clear hgrow hown1 hat))
      obtain ⟨t1, r1, hF, hlt1⟩ := HIv.out.next HPI.out HPM.out HOK.out HNS.out HROW.out HR3.out HK3.out (below_one w3 _) HGR.out HOW.out (by simpa using HAT.out)
      go_roundg l1.length
      case measure => exact hlt1
      case rel => exact ⟨_, _, _, t1, r1, o1, hF⟩
    · have HN := Lib.hid (HII.out d t r _ hd hs1 hpi hI.out.ends hI.out.le wr rb hrd)
      have HOK := Lib.hid hok
      clear hI hs1 hrd hbk hpi hok
      go_wp2_with fail
      refine HN.out.mono ?_
      rintro e w3 ⟨rfl, hk3⟩
      have HK3 := Lib.hid (HIv.out.kept.trans hk3)
      have HO := Lib.hid HIv.out.out
      clear hk3
      go_wp2_with fail
      rw [HO.out, HOK.out]
      exact ⟨rfl, rfl, HK3.out⟩
end Go.Proofs.Yticdihfjnmjkmaa
namespace Go.Proofs.Yticdihfjnmjkmaa
open Go.RowKit
attribute [local go_sem] run_store_float
set_option maxRecDepth 100000 in
set_option maxHeartbeats 4000000 in
theorem alt_n {n : Nat} (HI : ItemAny n) {d : Nat} (hd : d ≤ 16) {t : Tok} {r : List Tok} {o : Out} (hk : t.kind ≠ 3) (hp : Ps .items d (t :: r) o) (he : Ends (t :: r)) (hn : (t :: r).length ≤ n) {w : World} {rb : Nat} (h : RD w rb (t :: r) d) :
    Calls Try.prog 73 #[.pointer (some ⟨rb, 0, none⟩)] w (AltPost rb d (o.alt t) w) := by
  have HN := fun o => Lib.hid (now_rd (h.alloc o))
  have HR := fun o => Lib.hid (h.alloc o)
  have hlt := h.lt
  have HII := Lib.hid HI
  clear h HI
  obtain ⟨i0, hi0, hz0, hz1, hz2⟩ := info_parts info68
  unfold tokC at HN
  obtain ⟨kd, ps, tx, wt⟩ := t
  simp only at hk
  have hk1 : (kd == 3) = false := by simpa using hk
  have HKD := Lib.hid hk
  clear hk
  have hfl := field_tok1
  generalize hTT : bOf tx = T at *
  have HTT := Lib.hid hTT
  clear hTT
  go_enter Try.func73, Try.ntmps73
  go_wp2_with fail
  refine (HN _).out.mono ?_
  rintro e w1 ⟨rfl, hb⟩
  have hR1 := (HR _).out.below hb
  have HK1 := Lib.hid (((Kept.refl (· = rb) w).alloc (.cells #[.int .i64 0, .float .f64 0, .slice none 0 0] 66)).trans (kept_of_below hb))
  have hs1 := hb.size
  simp only [World.size_alloc] at hs1
  have g2 := hb.block w.heap.size (by simp only [World.size_alloc]; omega)
  rw [heap_alloc_this] at g2
  have G2 := Lib.hid g2
  have HN2 := fun o => Lib.hid (now_rd (hR1.alloc o))
  unfold tokC at HN2
  simp only [HTT.out] at HN2
  have HR1 := Lib.hid hR1
  clear hb g2 hR1 HN HR
  go_wp2_with fail
  refine (HN2 _).out.mono ?_
  rintro e w2 ⟨rfl, hb⟩
  have hs2 := hb.size
  simp only [World.size_alloc] at hs2
  have hb3 : w1.heap.size < w2.heap.size := by omega
  have hb2 : w.heap.size < w2.heap.size := by omega
  have hrb2 : rb < w2.heap.size := by omega
  have g3 := hb.block w1.heap.size (by simp only [World.size_alloc]; omega)
  rw [heap_alloc_this] at g3
  have g2 := hb.block w.heap.size (by simp only [World.size_alloc]; omega)
  rw [Below.heap_alloc _ _ _ (by omega), G2.out] at g2
  have hR2 := (HR1.out.alloc (.cells #[.int .i64 ps, .float .f64 0, .slice none 0 0] 66)).below (hb.mono (Nat.le_refl _))
  have hK2 : Kept (· = rb) w w2 := HK1.out.trans (((Kept.refl _ _).alloc _).trans (kept_of_below hb))
  have hA := AltInv.start (n := n) (wt := 0) hn he (heap_alloc_keep (o := .cells #[.int .i64 kd, .int .i64 ps, .string T, .float .f64 wt] 36) g2) (heap_alloc_keep g3) (hR2.alloc _) (hK2.alloc _) hp ⟨hlt, by omega, by omega⟩
  have HA := Lib.hid hA
  clear hb g2 g3 hR2 hK2 hs2 hA HN2
  go_wp2_with fail
  go_loopg [] ((⟨kd, ps, tx, wt⟩ : Tok) :: r).length (fun m wr => ∃ (is : List MN) (a : Option Addr) (c : Nat) (t : Tok) (r : List Tok) (ok : Out), Hid (AltInv n rb d w.heap.size w1.heap.size ps 0 o w wr m is a c t r ok))
  case atStart => exact ⟨[], none, 0, _, r, o, HA.out⟩
  case round =>
    obtain ⟨is, a, c, t, r, ok, hI⟩ := hrel
    have HIv := Lib.hid hI.out
    have hfew := hI.out.few
    have hsl := hI.out.lt
    have hrd := hI.out.rd
    have hbk := hI.out.blk
    have HBK := Lib.hid hbk
    have HRE := Lib.hid hI.out.res
    rcases items_inv hI.out.ps with ⟨hs0, hok⟩ | ⟨hs1, ⟨ns, l1, o1, hpi, hpm, hok⟩ | ⟨er, ep, hpi, hok⟩⟩
    · subst hok
      have HN := Lib.hid (item_none hrd hs0)
      clear hI hs0 hrd hbk
      go_wp2_with fail
      refine HN.out.mono ?_
      rintro e w3 ⟨rfl, hr3, hk3⟩
      have hs3 := hk3.size
      have hl3 : w1.heap.size < w3.heap.size := by omega
      have hl2 : w.heap.size < w3.heap.size := by omega
      obtain ⟨e0, e1, e2⟩ := blk3 (hk3.get HBK.out (by omega))
      have g2 := hk3.get HRE.out (by omega)
      obtain ⟨d0, d1, d2⟩ := blk3 g2
      obtain ⟨f0, f1, f2, _, _⟩ := blk5f g2
      have hn2 : w.heap.size ≠ w3.heap.size := by omega
      have HR3 := Lib.hid hr3
      have HK3 := Lib.hid hk3
      clear hr3 hk3 g2 hs3
      go_wp2_with fail
      refine bodyPost_ret (v := .agg #[.int .i64 ps, .float .f64 0, .slice a is.length c]) (by simp [results, Try.results73, go_sem, *]) rfl ?_
      have hif : (if kd = 3 then wt else 0) = 0 := if_neg HKD.out
      have hfin := AltInv.post (u := ⟨kd, ps, tx, wt⟩) (hif.symm ▸ HIv.out) HK3.out HR3.out (ob := .cells #[.int .i64 0, .int .i64 0, .string ⟨#[]⟩, .slice none 0 0, .int .u8 0] 68) (stores3 _ _ (.int .i64 ps) (.float .f64 0) (.slice a is.length c))
      simp only [hif] at hfin
      exact hfin
    · have HN := Lib.hid (HII.out d t r _ hd hs1 hpi hI.out.ends hI.out.le wr rb hrd)
      have HPI := Lib.hid hpi
      have HPM := Lib.hid hpm
      have HOK := Lib.hid hok
      clear hI hs1 hrd hbk hpi hpm hok
      go_wp2_with fail
      refine HN.out.mono ?_
      rintro e w3 ⟨at2, kd, op, tx2, a', c', ms, rfl, hns, hrow, hr3, hk3⟩
      have hs3 := hk3.size
      have hl3 : w1.heap.size < w3.heap.size := by omega
      obtain ⟨e0, e1, e2⟩ := blk3 (hk3.get HBK.out (by omega))
      have HR3 := Lib.hid hr3
      have HK3 := Lib.hid hk3
      have HNS := Lib.hid hns
      have HROW := Lib.hid hrow
      have HOWN := Lib.hid (HIv.out.own hk3)
      clear hr3 hk3 hns hrow
      have hnews := World.news_of_block (w := (w3.alloc (.cells #[.int .i64 at2, .int .i64 kd, .string tx2, .slice a' ms.length c', .int .u8 op] 68)).alloc (.cells #[.int .i64 at2, .int .i64 kd, .string tx2, .slice a' ms.length c', .int .u8 op] 68)) (B := w3.heap.size + 1) (cs := #[.int .i64 at2, .int .i64 kd, .string tx2, .slice a' ms.length c', .int .u8 op]) (t := 68) (fr := (0, 0)) (by have := heap_alloc_this (w3.alloc (.cells #[.int .i64 at2, .int .i64 kd, .string tx2, .slice a' ms.length c', .int .u8 op] 68)) (.cells #[.int .i64 at2, .int .i64 kd, .string tx2, .slice a' ms.length c', .int .u8 op] 68); rw [World.size_alloc] at this; exact this)
      have HNEWS := Lib.hid hnews
      clear hnews
      go_wp2_with (first
        | (at_builtin; go_loud (refine wpList_append_lies _ rfl (.tmp 35) (.tmp 37) 64 rfl (w1.heap.size + 1) 68 i0 _ 5 64 Try.underlying64 hi0 hz0 hz1 hz2 rfl (by decide) (.slice a is.length c) is.length _ (by rfl) (HOWN.out _ _) ⟨w3.heap.size + 1, 0, none⟩ 1 1 [.int .i64 at2, .int .i64 kd, .string tx2, .slice a' ms.length c', .int .u8 op] (by rfl) (by rfl) HNEWS.out (by simp [Value.oneCell']) (by omega) (by simp only [maxLen]; omega) (by omega) (by simp; omega) (w3.heap.size + 1 + 1) (by simp) ?_); intro g cap w4 hown1 hgrow hat hlt4
           have HG4 := Lib.hid (HIv.out.after HK3.out hgrow)
           have f4 := free_of_block (off := 2) HG4.out
           have b4 := cell_of_block (off := 2) HG4.out
           simp only [List.getElem?_toArray, List.getElem?_cons_succ, List.getElem?_cons_zero] at b4
           have HGR := Lib.hid hgrow
           have HOW := Lib.hid hown1
           have HAT := Lib.hid hat
           clear hgrow hown1 hat))
      obtain ⟨t1, r1, hF, hlt1⟩ := HIv.out.next HPI.out HPM.out HOK.out HNS.out HROW.out HR3.out HK3.out (below_one w3 _) HGR.out HOW.out (by simpa using HAT.out)
      go_roundg l1.length
      case measure => exact hlt1
      case rel => exact ⟨_, _, _, t1, r1, o1, hF⟩
    · have HN := Lib.hid (HII.out d t r _ hd hs1 hpi hI.out.ends hI.out.le wr rb hrd)
      have HOK := Lib.hid hok
      clear hI hs1 hrd hbk hpi hok
      go_wp2_with fail
      refine HN.out.mono ?_
      rintro e w3 ⟨rfl, hk3⟩
      have HK3 := Lib.hid (HIv.out.kept.trans hk3)
      have HO := Lib.hid HIv.out.out
      clear hk3
      go_wp2_with fail
      rw [HO.out, HOK.out]
      exact ⟨rfl, rfl, HK3.out⟩
end Go.Proofs.Yticdihfjnmjkmaa
namespace Go.Proofs.Yticdihfjnmjkmaa
open Go.RowKit
theorem alt_any {n : Nat} (HI : ItemAny n) {d : Nat} (hd : d ≤ 16) {l : List Tok} {o : Out} (hp : Ps .alt d l o) (he : Ends l) (hn : l.length ≤ n) {w : World} {rb : Nat} (h : RD w rb l d) :
    Calls Try.prog 73 #[.pointer (some ⟨rb, 0, none⟩)] w (AltPost rb d o w) := by
  cases hp with | @alt d t r o hp => ?_
  by_cases hk : t.kind = 3
  · rw [if_pos hk] at hp
    simp only [List.length_cons] at hn
    exact alt_w HI hd hk hp (he.tail (by omega)) (by omega) h
  · rw [if_neg hk] at hp
    exact alt_n HI hd hk hp he hn h
theorem more_inv {d : Nat} {t : Tok} {r : List Tok} {ok : Out} (h : Ps .more d (t :: r) ok) : (sgnB t [124] = false ∧ ok = .ok [] (t :: r)) ∨ (sgnB t [124] = true ∧ ((∃ a l1 o1, Ps .alt d r (.ok a l1) ∧ Ps .more d l1 o1 ∧ ok = o1.pres a) ∨ ∃ e p, Ps .alt d r (.err e p) ∧ ok = .err e p)) := by
  cases h with
  | more_nil h => exact .inl ⟨h, rfl⟩
  | more h h1 h2 => exact .inr ⟨h, .inl ⟨_, _, _, h1, h2, rfl⟩⟩
  | more_err h h1 => exact .inr ⟨h, .inr ⟨_, _, h1, rfl⟩⟩
/-- The alternatives so far. -/
structure AltsInv (n rb d : Nat) (o : Out) (w wr : World) (m : Nat) (is : List MN) (a : Option Addr) (c : Nat) (t : Tok) (r : List Tok) (ok : Out) : Prop where
  len : m = (t :: r).length
  le : (t :: r).length ≤ n
  few : is.length + (t :: r).length ≤ 100001
  ends : Ends (t :: r)
  row : RowOf wr w.heap.size 66 3 68 5 (.slice a is.length c) is
  rd : RD wr rb (t :: r) d
  kept : Kept (· = rb) w wr
  ps : Ps .more d (t :: r) ok
  out : o = ok.pres (is.map MN.pn)
  low : rb < w.heap.size
theorem AltsInv.own {n rb d : Nat} {o : Out} {w wr : World} {m : Nat} {is : List MN} {a : Option Addr} {c : Nat} {t : Tok} {r : List Tok} {ok : Out} (h : AltsInv n rb d o w wr m is a c t r ok)
    {w1 : World} (hk : Kept (· = rb) wr w1) (ob : Obj) : (w1.alloc ob).ownsRow w.heap.size 66 3 (.slice a is.length c) is.length (rowC is) := by
  have := h.low
  exact (h.row.go hk (fun k hk => by omega)).row.alloc _
theorem AltsInv.next {n rb d : Nat} {o : Out} {w wr : World} {m : Nat} {is : List MN} {a : Option Addr} {c : Nat} {t : Tok} {r : List Tok} {ok : Out} (h : AltsInv n rb d o w wr m is a c t r ok)
    {at2 wt : Nat} {a' : Option Addr} {c' : Nat} {ms : List MN} {ns : List PN} {l1 : List Tok} {o1 : Out} {w1 w3 w2 : World} (hs : sgnB t [124] = true) (hpi : Ps .alt d r (.ok ns l1)) (hpm : Ps .more d l1 o1) (hok : ok = o1.pres ns)
    (hns : [.node [.int .i64 at2, .float .f64 wt] [] (ms.map MN.pn)] = ns) (hk1 : Kept (· = rb) wr w1) (hrow : RowOf w3 w1.heap.size 68 5 66 3 (.slice a' ms.length c') ms) (hrd : RD w3 rb l1 d) (hk : Kept (· = rb) w1 w3)
    {ob : Obj} (hgr : (w3.alloc ob).grownBy w2 (Value.slice a is.length c).ownBlock) {g cap : Nat}
    (hown : w2.ownsRow w.heap.size 66 3 (.slice (some ⟨g, 0, none⟩) (is.length + 1) cap) (is.length + 1) (rowC is ++ [.int .i64 at2, .float .f64 wt, .slice a' ms.length c']))
    (hat : (Value.slice a is.length c).ownBlock = some g ∨ g = w3.heap.size + 1) :
    ∃ t1 r1, AltsInv n rb d o w w2 l1.length (is ++ [.node [.int .i64 at2, .float .f64 wt] [] (.slice a' ms.length c') ms]) (some ⟨g, 0, none⟩) cap t1 r1 o1 ∧ l1.length < m := by
  have he := h.ends.tail (by rw [sgn_kind hs]; decide)
  obtain ⟨e1, e2, _⟩ := hpi.res he _ _ rfl
  obtain ⟨t1, r1, rfl⟩ := e1.ne
  have lo := h.low
  have s0 := h.kept.size
  have s1 := hk1.size
  have s3 := hk.size
  have hle := h.le
  have hfew := h.few
  have hlen := h.len
  have hg1 := h.row.go hk1 (fun k hk => by omega)
  have hrow2 := hg1.next (hrow.at [.int .i64 at2, .float .f64 wt] []) rfl hk (fun k hk => by omega) rfl hgr hown hat (by omega)
  have hkg : Kept (fun k => w.heap.size ≤ k) w3 w2 := (Kept.refl _ _).alloc ob |>.trans ⟨hgr.os, hgr.tape, hgr.output, hgr.size, fun k hk hs => hgr.block k hk (fun e => hs (by have := (row_lt h.row.row e.symm).1; omega))⟩
  simp only [List.length_cons] at hle hfew hlen e2
  refine ⟨t1, r1, ⟨rfl, by simp only [List.length_cons]; omega, ?_, e1, ?_, ?_, ?_, hpm, ?_, lo⟩, by simp only [List.length_cons]; omega⟩
  · simp only [List.length_append, List.length_cons, List.length_nil]; omega
  · rw [List.length_append]
    exact hrow2
  · exact hrd.kept hkg (fun k hk => by omega)
  · exact ((h.kept.trans hk1).trans hk).then hkg (fun _ _ h => h) (fun i hi h => by omega)
  · rw [h.out, hok, ← hns, List.map_append, Out.pres_pres]
    simp [MN.pn, MN.pnL_map]
attribute [local go_sem] run_store_float
set_option maxRecDepth 100000 in
set_option maxHeartbeats 4000000 in
theorem alts_of {n : Nat} (HI : ItemAny n) : AltsAny n := by
  intro d l o hd hp he hn w rb h
  have hlt := h.lt
  obtain ⟨i0, hi0, hz0, hz1, hz2⟩ := info_parts info66
  have hfew := h.few
  have HII := Lib.hid HI
  clear HI
  cases hp with
  | @alts_err d l e p ha =>
    have HA := Lib.hid (alt_any HII.out hd ha he hn h)
    clear ha h
    go_enter Try.func57, Try.ntmps57
    go_wp2_with fail
    refine HA.out.mono ?_
    rintro e w1 ⟨rfl, hk⟩
    have HK := Lib.hid hk
    clear hk
    go_wp2_with fail
    exact ⟨rfl, rfl, HK.out⟩
  | @alts d l a l1 o ha hm =>
    have HA := Lib.hid (alt_any HII.out hd ha he hn h)
    obtain ⟨e1, e2, _⟩ := ha.res he _ _ rfl
    obtain ⟨t1, r1, rfl⟩ := e1.ne
    have HE1 := Lib.hid e1
    have HM := Lib.hid hm
    clear ha h e1 hm
    go_enter Try.func57, Try.ntmps57
    go_wp2_with fail
    refine HA.out.mono ?_
    rintro e w1 ⟨at2, wt, a', c', ms, rfl, hns, hrow, hr1, hk1⟩
    have hs1 := hk1.size
    have hA : AltsInv n rb d (o.pres a) w (w1.alloc (.cells #[.int .i64 at2, .float .f64 wt, .slice a' ms.length c'] 66)) (t1 :: r1).length [.node [.int .i64 at2, .float .f64 wt] [] (.slice a' ms.length c') ms] (some ⟨w1.heap.size, 0, none⟩) 1 t1 r1 o :=
      ⟨rfl, by omega, by simp only [List.length_cons, List.length_nil] at e2 hfew ⊢; omega, HE1.out, RowOf.one (hrow.at [.int .i64 at2, .float .f64 wt] []) rfl hs1 #[.int .i64 at2, .float .f64 wt, .slice a' ms.length c'] rfl, hr1.alloc _, hk1.alloc _, HM.out, by rw [← hns]; simp [MN.pn, MN.pnL_map], hlt⟩
    have HAI := Lib.hid hA
    clear hns hrow hr1 hk1 hA e2 hfew
    go_wp2_with fail
    go_loopg [3] (t1 :: r1).length (fun m v wr => ∃ (is : List MN) (a2 : Option Addr) (c2 : Nat) (t : Tok) (r : List Tok) (ok : Out), v = .slice a2 is.length c2 ∧ Hid (AltsInv n rb d (o.pres a) w wr m is a2 c2 t r ok))
    case atStart => exact ⟨_, _, _, t1, r1, o, rfl, HAI.out⟩
    case round =>
      obtain ⟨is, a2, c2, t, r, ok, rfl, hI⟩ := hrel
      have HIv := Lib.hid hI.out
      have hfew := hI.out.few
      have hle := hI.out.le
      simp only [List.length_cons] at hfew hle
      rcases more_inv hI.out.ps with ⟨hs0, hok⟩ | ⟨hsg, ⟨ns, l1, o1, hpi, hpm, hok⟩ | ⟨er, ep, hpi, hok⟩⟩
      · have HS := Lib.hid (sign_rd hI.out.rd [124])
        rw [hs0] at HS
        simp only [Bool.false_eq_true, if_false] at HS
        have HOK := Lib.hid hok
        have HSG := Lib.hid hs0
        clear hI hs0 hok
        go_wp2_with fail
        refine HS.out.mono ?_
        rintro e w3 ⟨rfl, hr3, hk3⟩
        have HR3 := Lib.hid hr3
        have HK3 := Lib.hid hk3
        clear hr3 hk3
        go_wp2_with fail
        go_ret
        have hO := HIv.out.out
        rw [HOK.out] at hO
        rw [hO]
        exact ⟨a2, c2, is, rfl, by simp, HIv.out.row.go HK3.out (fun k hk => by omega), HR3.out, HIv.out.kept.trans HK3.out⟩
      · have HS := Lib.hid (sign_rd hI.out.rd [124])
        rw [hsg] at HS
        simp only [if_true] at HS
        have HSG := Lib.hid hsg
        have HPI := Lib.hid hpi
        have HPM := Lib.hid hpm
        have HOK := Lib.hid hok
        have he2 := Lib.hid (hI.out.ends.tail (by rw [sgn_kind hsg]; decide))
        clear hI hsg hpi hpm hok
        go_wp2_with fail
        refine HS.out.mono ?_
        rintro e w3 ⟨rfl, hr3, hk3⟩
        have HB := Lib.hid (alt_any HII.out hd HPI.out he2.out (by omega) hr3)
        have HK3 := Lib.hid hk3
        clear hr3 hk3
        go_wp2_with fail
        refine HB.out.mono ?_
        rintro e w4 ⟨at3, wt3, a3, c3, ms3, rfl, hns, hrow, hr4, hk4⟩
        have hs4 := hk4.size
        have hs3 := HK3.out.size
        have hs0 := HIv.out.kept.size
        have HOWN := Lib.hid (HIv.out.own (HK3.out.trans hk4) (.cells #[.int .i64 at3, .float .f64 wt3, .slice a3 ms3.length c3] 66))
        have HNEWS := Lib.hid (World.news_of_block (w := w4.alloc (.cells #[.int .i64 at3, .float .f64 wt3, .slice a3 ms3.length c3] 66)) (B := w4.heap.size) (cs := #[.int .i64 at3, .float .f64 wt3, .slice a3 ms3.length c3]) (t := 66) (fr := (0, 0)) (heap_alloc_this _ _))
        have HR4 := Lib.hid hr4
        have HK4 := Lib.hid hk4
        have HNS := Lib.hid hns
        have HROW := Lib.hid hrow
        clear hns hrow hr4 hk4
        go_wp2_with (first
          | (at_builtin; go_loud (refine wpList_append_lies _ rfl (.tmp 9) (.tmp 12) 48 rfl w.heap.size 66 i0 _ 3 40 Try.underlying48 hi0 hz0 hz1 hz2 rfl (by decide) (.slice a2 is.length c2) is.length _ (by rfl) HOWN.out ⟨w4.heap.size, 0, none⟩ 1 1 [.int .i64 at3, .float .f64 wt3, .slice a3 ms3.length c3] (by rfl) (by rfl) HNEWS.out (by simp [Value.oneCell']) (by omega) (by simp only [maxLen]; omega) (by omega) (by simp; omega) (w4.heap.size + 1) (by simp) ?_); intro g cap w5 hown1 hgrow hat hlt5
             have HGR := Lib.hid hgrow
             have HOW := Lib.hid hown1
             have HAT := Lib.hid hat
             clear hgrow hown1 hat))
        obtain ⟨t2, r2, hF, hlt1⟩ := HIv.out.next HSG.out HPI.out HPM.out HOK.out HNS.out HK3.out HROW.out HR4.out HK4.out HGR.out HOW.out HAT.out
        go_roundg l1.length
        case measure => exact hlt1
        case rel =>
          refine ⟨_, _, _, t2, r2, o1, ?_, hF⟩
          simp
      · have HS := Lib.hid (sign_rd hI.out.rd [124])
        rw [hsg] at HS
        simp only [if_true] at HS
        have HPI := Lib.hid hpi
        have HOK := Lib.hid hok
        have he2 := Lib.hid (hI.out.ends.tail (by rw [sgn_kind hsg]; decide))
        clear hI hsg hpi hok
        go_wp2_with fail
        refine HS.out.mono ?_
        rintro e w3 ⟨rfl, hr3, hk3⟩
        have HB := Lib.hid (alt_any HII.out hd HPI.out he2.out (by omega) hr3)
        have HK3 := Lib.hid hk3
        clear hr3 hk3
        go_wp2_with fail
        refine HB.out.mono ?_
        rintro e w4 ⟨rfl, hk4⟩
        have HK4 := Lib.hid ((HIv.out.kept.trans HK3.out).trans hk4)
        have HO := Lib.hid HIv.out.out
        clear hk4
        go_wp2_with fail
        rw [HO.out, HOK.out]
        exact ⟨rfl, rfl, HK4.out⟩
theorem item_of {n : Nat} (HA : AltsAny n) : ItemAny (n + 1) := by
  intro d t r o hd hs hp he hn w rb h
  have her := he.tail (start_kind hs)
  simp only [List.length_cons] at hn
  cases hp with
  | word hk =>
    rcases hk with hk | hk
    · exact item_name h hk her
    · exact item_quote h hk her
  | deep hg hd16 =>
    subst hd16
    exact item_deep h hg
  | group_err hg hd1 ha => exact item_group HA h hg hd1 hd ha her (by omega) .err
  | close hg hd1 ha hc => exact item_group HA h hg hd1 hd ha her (by omega) (.close hc)
  | group hg hd1 ha hc => exact item_group HA h hg hd1 hd ha her (by omega) (.ok hc)
theorem item_all : ∀ n, ItemAny n
  | 0 => fun _ _ _ _ _ _ _ _ hn => absurd hn (by simp)
  | n + 1 => item_of (alts_of (item_all n))
theorem alts_any {d : Nat} {l : List Tok} {o : Out} (hd : d ≤ 16) (hp : Ps .alts d l o) (he : Ends l) {w : World} {rb : Nat} (h : RD w rb l d) : Calls Try.prog 57 #[.pointer (some ⟨rb, 0, none⟩)] w (AltsPost rb d o w) :=
  alts_of (item_all l.length) d l o hd hp he (Nat.le_refl _) w rb h
end Go.Proofs.Yticdihfjnmjkmaa
