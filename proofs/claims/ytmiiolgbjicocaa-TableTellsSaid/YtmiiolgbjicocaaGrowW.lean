/- Words put into a set, and spent. -/
import Derived.Test.YtmiiolgbjicocaaAhead
namespace Go.Proofs.Ytmiiolgbjicocaa
open Go.RowKit
/-- What the filling of sets touches. -/
structure Tch (lo mb : Nat) (w w' : World) : Prop where
  os : w'.os = w.os
  tape : w'.tape = w.tape
  output : w'.output = w.output
  size : w.heap.size ≤ w'.heap.size
  low : ∀ k, k < lo → k < w.heap.size → w'.heap[k]? = w.heap[k]?
  typ : ∀ (k : Nat) cs t, w.heap[k]? = some (.cells cs t (0, 0)) → t ≠ 108 → t ≠ 26 → k ≠ mb → w'.heap[k]? = w.heap[k]?
theorem Tch.refl (lo mb : Nat) (w : World) : Tch lo mb w w := ⟨rfl, rfl, rfl, Nat.le_refl _, fun _ _ _ => rfl, fun _ _ _ _ _ _ _ => rfl⟩
theorem Tch.trans {lo mb : Nat} {a b c : World} (h : Tch lo mb a b) (k : Tch lo mb b c) : Tch lo mb a c :=
  ⟨k.os.trans h.os, k.tape.trans h.tape, k.output.trans h.output, Nat.le_trans h.size k.size, fun i hi hl => (k.low i hi (Nat.lt_of_lt_of_le hl h.size)).trans (h.low i hi hl), fun i cs t h1 h2 h3 h4 => by
    have e := h.typ i cs t h1 h2 h3 h4
    exact (k.typ i cs t (e.trans h1) h2 h3 h4).trans e⟩
theorem Tch.grow {lo mb : Nat} {a b : World} (h : Grow a b) : Tch lo mb a b := ⟨h.os, h.tape, h.output, h.size, fun k _ hl => h.block k hl, fun k _ _ h1 _ _ _ => h.block k (lt_of_block h1)⟩
theorem Tch.meter {lo mb : Nat} {a b : World} (h : Kept (· = mb) a b) (hl : lo ≤ mb) : Tch lo mb a b :=
  ⟨h.os, h.tape, h.output, h.size, fun k hk hs => h.block k hs (fun e => by have : k = mb := e; omega), fun k _ _ h1 _ _ h4 => h.block k (lt_of_block h1) h4⟩
theorem Tch.below {lo mb : Nat} {a b : World} (h : Tch lo mb a b) (hl : lo ≤ a.heap.size) : Below lo a b := ⟨h.os, h.tape, h.output, h.size, fun k hk => h.low k hk (by omega)⟩
theorem Tch.set {lo mb sb : Nat} {lv : Value} {vs : List Value} {L : Wds} {a b : World} (hs : SetAt sb lv vs L a) (h : Kept (fun k => k = sb ∨ lv.ownBlock = some k) a b) (h1 : lo ≤ sb) (h2 : ∀ k, lv.ownBlock = some k → lo ≤ k) : Tch lo mb a b := by
  refine ⟨h.os, h.tape, h.output, h.size, fun k hk hl => h.block k hl ?_, fun k cs t hk h3 h4 _ => h.block k (lt_of_block hk) ?_⟩
  · rintro (e | e)
    · omega
    · have := h2 k e; omega
  · rintro (e | e)
    · rw [e, hs.blk] at hk
      injection hk with hk
      injection hk with _ h5
      exact h3 h5.symm
    · obtain ⟨_, _, cs', h5⟩ := row_ge hs.row e
      rw [hk] at h5
      injection h5 with h5
      injection h5 with _ h6
      exact h4 h6
def GrowPost (lo mb : Nat) (bs : List Nat) (Ls : List Wds) (i : Nat) (T : Wds) (l s : Int) (w : World) (e : Ending) (w' : World) : Prop :=
  ∃ lvs', AllS lo bs lvs' (Ls.set i (takeL (Ls.getD i []) T)) w' ∧ Tch lo mb w w' ∧
    ∃ n : Nat, n + (Ls.getD i []).length = (takeL (Ls.getD i []) T).length ∧
      if (n : Int) ≤ l then e = .returned (.bool (decide (0 < n))) ∧ MeterAt w' mb (l - n) (s + n) else e = .panicked [{ v := overV mb, recovered := false }] ∧ MeterAt w' mb 0 (s + l)
theorem AllS.tch {lo mb : Nat} {bs : List Nat} {lvs : List Value} {Ls : List Wds} {w w' : World} (h : AllS lo bs lvs Ls w) (hk : Kept (· = mb) w w') {cs : Array Value} (hm : w.heap[mb]? = some (.cells cs 114 (0, 0))) : AllS lo bs lvs Ls w' := by
  refine ⟨h.len, h.len2, fun i b lv L h1 h2 h3 => ?_, h.lob, h.lol, h.two, h.apart⟩
  obtain ⟨vs, hv⟩ := h.at_ i b lv L h1 h2 h3
  refine ⟨vs, (hk.block b (lt_of_block hv.blk) (fun e => ?_)).trans hv.blk, hv.row.keep (fun k hkk => hk.block k (row_ge hv.row hkk).1 (fun e => ?_)), hv.words.keep (fun k cs3 h3 => hk.block k (lt_of_block h3) (fun e => ?_))⟩
  · have e : b = mb := e
    rw [← e, hv.blk] at hm
    injection hm with hm
    injection hm with _ h5
    exact absurd h5 (by decide)
  · have e : k = mb := e
    obtain ⟨_, _, cs', h5⟩ := row_ge hv.row hkk
    rw [e, hm] at h5
    injection h5 with h5
    injection h5 with _ h6
    exact absurd h6 (by decide)
  · have e : k = mb := e
    rw [e, hm] at h3
    injection h3 with h5
    injection h5 with _ h6
    exact absurd h6 (by decide)
set_option maxHeartbeats 1000000 in
theorem grow_any {lo mb : Nat} {bs : List Nat} {lvs : List Value} {Ls : List Wds} {w : World} {i b tb : Nat} {T : Wds} {l s : Int} (hA : AllS lo bs lvs Ls w) (hlo : lo ≤ w.heap.size) (hml : lo ≤ mb) (hi : bs[i]? = some b) (hs : Sorted (Ls.getD i [])) (hm : MeterAt w mb l s)
    (hT : SetE tb T w) (hO : OkW (Ls.getD i [])) (hO2 : OkW T) (hl0 : 0 ≤ l) (hs0 : 0 ≤ s) (hls : l + s ≤ 1000000) : Calls Try.prog 64 #[.pointer (some ⟨mb, 0, none⟩), .pointer (some ⟨b, 0, none⟩), .pointer (some ⟨tb, 0, none⟩)] w (GrowPost lo mb bs Ls i T l s w) := by
  obtain ⟨lv, vs, L, hlv, hL, hset⟩ := hA.get hi
  have hgL := getD_of hL
  have h1 := okW_few hs hO
  have h2 := okW_few hT.sorted hO2
  obtain ⟨base, tlv, tvs, ht, -, -, -⟩ := hT
  have HTK := Lib.hid (take_any (A := Ls.getD i []) (by rw [hgL]; exact hset) hs ht (fun y hy => by have := okW_short hO y hy; omega) (fun y hy => by have := okW_short hO2 y hy; omega) (by omega) (by omega))
  have HSET : Hid (SetAt b lv vs (Ls.getD i []) w) := Lib.hid (by rw [hgL]; exact hset)
  have hle := takeL_len (Ls.getD i []) T
  obtain ⟨n, hn⟩ : ∃ n : Nat, n + (Ls.getD i []).length = (takeL (Ls.getD i []) T).length := ⟨(takeL (Ls.getD i []) T).length - (Ls.getD i []).length, by omega⟩
  have HN := Lib.hid hn
  have HM := Lib.hid hm
  have HA := Lib.hid hA
  have HLV := Lib.hid hlv
  have hcast : (((takeL (Ls.getD i []) T).length : Nat) - ((Ls.getD i []).length : Nat) : Int) = n := by omega
  have hE : ∀ w1 lv' vs', SetAt b lv' vs' (takeL (Ls.getD i []) T) w1 → Kept (fun k => k = b ∨ lv.ownBlock = some k) w w1 → (∀ k, lv'.ownBlock = some k → lv.ownBlock = some k ∨ w.heap.size ≤ k) → AllS lo bs (lvs.set i lv') (Ls.set i (takeL (Ls.getD i []) T)) w1 ∧ Tch lo mb w w1 ∧ MeterAt w1 mb l s := fun w1 lv' vs' h3 h4 h5 => by
    refine ⟨hA.set hlo hi hlv hset h3 h4 h5, Tch.set hset h4 (hA.lob i b hi) (hA.lol i lv hlv), h4.get hm ?_⟩
    rintro (e | e)
    · have h6 := hset.blk
      unfold MeterAt at hm
      rw [← e, hm] at h6
      injection h6 with h6
      injection h6 with _ h7
      exact absurd h7 (by decide)
    · obtain ⟨_, _, cs', h6⟩ := row_ge hset.row e
      unfold MeterAt at hm
      rw [hm] at h6
      injection h6 with h6
      injection h6 with _ h7
      exact absurd h7 (by decide)
  have HEE := Lib.hid hE
  have hnn : nn (n : Int) = n := by unfold nn; rw [if_neg (by omega)]
  clear hset hgL ht hn hm hA hlv hE hle hL hs hO hO2
  unfold TakePost at HTK
  have hfold : Hid (T.foldl rAdd (Ls.getD i []) = takeL (Ls.getD i []) T) := Lib.hid rfl
  rw [hfold.out, hcast] at HTK
  clear hfold hcast
  unfold GrowPost
  generalize takeL (Ls.getD i []) T = U at *
  generalize Ls.getD i [] = A at *
  by_cases hnl : (n : Int) ≤ l
  · have HNL := Lib.hid hnl
    go_enter Try.func64, Try.ntmps64
    go_wp2_with fail
    refine HTK.out.mono ?_
    rintro e w1 ⟨lv', vs', rfl, h3, h4, h5⟩
    obtain ⟨h6, h7, h8⟩ := HEE.out w1 lv' vs' h3 h4 h5
    have HX := Lib.hid (And.intro h6 h7)
    have HM1 := Lib.hid h8
    have HSP := Lib.hid (spend_fits h8 hl0 hs0 hls (by rw [hnn]; exact hnl))
    rw [hnn] at HSP
    clear h3 h4 h5 h6 h7 h8
    go_wp2_with fail
    refine HSP.out.mono ?_
    rintro e w2 ⟨rfl, h9, h10⟩
    have HR := Lib.hid (And.intro (HX.out.1.tch h10 HM1.out) (And.intro (HX.out.2.trans (Tch.meter h10 hml)) h9))
    clear h9 h10
    go_wp2
    go_ret
    exact ⟨_, HR.out.1, HR.out.2.1, n, HN.out, by rw [if_pos HNL.out]; exact ⟨by congr 2, HR.out.2.2⟩⟩
  · have HNL := Lib.hid hnl
    go_enter Try.func64, Try.ntmps64
    go_wp2_with fail
    refine HTK.out.mono ?_
    rintro e w1 ⟨lv', vs', rfl, h3, h4, h5⟩
    obtain ⟨h6, h7, h8⟩ := HEE.out w1 lv' vs' h3 h4 h5
    have HX := Lib.hid (And.intro h6 h7)
    have HM1 := Lib.hid h8
    have HSP := Lib.hid (spend_over h8 hl0 hs0 hls (by rw [hnn]; omega))
    clear h3 h4 h5 h6 h7 h8
    go_wp2_with fail
    refine HSP.out.mono ?_
    rintro e w2 ⟨rfl, h9, h10⟩
    have HR := Lib.hid (And.intro (HX.out.1.tch h10 HM1.out) (And.intro (HX.out.2.trans (Tch.meter h10 hml)) h9))
    clear h9 h10
    go_wp2
    exact ⟨rfl, _, HR.out.1, HR.out.2.1, n, HN.out, by rw [if_neg (Int.not_le.2 HNL.out)]; exact ⟨rfl, HR.out.2.2⟩⟩
end Go.Proofs.Ytmiiolgbjicocaa
