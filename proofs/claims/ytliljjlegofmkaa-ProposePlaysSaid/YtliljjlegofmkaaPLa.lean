/- Copy, Lent, Whole, Spoil of the document's lists. -/
import Derived.Test.YtliljjlegofmkaaPMw
import Derived.IntWalk
namespace Go.Proofs.Ytliljjlegofmkaa
open Go.RowKit

set_option maxHeartbeats 1000000 in
theorem lcopy_any (s : Value) (bs : List UInt8) (w : World) (hs : Byt w s bs) (hl : bs.length ≤ 1000000) :
    Calls Try.prog 62 #[s] w fun e w' => ∃ va vc, e = .returned (.slice va bs.length vc) ∧ w'.ownsRow w.heap.size 5 1 (.slice va bs.length vc) bs.length (u8s bs) ∧ Fr (fun _ => False) w w' := by
  obtain ⟨i0, hi0, hz0, hz1, hz2⟩ := info_parts u8info
  have hs0 := hs
  obtain ⟨A, c, rfl, -, -⟩ := hs0
  have hown0 := World.ownsRow_nil w w.heap.size 5 1
  go_enter Try.func62, Try.ntmps62
  go_wp2_with (first
    | (at_builtin
       refine wpList_bi2 rfl .append _ _ _ _ _ rfl rfl rfl _ (ap_byt (base := w.heap.size) Try.underlying35 hi0 hz0 hz1 hz2 rfl hown0 _ bs hs (by omega) (by omega)) ?_
       rintro v' w1 hap))
  have ho2 := hap.1
  simp only [Nat.zero_add, List.nil_append] at ho2
  have hf := hap.fr (Fr.refl (fun _ => False) w) (fun k hk _ => by simp [Value.ownBlock] at hk)
  obtain ⟨va, vc, rfl⟩ : ∃ va vc, v' = .slice va bs.length vc := by
    rcases own_form ho2 with ⟨h1, h2, _⟩ | ⟨g, cap, cur, h1, _⟩
    · exact ⟨none, 0, by rw [h1, h2]⟩
    · exact ⟨some ⟨g, 0, none⟩, cap, h1⟩
  go_ret
  exact ⟨va, vc, rfl, ho2, hf⟩

/-- What was lent: the bytes, two marks behind them. -/
def Marks (w : World) (g cap : Nat) (bs : List UInt8) : Prop := ∃ cur, Blk w g 5 cur ∧ bs.length + 2 ≤ cap ∧ cap ≤ maxLen ∧ cur.size = cap ∧ cur.toList.take (bs.length + 2) = u8s (bs ++ [91, 92])

set_option maxRecDepth 100000 in
set_option maxHeartbeats 2000000 in
theorem lent_any (s : Value) (bs : List UInt8) (w : World) (hs : Byt w s bs) (hl : bs.length ≤ 100000) :
    Calls Try.prog 48 #[s] w fun e w' => ∃ g cap, e = .returned (.slice (some ⟨g, 0, none⟩) bs.length cap) ∧ Marks w' g cap bs ∧ w.heap.size ≤ g ∧ Fr (fun _ => False) w w' := by
  obtain ⟨i0, hi0, hz0, hz1, hz2⟩ := info_parts u8info
  have hs0 := hs
  obtain ⟨A, c, rfl, -, -⟩ := hs0
  go_enter Try.func48, Try.ntmps48
  go_wp2_with fail
  refine (lcopy_any _ bs w hs (by omega)).mono ?_
  rintro e w1 ⟨va, vc, rfl, ho1, hf1⟩
  obtain ⟨w2, hw2⟩ : ∃ w2, w2 = w1.alloc (.cells #[.int .u8 91, .int .u8 92] 5) := ⟨_, rfl⟩
  have hf2 : Fr (fun _ => False) w1 w2 := by rw [hw2]; exact (Fr.refl _ w1).alloc _
  have ho2 := own_fr ho1 hf2 (fun _ _ h => h)
  have hn2 : ∀ j u, [Value.int .u8 91, .int .u8 92][j]? = some u → w2.cell? (Addr.add ⟨w1.heap.size, 0, none⟩ j) = some u := by
    rw [hw2]; exact World.news_of_block (cs := #[.int .u8 91, .int .u8 92]) (t := 5) (fr := (0, 0)) (heap_alloc_new w1 _)
  have HW2 := Lib.hid hw2
  have hz := (hf1.tr hf2).size
  clear hw2 ho1
  go_wp2_with (first
    | (at_builtin
       rw [← HW2.out]
       clear HW2
       refine wpList_bi2 rfl .append _ _ _ _ _ rfl rfl rfl _ (ap_cells (base := w.heap.size) Try.underlying35 hi0 hz0 hz1 hz2 rfl (by omega) ho2 ⟨w1.heap.size, 0, none⟩ 2 2 [.int .u8 91, .int .u8 92] rfl hn2 (by simp [Value.oneCell']) (by unfold maxLen; omega) (by omega) hz) ?_
       rintro v' w3 hap
       obtain ⟨g, cap, hg, rfl, hB⟩ : ∃ g cap, w.heap.size ≤ g ∧ v' = .slice (some ⟨g, 0, none⟩) (bs.length + 2) cap ∧ ∃ cur, Blk w3 g 5 cur ∧ bs.length + 2 ≤ cap ∧ cap ≤ maxLen ∧ cur.size = cap * 1 ∧ cur.toList.take ((bs.length + 2) * 1) = u8s bs ++ [.int .u8 91, .int .u8 92] := by
         rcases own_form hap.1 with ⟨_, h2, _⟩ | ⟨g, cap, cur, h1, hb, h3, h4, h5, h6, h7⟩
         · omega
         · exact ⟨g, cap, hb, h1, cur, h3, h4, h5, h6, h7⟩
       have hm2 : bs.length + 2 ≤ cap := by obtain ⟨_, _, h, _⟩ := hB; exact h
       have HX := Lib.hid (And.intro hap hB)
       clear hap hB))
  obtain ⟨hap, cur, h3, h4, h5, h6, h7⟩ := HX.out
  go_ret
  refine ⟨g, cap, rfl, ⟨cur, h3, h4, h5, by rw [h6, Nat.mul_one], ?_⟩, hg, hap.fr (hf1.tr hf2) (fun k hk hlt => by have := (ho2.lt k hk).1; omega)⟩
  rw [Nat.mul_one] at h7
  rw [h7, u8s_append]
  rfl

theorem Marks.byt {w : World} {g cap : Nat} {bs : List UInt8} (h : Marks w g cap bs) : Byt w (.slice (some ⟨g, 0, none⟩) bs.length cap) bs := by
  obtain ⟨cur, h1, h2, h3, h4, h5⟩ := h
  refine Byt.of_own (base := 0) (e := 5) (n := bs.length) (own_mk h1 (by omega) h3 (by rw [h4, Nat.mul_one]) ?_)
  have := congrArg (List.take bs.length) h5
  rw [List.take_take, Nat.min_eq_left (by omega), u8s_append, List.take_append_of_le_length (by simp)] at this
  rw [Nat.mul_one, this, List.take_of_length_le (by simp)]
theorem Marks.fr {w w' : World} {g cap : Nat} {bs : List UInt8} {X : Nat → Prop} (h : Marks w g cap bs) (hf : Fr X w w') (hx : ¬ X g) : Marks w' g cap bs := by
  obtain ⟨cur, h1, h2⟩ := h
  exact ⟨cur, h1.fr hf hx, h2⟩

set_option maxRecDepth 100000 in
set_option maxHeartbeats 2000000 in
theorem whole_any (g cap : Nat) (s : Value) (bs : List UInt8) (w : World) (hm : Marks w g cap bs) (hs : Byt w s bs) (hl : bs.length ≤ 100000) :
    Calls Try.prog 46 #[.slice (some ⟨g, 0, none⟩) bs.length cap, s] w fun e w' => e = .returned (.bool true) ∧ w = w' := by
  have hv1 := run_str (src := 35) (dst := 9) Try.underlying35 Try.underlying5 Try.underlying9 hm.byt
  have hv2 := run_str (src := 35) (dst := 9) Try.underlying35 Try.underlying5 Try.underlying9 hs
  obtain ⟨cur, h1, h2, h3, h4, h5⟩ := hm
  have hs0 := hs
  obtain ⟨A, c, rfl, -, -⟩ := hs0
  have c0 : w.cell? ⟨g, bs.length, none⟩ = some (.int .u8 91) := h1.cell _ (by
    have := congrArg (fun l => l[bs.length]?) h5
    simpa [u8s, List.getElem?_take] using this)
  have c1 : w.cell? ⟨g, bs.length + 1, none⟩ = some (.int .u8 92) := h1.cell _ (by
    have := congrArg (fun l => l[bs.length + 1]?) h5
    simpa [u8s, List.getElem?_take] using this)
  have w1 : IntKind.i64.wrap ((bs.length : Int) + 2) = (bs.length : Int) + 2 := IntWalk.i64_in _ (by omega)
  have w2 : IntKind.i64.wrap ((bs.length : Int) + 1) = (bs.length : Int) + 1 := IntWalk.i64_in _ (by omega)
  have w3 : ((bs.length : Int) + 2).toNat = bs.length + 2 := by omega
  have w4 : ((bs.length : Int) + 1).toNat = bs.length + 1 := by omega
  have w5 : (0 : Int) ≤ (bs.length : Int) + 2 := by omega
  have w6 : (bs.length : Int) + 2 ≤ (cap : Int) := by omega
  clear h1 h3 h4 h5
  go_enter Try.func46, Try.ntmps46
  go_wp2_with fail
  go_ret
  exact ⟨rfl, rfl⟩

set_option maxHeartbeats 1000000 in
theorem spoil_any (s : Value) (bs : List UInt8) (w : World) (hs : w.ownsRow 0 5 1 s bs.length (u8s bs)) :
    Calls Try.prog 47 #[s] w fun e w' => e = .returned (.tuple #[]) ∧ Fr (fun k => s.ownBlock = some k) w w' := by
  rcases own_form hs with ⟨rfl, hn, _⟩ | ⟨g, cap, cur, rfl, _, hg, hcap, hm, hsz, htk⟩
  · have hb : bs = [] := List.eq_nil_of_length_eq_zero hn
    subst hb
    go_enter Try.func47, Try.ntmps47
    go_wp2_with fail
    go_loopg [2] 0 (fun g' x2 wr => x2 = .int .i64 0 ∧ w = wr)
    case atStart => exact ⟨rfl, rfl⟩
    case round =>
      obtain ⟨rfl, rfl⟩ := hrel
      go_wp2_with fail
      exact bodyPost_end (results_none rfl _ _ _) rfl ⟨rfl, Fr.refl _ w⟩
  · have hbl : bs.length ≤ 9223372036854775807 := by unfold maxLen at hm; omega
    have h0 : ∀ i, i < bs.length → ∃ z : Int, cur[i]? = some (.int .u8 z) := by
      intro i hi
      have hu := u8s_get bs i (List.getElem?_eq_getElem hi)
      rw [← htk, List.getElem?_take, if_pos (by omega)] at hu
      exact ⟨_, by simpa using hu⟩
    go_enter Try.func47, Try.ntmps47
    go_wp2_with fail
    go_loopg [2] bs.length (fun g' x2 wr => ∃ (j : Nat) (cs : Array Value), j + g' = bs.length ∧ x2 = .int .i64 j ∧ Blk wr g 5 cs ∧ (∀ i, i < bs.length → ∃ z : Int, cs[i]? = some (.int .u8 z)) ∧ Fr (fun k => k = g) w wr)
    case atStart => exact ⟨0, cur, by omega, rfl, hg, h0, Fr.refl _ w⟩
    case round =>
      clear hg h0 htk hs hsz
      obtain ⟨j, cs, hj, rfl, hB, hc, hf⟩ := hrel
      have HJ := Lib.hid hj
      have HC := Lib.hid hc
      have hj' : j ≤ bs.length := by omega
      clear hj hc
      by_cases hlt : j < bs.length
      · obtain ⟨z, hz⟩ := HC.out j hlt
        have q0 := hB.cell j hz
        have q1 := hB.frozen j
        have hlt' : (j : Int) < (bs.length : Int) := by omega
        have HB := Lib.hid (And.intro hB hf)
        clear hz hB hf
        go_wp2_with fail
        go_roundg (bs.length - (j + 1))
        case measure => have := HJ.out; omega
        case rel =>
          obtain ⟨hB, hf⟩ := HB.out
          refine ⟨j + 1, _, by omega, by go_num, hB.set_ j _, fun i hi => ?_, hf.setCell (p := ⟨g, j, none⟩) (fun _ => rfl) _⟩
          by_cases hij : j = i
          · subst hij
            obtain ⟨z', hz'⟩ := HC.out j hi
            have := (Array.getElem?_eq_some_iff.1 hz').1
            exact ⟨_, by rw [Array.getElem?_setIfInBounds_self_of_lt this]⟩
          · rw [Array.getElem?_setIfInBounds_ne hij]
            exact HC.out i hi
      · go_wp2_with fail
        exact bodyPost_end (results_none rfl _ _ _) rfl ⟨rfl, hf.mono fun k _ h => by subst h; rfl⟩
end Go.Proofs.Ytliljjlegofmkaa
