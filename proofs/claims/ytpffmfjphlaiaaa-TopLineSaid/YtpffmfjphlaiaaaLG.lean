/- sess.Parse. -/
import Derived.Test.YtpffmfjphlaiaaaLF
namespace Go.Proofs.Ytpffmfjphlaiaaa
open Go.RowKit

theorem frB_0 (k : UInt8) (m : List UInt8) : (frB k m)[0]? = some 167 := rfl
theorem frB_1 (k : UInt8) (m : List UInt8) : (frB k m)[1]? = some k := rfl
theorem frB_2 (k : UInt8) (m : List UInt8) (h : m.length < 4294967296) : unfix (((frB k m).drop 2).take 4) = m.length := unfix_fix h
theorem frB_6 (k : UInt8) (m : List UInt8) : ((frB k m).drop 6).take m.length = m := by
  show (m ++ fix4 _).take m.length = m
  rw [List.take_left' rfl]
theorem frB_head (k : UInt8) (m : List UInt8) : (frB k m).take (6 + m.length) = frHead k m := List.take_left' (frHead_len k m)
theorem frB_tail (k : UInt8) (m : List UInt8) : (frB k m).drop (6 + m.length) = fix4 (sumL (frHead k m)) := List.drop_left' (frHead_len k m)
theorem frB_sum (k : UInt8) (m : List UInt8) : unfix (((frB k m).drop (6 + m.length)).take 4) = sumL ((frB k m).take (6 + m.length)) := by
  rw [frB_head, frB_tail]
  exact unfix_fix (sumL_lt _)
theorem set_low (l : List UInt8) (i j : Nat) (d : UInt8) (h : j < i) : (l.set i d)[j]? = l[j]? := by rw [List.getElem?_set_ne (by omega)]
theorem set_take (l : List UInt8) (i n : Nat) (d : UInt8) (h : n ≤ i) : (l.set i d).take n = l.take n := List.take_set_of_le h
theorem set_2 (l : List UInt8) (i : Nat) (d : UInt8) (h : 6 ≤ i) : ((l.set i d).drop 2).take 4 = (l.drop 2).take 4 := by
  have h1 := set_take l i 6 d h
  have h2 : ∀ x : List UInt8, (x.drop 2).take 4 = (x.take 6).drop 2 := fun x => by rw [List.drop_take]
  rw [h2, h2, h1]
theorem take4 (l : List UInt8) (n : Nat) (h : l.length = 10 + n) : (l.drop (6 + n)).take 4 = l.drop (6 + n) := by
  rw [List.take_of_length_le]
  rw [List.length_drop]; omega

/-- A frame that is whole. -/
theorem get_ok (b off c : Nat) (k : UInt8) (m : List UInt8) (w : World) (hs : Byt w (.slice (some ⟨b, off, none⟩) (frB k m).length c) (frB k m)) (hc : (frB k m).length ≤ c) (hn : m.length ≤ 1024) :
    Calls Try.prog 33 #[.slice (some ⟨b, off, none⟩) (frB k m).length c, .int .i64 0] w fun e w' =>
      ∃ g cap, e = .returned (.tuple #[.agg #[.int .u8 (k.toNat : Int), .slice (some ⟨g, 0, none⟩) m.length cap], .int .i64 (10 + m.length : Nat), .int .i64 0]) ∧ w.heap.size ≤ g ∧ w'.ownsRow 0 5 1 (.slice (some ⟨g, 0, none⟩) m.length cap) m.length (u8s m) ∧ Fr (fun _ => False) w w' := by
  refine (get_any b off c (frB k m) k m.length w hs hc (frB_len k m) hn (frB_0 k m) (frB_1 k m) (frB_2 k m (by omega))).mono ?_
  rintro e w' ⟨h1, -, hf⟩
  obtain ⟨g, cap, rfl, hg, ho⟩ := h1 (frB_sum k m)
  rw [frB_6] at ho
  exact ⟨g, cap, rfl, hg, ho, hf⟩
/-- A frame that was spoilt. -/
theorem get_bad (b off c : Nat) (k : UInt8) (m : List UInt8) (i : Nat) (d0 d : UInt8) (bs : List UInt8) (hbs : bs = (frB k m).set i d) (h6 : 6 ≤ i) (hd0 : (frB k m)[i]? = some d0) (hne : d0 ≠ d) (w : World) (hs : Byt w (.slice (some ⟨b, off, none⟩) bs.length c) bs) (hc : bs.length ≤ c) (hn : m.length ≤ 1024) :
    Calls Try.prog 33 #[.slice (some ⟨b, off, none⟩) bs.length c, .int .i64 0] w fun e w' =>
      e = .returned (.tuple #[.agg #[.int .u8 0, .slice none 0 0], .int .i64 0, .int .i64 21]) ∧ Fr (fun _ => False) w w' := by
  have hl : bs.length = 10 + m.length := by rw [hbs, List.length_set, frB_len]
  refine (get_any b off c bs k m.length w hs hc hl hn (by rw [hbs, set_low _ _ _ _ (by omega)]; rfl) (by rw [hbs, set_low _ _ _ _ (by omega)]; rfl) (by rw [hbs, set_2 _ _ _ h6]; exact frB_2 k m (by omega))).mono ?_
  rintro e w' ⟨-, h2, hf⟩
  have := h2 (by
    rw [take4 bs m.length hl, hbs]
    exact frB_turn k m i d0 d hd0 hne)
  exact ⟨this, hf⟩

set_option maxRecDepth 100000 in
set_option maxHeartbeats 4000000 in
theorem parse_bad (b off c : Nat) (a : Bool) (q : Nat) (body : List UInt8) (i : Nat) (d0 d : UInt8) (bs : List UInt8) (hbs : bs = (segB a q body).set i d) (h6 : 6 ≤ i) (hd0 : (segB a q body)[i]? = some d0) (hne : d0 ≠ d) (w : World) (hs : Byt w (.slice (some ⟨b, off, none⟩) bs.length c) bs) (hc : bs.length ≤ c) (hb : body.length ≤ 1000) :
    Calls Try.prog 26 #[.slice (some ⟨b, off, none⟩) bs.length c] w fun e w' => ∃ v, e = .returned (.tuple #[v, .int .i64 21]) ∧ Fr (fun _ => False) w w' := by
  obtain ⟨w1, hw1⟩ : ∃ w1, w1 = w.alloc (.cells #[.int .u64 0, .int .u64 0, .bool false, .slice none 0 0] 60) := ⟨_, rfl⟩
  have hf1 : Fr (fun _ => False) w w1 := by rw [hw1]; exact (Fr.refl _ w).alloc _
  have hB1 : Blk w1 w.heap.size 60 #[.int .u64 0, .int .u64 0, .bool false, .slice none 0 0] := by rw [hw1]; exact Blk.new _ _ _
  have hg := get_bad b off c (kindB a) (segIn q body) i d0 d bs hbs h6 hd0 hne w1 (hs.fr hf1 (fun _ _ h => h)) hc (by simp [segIn]; omega)
  obtain ⟨n, hn⟩ : ∃ n, n = bs.length := ⟨_, rfl⟩
  rw [← hn] at hg ⊢
  have HW := Lib.hid hw1
  have HG := Lib.hid hg
  have H1 := Lib.hid (And.intro hf1 hB1)
  clear hw1 hf1 hB1 hg hbs hd0 hs hc hn
  go_enter Try.func26, Try.ntmps26
  go_upto_region 1 with (fail)
  rw [← HW.out]
  go_wp2_with fail
  refine HG.out.mono ?_
  rintro e w2 ⟨rfl, hf2⟩
  have b2 := H1.out.2.fr hf2 (fun h => h)
  obtain ⟨w3, hw3⟩ : ∃ w3, w3 = w2.alloc (.cells #[.int .u8 0, .slice none 0 0] 86) := ⟨_, rfl⟩
  have hf3 : Fr (fun _ => False) w2 w3 := by rw [hw3]; exact (Fr.refl _ w2).alloc _
  have b3 := b2.fr hf3 (fun h => h)
  have c0 : w3.cell? ⟨w.heap.size, 0, none⟩ = some (.int .u64 0) := b3.cell 0 rfl
  have c1 : w3.cell? ⟨w.heap.size, 1, none⟩ = some (.int .u64 0) := b3.cell 1 rfl
  have c2 : w3.cell? ⟨w.heap.size, 2, none⟩ = some (.bool false) := b3.cell 2 rfl
  have c3 : w3.cell? ⟨w.heap.size, 3, none⟩ = some (.slice none 0 0) := b3.cell 3 rfl
  have cf := b3.frozen
  have HW3 := Lib.hid hw3
  have H3 := Lib.hid (And.intro b3 (And.intro hf2 hf3))
  clear hw3 b2 b3 hf2 hf3
  go_upto_region 2 with (fail)
  rw [← HW3.out]
  go_wp2_with fail
  have hW := (((H3.out.1.set_ 0 (.int .u64 0)).set_ 1 (.int .u64 0)).set_ 2 (.bool false)).set_ 3 (.slice none 0 0)
  have hX : Fr (fun x => x = w.heap.size) w3 ((((w3.setCell ⟨w.heap.size, 0, none⟩ (.int .u64 0)).setCell ⟨w.heap.size, 1, none⟩ (.int .u64 0)).setCell ⟨w.heap.size, 2, none⟩ (.bool false)).setCell ⟨w.heap.size, 3, none⟩ (.slice none 0 0)) :=
    (((Fr.set1 w3 w.heap.size 0 _).setCell (p := ⟨w.heap.size, 1, none⟩) (fun _ => rfl) _).setCell (p := ⟨w.heap.size, 2, none⟩) (fun _ => rfl) _).setCell (p := ⟨w.heap.size, 3, none⟩) (fun _ => rfl) _
  refine bodyPost_ret (results_row_tmp rfl _ _ w.heap.size 60 #[.int .u64 0, .int .u64 0, .bool false, .slice none 0 0] (0, 0) _ rfl ?_ Try.underlying60 rfl (by kernel_rfl)) rfl ⟨_, rfl, ?_⟩
  · exact hW
  · exact ((H1.out.1.tr H3.out.2.1).tr H3.out.2.2).trans hX (fun j hj h => h.elim id (fun e => by omega))
end Go.Proofs.Ytpffmfjphlaiaaa
