/- What the chapter's examples fix. -/
import Derived.Test.YtemjgllijlaejaaNetH
import Derived.Lib.SlBytesConst
namespace Go.Proofs.Ytemjgllijlaejaa
open Go.RowKit

theorem byt_lit (w : World) (u : UInt8) (m : Nat × Nat) : Byt (w.alloc (.cells #[.int .u8 (u.toNat : Int)] 5 m)) (.slice (some ⟨w.heap.size, 0, none⟩) 1 1) [u] := by
  refine ⟨some ⟨w.heap.size, 0, none⟩, 1, rfl, (fun h => by cases h), fun _ => ⟨w.heap.size, 0, rfl, fun i v hv => ?_⟩⟩
  match i, hv with
  | 0, hv =>
    simp only [List.getElem?_cons_zero, Option.some.injEq] at hv
    subst hv
    unfold World.cell?
    rw [heap_alloc_new w _]
    rfl
theorem mv_f {F F' : Nat → Prop} {w w1 w2 : World} (hf : Fr (fun _ => False) w w1) (lo : ∀ k, F k → w.heap.size ≤ k) (m : Mv F w1 F' w2) : Fr (fun _ => False) w w2 :=
  hf.trans m.fr (fun b hb h => h.elim (fun h => h) fun h => by have := lo b h; omega)

set_option maxRecDepth 100000 in
set_option maxHeartbeats 2000000 in
theorem known_any (w : World) : Calls Try.prog 11 #[] w fun e w' => e = .returned (.bool true) ∧ Fr (fun _ => False) w w' := by
  have kc := fun (w : World) (C : Array Value) (n c : Nat) => Lib.run_convert_bytes_const (P := Try.prog) w 27 5 C n c Try.underlying27 Try.underlying5
  have hw0 := Lib.hid (Fr.refl (fun k => w.heap.size ≤ k) w)
  go_enter Try.func11, Try.ntmps11
  go_wp2_with fail
  refine (new_st 2 w (by omega) (by omega) w.heap.size (Nat.le_refl _)).mono ?_
  rintro e w1 ⟨nb, F1, rfl, hS1, hN1, hf1⟩
  go_wp2_with fail
  refine (send_st w.heap.size nb 2 [] _ F1 _ (hS1.fr ((Fr.refl (fun _ => False) w1).alloc _) (fun _ _ h => h)) (by have := hf1.size; simp; omega) ⟨0, 1, [97]⟩ _ (byt_lit w1 97 _) (by decide)).mono ?_
  rintro e w2 ⟨rfl, F2, hS2, hM2⟩
  rw [show sendE 2 [] ⟨0, 1, [97]⟩ = 0 by rfl]
  rw [show sendL 2 [] (fun _ _ => false) ⟨0, 1, [97]⟩ = [⟨0, 1, [97]⟩] by rfl] at hS2
  have hf2 := mv_f (hf1.alloc _) hS1.lo hM2
  clear hf1 hS1 hM2 hN1
  go_wp2_with fail
  refine (send_st w.heap.size nb 2 [⟨0, 1, [97]⟩] _ F2 _ (hS2.fr ((Fr.refl (fun _ => False) w2).alloc _) (fun _ _ h => h)) (by have := hf2.size; simp; omega) ⟨0, 1, [98]⟩ _ (byt_lit w2 98 _) (by decide)).mono ?_
  rintro e w3 ⟨rfl, F3, hS3, hM3⟩
  rw [show sendE 2 [⟨0, 1, [97]⟩] ⟨0, 1, [98]⟩ = 0 by rfl]
  rw [show sendL 2 [⟨0, 1, [97]⟩] (fun _ _ => false) ⟨0, 1, [98]⟩ = [⟨0, 1, [97]⟩, ⟨0, 1, [98]⟩] by rfl] at hS3
  have hf3 := mv_f (hf2.alloc _) hS2.lo hM3
  clear hf2 hS2 hM3
  go_wp2_with fail
  refine (back_st_some w.heap.size nb 2 _ _ F3 _ hS3 hf3.size 0 ⟨0, 1, [97]⟩ rfl).mono ?_
  rintro e w4 ⟨rfl, F4, hS4, hM4⟩
  rw [show [(⟨0, 1, [97]⟩ : Pk), ⟨0, 1, [98]⟩].eraseIdx (0 : Int).toNat ++ [⟨0, 1, [97]⟩] = [⟨0, 1, [98]⟩, ⟨0, 1, [97]⟩] by rfl] at hS4
  have hf4 := mv_f hf3 hS3.lo hM4
  clear hf3 hS3 hM4
  go_wp2_with fail
  refine (take_st_some w.heap.size nb 2 _ _ F4 _ hS4 0 ⟨0, 1, [98]⟩ rfl).mono ?_
  rintro e w5 ⟨g, cap, rfl, ho, hg, F5, hS5, hng, hM5⟩
  rw [show [(⟨0, 1, [98]⟩ : Pk), ⟨0, 1, [97]⟩].eraseIdx (0 : Int).toNat = [⟨0, 1, [97]⟩] by rfl] at hS5
  have hf5 := mv_f hf4 hS4.lo hM5
  have hgl := own_lt ho rfl
  clear hf4 hS4 hM5 hg
  obtain ⟨w6, hw6⟩ : ∃ w6, w6 = w5.alloc (.cells #[.int .i64 0, .int .i64 1, .slice (some ⟨g, 0, none⟩) 1 cap] 29) := ⟨_, rfl⟩
  have hx : Fr (fun _ => False) w5 w6 := by rw [hw6]; exact (Fr.refl _ w5).alloc _
  have hb6 : Blk w6 w5.heap.size 29 #[.int .i64 0, .int .i64 1, .slice (some ⟨g, 0, none⟩) 1 cap] := by rw [hw6]; exact Blk.new _ _ _
  have hl6 : w6.heap.size = w5.heap.size + 1 := by rw [hw6]; simp
  have hS6 := hS5.fr hx (fun _ _ h => h)
  have ho6 := own_fr ho hx (fun _ _ h => h)
  have hf6 : Fr (fun _ => False) w w6 := hf5.tr hx
  have hn6 : ¬ F5 w5.heap.size := fun h => by have := hS5.hi _ h; omega
  have hw6' := Lib.hid hw6
  clear hw6 hx hf5 hS5 ho
  go_upto_region 8 with (fail)
  rw [← hw6'.out]
  have hlx : w5.heap.size < w6.heap.size := by omega
  clear hw6' hl6
  obtain ⟨x, hx⟩ : ∃ x, x = w5.heap.size := ⟨_, rfl⟩
  rw [← hx] at hb6 hn6 hlx hgl ⊢
  clear hx
  go_wp2_with fail
  refine (part_st w.heap.size nb 2 _ _ F5 _ hS6 hf6.size 0 1).mono ?_
  rintro e w7 ⟨rfl, F7, hS7, hM7⟩
  rw [show setE 2 0 1 = 0 by rfl]
  have hf7 := mv_f hf6 hS6.lo hM7
  have hb7 := hb6.fr hM7.fr hn6
  have ho7 := own_fr ho6 hM7.fr (fun k hk h => by simp only [Value.ownBlock] at hk; injection hk with hk; subst hk; exact hng h)
  have hn7 : ¬ F7 x ∧ ¬ F7 g := ⟨fun h => by rcases hM7.new _ h with h | h; exact hn6 h; omega, fun h => by rcases hM7.new _ h with h | h; exact hng h; omega⟩
  have hl7 : x < w7.heap.size ∧ g < w7.heap.size := ⟨hb7.lt, own_lt ho7 rfl⟩
  clear hf6 hb6 ho6 hS6 hM7 hn6 hng hgl hlx
  go_wp2_with fail
  have hbn : Byt w7 (.slice none 0 0) [] := ⟨none, 0, rfl, fun _ => rfl, fun h => absurd rfl h⟩
  refine (send_st w.heap.size nb 2 _ _ F7 _ hS7 hf7.size ⟨0, 1, []⟩ _ hbn (by decide)).mono ?_
  rintro e w8 ⟨rfl, F8, hS8, hM8⟩
  rw [show sendE 2 [⟨0, 1, [97]⟩] ⟨0, 1, []⟩ = 0 by rfl]
  rw [show sendL 2 [⟨0, 1, [97]⟩] (setP 2 0 1 (fun _ _ => false) true) ⟨0, 1, []⟩ = [⟨0, 1, [97]⟩] by rfl] at hS8
  have hf8 := mv_f hf7 hS7.lo hM8
  have hb8 := hb7.fr hM8.fr hn7.1
  have ho8 := own_fr ho7 hM8.fr (fun k hk h => by simp only [Value.ownBlock] at hk; injection hk with hk; subst hk; exact hn7.2 h)
  clear hf7 hb7 ho7 hS7 hM8 hn7 hl7 hbn
  go_wp2_with fail
  refine (new_bad 0 w8 (by omega)).mono ?_
  rintro e w9 ⟨rfl, rfl⟩
  have q2 := hb8.cell 2 rfl
  have hv : (convert 27 9 (.slice (some ⟨g, 0, none⟩) 1 cap)).run Try.prog w8 = .ok (.string ⟨#[98]⟩) w8 := run_str (src := 27) (dst := 9) Try.underlying27 Try.underlying5 Try.underlying9 (Byt.of_own ho8)
  have hr := hS8.r
  clear hS8 ho8 hb8
  go_wp2_with fail
  refine (len_any nb 2 _ _ F8 w8 hr).mono ?_
  rintro e w9 ⟨rfl, rfl⟩
  go_wp2_with fail
  go_ret
  exact ⟨rfl, hf8⟩
end Go.Proofs.Ytemjgllijlaejaa
