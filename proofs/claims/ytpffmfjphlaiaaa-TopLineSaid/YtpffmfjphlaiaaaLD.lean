/- frame.Put. -/
import Derived.Test.YtpffmfjphlaiaaaLC
namespace Go.Proofs.Ytpffmfjphlaiaaa
open Go.RowKit

/-- Bytes put behind bytes of one's own. -/
def MoreB (w w' : World) (B : Nat) (v' : Value) (a : List UInt8) : Prop :=
  ∃ g cap, v' = .slice (some ⟨g, 0, none⟩) a.length cap ∧ B ≤ g ∧ w'.ownsRow B 5 1 (.slice (some ⟨g, 0, none⟩) a.length cap) a.length (u8s a) ∧ Fr (fun k => B ≤ k) w w'
theorem ap_more (w : World) (B g0 cap0 : Nat) (a : List UInt8) (s : Value) (bs : List UInt8) (ho : w.ownsRow B 5 1 (.slice (some ⟨g0, 0, none⟩) a.length cap0) a.length (u8s a)) (hs : Byt w s bs) (hl : a.length + bs.length ≤ 1000000) (hB : B ≤ w.heap.size) (ty : TypeId) (consts : Array Bool) :
    ∃ v' w', (builtin .append #[24, 24] ty consts #[.slice (some ⟨g0, 0, none⟩) a.length cap0, s]).run Try.prog w = .ok (.value v') w' ∧ MoreB w w' B v' (a ++ bs) := by
  obtain ⟨i0, hi0, hz0, hz1, hz2⟩ := info_parts u8info
  obtain ⟨v', w', h1, h2⟩ := ap_byt (base := B) (ty := ty) (P := Try.prog) Try.underlying24 hi0 hz0 hz1 hz2 rfl ho s bs hs (by omega) hB consts
  refine ⟨v', w', h1, ?_⟩
  obtain ⟨g, cap, rfl, hg⟩ := h2.form rfl
  have h3 := h2.1
  rw [← u8s_append, ← List.length_append] at h3
  have hgB : B ≤ g := (h3.lt g rfl).1
  rw [← List.length_append]
  refine ⟨g, cap, rfl, hgB, h3, h2.fr (Fr.refl _ w) (fun k hk _ => (ho.lt k hk).1)⟩

set_option maxRecDepth 100000 in
set_option maxHeartbeats 8000000 in
theorem put_any (k : UInt8) (s : Value) (body : List UInt8) (w : World) (hs : Byt w s body) (hl : body.length ≤ 1024) :
    Calls Try.prog 40 #[.int .u8 (k.toNat : Int), s] w fun e w' => ∃ g cap, e = .returned (.tuple #[.slice (some ⟨g, 0, none⟩) (frB k body).length cap, .int .i64 0]) ∧ w.heap.size ≤ g ∧ w'.ownsRow w.heap.size 5 1 (.slice (some ⟨g, 0, none⟩) (frB k body).length cap) (frB k body).length (u8s (frB k body)) ∧ Fr (fun _ => False) w w' := by
  have hs0 := hs
  obtain ⟨A, c, rfl, -, -⟩ := hs0
  have hl2 : ¬ (1024 : Int) < (body.length : Int) := by omega
  obtain ⟨w1, hw1⟩ : ∃ w1, w1 = w.alloc (.cells #[.int .u8 167, .int .u8 (k.toNat : Int)] 5) := ⟨_, rfl⟩
  have hf1 : Fr (fun _ => False) w w1 := by rw [hw1]; exact (Fr.refl _ w).alloc _
  have ho1 : w1.ownsRow w.heap.size 5 1 (.slice (some ⟨w.heap.size, 0, none⟩) 2 2) 2 (u8s [167, k]) := by
    rw [hw1]
    exact World.ownsRow_lit (base := w.heap.size) (e := 5) (size := 1) w #[.int .u8 167, .int .u8 (k.toNat : Int)] 2 (Nat.le_refl _) (by simp [maxLen]) rfl
  have hz1 : w1.heap.size = w.heap.size + 1 := by rw [hw1]; simp
  have hs1 := hs.fr hf1 (fun _ _ h => h)
  have HW1 := Lib.hid hw1
  have HS := Lib.hid hs
  have H1 := Lib.hid (And.intro hf1 (And.intro ho1 (And.intro hz1 hs1)))
  have hkl := k.toNat_lt
  clear hw1 hf1 ho1 hz1 hs1 hs
  go_enter Try.func40, Try.ntmps40
  go_wp2_with fail
  rw [← HW1.out]
  refine (putfix_any body.length (by omega) w1).mono ?_
  rintro e w2 ⟨g4, rfl, ho4, hf2⟩
  obtain ⟨hf1, ho1, hz1, hs1⟩ := H1.out
  have ho12 := own_fr ho1 hf2 (fun _ _ h => h)
  have hs2 := hs1.fr hf2 (fun _ _ h => h)
  have hsz2 := hf2.size
  have hf12 := hf1.tr hf2
  have hgl := hf12.size
  obtain ⟨gw, hgw⟩ : ∃ gw, gw = w.heap.size := ⟨_, rfl⟩
  rw [← hgw] at ho12 hgl ⊢
  have HO := Lib.hid (And.intro ho12 (And.intro (Byt.of_own ho4) (And.intro hs2 (And.intro hf12 hgw))))
  clear hf1 ho1 hz1 hs1 hf2 ho12 hs2 ho4 hf12 H1 hgw
  obtain ⟨a3, ha3⟩ : ∃ a3, a3 = [167, k] ++ fix4 body.length := ⟨_, rfl⟩
  have hl3 : a3.length = 6 := by rw [ha3]; simp [fix4]
  have hA := fun (ty : TypeId) (consts : Array Bool) => ap_more w2 gw gw 2 [167, k] (.slice (some ⟨g4, 0, none⟩) 4 4) (fix4 body.length) HO.out.1 HO.out.2.1 (by simp [fix4]) hgl ty consts
  rw [← ha3] at hA
  have HA := Lib.hid hA
  have HA3 := Lib.hid ha3
  clear hA ha3
  go_upto_region 4 with (first
    | (at_builtin
       refine wpList_bi2 rfl .append _ _ _ _ _ rfl rfl rfl _ (HA.out _) ?_
       rintro v' w3 ⟨g3, cap3, rfl, hg3, ho3, hf3⟩))
  obtain ⟨a4, ha4⟩ : ∃ a4, a4 = a3 ++ body := ⟨_, rfl⟩
  have hl4 : a4.length = 6 + body.length := by rw [ha4, List.length_append, hl3]
  have hs3 : Byt w3 (.slice A body.length c) body := Byt.fr' (HS.out.fr HO.out.2.2.2.1 (fun _ _ h => h)) hf3 (fun j hj hn h => by
    obtain ⟨k2, hk2, hlt2⟩ := HS.out.lt hn
    rw [hk2] at hj
    injection hj with hj
    have := HO.out.2.2.2.2
    omega)
  have hsz3 := hf3.size
  have hB := fun (ty : TypeId) (consts : Array Bool) => ap_more w3 gw g3 cap3 a3 (.slice A body.length c) body ho3 hs3 (by omega) (by omega) ty consts
  rw [← ha4, hl3] at hB
  have HB := Lib.hid hB
  have HA4 := Lib.hid ha4
  have HF3 := Lib.hid (And.intro hf3 hs3)
  clear hB ha4 hs3 hf3 ho3 HA
  go_upto_region 5 with (first
    | (at_builtin
       refine wpList_bi2 rfl .append _ _ _ _ _ rfl rfl rfl _ (HB.out _) ?_
       rintro v' w4 ⟨g5, cap5, rfl, hg5, ho5, hf5⟩))
  have hsz4 := hf5.size
  obtain ⟨w5, hw5⟩ : ∃ w5, w5 = w4.alloc (.cells #[.slice (some ⟨g5, 0, none⟩) (6 + body.length) cap5] 24) := ⟨_, rfl⟩
  rw [hl4] at ho5
  have hf45 : Fr (fun _ => False) w4 w5 := by rw [hw5]; exact (Fr.refl _ w4).alloc _
  have ho5' := own_fr ho5 hf45 (fun _ _ h => h)
  have hc5 : w5.cell? ⟨w4.heap.size, 0, none⟩ = some (.slice (some ⟨g5, 0, none⟩) (6 + body.length) cap5) := by rw [hw5]; exact (Blk.new _ _ _).cell 0 rfl
  have hsum := sum_any w4.heap.size 0 1 (.slice (some ⟨g5, 0, none⟩) (6 + body.length) cap5) a4 w5 (Byt.of_own (own_base ho5')) (by omega) hc5
  have hs5 : sumL a4 < 4294967296 := sumL_lt a4
  have HW5 := Lib.hid hw5
  have HS5 := Lib.hid (And.intro hsum (And.intro hf5 (And.intro ho5' hf45)))
  have hsz5 := hf45.size
  clear hw5 hsum hc5 ho5 hf5 ho5' hf45 HB
  go_wp2_with fail
  rw [← HW5.out]
  refine HS5.out.1.mono ?_
  rintro e w6 ⟨rfl, rfl⟩
  obtain ⟨Z, hZ⟩ : ∃ Z, Z = sumL a4 := ⟨_, rfl⟩
  rw [← hZ] at hs5 ⊢
  have HZ := Lib.hid hZ
  clear hZ
  go_wp2_with fail
  refine (putfix_any Z hs5 w5).mono ?_
  rintro e w7 ⟨g7, rfl, ho7, hf7⟩
  have ho57 := own_fr HS5.out.2.2.1 hf7 (fun _ _ h => h)
  have hsz7 := hf7.size
  have hC := fun (ty : TypeId) (consts : Array Bool) => ap_more w7 gw g5 cap5 a4 (.slice (some ⟨g7, 0, none⟩) 4 4) (fix4 Z) (by rw [hl4]; exact ho57) (Byt.of_own ho7) (by simp [fix4]; omega) (by omega) ty consts
  rw [hl4] at hC
  have HC := Lib.hid hC
  have HF7 := Lib.hid hf7
  clear hC ho57 ho7 hf7
  go_wp2_with (first
    | (at_builtin
       refine wpList_bi2 rfl .append _ _ _ _ _ rfl rfl rfl _ (HC.out _) ?_
       rintro v' w8 ⟨g8, cap8, rfl, hg8, ho8, hf8⟩))
  go_ret2
  have e4 : a4 = frHead k body := by rw [HA4.out, HA3.out]; rfl
  have e5 : frB k body = a4 ++ fix4 Z := by rw [HZ.out, e4]; rfl
  rw [e5]
  have hz := HO.out.2.2.2.2
  rw [← hz]
  have hlen : (a4 ++ fix4 Z).length = 6 + body.length + (fix4 Z).length := by rw [List.length_append, hl4]
  rw [hlen] at ho8 ⊢
  refine ⟨g8, cap8, rfl, hg8, ho8, ?_⟩
  have f1 : Fr (fun k => gw ≤ k) w w8 := ((((HO.out.2.2.2.1.none_up).tr HF3.out.1).tr HS5.out.2.1).tr ((HS5.out.2.2.2.none_up).tr HF7.out.none_up)).tr hf8
  exact ⟨f1.os, f1.tape, f1.output, f1.size, fun b hb _ => f1.block b hb (by omega)⟩
end Go.Proofs.Ytpffmfjphlaiaaa
