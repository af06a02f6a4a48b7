/- Package net's small functions: what each returns and leaves. -/
import Derived.Test.YtpffmfjphlaiaaaProg
import Derived.Test.YtpffmfjphlaiaaaMem
import Derived.KernelRfl
namespace Go.Proofs.Ytpffmfjphlaiaaa
open Go.RowKit

theorem u8info : (Try.prog.info? 5).map (fun i => (i.zero, i.size, i.bytes)) = some (some (.int .u8 0), 1, 1) := by kernel_rfl

set_option maxHeartbeats 1000000 in
theorem own_any (f t : Int) (s : Value) (bs : List UInt8) (w : World) (hs : Byt w s bs) (hl : bs.length ≤ 1000000) (B : Nat) (hB : B ≤ w.heap.size) :
    Calls Try.prog 29 #[.agg #[.int .i64 f, .int .i64 t, s]] w fun e w' => ∃ g cap, e = .returned (.agg #[.int .i64 f, .int .i64 t, .slice (some ⟨g, 0, none⟩) bs.length cap]) ∧
      w'.ownsRow 0 5 1 (.slice (some ⟨g, 0, none⟩) bs.length cap) bs.length (u8s bs) ∧ B ≤ g ∧ Fr (fun k => B ≤ k) w w' := by
  obtain ⟨i0, hi0, hz0, hz1, hz2⟩ := info_parts u8info
  have hs0 := hs
  obtain ⟨A, c, rfl, -, -⟩ := hs0
  obtain ⟨w3, hw3⟩ : ∃ w3, w3 = ((w.alloc (.cells #[.int .i64 f, .int .i64 t, .slice A bs.length c] 40)).alloc (.cells #[.int .i64 0, .int .i64 0, .slice none 0 0] 40)).alloc (.cells #[] 5) := ⟨_, rfl⟩
  have hown0 : w3.ownsRow w.heap.size 5 1 (.slice (some ⟨w.heap.size + 1 + 1, 0, none⟩) 0 0) 0 [] := by
    have := World.ownsRow_lit (base := w.heap.size) (e := 5) (size := 1) ((w.alloc (.cells #[.int .i64 f, .int .i64 t, .slice A bs.length c] 40)).alloc (.cells #[.int .i64 0, .int .i64 0, .slice none 0 0] 40)) #[] 0 (by simp; omega) (by simp [maxLen]) rfl
    rw [hw3]
    simpa using this
  have hs3 : Byt w3 (.slice A bs.length c) bs := by rw [hw3]; exact ((hs.alloc _).alloc _).alloc _
  have hb1 : Blk w3 w.heap.size 40 #[.int .i64 f, .int .i64 t, .slice A bs.length c] := by rw [hw3]; exact ((Blk.new _ _ _).alloc _).alloc _
  have hb2 : Blk w3 (w.heap.size + 1) 40 #[.int .i64 0, .int .i64 0, .slice none 0 0] := by
    have := (Blk.new (w.alloc (.cells #[.int .i64 f, .int .i64 t, .slice A bs.length c] 40)) 40 #[.int .i64 0, .int .i64 0, .slice none 0 0]).alloc (.cells #[] 5)
    rw [hw3]; simpa using this
  have hz3 : w3.heap.size = w.heap.size + 3 := by rw [hw3]; simp
  have hf3 : Fr (fun k => B ≤ k) w w3 := by rw [hw3]; exact (((Fr.refl _ w).alloc _).alloc _).alloc _
  go_enter Try.func29, Try.ntmps29
  go_wp2_with (first
    | (at_builtin
       rw [← hw3]
       refine wpList_bi2 rfl .append _ _ _ _ _ rfl rfl rfl _ (ap_byt (base := w.heap.size) Try.underlying24 hi0 hz0 hz1 hz2 rfl hown0 _ bs hs3 (by omega) (by omega)) ?_
       clear hw3
       rintro v' w1 hap
       obtain ⟨g, cap, rfl, hg⟩ := hap.form rfl
       have hb1' := hap.blk hb1 (by simp [Value.ownBlock]; omega)
       have hb2' := hap.blk hb2 (by simp [Value.ownBlock])
       have a0 := hb1'.cell 0 rfl
       have a1 := hb1'.cell 1 rfl
       have a2 := hb1'.cell 2 rfl
       have a3 := hb1'.frozen 2
       have b0 := hb2'.cell 0 rfl
       have b1 := hb2'.cell 1 rfl
       have b2 := hb2'.cell 2 rfl
       have b3 := hb2'.frozen))
  simp only [Nat.zero_add] at hap
  have ho2 := own_base hap.1
  have hf4 := hap.fr hf3 (fun k hk _ => by simp [Value.ownBlock] at hk; omega)
  have hgB : B ≤ g := by rcases hg with rfl | rfl <;> simp_all <;> omega
  have hB' : Blk ((((w1.setCell ⟨w.heap.size, 2, none⟩ (.slice (some ⟨g, 0, none⟩) bs.length cap)).setCell ⟨w.heap.size + 1, 0, none⟩ (.int .i64 f)).setCell ⟨w.heap.size + 1, 1, none⟩ (.int .i64 t)).setCell ⟨w.heap.size + 1, 2, none⟩ (.slice (some ⟨g, 0, none⟩) bs.length cap))
      (w.heap.size + 1) 40 #[.int .i64 f, .int .i64 t, .slice (some ⟨g, 0, none⟩) bs.length cap] := by
    simpa using (((hb2'.far (p := ⟨w.heap.size, 2, none⟩) (by simp) (.slice (some ⟨g, 0, none⟩) bs.length cap)).set_ 0 (.int .i64 f)).set_ 1 (.int .i64 t)).set_ 2 (.slice (some ⟨g, 0, none⟩) bs.length cap)
  refine bodyPost_ret (results_cell_row rfl _ _ (w.heap.size + 1) 40 _ (0, 0) _ rfl hB' Try.underlying40 rfl (by kernel_rfl)) rfl ⟨g, cap, rfl, ?_, hgB, ?_⟩
  · have hX : Fr (fun k => k = w.heap.size ∨ k = w.heap.size + 1) w1 ((((w1.setCell ⟨w.heap.size, 2, none⟩ (.slice (some ⟨g, 0, none⟩) bs.length cap)).setCell ⟨w.heap.size + 1, 0, none⟩ (.int .i64 f)).setCell ⟨w.heap.size + 1, 1, none⟩ (.int .i64 t)).setCell ⟨w.heap.size + 1, 2, none⟩ (.slice (some ⟨g, 0, none⟩) bs.length cap)) :=
      ((((Fr.refl _ w1).setCell (p := ⟨w.heap.size, 2, none⟩) (by simp) _).setCell (p := ⟨w.heap.size + 1, 0, none⟩) (by simp) _).setCell (p := ⟨w.heap.size + 1, 1, none⟩) (by simp) _).setCell (p := ⟨w.heap.size + 1, 2, none⟩) (by simp) _
    have := own_fr ho2 hX (fun k hk => by simp [Value.ownBlock] at hk; omega)
    simpa using this
  · exact (((hf4.setCell (p := ⟨w.heap.size, 2, none⟩) (fun _ => hB) _).setCell (p := ⟨w.heap.size + 1, 0, none⟩) (fun _ => by show B ≤ w.heap.size + 1; omega) _).setCell (p := ⟨w.heap.size + 1, 1, none⟩) (fun _ => by show B ≤ w.heap.size + 1; omega) _).setCell (p := ⟨w.heap.size + 1, 2, none⟩) (fun _ => by show B ≤ w.heap.size + 1; omega) _
end Go.Proofs.Ytpffmfjphlaiaaa
