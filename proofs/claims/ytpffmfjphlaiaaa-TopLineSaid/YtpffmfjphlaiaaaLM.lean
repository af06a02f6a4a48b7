/- sess.Receiver: what it holds; new. -/
import Derived.Test.YtpffmfjphlaiaaaLI
import Derived.Test.YtpffmfjphlaiaaaMp
namespace Go.Proofs.Ytpffmfjphlaiaaa
open Go.RowKit

/-- What came early: the pieces' numbers. -/
def Earl (w : World) (mb n : Nat) (E : Nat → Bool) (bd : Nat → List UInt8) (col : Nat → Nat) : Prop :=
  ∃ m, Mp w mb n m ∧ ∀ k, (E k = true → ∃ v, m k = some (.agg #[v]) ∧ Bd w v (bd k) col) ∧ (E k = false → m k = none)
structure RcvR (w : World) (rb mb life got : Nat) (E : Nat → Bool) (bd : Nat → List UInt8) (n : Nat) (col : Nat → Nat) : Prop where
  blk : Blk w rb 77 #[.int .i64 8, .int .u64 (life : Int), .int .u64 (got : Int), .map (some mb)]
  mp : Earl w mb n E bd col
  own : col rb = 2
  ownm : col mb = 2
  fst : life = 0 → got = 0 ∧ ∀ k, E k = false
theorem Earl.recol {i : Nat} {w w' : World} {mb n : Nat} {E : Nat → Bool} {bd : Nat → List UInt8} {col col' : Nat → Nat} (h : Earl w mb n E bd col) (hm : col mb = 2) (hr : Recol i w w' col col') (h0 : i ≠ 0) (h2 : i ≠ 2) : Earl w' mb n E bd col' := by
  obtain ⟨m, h1, h3⟩ := h
  refine ⟨m, h1.fr hr.fr (fun e => h2 (by rw [← e, hm])), fun k => ⟨fun hk => ?_, (h3 k).2⟩⟩
  obtain ⟨v, hv, hb⟩ := (h3 k).1 hk
  exact ⟨v, hv, hb.recol hr h0⟩
theorem RcvR.recol {i : Nat} {w w' : World} {rb mb life got n : Nat} {E : Nat → Bool} {bd : Nat → List UInt8} {col col' : Nat → Nat} (h : RcvR w rb mb life got E bd n col) (hr : Recol i w w' col col') (h0 : i ≠ 0) (h2 : i ≠ 2) : RcvR w' rb mb life got E bd n col' := by
  obtain ⟨m, h1, -⟩ := h.mp
  exact ⟨h.blk.fr hr.fr (fun e => h2 (by rw [← e, h.own])), h.mp.recol h.ownm hr h0 h2, by rw [hr.old rb h.blk.lt]; exact h.own, by rw [hr.old mb h1.lt]; exact h.ownm, h.fst⟩

set_option maxHeartbeats 1000000 in
theorem newrcv_any (bd : Nat → List UInt8) (col : Nat → Nat) (w : World) (hc : Cap w col) :
    Calls Try.prog 14 #[.int .i64 8] w fun e w' => ∃ rb mb col', e = .returned (.tuple #[.pointer (some ⟨rb, 0, none⟩), .int .i64 0]) ∧ RcvR w' rb mb 0 0 (fun _ => false) bd 0 col' ∧ Recol 2 w w' col col' := by
  have hmk : ∀ w : World, (Instr.makeMap 75 none).run Try.prog w = .ok (.map (some w.heap.size)) (w.alloc (.map #[] 0)) := fun w => by kernel_rfl
  go_enter Try.func14, Try.ntmps14
  go_wp2_with fail
  go_ret2
  have hf : Fr (fun k => col k = 2) w ((w.alloc (Obj.map #[] 0)).alloc (Obj.cells #[.int .i64 8, .int .u64 0, .int .u64 0, .map (some w.heap.size)] 77)) := ((Fr.refl _ w).alloc _).alloc _
  have hz : ((w.alloc (Obj.map #[] 0)).alloc (Obj.cells #[.int .i64 8, .int .u64 0, .int .u64 0, .map (some w.heap.size)] 77)).heap.size = w.heap.size + 2 := by simp
  have hz1 : (w.alloc (Obj.map #[] 0)).heap.size = w.heap.size + 1 := by simp
  have hb := Blk.new (w.alloc (Obj.map #[] 0)) 77 #[.int .i64 8, .int .u64 0, .int .u64 0, .map (some w.heap.size)]
  rw [hz1] at hb
  refine ⟨w.heap.size + 1, w.heap.size, fun k => if k = w.heap.size ∨ k = w.heap.size + 1 then 2 else col k, rfl, ⟨hb, ⟨fun _ => none, (Mp.made w).fr ((Fr.refl (fun _ => False) _).alloc _) (fun h => h), fun k => ⟨fun h => by simp at h, fun _ => rfl⟩⟩, by simp, by simp, fun _ => ⟨rfl, fun _ => rfl⟩⟩, ⟨fun k hk => ?_, fun k hk => ?_, fun k hk => ?_, hf⟩⟩
  · simp only [if_neg (show ¬ (k = w.heap.size ∨ k = w.heap.size + 1) by omega)]
  · by_cases h : k = w.heap.size ∨ k = w.heap.size + 1
    · right; simp only [if_pos h]
    · left; simp only [if_neg h]; exact hc k hk
  · rw [hz] at hk
    simp only [if_neg (show ¬ (k = w.heap.size ∨ k = w.heap.size + 1) by omega)]
    exact hc k (by omega)
end Go.Proofs.Ytpffmfjphlaiaaa
