/- Ready, Must, Chosen, Accepted of one that is there. -/
import Derived.Test.YtliljjlegofmkaaPD
import Derived.Deep.RegionLaw
import Derived.Deep.RegionWith
import Derived.Deep.RegionHeld3
namespace Go.Proofs.Ytliljjlegofmkaa
open Go.RowKit

theorem zero_must (w : World) : (zeroValue 84).run Try.prog w = .ok (.agg #[.int .u64 0, .int .u64 0, .int .i64 0, .slice none 0 0, .int .i64 0]) w := by kernel_rfl
theorem zero_slot (w : World) : (zeroValue 87).run Try.prog w = .ok (.pointer none) w := by kernel_rfl

def readyB (p : Ps) : Bool := isQ p.q false p.set.testBit

set_option maxRecDepth 100000 in
set_option maxHeartbeats 4000000 in
theorem ready_any (r : Nat) (p : Ps) (c : Nat) (G : Nat → Prop) (w : World) (h : PR w r p c G) :
    Calls Try.prog 15 #[.pointer (some ⟨r, 0, none⟩)] w fun e w' => e = .returned (.bool (readyB p)) ∧ Fr (fun _ => False) w w' := by
  obtain ⟨sv, mb, sb, mm, sm, h⟩ := h
  have hst := h.wf.st
  have hl := h.wf.ql
  have hs := ints_own h.site
  have HC := Lib.hid (fun (s : Value) => first_any p.q s p.set (by omega))
  obtain ⟨q, n, d, f, set, mu, sl⟩ := p
  obtain ⟨k, N, o, t, l⟩ := q
  simp only [readyB] at hl hs HC ⊢
  have c0 : w.cell? ⟨r, 0, none⟩ = some (.int .i64 k) := h.blk.cell 0 rfl
  have c1 : w.cell? ⟨r, 1, none⟩ = some (.int .i64 N) := h.blk.cell 1 rfl
  have c2 : w.cell? ⟨r, 2, none⟩ = some (.int .i64 o) := h.blk.cell 2 rfl
  have c3 : w.cell? ⟨r, 3, none⟩ = some (.int .i64 t) := h.blk.cell 3 rfl
  have c4 : w.cell? ⟨r, 4, none⟩ = some sv := h.blk.cell 4 rfl
  have c8 : w.cell? ⟨r, 8, none⟩ = some (.int .u32 set) := h.blk.cell 8 rfl
  have hs0 := hs
  obtain ⟨A, cc, rfl, -⟩ := hs0
  have HS := Lib.hid hs
  clear h hst hs
  go_enter Try.func15, Try.ntmps15
  go_upto_region 1 with (fail)
  go_region_held3 (fun wx => Fr (fun _ => False) w wx ∧ wx.cell? ⟨r, 0, none⟩ = some (.int .i64 k) ∧ wx.cell? ⟨r, 1, none⟩ = some (.int .i64 N) ∧ wx.cell? ⟨r, 2, none⟩ = some (.int .i64 o) ∧ wx.cell? ⟨r, 3, none⟩ = some (.int .i64 t) ∧ wx.cell? ⟨r, 4, none⟩ = some (.slice A l.length cc) ∧ wx.cell? ⟨r, 8, none⟩ = some (.int .u32 set)) (first | exact ⟨(Fr.refl _ _).drew, c0, c1, c2, c3, c4, c8⟩ | exact hS4)
    (first
      | (go_at_call 36
         refine (HC.out _ _ (HS.out.up ((Fr.refl _ w).drew)) hl).mono ?_
         rintro e w4 ⟨rfl, hf4⟩
         have hf5 := hf4.of_drew
         have hS4 : Fr (fun _ => False) w w4 ∧ w4.cell? ⟨r, 0, none⟩ = some (.int .i64 k) ∧ w4.cell? ⟨r, 1, none⟩ = some (.int .i64 N) ∧ w4.cell? ⟨r, 2, none⟩ = some (.int .i64 o) ∧ w4.cell? ⟨r, 3, none⟩ = some (.int .i64 t) ∧ w4.cell? ⟨r, 4, none⟩ = some (.slice A l.length cc) ∧ w4.cell? ⟨r, 8, none⟩ = some (.int .u32 set) :=
           ⟨hf5, hf5.cell c0 (fun h => h), hf5.cell c1 (fun h => h), hf5.cell c2 (fun h => h), hf5.cell c3 (fun h => h), hf5.cell c4 (fun h => h), hf5.cell c8 (fun h => h)⟩))
  all_goals
    clear c0 c1 c2 c3 c4 c8 hS4
    go_wp2_with fail
    go_ret
    exact ⟨rfl, hf5⟩

/-- Bytes in new memory, or none; and whether there are any. -/
def ResB (w w' : World) (x : Option (List UInt8)) (e : Ending) : Prop :=
  ∃ va vc, e = .returned (.tuple #[.slice va (x.getD []).length vc, .bool x.isSome]) ∧ w'.ownsRow w.heap.size 5 1 (.slice va (x.getD []).length vc) (x.getD []).length (u8s (x.getD [])) ∧ Fr (fun _ => False) w w'
theorem NewB.res {w0 w w' : World} {v : Value} {bs : List UInt8} (h : NewB w w' v bs) (hf : Fr (fun _ => False) w0 w) : ∃ va vc, v = .slice va bs.length vc ∧ w'.ownsRow w0.heap.size 5 1 (.slice va bs.length vc) bs.length (u8s bs) ∧ Fr (fun _ => False) w0 w' := by
  obtain ⟨g, cap, rfl, h1, h2, h3, h4⟩ := h
  have := hf.size
  exact ⟨_, _, rfl, own_up h3 (fun k hk => by simp [Value.ownBlock] at hk; omega), hf.tr h4⟩

/-- What has to be proposed there. -/
def muB (p : Ps) (k : Nat) : Option (List UInt8) := (p.mu k).map fun x => x.1.v
/-- What is chosen there. -/
def chB (p : Ps) (k : Nat) : Option (List UInt8) := (p.sl k).bind fun x => if isQ p.q true x.2.testBit then some x.1.v else none

set_option maxRecDepth 100000 in
set_option maxHeartbeats 4000000 in
theorem must_any (r : Nat) (p : Ps) (c : Nat) (G : Nat → Prop) (k : Nat) (hk : k < 18446744073709551616) (w : World) (h : PR w r p c G) :
    Calls Try.prog 29 #[.pointer (some ⟨r, 0, none⟩), .int .u64 k] w fun e w' => ResB w w' (muB p k) e := by
  obtain ⟨sv, mb, sb, mm, sm, h⟩ := h
  have c9 : w.cell? ⟨r, 9, none⟩ = some (.map (some mb)) := h.blk.cell 9 rfl
  have hlk := h.mus.look key64 Try.underlying31 Try.underlying77 (zero_must w) k hk
  have hv := h.wf.mu k
  unfold ResB muB
  rcases h.mu k with ⟨hm, hy⟩ | ⟨v, nd, s, hm, hy, ho⟩
  · rw [hy] at hlk
    rw [hm]
    simp only [Option.getD_none, Option.isSome_none, Option.map_none, List.length_nil] at hlk ⊢
    clear h hv hm hy
    go_enter Try.func29, Try.ntmps29
    go_wp2_with fail
    go_ret2
    exact ⟨none, 0, rfl, World.ownsRow_nil _ _ _ _, (Fr.refl _ w).alloc _⟩
  · rw [hy] at hlk
    rw [hm]
    have hvl := (hv v nd hm).2.2
    simp only [Option.getD_some, Option.isSome_some, Option.map_some] at hlk ⊢
    have hby := ho.byt
    have hby0 := hby
    obtain ⟨A, cc, rfl, -, -⟩ := hby0
    obtain ⟨w1, hw1⟩ : ∃ w1, w1 = w.alloc (.cells #[.int .u64 v.s, .int .u64 v.n, .int .i64 v.d, .slice A v.v.length cc, .int .i64 nd] 84) := ⟨_, rfl⟩
    have hf : Fr (fun _ => False) w w1 := by rw [hw1]; exact (Fr.refl _ w).alloc _
    have hb : Blk w1 w.heap.size 84 #[.int .u64 v.s, .int .u64 v.n, .int .i64 v.d, .slice A v.v.length cc, .int .i64 nd] := by rw [hw1]; exact Blk.new _ _ _
    have hs1 := hby.fr hf (fun _ _ h => h)
    have HW := Lib.hid hw1
    have HF := Lib.hid hf
    unfold muV at hlk
    clear h hv hm hy ho hw1 hf
    go_enter Try.func29, Try.ntmps29
    go_upto_region 4 with (fail)
    rw [← HW.out]
    clear HW c9 hlk
    have a0 : (w1.alloc (.cells #[] 5)).cell? ⟨w.heap.size, 3, none⟩ = some (.slice A v.v.length cc) := al_cell (hb.cell 3 rfl) _
    go_wp2_with (first
      | (at_builtin
         refine wpList_bi2 rfl .append _ _ _ _ _ rfl rfl rfl _ (ap_new w1 _ v.v hs1 (by omega) _) ?_
         rintro v' w2 hN
         obtain ⟨va, vc, rfl, ho, hf2⟩ := hN.res HF.out))
    go_ret2
    exact ⟨va, vc, rfl, ho, hf2⟩
end Go.Proofs.Ytliljjlegofmkaa
