/- sess: right, Bytes. -/
import Derived.Test.YtpffmfjphlaiaaaLE
namespace Go.Proofs.Ytpffmfjphlaiaaa
open Go.RowKit

/-- May it be a segment? (plain) -/
def okSeg (a : Bool) (q n : Nat) : Prop := if a = true then n = 0 else 0 < q ∧ n ≤ 1000

set_option maxHeartbeats 1000000 in
theorem right_yes (l : Int) (q : Nat) (a : Bool) (A : Option Addr) (n c : Nat) (w : World) (h : okSeg a q n) :
    Calls Try.prog 38 #[.agg #[.int .u64 l, .int .u64 (q : Int), .bool a, .slice A n c]] w fun e w' => e = .returned (.bool true) ∧ Fr (fun _ => False) w w' := by
  unfold okSeg at h
  cases a with
  | true =>
    have h : n = 0 := h
    subst h
    go_enter Try.func38, Try.ntmps38
    go_wp2_with fail
    go_ret
    exact ⟨rfl, (Fr.refl _ w).alloc _⟩
  | false =>
    have h : 0 < q ∧ n ≤ 1000 := h
    have h1 : (0 : Int) < (q : Int) := by omega
    have h2 : (n : Int) ≤ 1000 := by omega
    clear h
    go_enter Try.func38, Try.ntmps38
    go_wp2_with fail
    go_ret
    exact ⟨rfl, (Fr.refl _ w).alloc _⟩

/-- A segment's bytes. -/
def kindB (a : Bool) : UInt8 := if a then 4 else 3
def segIn (q : Nat) (body : List UInt8) : List UInt8 := [3, UInt8.ofNat q] ++ body
def segB (a : Bool) (q : Nat) (body : List UInt8) : List UInt8 := frB (kindB a) (segIn q body)

set_option maxRecDepth 100000 in
set_option maxHeartbeats 4000000 in
theorem bytes_any (a : Bool) (q : Nat) (s : Value) (body : List UInt8) (w : World) (hs : Byt w s body) (hq : q < 128) (h : okSeg a q body.length) (hb : body.length ≤ 1000) :
    Calls Try.prog 31 #[.agg #[.int .u64 3, .int .u64 (q : Int), .bool a, s]] w fun e w' => ∃ g cap, e = .returned (.tuple #[.slice (some ⟨g, 0, none⟩) (segB a q body).length cap, .int .i64 0]) ∧ w.heap.size ≤ g ∧ w'.ownsRow w.heap.size 5 1 (.slice (some ⟨g, 0, none⟩) (segB a q body).length cap) (segB a q body).length (u8s (segB a q body)) ∧ Fr (fun _ => False) w w' := by
  have hs0 := hs
  obtain ⟨A, c, rfl, -, -⟩ := hs0
  obtain ⟨w1, hw1⟩ : ∃ w1, w1 = w.alloc (.cells #[.int .u64 3, .int .u64 (q : Int), .bool a, .slice A body.length c] 60) := ⟨_, rfl⟩
  have hf1 : Fr (fun _ => False) w w1 := by rw [hw1]; exact (Fr.refl _ w).alloc _
  have hB1 : Blk w1 w.heap.size 60 #[.int .u64 3, .int .u64 (q : Int), .bool a, .slice A body.length c] := by rw [hw1]; exact Blk.new _ _ _
  have hs1 := hs.fr hf1 (fun _ _ h => h)
  have HB : Hid (∀ wx, Fr (fun k => w1.heap.size ≤ k) w1 wx → wx.cell? ⟨w.heap.size, 0, none⟩ = some (.int .u64 3) ∧ wx.cell? ⟨w.heap.size, 1, none⟩ = some (.int .u64 (q : Int)) ∧ wx.cell? ⟨w.heap.size, 2, none⟩ = some (.bool a) ∧ wx.cell? ⟨w.heap.size, 3, none⟩ = some (.slice A body.length c)) :=
    Lib.hid fun wx hf => by
      have b := hB1.fr hf (fun h => by have := hB1.lt; omega)
      exact ⟨b.cell 0 rfl, b.cell 1 rfl, b.cell 2 rfl, b.cell 3 rfl⟩
  obtain ⟨b0, b1, b2, b3⟩ := HB.out w1 (Fr.refl _ _)
  have HW1 := Lib.hid hw1
  have H1 := Lib.hid (And.intro hf1 (And.intro hs1 h))
  clear hw1 hf1 hB1 hs1 hs h
  go_enter Try.func31, Try.ntmps31
  go_upto_region 1 with (fail)
  rw [← HW1.out]
  go_wp2_with fail
  refine (right_yes 3 q a A body.length c w1 H1.out.2.2).mono ?_
  rintro e w2 ⟨rfl, hf2⟩
  obtain ⟨c0, c1, c2, c3⟩ := HB.out w2 hf2.none_up
  have hsz2 := hf2.size
  have F0 : Fr (fun k => w1.heap.size ≤ k) w1 w2.drew := hf2.none_up.drew
  have HQ := Lib.hid hq
  have P3 : ∀ wx : World, Calls Try.prog 39 #[.int .u64 3] wx fun e w' => ∃ g, e = .returned (.slice (some ⟨g, 0, none⟩) 1 1) ∧ w'.ownsRow wx.heap.size 5 1 (.slice (some ⟨g, 0, none⟩) 1 1) 1 (u8s [3]) ∧ Fr (fun _ => False) wx w' := fun wx => putuint_any 3 (by decide) wx
  have PQ := Lib.hid (fun wx => putuint_any q hq wx)
  obtain ⟨kb, hkb0⟩ : ∃ kb, kb = kindB a := ⟨_, rfl⟩
  have HKB := Lib.hid hkb0
  clear hkb0
  clear hf2 b0 b1 b2 b3
  go_upto_region 4 with (fail)
  cases a
  case' false => (have hkv : (kb.toNat : Int) = 3 := (by rw [HKB.out]; rfl); go_upto_region 6 with (fail))
  case' true => (have hkv : (kb.toNat : Int) = 4 := (by rw [HKB.out]; rfl); go_upto_region 6 with (fail))
  all_goals
    have hS2 := And.intro c0 c1
    go_region_held3 (fun wx => wx.cell? ⟨w.heap.size, 0, none⟩ = some (.int .u64 3) ∧ wx.cell? ⟨w.heap.size, 1, none⟩ = some (.int .u64 (q : Int))) (first | exact hS5 | exact hS4 | exact hS3 | exact hS2)
      (first
      | (have _k := ho3'
         refine step_bi2 rfl .append _ _ _ (.slice (some ⟨g3, 0, none⟩) 1 1) (.slice (some ⟨g4, 0, none⟩) 1 1) rfl rfl rfl _ (ap_more w4 w2.heap.size g3 1 [3] (.slice (some ⟨g4, 0, none⟩) 1 1) [UInt8.ofNat q] ho3' (Byt.of_own ho4) (by simp) (by simp at hsz3; omega) _) ?_
         rintro v5 w5 ⟨g5, cap5, rfl, hg5, ho5, hf5⟩
         have F1 := F0.trans hf5 (Z := fun k => w1.heap.size ≤ k) (fun k _ h => h.elim id (fun h => by omega))
         have hS5 := And.intro (HB.out _ F1).1 (HB.out _ F1).2.1)
      | (have _k := ho3
         go_at_call 39
         refine (PQ.out _).mono ?_
         rintro e w4 ⟨g4, rfl, ho4, hf4⟩
         replace F0 := F0.tr hf4.none_up
         have hsz4 := hf4.size
         have ho3' := own_fr ho3 hf4 (fun _ _ h => h)
         have hS4 := And.intro (HB.out _ F0).1 (HB.out _ F0).2.1)
      | (go_at_call 39
         refine (P3 _).mono ?_
         rintro e w3 ⟨g3, rfl, ho3, hf3⟩
         replace F0 := F0.tr hf3.none_up
         have hsz3 := hf3.size
         have hS3 := And.intro (HB.out _ F0).1 (HB.out _ F0).2.1))
  all_goals
    have k3 := (HB.out _ F1).2.2.2
    have hsz5 := hf5.size
    have hs5 : Byt w5 (.slice A body.length c) body := Byt.fr' H1.out.2.1 F1 (fun j hj hn h => by
      obtain ⟨k2, hk2, hlt2⟩ := H1.out.2.1.lt hn
      rw [hk2] at hj
      injection hj with hj
      omega)
    have hw25 : w2.heap.size ≤ w5.heap.size := by simp at hsz3; omega
    have hA := fun (ty : TypeId) (consts : Array Bool) => ap_more w5 w2.heap.size g5 cap5 ([3] ++ [UInt8.ofNat q]) (.slice A body.length c) body ho5 hs5 (by simp; omega) hw25 ty consts
    have hlen2 : ([3] ++ [UInt8.ofNat q]).length = 2 := rfl
    rw [hlen2] at hA
    have HA := Lib.hid hA
    have H5 := Lib.hid (And.intro F1 (And.intro hs5 H1.out.1))
    clear hA hs5 F1 ho5 hf5 c0 c1 c2 c3 hS2 hS3 hS4 hS5 ho3 ho4 hf3 hf4 F0 ho3' P3
    go_wp2_with (first
      | (at_builtin
         refine wpList_bi2 rfl .append _ _ _ _ _ rfl rfl rfl _ (HA.out _) ?_
         rintro v6 w6 ⟨g6, cap6, rfl, hg6, ho6, hf6⟩))
    have hp := put_any kb (.slice (some ⟨g6, 0, none⟩) (segIn q body).length cap6) (segIn q body) w6 (Byt.of_own ho6) (by simp [segIn]; omega)
    rw [hkv] at hp
    refine hp.mono ?_
    rintro e w7 ⟨g7, cap7, rfl, hg7, ho7, hf7⟩
    have HH := Lib.hid (And.intro hg7 (And.intro ho7 (And.intro hf7 (And.intro hf6 hw25))))
    clear hg7 ho7 hf7 hf6 ho6 hp
    have hl7 := frB_len kb (segIn q body)
    go_wp2_with fail
    go_ret2
    obtain ⟨hg7, ho7, hf7, hf6, hw25⟩ := HH.out
    obtain ⟨hF1, -, hF0⟩ := H5.out
    have hs01 := hF0.size
    have f1 : Fr (fun k => w1.heap.size ≤ k) w w7 := ((hF0.none_up.tr hF1).trans hf6 (Z := fun k => w1.heap.size ≤ k) (fun k _ h => h.elim id (fun h => by omega))).tr hf7.none_up
    have hsz6 := hf6.size
    unfold segB
    rw [← HKB.out]
    rw [hl7] at ho7 ⊢
    exact ⟨g7, cap7, rfl, by omega, own_up (own_base ho7) (fun k hk => by simp only [Value.ownBlock] at hk; injection hk with hk; omega), ⟨f1.os, f1.tape, f1.output, f1.size, fun b hb _ => f1.block b hb (by omega)⟩⟩
end Go.Proofs.Ytpffmfjphlaiaaa
