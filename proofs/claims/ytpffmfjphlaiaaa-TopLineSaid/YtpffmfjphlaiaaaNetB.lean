/- What a Net holds; the functions that only look, New. -/
import Derived.Test.YtpffmfjphlaiaaaNetA
namespace Go.Proofs.Ytpffmfjphlaiaaa
open Go.RowKit

/-- A packet. -/
structure Pk where
  f : Int
  t : Int
  b : List UInt8

/-- The cells of packets, their bodies' values beside them. -/
def flat : List Pk → List Value → List Value
  | p :: ps, v :: vs => .int .i64 p.f :: .int .i64 p.t :: v :: flat ps vs
  | _, _ => []
theorem flat_length : ∀ (ps : List Pk) (vs : List Value), vs.length = ps.length → (flat ps vs).length = ps.length * 3
  | [], [], _ => rfl
  | p :: ps, v :: vs, h => by simp only [flat, List.length_cons]; rw [flat_length ps vs (by simpa using h)]; omega
  | [], _ :: _, h => by simp at h
  | _ :: _, [], h => by simp at h
theorem flat_append : ∀ (ps : List Pk) (vs : List Value) (ps' : List Pk) (vs' : List Value), vs.length = ps.length → flat (ps ++ ps') (vs ++ vs') = flat ps vs ++ flat ps' vs'
  | [], [], _, _, _ => by simp [flat]
  | p :: ps, v :: vs, ps', vs', h => by simp only [List.cons_append, flat]; rw [flat_append ps vs ps' vs' (by simpa using h)]
  | [], _ :: _, _, _, h => by simp at h
  | _ :: _, [], _, _, h => by simp at h
theorem flat_get : ∀ (ps : List Pk) (vs : List Value) (i : Nat) (p : Pk) (v : Value), ps[i]? = some p → vs[i]? = some v →
    (flat ps vs)[i * 3]? = some (.int .i64 p.f) ∧ (flat ps vs)[i * 3 + 1]? = some (.int .i64 p.t) ∧ (flat ps vs)[i * 3 + 2]? = some v
  | [], _, _, _, _, h, _ => by simp at h
  | _ :: _, [], _, _, _, _, h => by simp at h
  | q :: ps, u :: vs, 0, p, v, h, h' => by
    simp at h h'
    subst h h'
    simp [flat]
  | q :: ps, u :: vs, i + 1, p, v, h, h' => by
    have := flat_get ps vs i p v (by simpa using h) (by simpa using h')
    rw [show (i + 1) * 3 = i * 3 + 3 by omega]
    simpa [flat] using this

/-- The packets under way: their row, their bodies, each in a block of its own. -/
structure Packs (w : World) (lv : Value) (L : List Pk) (vs : List Value) (F : Nat → Prop) : Prop where
  len : vs.length = L.length
  row : w.ownsRow 0 40 3 lv L.length (flat L vs)
  rin : ∀ k, lv.ownBlock = some k → F k
  body : ∀ (i : Nat) (p : Pk) (v : Value), L[i]? = some p → vs[i]? = some v → w.ownsRow 0 5 1 v p.b.length (u8s p.b) ∧ ∃ k, v.ownBlock = some k ∧ F k
  apart : (vs.map Value.ownBlock).Nodup

/-- What a Net holds: N nodes, the packets L, who is parted. F: its blocks. -/
structure NetR (w : World) (nb : Nat) (N : Int) (L : List Pk) (A : Nat → Nat → Bool) (F : Nat → Prop) : Prop where
  ex : ∃ cs lv vs, Blk w nb 65 cs ∧ cs.size = 146 ∧ cs[0]? = some (.int .i64 N) ∧ cs[1]? = some lv ∧ (∀ a b, a < 12 → b < 12 → cs[2 + a * 12 + b]? = some (.bool (A a b))) ∧ Packs w lv L vs F
  own : F nb
  n1 : 1 ≤ N
  n12 : N ≤ 12
  room : L.length ≤ 256

section
variable {w w' : World} {lv : Value} {L : List Pk} {vs : List Value} {F X G : Nat → Prop} {nb : Nat} {N : Int} {A : Nat → Nat → Bool}
theorem Packs.fr (h : Packs w lv L vs F) (hf : Fr X w w') (hx : ∀ k, F k → ¬ X k) : Packs w' lv L vs F :=
  ⟨h.len, own_fr h.row hf fun k hk => hx k (h.rin k hk), h.rin, fun i p v hp hv => by
    obtain ⟨h1, k, hk, hF⟩ := h.body i p v hp hv
    exact ⟨own_fr h1 hf fun k' hk' => by rw [hk] at hk'; injection hk' with hk'; subst hk'; exact hx k hF, k, hk, hF⟩, h.apart⟩
theorem Packs.up (h : Packs w lv L vs F) (hg : ∀ k, F k → G k) : Packs w lv L vs G :=
  ⟨h.len, h.row, fun k hk => hg k (h.rin k hk), fun i p v hp hv => by
    obtain ⟨h1, k, hk, hF⟩ := h.body i p v hp hv
    exact ⟨h1, k, hk, hg k hF⟩, h.apart⟩
theorem NetR.fr (h : NetR w nb N L A F) (hf : Fr X w w') (hx : ∀ k, F k → ¬ X k) : NetR w' nb N L A F := by
  obtain ⟨⟨cs, lv, vs, h1, h2, h3, h4, h5, h6⟩, ho, a, b, c⟩ := h
  exact ⟨⟨cs, lv, vs, h1.fr hf (hx nb ho), h2, h3, h4, h5, h6.fr hf hx⟩, ho, a, b, c⟩
theorem NetR.up (h : NetR w nb N L A F) (hg : ∀ k, F k → G k) : NetR w nb N L A G := by
  obtain ⟨⟨cs, lv, vs, h1, h2, h3, h4, h5, h6⟩, ho, a, b, c⟩ := h
  exact ⟨⟨cs, lv, vs, h1, h2, h3, h4, h5, h6.up hg⟩, hg nb ho, a, b, c⟩
theorem NetR.drewN (h : NetR w nb N L A F) (n : Nat) : NetR (w.drewN n) nb N L A F := h.fr (X := fun _ => False) ((Fr.refl _ w).drewN n) (fun _ _ h => h)
end

theorem is_yes (nb : Nat) (N a : Int) (w : World) (h : w.cell? ⟨nb, 0, none⟩ = some (.int .i64 N)) :
    Calls Try.prog 30 #[.pointer (some ⟨nb, 0, none⟩), .int .i64 a] w fun e w' => e = .returned (.bool (decide (0 ≤ a ∧ a < N))) ∧ w = w' := by
  by_cases h0 : 0 ≤ a
  · have e1 : decide (0 ≤ a ∧ a < N) = decide (a < N) := by simp [h0]
    rw [e1]; clear e1
    go_enter Try.func30, Try.ntmps30
    go_wp2
    go_ret
    exact ⟨rfl, rfl⟩
  · have e1 : decide (0 ≤ a ∧ a < N) = false := by simp [h0]
    rw [e1]; clear e1
    go_enter Try.func30, Try.ntmps30
    go_wp2
    go_ret
    exact ⟨rfl, rfl⟩

theorem there_any (nb : Nat) (a : Int) (A : Option Addr) (n c : Nat) (w : World) (h : w.cell? ⟨nb, 1, none⟩ = some (.slice A n c)) :
    Calls Try.prog 24 #[.pointer (some ⟨nb, 0, none⟩), .int .i64 a] w fun e w' => e = .returned (.bool (decide (0 ≤ a ∧ a < n))) ∧ w = w' := by
  by_cases h0 : 0 ≤ a
  · have e1 : decide (0 ≤ a ∧ a < (n : Int)) = decide (a < n) := by simp [h0]
    rw [e1]; clear e1
    go_enter Try.func24, Try.ntmps24
    go_wp2
    go_ret
    exact ⟨rfl, rfl⟩
  · have e1 : decide (0 ≤ a ∧ a < (n : Int)) = false := by simp [h0]
    rw [e1]; clear e1
    go_enter Try.func24, Try.ntmps24
    go_wp2
    go_ret
    exact ⟨rfl, rfl⟩
theorem there_nil (a : Int) (w : World) :
    Calls Try.prog 24 #[.pointer none, .int .i64 a] w fun e w' => e = .returned (.bool false) ∧ w = w' := by
  go_enter Try.func24, Try.ntmps24
  go_wp2
  go_ret
  exact ⟨rfl, rfl⟩

theorem len_any (nb : Nat) (N : Int) (L : List Pk) (A : Nat → Nat → Bool) (F : Nat → Prop) (w : World) (h : NetR w nb N L A F) :
    Calls Try.prog 9 #[.pointer (some ⟨nb, 0, none⟩)] w fun e w' => e = .returned (.int .i64 L.length) ∧ w = w' := by
  obtain ⟨⟨cs, lv, vs, h1, h2, h3, h4, h5, h6⟩, ho, -, -, -⟩ := h
  have c1 := h1.cell 1 h4
  rcases own_form h6.row with ⟨rfl, hL, _⟩ | ⟨g, cap, cur, rfl, _⟩
  · have HL := Lib.hid hL
    clear hL h6 h5 h4 h3
    go_enter Try.func9, Try.ntmps9
    go_wp2
    go_ret
    exact ⟨by rw [HL.out]; rfl, rfl⟩
  · clear h6 h5 h4 h3
    go_enter Try.func9, Try.ntmps9
    go_wp2
    go_ret
    exact ⟨rfl, rfl⟩
theorem len_nil (w : World) : Calls Try.prog 9 #[.pointer none] w fun e w' => e = .returned (.int .i64 0) ∧ w = w' := by
  go_enter Try.func9, Try.ntmps9
  go_wp2
  go_ret
  exact ⟨rfl, rfl⟩

/-- The cells of a new Net. -/
def zeroNet (N : Int) : Array Value := #[.int .i64 N, .slice none 0 0] ++ Array.replicate 144 (.bool false)
theorem zeroNet_size (N : Int) : (zeroNet N).size = 146 := by simp [zeroNet]
theorem zeroNet_0 (N : Int) : (zeroNet N)[0]? = some (.int .i64 N) := by simp [zeroNet]
theorem zeroNet_1 (N : Int) : (zeroNet N)[1]? = some (.slice none 0 0) := by simp [zeroNet]
theorem zeroNet_ap (N : Int) (a b : Nat) (ha : a < 12) (hb : b < 12) : (zeroNet N)[2 + a * 12 + b]? = some (.bool false) := by
  unfold zeroNet
  rw [Array.getElem?_append_right (by simp; omega), Array.getElem?_replicate, if_pos (by simp; omega)]

set_option maxRecDepth 1000000 in
theorem build_net (N : Int) (w : World) : (Instr.build 65 #[(0, .int .i64 N)]).run Try.prog w = .ok (.agg (zeroNet N)) w := by kernel_rfl
set_option maxRecDepth 1000000 in
theorem box_net (N : Int) (w : World) : (Instr.box 65 (.agg (zeroNet N))).run Try.prog w = .ok (.pointer (some ⟨w.heap.size, 0, none⟩)) (w.alloc (.cells (zeroNet N) 65)) := by kernel_rfl

set_option maxHeartbeats 1000000 in
theorem new_ok (N : Int) (w : World) (h1 : 1 ≤ N) (h2 : N ≤ 12) :
    Calls Try.prog 15 #[.int .i64 N] w fun e w' => ∃ nb, w.heap.size ≤ nb ∧ e = .returned (.tuple #[.pointer (some ⟨nb, 0, none⟩), .int .i64 0]) ∧
      NetR w' nb N [] (fun _ _ => false) (fun k => k = nb) ∧ Fr (fun _ => False) w w' := by
  have hx := box_net N
  go_enter Try.func15, Try.ntmps15
  go_wp2_with (refine wpList_build rfl 65 _ rfl [(0, .int .i64 N)] _ rfl (build_net N _) ?_)
  go_ret2
  exact ⟨w.heap.size, Nat.le_refl _, rfl, ⟨⟨_, .slice none 0 0, [], Blk.new _ _ _, zeroNet_size N, zeroNet_0 N, zeroNet_1 N, fun a b ha hb => zeroNet_ap N a b ha hb, ⟨rfl, World.ownsRow_nil _ _ _ _, by simp [Value.ownBlock], by simp, by simp⟩⟩, rfl, h1, h2, by simp⟩, (Fr.refl _ w).alloc _⟩

theorem new_bad (N : Int) (w : World) (h : N < 1 ∨ 12 < N) :
    Calls Try.prog 15 #[.int .i64 N] w fun e w' => e = .returned (.tuple #[.pointer none, .int .i64 2]) ∧ w = w' := by
  rcases h with h | h
  · go_enter Try.func15, Try.ntmps15
    go_wp2
    go_ret2
    exact ⟨rfl, rfl⟩
  · go_enter Try.func15, Try.ntmps15
    go_wp2
    go_ret2
    exact ⟨rfl, rfl⟩

end Go.Proofs.Ytpffmfjphlaiaaa
