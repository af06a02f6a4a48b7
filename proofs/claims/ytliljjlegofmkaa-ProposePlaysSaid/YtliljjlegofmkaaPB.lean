/- What a Proposer holds; accept.Right, accept.Less, node. -/
import Derived.Test.YtliljjlegofmkaaPA
import Derived.Test.YtliljjlegofmkaaQC
namespace Go.Proofs.Ytliljjlegofmkaa
open Go.RowKit

/-- A vote. -/
structure Vt where
  s : Nat
  n : Nat
  d : Int
  v : List UInt8
/-- A proposer: its quorums, its ballot, from where, who promised, what has to be proposed (and who said so), what was proposed and who accepted. -/
structure Ps where
  q : Qu
  n : Nat
  d : Int
  f : Nat
  set : Nat
  mu : Nat → Option (Vt × Int)
  sl : Nat → Option (Vt × Nat)

def rightB (n : Nat) (d : Int) : Bool := decide (0 < n ∧ 0 ≤ d ∧ d < 12)
def lessB (a : Nat) (b : Int) (c : Nat) (d : Int) : Bool := decide (a < c ∨ (a = c ∧ b < d))

structure Wf (p : Ps) : Prop where
  ok : Ok p.q
  ql : p.q.s.length ≤ 1000
  rb : rightB p.n p.d = true
  n64 : p.n < 18446744073709551616
  f1 : 1 ≤ p.f
  f64 : p.f < 18446744073709551616
  st : p.set < 4096
  mu : ∀ k v nd, p.mu k = some (v, nd) → v.s = k ∧ k < 18446744073709551616 ∧ v.v.length ≤ 100
  sl : ∀ k v X, p.sl k = some (v, X) → v.s = k ∧ k < 18446744073709551616 ∧ v.v.length ≤ 100 ∧ X < 4096 ∧ p.f ≤ k ∧ v.n = p.n ∧ v.d = p.d

def muV (v : Vt) (nd : Int) (s : Value) : Value := .agg #[.int .u64 v.s, .int .u64 v.n, .int .i64 v.d, s, .int .i64 nd]
def slC (v : Vt) (X : Nat) (s : Value) : Array Value := #[.int .u64 v.s, .int .u64 v.n, .int .i64 v.d, s, .int .u32 X]
/-- Bytes in a row of their own, in a block of G. -/
def OwB (w : World) (G : Nat → Prop) (s : Value) (bs : List UInt8) : Prop := w.ownsRow 0 5 1 s bs.length (u8s bs) ∧ ∀ g, s.ownBlock = some g → G g
def MuAt (w : World) (G : Nat → Prop) (x : Option (Vt × Int)) (y : Option Value) : Prop :=
  (x = none ∧ y = none) ∨ ∃ v nd s, x = some (v, nd) ∧ y = some (muV v nd s) ∧ OwB w G s v.v
def SlAt (w : World) (G : Nat → Prop) (x : Option (Vt × Nat)) (y : Option Value) : Prop :=
  (x = none ∧ y = none) ∨ ∃ v X g s, x = some (v, X) ∧ y = some (.pointer (some ⟨g, 0, none⟩)) ∧ Blk w g 91 (slC v X s) ∧ G g ∧ OwB w G s v.v

def prC (p : Ps) (sv : Value) (mb sb : Nat) : Array Value :=
  #[.int .i64 p.q.k, .int .i64 p.q.n, .int .i64 p.q.o, .int .i64 p.q.t, sv, .int .u64 p.n, .int .i64 p.d, .int .u64 p.f, .int .u32 p.set, .map (some mb), .map (some sb)]
structure PX (w : World) (r : Nat) (p : Ps) (c : Nat) (G : Nat → Prop) (sv : Value) (mb sb : Nat) (mm sm : Nat → Option Value) : Prop where
  blk : Blk w r 80 (prC p sv mb sb)
  site : w.ownsRow 0 3 1 sv p.q.s.length (i64s p.q.s)
  siteG : ∀ k, sv.ownBlock = some k → G k
  rG : G r
  mbG : G mb
  sbG : G sb
  ne : mb ≠ sb
  mus : Mp w mb c mm
  sls : Mp w sb c sm
  mu : ∀ k, MuAt w G (p.mu k) (mm k)
  sl : ∀ k, SlAt w G (p.sl k) (sm k)
  inj : ∀ k k' g, sm k = some (.pointer (some ⟨g, 0, none⟩)) → sm k' = some (.pointer (some ⟨g, 0, none⟩)) → k = k'
  wf : Wf p
/-- The proposer p lies at r; its blocks are of G; no more than c entries a map. -/
def PR (w : World) (r : Nat) (p : Ps) (c : Nat) (G : Nat → Prop) : Prop := ∃ sv mb sb mm sm, PX w r p c G sv mb sb mm sm

section
variable {w w' : World} {G G' X : Nat → Prop} {r c : Nat} {p : Ps} {sv : Value} {mb sb : Nat} {mm sm : Nat → Option Value}
theorem OwB.fr {s : Value} {bs : List UInt8} (h : OwB w G s bs) (hf : Fr X w w') (hx : ∀ k, k < w.heap.size → G k → ¬ X k) : OwB w' G s bs := ⟨own_fr h.1 hf fun k hk => hx k (own_lt h.1 hk) (h.2 k hk), h.2⟩
theorem OwB.up {s : Value} {bs : List UInt8} (h : OwB w G s bs) (hg : ∀ k, k < w.heap.size → G k → G' k) : OwB w G' s bs := ⟨h.1, fun g hk => hg g (own_lt h.1 hk) (h.2 g hk)⟩
theorem OwB.byt {s : Value} {bs : List UInt8} (h : OwB w G s bs) : Byt w s bs := Byt.of_own h.1
theorem MuAt.fr {x : Option (Vt × Int)} {y : Option Value} (h : MuAt w G x y) (hf : Fr X w w') (hx : ∀ k, k < w.heap.size → G k → ¬ X k) : MuAt w' G x y := by
  rcases h with h | ⟨v, nd, s, h1, h2, h3⟩
  · exact .inl h
  · exact .inr ⟨v, nd, s, h1, h2, h3.fr hf hx⟩
theorem SlAt.fr {x : Option (Vt × Nat)} {y : Option Value} (h : SlAt w G x y) (hf : Fr X w w') (hx : ∀ k, k < w.heap.size → G k → ¬ X k) : SlAt w' G x y := by
  rcases h with h | ⟨v, Y, g, s, h1, h2, h3, h4, h5⟩
  · exact .inl h
  · exact .inr ⟨v, Y, g, s, h1, h2, h3.fr hf (hx g h3.lt h4), h4, h5.fr hf hx⟩
theorem MuAt.up {x : Option (Vt × Int)} {y : Option Value} (h : MuAt w G x y) (hg : ∀ k, k < w.heap.size → G k → G' k) : MuAt w G' x y := by
  rcases h with h | ⟨v, nd, s, h1, h2, h3⟩
  · exact .inl h
  · exact .inr ⟨v, nd, s, h1, h2, h3.up hg⟩
theorem SlAt.up {x : Option (Vt × Nat)} {y : Option Value} (h : SlAt w G x y) (hg : ∀ k, k < w.heap.size → G k → G' k) : SlAt w G' x y := by
  rcases h with h | ⟨v, Y, g, s, h1, h2, h3, h4, h5⟩
  · exact .inl h
  · exact .inr ⟨v, Y, g, s, h1, h2, h3, hg g h3.lt h4, h5.up hg⟩
theorem PX.fr (h : PX w r p c G sv mb sb mm sm) (hf : Fr X w w') (hx : ∀ k, k < w.heap.size → G k → ¬ X k) : PX w' r p c G sv mb sb mm sm :=
  ⟨h.blk.fr hf (hx r h.blk.lt h.rG), own_fr h.site hf fun k hk => hx k (own_lt h.site hk) (h.siteG k hk), h.siteG, h.rG, h.mbG, h.sbG, h.ne, h.mus.fr hf (hx mb h.mus.lt h.mbG), h.sls.fr hf (hx sb h.sls.lt h.sbG), fun k => (h.mu k).fr hf hx, fun k => (h.sl k).fr hf hx, h.inj, h.wf⟩
theorem PX.up (h : PX w r p c G sv mb sb mm sm) (hg : ∀ k, k < w.heap.size → G k → G' k) : PX w r p c G' sv mb sb mm sm :=
  ⟨h.blk, h.site, fun k hk => hg k (own_lt h.site hk) (h.siteG k hk), hg r h.blk.lt h.rG, hg mb h.mus.lt h.mbG, hg sb h.sls.lt h.sbG, h.ne, h.mus, h.sls, fun k => (h.mu k).up hg, fun k => (h.sl k).up hg, h.inj, h.wf⟩
theorem PR.fr (h : PR w r p c G) (hf : Fr X w w') (hx : ∀ k, k < w.heap.size → G k → ¬ X k) : PR w' r p c G := by
  obtain ⟨sv, mb, sb, mm, sm, h⟩ := h
  exact ⟨sv, mb, sb, mm, sm, h.fr hf hx⟩
theorem PR.up (h : PR w r p c G) (hg : ∀ k, k < w.heap.size → G k → G' k) : PR w r p c G' := by
  obtain ⟨sv, mb, sb, mm, sm, h⟩ := h
  exact ⟨sv, mb, sb, mm, sm, h.up hg⟩
theorem PR.none_ (h : PR w r p c G) (hf : Fr (fun _ => False) w w') : PR w' r p c G := h.fr hf (fun _ _ _ h => h)
theorem PR.wf (h : PR w r p c G) : Wf p := by obtain ⟨_, _, _, _, _, h⟩ := h; exact h.wf
theorem PR.mono (h : PR w r p c G) {c' : Nat} (hc : c ≤ c') : PR w r p c' G := by
  obtain ⟨sv, mb, sb, mm, sm, h⟩ := h
  exact ⟨sv, mb, sb, mm, sm, h.blk, h.site, h.siteG, h.rG, h.mbG, h.sbG, h.ne, h.mus.mono hc, h.sls.mono hc, h.mu, h.sl, h.inj, h.wf⟩
theorem ints_own {l : List Int} {n : Nat} (h : w.ownsRow 0 3 1 sv n (i64s l)) : Ints w sv l := by
  have hn : l.length = n := by have := h.1; simpa [i64s] using this
  rcases own_form h with ⟨rfl, rfl, hx⟩ | ⟨g, cap, cur, rfl, _, hg, _, _, _, hx⟩
  · have : l = [] := List.eq_nil_of_length_eq_zero hn
    subst this
    exact ⟨none, 0, rfl, fun h => absurd rfl h⟩
  · subst hn
    refine ⟨some ⟨g, 0, none⟩, cap, rfl, fun _ => ⟨g, 0, rfl, fun i u hu => ?_⟩⟩
    rw [Nat.zero_add]
    exact own_cell h i (by simp [i64s, hu])
end

set_option maxHeartbeats 1000000 in
theorem aright_any (n : Nat) (d : Int) (w : World) :
    Calls Try.prog 32 #[.agg #[.int .u64 n, .int .i64 d]] w fun e w' => e = .returned (.bool (rightB n d)) ∧ Fr (fun _ => False) w w' := by
  have hf := (Fr.refl (fun _ => False) w).alloc (.cells #[.int .u64 n, .int .i64 d] 33)
  have HF := Lib.hid hf
  clear hf
  by_cases h0 : 0 < n
  · by_cases h1 : 0 ≤ d
    · have e1 : rightB n d = decide (d < 12) := by simp [rightB, h0, h1]
      rw [e1]; clear e1
      go_enter Try.func32, Try.ntmps32
      go_wp2
      go_ret
      exact ⟨rfl, HF.out⟩
    · have e1 : rightB n d = false := by simp [rightB, h1]
      rw [e1]; clear e1
      go_enter Try.func32, Try.ntmps32
      go_wp2
      go_ret
      exact ⟨rfl, HF.out⟩
  · have e1 : rightB n d = false := by simp [rightB, h0]
    rw [e1]; clear e1
    go_enter Try.func32, Try.ntmps32
    go_wp2
    go_ret
    exact ⟨rfl, HF.out⟩

set_option maxHeartbeats 1000000 in
theorem less_any (a : Nat) (b : Int) (c : Nat) (d : Int) (w : World) :
    Calls Try.prog 35 #[.agg #[.int .u64 a, .int .i64 b], .agg #[.int .u64 c, .int .i64 d]] w fun e w' => e = .returned (.bool (lessB a b c d)) ∧ Fr (fun _ => False) w w' := by
  have hf := ((Fr.refl (fun _ => False) w).alloc (.cells #[.int .u64 a, .int .i64 b] 33)).alloc (.cells #[.int .u64 c, .int .i64 d] 33)
  have HF := Lib.hid hf
  clear hf
  by_cases h0 : a < c
  · have e1 : lessB a b c d = true := by simp [lessB, h0]
    rw [e1]; clear e1
    go_enter Try.func35, Try.ntmps35
    go_wp2
    go_ret
    exact ⟨rfl, HF.out⟩
  · by_cases h1 : a = c
    · have e1 : lessB a b c d = decide (b < d) := by simp [lessB, h1]
      rw [e1]; clear e1
      subst h1
      go_enter Try.func35, Try.ntmps35
      go_wp2
      go_ret
      exact ⟨rfl, HF.out⟩
    · have e1 : lessB a b c d = false := by simp [lessB, h0, h1]
      rw [e1]; clear e1
      have h2 : ((a : Int) == (c : Int)) = false := by simp; omega
      go_enter Try.func35, Try.ntmps35
      go_wp2
      go_ret
      exact ⟨rfl, HF.out⟩

/-- Is it a node? -/
def nodeB (p : Ps) (x : Int) : Bool := decide (0 ≤ x ∧ x < p.q.n)
theorem node_any (r : Nat) (p : Ps) (x : Int) (w : World) (h : w.cell? ⟨r, 1, none⟩ = some (.int .i64 p.q.n)) :
    Calls Try.prog 33 #[.pointer (some ⟨r, 0, none⟩), .int .i64 x] w fun e w' => e = .returned (.bool (nodeB p x)) ∧ w = w' := by
  by_cases h0 : 0 ≤ x
  · have e1 : nodeB p x = decide (x < p.q.n) := by simp [nodeB, h0]
    rw [e1]; clear e1
    go_enter Try.func33, Try.ntmps33
    go_wp2
    go_ret
    exact ⟨rfl, rfl⟩
  · have e1 : nodeB p x = false := by simp [nodeB, h0]
    rw [e1]; clear e1
    go_enter Try.func33, Try.ntmps33
    go_wp2
    go_ret
    exact ⟨rfl, rfl⟩
end Go.Proofs.Ytliljjlegofmkaa
