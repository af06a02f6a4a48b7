/- Merged: PJ PK PL. -/
import Derived.Test.YtkpfgoalohbfeaaBb
import Derived.WalkMore
/- Promise. -/
namespace Go.Proofs.Ytkpfgoalohbfeaa
open Go.RowKit

/-- One vote told by node x. -/
def putM (x : Int) (mu : Nat → Option (Vt × Int)) (v : Vt) : Nat → Option (Vt × Int) :=
  match mu v.s with
  | some (m, nd) => if lessB v.n v.d m.n m.d || (decide (v.n = m.n) && decide (v.d = m.d) && decide (nd < x)) then mu else upd mu v.s (v, x)
  | none => upd mu v.s (v, x)
def prmE (p : Ps) (x : Int) (l : List Vt) : Int := if nodeB p x then (if rightV p.n p.d (p.f - 1) l then 0 else 91) else 2
def prmP (p : Ps) (x : Int) (l : List Vt) : Ps := if prmE p x l = 0 ∧ p.set.testBit x.toNat = false then { p with set := p.set ||| 2 ^ x.toNat, mu := l.foldl (putM x) p.mu } else p

/-- The blocks behind a step. -/
def Nx (G G' : Nat → Prop) (w w' : World) : Prop := ∀ j, G' j → G j ∨ (w.heap.size ≤ j ∧ j < w'.heap.size)
theorem Nx.refl (G : Nat → Prop) (w w' : World) : Nx G G w w' := fun _ h => .inl h
theorem Nx.lt {G G' : Nat → Prop} {w w' : World} (h : Nx G G' w w') (hG : ∀ j, G j → j < w.heap.size) (hs : w.heap.size ≤ w'.heap.size) : ∀ j, G' j → j < w'.heap.size := fun j hj => by
  rcases h j hj with h | h
  · have := hG j h; omega
  · exact h.2
theorem Nx.tr {G G' G'' : Nat → Prop} {w w1 w2 : World} (h : Nx G G' w w1) (k : Nx G' G'' w1 w2) (hs : w.heap.size ≤ w1.heap.size) (hs2 : w1.heap.size ≤ w2.heap.size) : Nx G G'' w w2 := fun j hj => by
  rcases k j hj with h1 | h1
  · rcases h j h1 with h2 | h2
    · exact .inl h2
    · exact .inr ⟨h2.1, by omega⟩
  · exact .inr ⟨by omega, h1.2⟩

section
variable {w w' : World} {G : Nat → Prop} {r c : Nat} {p : Ps} {sv : Value} {mb sb : Nat} {mm sm : Nat → Option Value}
theorem OwB.set_ {G : Nat → Prop} {s : Value} {bs : List UInt8} {g i : Nat} {t : TypeId} {cs : Array Value} {u : Value} (h : OwB w G s bs) (hB : Blk w g t cs) (ht : 5 ≠ t) : OwB (w.setCell ⟨g, i, none⟩ u) G s bs :=
  ⟨own_fr h.1 (Fr.set1 w g i u) (own_blk_ne h.1 hB ht), h.2⟩
/-- The set of those who promised, written. -/
theorem PX.setSet (h : PX w r p c G sv mb sb mm sm) (Z : Nat) (hZ : Z < 4096) : PX (w.setCell ⟨r, 8, none⟩ (.int .u32 Z)) r { p with set := Z } c G sv mb sb mm sm := by
  have hf := Fr.set1 w r 8 (.int .u32 Z)
  refine ⟨?_, own_fr h.site hf (own_blk_ne h.site h.blk (by decide)), h.siteG, h.rG, h.mbG, h.sbG, h.ne, h.mus.fr hf (fun e => h.mus.blk_ne h.blk e.symm), h.sls.fr hf (fun e => h.sls.blk_ne h.blk e.symm), fun j => ?_, fun j => ?_, h.inj, ?_⟩
  · have := h.blk.set_ 8 (.int .u32 Z)
    simpa [prC] using this
  · rcases h.mu j with h1 | ⟨v', nd, s', h1, h2, h3⟩
    · exact .inl h1
    · exact .inr ⟨v', nd, s', h1, h2, h3.set_ h.blk (by decide)⟩
  · rcases h.sl j with ⟨h1, h2⟩ | ⟨v', Y, g', s', h1, h2, h3, h4, h5⟩
    · exact .inl ⟨h1, h2⟩
    · exact .inr ⟨v', Y, g', s', h1, h2, h3.fr hf (h3.ne_ h.blk (by decide)), h4, h5.set_ h.blk (by decide)⟩
  · have W := h.wf
    exact ⟨W.ok, W.ql, W.rb, W.n64, W.f1, W.f64, hZ, W.mu, W.sl⟩
theorem Mp.owb_fr {m : Nat → Option Value} {b n : Nat} {s : Value} {bs : List UInt8} (hm : Mp w b n m) (h : OwB w G s bs) (hf : Fr (fun j => j = b) w w') : OwB w' G s bs := ⟨own_fr h.1 hf (hm.own_ne h.1), h.2⟩
/-- A vote put among what has to be proposed. -/
theorem PX.putMu (h : PX w r p c G sv mb sb mm sm) {v : Vt} {x : Int} {s : Value} (ho : OwB w G s v.v) (hl : v.v.length ≤ 100) (hm : Mp w' mb (c + 1) (upd mm v.s (muV v x s))) (hf : Fr (fun j => j = mb) w w') (hs : v.s < 18446744073709551616) :
    PX w' r { p with mu := upd p.mu v.s (v, x) } (c + 1) G sv mb sb (upd mm v.s (muV v x s)) sm := by
  refine ⟨h.blk.fr hf (h.mus.blk_ne h.blk), own_fr h.site hf (h.mus.own_ne h.site), h.siteG, h.rG, h.mbG, h.sbG, h.ne, hm, (h.sls.fr hf (fun e => h.ne e.symm)).mono (by omega), fun j => ?_, fun j => ?_, h.inj, ?_⟩
  · by_cases hj : j = v.s
    · subst hj
      exact .inr ⟨v, x, s, by simp [upd], by simp [upd], h.mus.owb_fr ho hf⟩
    · rcases h.mu j with ⟨h1, h2⟩ | ⟨v', nd, s', h1, h2, h3⟩
      · exact .inl ⟨by simp [upd, hj, h1], by simp [upd, hj, h2]⟩
      · exact .inr ⟨v', nd, s', by simp [upd, hj, h1], by simp [upd, hj, h2], h.mus.owb_fr h3 hf⟩
  · rcases h.sl j with ⟨h1, h2⟩ | ⟨v', Y, g', s', h1, h2, h3, h4, h5⟩
    · exact .inl ⟨h1, h2⟩
    · exact .inr ⟨v', Y, g', s', h1, h2, h3.fr hf (h.mus.blk_ne h3), h4, h.mus.owb_fr h5 hf⟩
  · have W := h.wf
    refine ⟨W.ok, W.ql, W.rb, W.n64, W.f1, W.f64, W.st, fun j v' nd hj => ?_, W.sl⟩
    by_cases hjk : j = v.s
    · subst hjk
      simp only [upd, if_pos, Option.some.injEq, Prod.mk.injEq] at hj
      obtain ⟨rfl, rfl⟩ := hj
      exact ⟨rfl, hs, hl⟩
    · simp only [upd, if_neg hjk] at hj
      exact W.mu j v' nd hj
theorem PX.wr (h : PX w r p c G sv mb sb mm sm) {X : Nat → Prop} (hf : Fr X w w') (hx : ∀ k, k < w.heap.size → ¬ X k) : PX w' r p c G sv mb sb mm sm := h.fr hf (fun k hk _ => hx k hk)
end
end Go.Proofs.Ytkpfgoalohbfeaa

/- Promise: the walk. -/
namespace Go.Proofs.Ytkpfgoalohbfeaa
open Go.RowKit

theorem shr_one (X j : Nat) : bits .and .u32 (((X / 2 ^ j : Nat) : Int) % 4294967296) 1 = if X.testBit j then 1 else 0 := by
  have h := u32_and_nat (X / 2 ^ j % 4294967296) 1 (by omega) (by omega)
  rw [nat_mask1] at h
  rw [show (((X / 2 ^ j : Nat) : Int) % 4294967296) = ((X / 2 ^ j % 4294967296 : Nat) : Int) by omega, show (1 : Int) = ((1 : Nat) : Int) from rfl, h]
  rw [Nat.testBit_eq_decide_div_mod_eq]
  by_cases e : X / 2 ^ j % 2 = 1
  · simp [e]
  · rw [show X / 2 ^ j % 4294967296 % 2 = 0 by omega]; simp [e]

theorem shr_two (X j : Nat) (hX : X < 4294967296) : bits .and .u32 ((X : Int) / 2 ^ j) 1 = if X.testBit j = true then 1 else 0 := by
  have h := shr_one X j
  have e : ((X / 2 ^ j : Nat) : Int) = (X : Int) / 2 ^ j := by simp
  have hle : X / 2 ^ j ≤ X := Nat.div_le_self _ _
  generalize X / 2 ^ j = y at h e hle
  rw [Int.emod_eq_of_lt (by omega) (by omega), e] at h
  exact h

set_option maxRecDepth 100000 in
set_option maxHeartbeats 4000000 in
theorem prm_node (r : Nat) (p : Ps) (x : Int) (v : Value) (w : World) (h : w.cell? ⟨r, 1, none⟩ = some (.int .i64 p.q.n)) (hb : nodeB p x = false) (A : Option Addr) (n c : Nat) (hv : v = .slice A n c) :
    Calls Try.prog 60 #[.pointer (some ⟨r, 0, none⟩), .int .i64 x, v] w fun e w' => e = .returned (.int .i64 2) ∧ w = w' := by
  subst hv
  have HB := Lib.hid hb
  clear hb
  go_enter Try.func60, Try.ntmps60
  go_upto_block 0 with (fail)
  go_step3
  go_wp2_with fail
  refine (node_any r p x w h).mono ?_
  rintro e w1 ⟨rfl, rfl⟩
  rw [HB.out]
  go_wp2_with fail
  try rw [Exit.noGoto_ret]
  go_ret
  exact ⟨rfl, rfl⟩

set_option maxRecDepth 100000 in
set_option maxHeartbeats 4000000 in
theorem prm_right (r : Nat) (p : Ps) (sv : Value) (mb sb : Nat) (x : Int) (v : Value) (l : List Vt) (w : World) (h : Blk w r 112 (prC p sv mb sb)) (hf1 : 1 ≤ p.f) (hf64 : p.f < 18446744073709551616) (hl : VtL w v l (fun _ => False))
    (hb : nodeB p x = true) (hr : rightV p.n p.d (p.f - 1) l = false) :
    Calls Try.prog 60 #[.pointer (some ⟨r, 0, none⟩), .int .i64 x, v] w fun e w' => e = .returned (.int .i64 91) ∧ Fr (fun _ => False) w w' := by
  have HR := Lib.hid (right_v r p sv mb sb v l w h hf1 hf64 hl)
  obtain ⟨⟨A, c, rfl, -⟩, -⟩ := hl
  have c1 : w.cell? ⟨r, 1, none⟩ = some (.int .i64 p.q.n) := h.cell 1 rfl
  have HB := Lib.hid hb
  have HQ := Lib.hid hr
  clear hb hr h
  go_enter Try.func60, Try.ntmps60
  go_upto_block 0 with (fail)
  go_step3
  go_wp2_with fail
  refine (node_any r p x w c1).mono ?_
  rintro e w1 ⟨rfl, rfl⟩
  rw [HB.out]
  go_wp2_with fail
  refine HR.out.mono ?_
  rintro e w1 ⟨rfl, hf1⟩
  rw [HQ.out]
  go_wp2_with fail
  try rw [Exit.noGoto_ret]
  go_ret
  exact ⟨rfl, hf1⟩

set_option maxRecDepth 100000 in
set_option maxHeartbeats 4000000 in
theorem prm_had (r : Nat) (p : Ps) (sv : Value) (mb sb : Nat) (x : Nat) (v : Value) (l : List Vt) (w : World) (h : Blk w r 112 (prC p sv mb sb)) (hf1 : 1 ≤ p.f) (hf64 : p.f < 18446744073709551616) (hst : p.set < 4096) (hx : x < 12) (hl : VtL w v l (fun _ => False))
    (hb : nodeB p x = true) (hr : rightV p.n p.d (p.f - 1) l = true) (ht : p.set.testBit x = true) :
    Calls Try.prog 60 #[.pointer (some ⟨r, 0, none⟩), .int .i64 x, v] w fun e w' => e = .returned (.int .i64 0) ∧ Fr (fun _ => False) w w' := by
  have HR := Lib.hid (right_v r p sv mb sb v l w h hf1 hf64 hl)
  obtain ⟨⟨A, c, rfl, -⟩, -⟩ := hl
  have c1 : w.cell? ⟨r, 1, none⟩ = some (.int .i64 p.q.n) := h.cell 1 rfl
  have c8 : w.cell? ⟨r, 8, none⟩ = some (.int .u32 p.set) := h.cell 8 rfl
  have HB := Lib.hid hb
  have HQ := Lib.hid hr
  have hv1 := shr_two p.set x (by omega)
  rw [ht] at hv1
  simp only [if_true] at hv1
  have hmin : min x 32 = x := by omega
  clear hb hr h ht
  go_enter Try.func60, Try.ntmps60
  go_upto_block 0 with (fail)
  go_step3
  go_wp2_with fail
  refine (node_any r p x w c1).mono ?_
  rintro e w1 ⟨rfl, rfl⟩
  rw [HB.out]
  go_wp2_with fail
  refine HR.out.mono ?_
  rintro e w1 ⟨rfl, hf1⟩
  rw [HQ.out]
  have c8' := hf1.cell c8 (fun h => h)
  clear c8 c1
  go_wp2_with fail
  try rw [Exit.noGoto_ret]
  go_ret
  exact ⟨rfl, hf1⟩
end Go.Proofs.Ytkpfgoalohbfeaa

/- Promise: what is told, put. -/
namespace Go.Proofs.Ytkpfgoalohbfeaa
open Go.RowKit

theorem putM_none {x : Int} {mu : Nat → Option (Vt × Int)} {v : Vt} (h : mu v.s = none) : putM x mu v = upd mu v.s (v, x) := by unfold putM; rw [h]
theorem putM_some {x : Int} {mu : Nat → Option (Vt × Int)} {v m : Vt} {nd : Int} (h : mu v.s = some (m, nd)) : putM x mu v = if lessB v.n v.d m.n m.d || (decide (v.n = m.n) && decide (v.d = m.d) && decide (nd < x)) then mu else upd mu v.s (v, x) := by unfold putM; rw [h]
theorem PX.mono' {w : World} {G : Nat → Prop} {r c : Nat} {p : Ps} {sv : Value} {mb sb : Nat} {mm sm : Nat → Option Value} (h : PX w r p c G sv mb sb mm sm) {c' : Nat} (hc : c ≤ c') : PX w r p c' G sv mb sb mm sm :=
  ⟨h.blk, h.site, h.siteG, h.rG, h.mbG, h.sbG, h.ne, h.mus.mono hc, h.sls.mono hc, h.mu, h.sl, h.inj, h.wf⟩

set_option maxRecDepth 100000 in
set_option maxHeartbeats 8000000 in
theorem prm_put (r : Nat) (p : Ps) (c : Nat) (G : Nat → Prop) (sv : Value) (mb sb : Nat) (mm sm : Nat → Option Value) (x : Nat) (v : Value) (l : List Vt) (w : World) (h : PX w r p c G sv mb sb mm sm) (hG : ∀ j, G j → j < w.heap.size) (hc : c + l.length < maxLen) (hx : x < 12)
    (hl0 : VtL w v l (fun _ => False)) (hl : VtL w v l G) (hb : nodeB p x = true) (hr : rightV p.n p.d (p.f - 1) l = true) (ht : p.set.testBit x = false) :
    Calls Try.prog 60 #[.pointer (some ⟨r, 0, none⟩), .int .i64 x, v] w fun e w' => e = .returned (.int .i64 0) ∧
      ∃ G', PR w' r { p with set := p.set ||| 2 ^ x, mu := l.foldl (putM x) p.mu } (c + l.length) G' ∧ Nx G G' w w' ∧ Fr G w w' := by
  have hst := h.wf.st
  have HR := Lib.hid (right_v r p sv mb sb v l w h.blk h.wf.f1 h.wf.f64 hl0)
  have hRV := Lib.hid (rightV_get p.n p.d l (p.f - 1) hr)
  obtain ⟨⟨A, vc, rfl, hl1⟩, hl2⟩ := hl
  unfold maxLen at hl2
  have HL := Lib.hid hl1
  clear hl1 hl0
  have c1 : w.cell? ⟨r, 1, none⟩ = some (.int .i64 p.q.n) := h.blk.cell 1 rfl
  have HB := Lib.hid hb
  have HQ := Lib.hid hr
  have hv1 := shr_two p.set x (by omega)
  rw [ht] at hv1
  simp only [Bool.false_eq_true, if_false] at hv1
  have hmin : min x 32 = x := by omega
  have HX := Lib.hid h
  have HC := Lib.hid hc
  clear hb hr ht h hc
  go_enter Try.func60, Try.ntmps60
  go_upto_block 0 with (fail)
  go_step3
  go_wp2_with fail
  refine (node_any r p x w c1).mono ?_
  rintro e w1 ⟨rfl, rfl⟩
  rw [HB.out]
  go_wp2_with fail
  refine HR.out.mono ?_
  rintro e w1 ⟨rfl, hf1⟩
  rw [HQ.out]
  have hX1 := HX.out.fr hf1 (fun _ _ _ h => h)
  have c8 : w1.cell? ⟨r, 8, none⟩ = some (.int .u32 p.set) := hX1.blk.cell 8 rfl
  have f8 := hX1.blk.frozen 8
  have HP := Lib.hid (hX1.setSet (p.set ||| 2 ^ x) (or_lt p.set x hst hx))
  clear c1 hX1
  go_upto_region 9 with (fail)
  go_region
  rw [or_bit p.set x hst hx]
  obtain ⟨S, hS⟩ : ∃ S, S = p.set ||| 2 ^ x := ⟨_, rfl⟩
  rw [← hS] at HP ⊢
  obtain ⟨w2, hw2⟩ : ∃ w2, w2 = (w1.setCell ⟨r, 8, none⟩ (.int .u32 S)).drew := ⟨_, rfl⟩
  rw [← hw2]
  have hP2 : PX w2 r { p with set := S } c G sv mb sb mm sm := by rw [hw2]; exact HP.out.fr (Fr.refl (fun _ => False) _).drew (fun _ _ _ h => h)
  have hf2 : Fr G w w2 := by rw [hw2]; exact (hf1.none_up.tr ((Fr.set1 w1 r 8 _).mono (fun k _ e => by subst e; exact HX.out.rG))).drew
  have HSS := Lib.hid hS
  clear hS hw2 c8 f8 HP hv1 hmin hf1
  go_wp2_with fail
  go_step3
  go_wp2_with fail
  go_loopg [45] l.length (fun g x45 wr => ∃ (j : Nat) (mm' : Nat → Option Value) (G' : Nat → Prop), j + g = l.length ∧ x45 = .int .i64 j ∧ PX wr r { p with set := S, mu := (l.take j).foldl (putM x) p.mu } (c + j) G' sv mb sb mm' sm ∧ Nx G G' w wr ∧ Fr G w wr)
  case atStart => exact ⟨0, mm, G, by omega, rfl, hP2, Nx.refl _ _ _, hf2⟩
  case round =>
    clear hP2 hf2
    obtain ⟨j, mm', G', hj, rfl, hP, hN, hfr⟩ := hrel
    have HJ := Lib.hid hj
    have hj' : j ≤ l.length := by omega
    clear hj
    by_cases hlt : j < l.length
    · obtain ⟨u, hu⟩ : ∃ u, l[j]? = some u := ⟨_, List.getElem?_eq_getElem hlt⟩
      obtain ⟨b, off, s, rfl, hbG, hat, hsG⟩ := HL.out j u hu
      obtain ⟨-, -, -, hul⟩ := hRV.out j u hu
      have htk := Lib.hid (show l.take (j + 1) = l.take j ++ [u] by rw [List.take_add_one, hu]; rfl)
      have hat' := hat.fr hfr hbG hsG
      have hby := hat'.by_
      have hby0 := hby
      obtain ⟨sa, sc, rfl, -, -⟩ := hby0
      have hs64 := hat.s64
      have q0 := hat'.c0
      have q1 := hat'.c1
      have q2 := hat'.c2
      have q3 := hat'.c3
      clear hat hat' hu hsG hbG
      obtain ⟨w3, hw3⟩ : ∃ w3, w3 = wr.alloc (.cells #[.int .u64 u.s, .int .u64 u.n, .int .i64 u.d, .slice sa u.v.length sc] 46) := ⟨_, rfl⟩
      have hf3 : Fr (fun _ => False) wr w3 := by rw [hw3]; exact (Fr.refl _ wr).alloc _
      have hb3 : Blk w3 wr.heap.size 46 #[.int .u64 u.s, .int .u64 u.n, .int .i64 u.d, .slice sa u.v.length sc] := by rw [hw3]; exact Blk.new _ _ _
      have hP3 := hP.fr hf3 (fun _ _ _ h => h)
      have hby3 := hby.fr hf3 (fun _ _ h => h)
      have hG' := hN.lt hG hfr.size
      have hqG : ¬ G' wr.heap.size := fun h => by have := hG' _ h; omega
      have HW3 := Lib.hid hw3
      have F3 := Lib.hid (And.intro hfr (And.intro hf3 hN))
      clear hw3 hf3 hP hby hN hfr
      go_upto_region 13 with (fail)
      rw [← HW3.out]
      clear HW3 q0 q1 q2 q3
      obtain ⟨q, hq'⟩ : ∃ q, q = wr.heap.size := ⟨_, rfl⟩
      rw [← hq'] at hb3 hqG ⊢
      have HQ' := Lib.hid hq'
      clear hq'
      have b0 : w3.cell? ⟨q, 0, none⟩ = some (.int .u64 u.s) := hb3.cell 0 rfl
      have c9 : w3.cell? ⟨r, 9, none⟩ = some (.map (some mb)) := hP3.blk.cell 9 rfl
      have hlk := hP3.mus.look key64 Try.underlying42 Try.underlying108 (zero_must w3) u.s hs64
      have hlk2 := (hP3.mus.fr (Fr.refl (fun _ => False) w3).drew (fun h => h)).look key64 Try.underlying42 Try.underlying108 (zero_must w3.drew) u.s hs64
      obtain ⟨Z, hZ⟩ : ∃ Z, Z = Obj.cells #[.int .u64 0, .int .u64 0, .int .i64 0, .slice none 0 0, .int .i64 0] 125 := ⟨_, rfl⟩
      have hPz := hP3.fr (((Fr.refl (fun _ => False) w3).alloc Z).drew) (fun _ _ _ h => h)
      have hlk3 := hPz.mus.look key64 Try.underlying42 Try.underlying108 (zero_must _) u.s hs64
      have b0z := al_cell b0 Z
      have c9z := al_cell c9 Z
      rw [hZ] at hlk3 b0z c9z
      clear hPz hZ
      rcases hP3.mu u.s with ⟨hm, hy⟩ | ⟨m, nd, ms, hm, hy, ho⟩
      · rw [hy] at hlk hlk2 hlk3
        simp only [Option.getD_none, Option.isSome_none] at hlk hlk2 hlk3
        have HP3 := Lib.hid hP3
        have HM := Lib.hid (And.intro hm hy)
        clear hP3 hm hy
        go_region
        all_goals
          obtain ⟨w4, hw4⟩ : ∃ w4, w4 = (w3.alloc (.cells #[.int .u64 0, .int .u64 0, .int .i64 0, .slice none 0 0, .int .i64 0] 125)).drew := ⟨_, rfl⟩
          rw [← hw4]
          have hf4 : Fr (fun _ => False) w3 w4 := by rw [hw4]; exact ((Fr.refl _ w3).alloc _).drew
          have hP4 := HP3.out.fr hf4 (fun _ _ _ h => h)
          have hb4 := hb3.fr hf4 (fun h => h)
          have hby4 := hby3.fr hf4 (fun _ _ h => h)
          have HW4 := Lib.hid hw4
          have HF4 := Lib.hid hf4
          clear hw4 hf4 hlk hlk2 hlk3 b0 b0z c9 c9z

          have a0 : (w4.alloc (.cells #[] 5)).cell? ⟨q, 3, none⟩ = some (.slice sa u.v.length sc) := al_cell (hb4.cell 3 rfl) _
          go_wp2_with (first
            | (at_builtin
               refine wpList_bi2 rfl .append _ _ _ _ _ rfl rfl rfl _ (ap_new w4 _ u.v hby4 (by omega) _) ?_
               rintro v' w5 ⟨g, cap, rfl, hg, hgl, ho5, hf5⟩
               have hb5 := hb4.fr hf5 (fun h => h)
               clear a0
               have a0 : w5.cell? ⟨q, 3, none⟩ = some (.slice sa u.v.length sc) := hb5.cell 3 rfl
               have a1 := hb5.frozen 3))
          clear a0 a1
          obtain ⟨w6, hw6⟩ : ∃ w6, w6 = w5.setCell ⟨q, 3, none⟩ (.slice (some ⟨g, 0, none⟩) u.v.length cap) := ⟨_, rfl⟩
          rw [← hw6]
          have hf6 : Fr (fun k => k = q) w5 w6 := by rw [hw6]; exact Fr.set1 _ _ _ _
          have hb6 : Blk w6 q 46 #[.int .u64 u.s, .int .u64 u.n, .int .i64 u.d, .slice (some ⟨g, 0, none⟩) u.v.length cap] := by
            have := hb5.set_ 3 (.slice (some ⟨g, 0, none⟩) u.v.length cap)
            rw [hw6]
            simpa using this
          have hq4 : q < w4.heap.size := hb4.lt
          have hP6 : PX w6 r _ (c + j) (fun k => G' k ∨ k = g) sv mb sb mm' sm := ((hP4.fr hf5 (fun _ _ _ h => h)).fr hf6 (fun k _ hk e => hqG (e ▸ hk))).up (fun k _ hk => .inl hk)
          have ho6 : OwB w6 (fun k => G' k ∨ k = g) (.slice (some ⟨g, 0, none⟩) u.v.length cap) u.v := ⟨own_fr ho5 hf6 (fun k hk => by simp [Value.ownBlock] at hk; omega), fun k hk => by simp [Value.ownBlock] at hk; exact .inr hk.symm⟩
          have b0 : w6.cell? ⟨q, 0, none⟩ = some (.int .u64 u.s) := hb6.cell 0 rfl
          have b1 : w6.cell? ⟨q, 1, none⟩ = some (.int .u64 u.n) := hb6.cell 1 rfl
          have b2 : w6.cell? ⟨q, 2, none⟩ = some (.int .i64 u.d) := hb6.cell 2 rfl
          have b3 : w6.cell? ⟨q, 3, none⟩ = some (.slice (some ⟨g, 0, none⟩) u.v.length cap) := hb6.cell 3 rfl
          have c9 : w6.cell? ⟨r, 9, none⟩ = some (.map (some mb)) := hP6.blk.cell 9 rfl
          have hM6 := hP6.mus.fr ((Fr.refl (fun _ => False) w6).drew) (fun h => h)
          have hcj : c + j < maxLen := by have := HC.out; omega
          have H6 := Lib.hid (And.intro hP6 (And.intro ho6 (And.intro hf5 hf6)))
          clear hw6 hf6 hP6 ho6 ho5 hf5 hb5
          obtain ⟨w7, hrun, hm7, hf7, hz7⟩ := hM6.update key64 Try.underlying42 Try.underlying108 hcj u.s hs64 (muV u x (.slice (some ⟨g, 0, none⟩) u.v.length cap))
          have H7 := Lib.hid (And.intro hm7 (And.intro hf7 hz7))
          unfold muV at hrun
          clear hm7 hf7 hz7 hM6
          go_region
          all_goals
            clear b0 b1 b2 b3 c9 hrun
            obtain ⟨hm7, hf7, hz7⟩ := H7.out
            obtain ⟨hP6, ho6, hf5, hf6⟩ := H6.out
            have hP7 := hP6.putMu ho6 hul hm7 hf7.of_drew hs64
            obtain ⟨hfr, hf3, hN⟩ := F3.out
            have hF : Fr G w w7 := by
              have e1 := ((hfr.tr hf3.none_up).tr HF4.out.none_up).tr hf5.none_up
              have e2 : Fr G w w6 := e1.trans hf6 (fun k hk h => by
                rcases h with h | h
                · exact h
                · have := HQ'.out; have := hfr.size; omega)
              exact e2.trans hf7.of_drew (fun k hk h => by
                rcases h with h | h
                · exact h
                · subst h; exact HX.out.mbG)
            have hNx : Nx G (fun k => G' k ∨ k = g) w w7 := fun k hk => by
              have e7 := hf7.of_drew.size
              have e6 := hf6.size
              have e5 := hf5.size
              have e4 := HF4.out.size
              have e3 := hf3.size
              have e0 := hfr.size
              rcases hk with hk | hk
              · rcases hN k hk with h | h
                · exact .inl h
                · exact .inr ⟨h.1, by omega⟩
              · exact .inr ⟨by omega, by omega⟩
            have hput : (l.take (j + 1)).foldl (putM x) p.mu = upd ((l.take j).foldl (putM x) p.mu) u.s (u, (x : Int)) := by
              rw [htk.out, List.foldl_append]
              exact putM_none HM.out.1
            have HFin := Lib.hid (And.intro hP7 (And.intro hF (And.intro hNx hput)))
            clear hP7 hF hNx hput hP6 ho6 hf5 hf6 hfr hf3 hN hm7 hf7 hz7
            go_wp2_with fail
            go_roundg (l.length - (j + 1))
            case measure => have := HJ.out; omega
            case rel =>
              obtain ⟨hP7, hF, hNx, hput⟩ := HFin.out
              refine ⟨j + 1, upd mm' u.s (muV u x (.slice (some ⟨g, 0, none⟩) u.v.length cap)), (fun k => G' k ∨ k = g), by have := HJ.out; omega, by go_num, ?_, hNx, hF⟩
              rw [hput]
              exact hP7
      · rw [hy] at hlk hlk2 hlk3
        have hmb := ho.byt
        obtain ⟨ma, mc, rfl, -, -⟩ := hmb
        simp only [Option.getD_some, Option.isSome_some, muV] at hlk hlk2 hlk3
        have HP3 := Lib.hid hP3
        have HM := Lib.hid (And.intro hm hy)
        clear hP3 hm hy ho
        go_region
        all_goals
          obtain ⟨w4, hw4⟩ : ∃ w4, w4 = (w3.alloc (.cells #[.int .u64 m.s, .int .u64 m.n, .int .i64 m.d, .slice ma m.v.length mc, .int .i64 nd] 125)).drew := ⟨_, rfl⟩
          rw [← hw4]
          have hf4 : Fr (fun _ => False) w3 w4 := by rw [hw4]; exact ((Fr.refl _ w3).alloc _).drew
          have hP4 := HP3.out.fr hf4 (fun _ _ _ h => h)
          have hb4 := hb3.fr hf4 (fun h => h)
          have hby4 := hby3.fr hf4 (fun _ _ h => h)
          have HW4 := Lib.hid hw4
          have hbm : Blk w4 w3.heap.size 125 #[.int .u64 m.s, .int .u64 m.n, .int .i64 m.d, .slice ma m.v.length mc, .int .i64 nd] := by rw [hw4]; exact Blk.new _ _ _
          have HF4 := Lib.hid hf4
          clear hw4 hf4 hlk hlk2 hlk3 b0 b0z c9 c9z
          obtain ⟨qm, hqm⟩ : ∃ qm, qm = w3.heap.size := ⟨_, rfl⟩
          rw [← hqm] at hbm ⊢
          clear hqm
          have x1 : w4.cell? ⟨q, 1, none⟩ = some (.int .u64 u.n) := hb4.cell 1 rfl
          have x2 : w4.cell? ⟨q, 2, none⟩ = some (.int .i64 u.d) := hb4.cell 2 rfl
          have y1 : w4.cell? ⟨qm, 1, none⟩ = some (.int .u64 m.n) := hbm.cell 1 rfl
          have y2 : w4.cell? ⟨qm, 2, none⟩ = some (.int .i64 m.d) := hbm.cell 2 rfl
          go_wp2_with fail
          refine (less_any u.n u.d m.n m.d w4).mono ?_
          rintro e w5 ⟨rfl, hf5⟩
          clear x1 x2 y1 y2
          have hb5 := hb4.fr hf5 (fun h => h)
          have hbm5 := hbm.fr hf5 (fun h => h)
          have x1 : w5.cell? ⟨q, 1, none⟩ = some (.int .u64 u.n) := hb5.cell 1 rfl
          have x2 : w5.cell? ⟨q, 2, none⟩ = some (.int .i64 u.d) := hb5.cell 2 rfl
          have y1 : w5.cell? ⟨qm, 1, none⟩ = some (.int .u64 m.n) := hbm5.cell 1 rfl
          have y2 : w5.cell? ⟨qm, 2, none⟩ = some (.int .i64 m.d) := hbm5.cell 2 rfl
          have y4 : w5.cell? ⟨qm, 4, none⟩ = some (.int .i64 nd) := hbm5.cell 4 rfl
          cases hles : lessB u.n u.d m.n m.d with
          | true =>
            have HLS := Lib.hid hles
            clear hles
            obtain ⟨hfr, hf3, hN⟩ := F3.out
            have hf35 := HF4.out.tr hf5
            have hP5 := HP3.out.fr hf35 (fun _ _ _ h => h)
            have hF5 : Fr G w w5 := (hfr.tr hf3.none_up).tr hf35.none_up
            have hN5 : Nx G G' w w5 := fun k hk => by
              have e1 := (hf3.tr hf35).size
              rcases hN k hk with h | h
              · exact .inl h
              · exact .inr ⟨h.1, by omega⟩
            have hput : (l.take (j + 1)).foldl (putM x) p.mu = (l.take j).foldl (putM x) p.mu := by
              rw [htk.out, List.foldl_append]
              exact (putM_some HM.out.1).trans (by rw [HLS.out]; rfl)
            have HFin := Lib.hid (And.intro hP5 (And.intro hF5 (And.intro hN5 hput)))
            clear hP5 hF5 hN5 hput hfr hf3 hN hf35 hf5 x1 x2 y1 y2 y4
            go_wp2_with fail
            go_roundg (l.length - (j + 1))
            case measure => have := HJ.out; omega
            case rel =>
              obtain ⟨hP7, hF, hNx, hput⟩ := HFin.out
              refine ⟨j + 1, mm', G', by have := HJ.out; omega, by go_num, ?_, hNx, hF⟩
              rw [hput]
              exact hP7.mono' (by omega)
          | false =>
            have HLS := Lib.hid hles
            clear hles
            by_cases h1 : (u.n : Int) = (m.n : Int)
            · by_cases h2 : u.d = m.d
              · by_cases h3 : nd < (x : Int)
                · have HH := Lib.hid (show (decide (u.n = m.n) && decide (u.d = m.d) && decide (nd < (x : Int))) = true by simp [h2, h3]; omega)
                  go_upto_region 19 with (fail)
                  clear h1 h2 h3
                  obtain ⟨hfr, hf3, hN⟩ := F3.out
                  have hf35 := HF4.out.tr hf5
                  have hP5 := HP3.out.fr hf35 (fun _ _ _ h => h)
                  have hF5 : Fr G w w5 := (hfr.tr hf3.none_up).tr hf35.none_up
                  have hN5 : Nx G G' w w5 := fun k hk => by
                    have e1 := (hf3.tr hf35).size
                    rcases hN k hk with h | h
                    · exact .inl h
                    · exact .inr ⟨h.1, by omega⟩
                  have hput : (l.take (j + 1)).foldl (putM x) p.mu = (l.take j).foldl (putM x) p.mu := by
                    rw [htk.out, List.foldl_append]
                    exact (putM_some HM.out.1).trans (by rw [HLS.out, HH.out]; rfl)
                  have HFin := Lib.hid (And.intro hP5 (And.intro hF5 (And.intro hN5 hput)))
                  clear hP5 hF5 hN5 hput hfr hf3 hN hf35 hf5 x1 x2 y1 y2 y4
                  go_wp2_with fail
                  go_roundg (l.length - (j + 1))
                  case measure => have := HJ.out; omega
                  case rel =>
                    obtain ⟨hP7, hF, hNx, hput⟩ := HFin.out
                    refine ⟨j + 1, mm', G', by have := HJ.out; omega, by go_num, ?_, hNx, hF⟩
                    rw [hput]
                    exact hP7.mono' (by omega)
                · have HH := Lib.hid (show (decide (u.n = m.n) && decide (u.d = m.d) && decide (nd < (x : Int))) = false by simp [h3])
                  go_upto_region 17 with (fail)
                  clear h1 h2 h3
                  clear x1 x2 y1 y2 y4 hb4 hbm hbm5
                  have hby5 := hby4.fr hf5 (fun _ _ h => h)
                  have hP5 := hP4.fr hf5 (fun _ _ _ h => h)
                  have HF5 := Lib.hid (HF4.out.tr hf5)
                  clear hP4 hby4 hf5 HF4
                  obtain ⟨w4x, hw4x⟩ : ∃ w4x, w4x = w5 := ⟨_, rfl⟩
                  rw [← hw4x] at hb5 hby5 hP5 HF5 ⊢
                  have hb5x := hb5
                  clear hb5
                  clear hw4x
                  have a0 : (w4x.alloc (.cells #[] 5)).cell? ⟨q, 3, none⟩ = some (.slice sa u.v.length sc) := al_cell (hb5x.cell 3 rfl) _
                  go_wp2_with (first
                    | (at_builtin
                       refine wpList_bi2 rfl .append _ _ _ _ _ rfl rfl rfl _ (ap_new w4x _ u.v hby5 (by omega) _) ?_
                       rintro v' w5 ⟨g, cap, rfl, hg, hgl, ho5, hf5⟩
                       have hb5 := hb5x.fr hf5 (fun h => h)
                       clear a0
                       have a0 : w5.cell? ⟨q, 3, none⟩ = some (.slice sa u.v.length sc) := hb5.cell 3 rfl
                       have a1 := hb5.frozen 3))
                  clear a0 a1
                  obtain ⟨w6, hw6⟩ : ∃ w6, w6 = w5.setCell ⟨q, 3, none⟩ (.slice (some ⟨g, 0, none⟩) u.v.length cap) := ⟨_, rfl⟩
                  rw [← hw6]
                  have hf6 : Fr (fun k => k = q) w5 w6 := by rw [hw6]; exact Fr.set1 _ _ _ _
                  have hb6 : Blk w6 q 46 #[.int .u64 u.s, .int .u64 u.n, .int .i64 u.d, .slice (some ⟨g, 0, none⟩) u.v.length cap] := by
                    have := hb5.set_ 3 (.slice (some ⟨g, 0, none⟩) u.v.length cap)
                    rw [hw6]
                    simpa using this
                  have hq4 : q < w4x.heap.size := hb5x.lt
                  have hP6 : PX w6 r _ (c + j) (fun k => G' k ∨ k = g) sv mb sb mm' sm := ((hP5.fr hf5 (fun _ _ _ h => h)).fr hf6 (fun k _ hk e => hqG (e ▸ hk))).up (fun k _ hk => .inl hk)
                  have ho6 : OwB w6 (fun k => G' k ∨ k = g) (.slice (some ⟨g, 0, none⟩) u.v.length cap) u.v := ⟨own_fr ho5 hf6 (fun k hk => by simp [Value.ownBlock] at hk; omega), fun k hk => by simp [Value.ownBlock] at hk; exact .inr hk.symm⟩
                  have b0 : w6.cell? ⟨q, 0, none⟩ = some (.int .u64 u.s) := hb6.cell 0 rfl
                  have b1 : w6.cell? ⟨q, 1, none⟩ = some (.int .u64 u.n) := hb6.cell 1 rfl
                  have b2 : w6.cell? ⟨q, 2, none⟩ = some (.int .i64 u.d) := hb6.cell 2 rfl
                  have b3 : w6.cell? ⟨q, 3, none⟩ = some (.slice (some ⟨g, 0, none⟩) u.v.length cap) := hb6.cell 3 rfl
                  have c9 : w6.cell? ⟨r, 9, none⟩ = some (.map (some mb)) := hP6.blk.cell 9 rfl
                  have hM6 := hP6.mus.fr ((Fr.refl (fun _ => False) w6).drew) (fun h => h)
                  have hcj : c + j < maxLen := by have := HC.out; omega
                  have H6 := Lib.hid (And.intro hP6 (And.intro ho6 (And.intro hf5 hf6)))
                  clear hw6 hf6 hP6 ho6 ho5 hf5 hb5
                  obtain ⟨w7, hrun, hm7, hf7, hz7⟩ := hM6.update key64 Try.underlying42 Try.underlying108 hcj u.s hs64 (muV u x (.slice (some ⟨g, 0, none⟩) u.v.length cap))
                  have H7 := Lib.hid (And.intro hm7 (And.intro hf7 hz7))
                  unfold muV at hrun
                  clear hm7 hf7 hz7 hM6
                  go_region
                  all_goals
                    clear b0 b1 b2 b3 c9 hrun
                    obtain ⟨hm7, hf7, hz7⟩ := H7.out
                    obtain ⟨hP6, ho6, hf5, hf6⟩ := H6.out
                    have hP7 := hP6.putMu ho6 hul hm7 hf7.of_drew hs64
                    obtain ⟨hfr, hf3, hN⟩ := F3.out
                    have hF : Fr G w w7 := by
                      have e1 := ((hfr.tr hf3.none_up).tr HF5.out.none_up).tr hf5.none_up
                      have e2 : Fr G w w6 := e1.trans hf6 (fun k hk h => by
                        rcases h with h | h
                        · exact h
                        · have := HQ'.out; have := hfr.size; omega)
                      exact e2.trans hf7.of_drew (fun k hk h => by
                        rcases h with h | h
                        · exact h
                        · subst h; exact HX.out.mbG)
                    have hNx : Nx G (fun k => G' k ∨ k = g) w w7 := fun k hk => by
                      have e7 := hf7.of_drew.size
                      have e6 := hf6.size
                      have e5 := hf5.size
                      have e4 := HF5.out.size
                      have e3 := hf3.size
                      have e0 := hfr.size
                      rcases hk with hk | hk
                      · rcases hN k hk with h | h
                        · exact .inl h
                        · exact .inr ⟨h.1, by omega⟩
                      · exact .inr ⟨by omega, by omega⟩
                    have hput : (l.take (j + 1)).foldl (putM x) p.mu = upd ((l.take j).foldl (putM x) p.mu) u.s (u, (x : Int)) := by
                      rw [htk.out, List.foldl_append]
                      exact (putM_some HM.out.1).trans (by rw [HLS.out, HH.out]; rfl)
                    have HFin := Lib.hid (And.intro hP7 (And.intro hF (And.intro hNx hput)))
                    clear hP7 hF hNx hput hP6 ho6 hf5 hf6 hfr hf3 hN hm7 hf7 hz7
                    go_wp2_with fail
                    go_roundg (l.length - (j + 1))
                    case measure => have := HJ.out; omega
                    case rel =>
                      obtain ⟨hP7, hF, hNx, hput⟩ := HFin.out
                      refine ⟨j + 1, upd mm' u.s (muV u x (.slice (some ⟨g, 0, none⟩) u.v.length cap)), (fun k => G' k ∨ k = g), by have := HJ.out; omega, by go_num, ?_, hNx, hF⟩
                      rw [hput]
                      exact hP7
              · have HH := Lib.hid (show (decide (u.n = m.n) && decide (u.d = m.d) && decide (nd < (x : Int))) = false by simp [h2])
                go_upto_region 17 with (fail)
                clear h1 h2
                clear x1 x2 y1 y2 y4 hb4 hbm hbm5
                have hby5 := hby4.fr hf5 (fun _ _ h => h)
                have hP5 := hP4.fr hf5 (fun _ _ _ h => h)
                have HF5 := Lib.hid (HF4.out.tr hf5)
                clear hP4 hby4 hf5 HF4
                obtain ⟨w4x, hw4x⟩ : ∃ w4x, w4x = w5 := ⟨_, rfl⟩
                rw [← hw4x] at hb5 hby5 hP5 HF5 ⊢
                have hb5x := hb5
                clear hb5
                clear hw4x
                have a0 : (w4x.alloc (.cells #[] 5)).cell? ⟨q, 3, none⟩ = some (.slice sa u.v.length sc) := al_cell (hb5x.cell 3 rfl) _
                go_wp2_with (first
                  | (at_builtin
                     refine wpList_bi2 rfl .append _ _ _ _ _ rfl rfl rfl _ (ap_new w4x _ u.v hby5 (by omega) _) ?_
                     rintro v' w5 ⟨g, cap, rfl, hg, hgl, ho5, hf5⟩
                     have hb5 := hb5x.fr hf5 (fun h => h)
                     clear a0
                     have a0 : w5.cell? ⟨q, 3, none⟩ = some (.slice sa u.v.length sc) := hb5.cell 3 rfl
                     have a1 := hb5.frozen 3))
                clear a0 a1
                obtain ⟨w6, hw6⟩ : ∃ w6, w6 = w5.setCell ⟨q, 3, none⟩ (.slice (some ⟨g, 0, none⟩) u.v.length cap) := ⟨_, rfl⟩
                rw [← hw6]
                have hf6 : Fr (fun k => k = q) w5 w6 := by rw [hw6]; exact Fr.set1 _ _ _ _
                have hb6 : Blk w6 q 46 #[.int .u64 u.s, .int .u64 u.n, .int .i64 u.d, .slice (some ⟨g, 0, none⟩) u.v.length cap] := by
                  have := hb5.set_ 3 (.slice (some ⟨g, 0, none⟩) u.v.length cap)
                  rw [hw6]
                  simpa using this
                have hq4 : q < w4x.heap.size := hb5x.lt
                have hP6 : PX w6 r _ (c + j) (fun k => G' k ∨ k = g) sv mb sb mm' sm := ((hP5.fr hf5 (fun _ _ _ h => h)).fr hf6 (fun k _ hk e => hqG (e ▸ hk))).up (fun k _ hk => .inl hk)
                have ho6 : OwB w6 (fun k => G' k ∨ k = g) (.slice (some ⟨g, 0, none⟩) u.v.length cap) u.v := ⟨own_fr ho5 hf6 (fun k hk => by simp [Value.ownBlock] at hk; omega), fun k hk => by simp [Value.ownBlock] at hk; exact .inr hk.symm⟩
                have b0 : w6.cell? ⟨q, 0, none⟩ = some (.int .u64 u.s) := hb6.cell 0 rfl
                have b1 : w6.cell? ⟨q, 1, none⟩ = some (.int .u64 u.n) := hb6.cell 1 rfl
                have b2 : w6.cell? ⟨q, 2, none⟩ = some (.int .i64 u.d) := hb6.cell 2 rfl
                have b3 : w6.cell? ⟨q, 3, none⟩ = some (.slice (some ⟨g, 0, none⟩) u.v.length cap) := hb6.cell 3 rfl
                have c9 : w6.cell? ⟨r, 9, none⟩ = some (.map (some mb)) := hP6.blk.cell 9 rfl
                have hM6 := hP6.mus.fr ((Fr.refl (fun _ => False) w6).drew) (fun h => h)
                have hcj : c + j < maxLen := by have := HC.out; omega
                have H6 := Lib.hid (And.intro hP6 (And.intro ho6 (And.intro hf5 hf6)))
                clear hw6 hf6 hP6 ho6 ho5 hf5 hb5
                obtain ⟨w7, hrun, hm7, hf7, hz7⟩ := hM6.update key64 Try.underlying42 Try.underlying108 hcj u.s hs64 (muV u x (.slice (some ⟨g, 0, none⟩) u.v.length cap))
                have H7 := Lib.hid (And.intro hm7 (And.intro hf7 hz7))
                unfold muV at hrun
                clear hm7 hf7 hz7 hM6
                go_region
                all_goals
                  clear b0 b1 b2 b3 c9 hrun
                  obtain ⟨hm7, hf7, hz7⟩ := H7.out
                  obtain ⟨hP6, ho6, hf5, hf6⟩ := H6.out
                  have hP7 := hP6.putMu ho6 hul hm7 hf7.of_drew hs64
                  obtain ⟨hfr, hf3, hN⟩ := F3.out
                  have hF : Fr G w w7 := by
                    have e1 := ((hfr.tr hf3.none_up).tr HF5.out.none_up).tr hf5.none_up
                    have e2 : Fr G w w6 := e1.trans hf6 (fun k hk h => by
                      rcases h with h | h
                      · exact h
                      · have := HQ'.out; have := hfr.size; omega)
                    exact e2.trans hf7.of_drew (fun k hk h => by
                      rcases h with h | h
                      · exact h
                      · subst h; exact HX.out.mbG)
                  have hNx : Nx G (fun k => G' k ∨ k = g) w w7 := fun k hk => by
                    have e7 := hf7.of_drew.size
                    have e6 := hf6.size
                    have e5 := hf5.size
                    have e4 := HF5.out.size
                    have e3 := hf3.size
                    have e0 := hfr.size
                    rcases hk with hk | hk
                    · rcases hN k hk with h | h
                      · exact .inl h
                      · exact .inr ⟨h.1, by omega⟩
                    · exact .inr ⟨by omega, by omega⟩
                  have hput : (l.take (j + 1)).foldl (putM x) p.mu = upd ((l.take j).foldl (putM x) p.mu) u.s (u, (x : Int)) := by
                    rw [htk.out, List.foldl_append]
                    exact (putM_some HM.out.1).trans (by rw [HLS.out, HH.out]; rfl)
                  have HFin := Lib.hid (And.intro hP7 (And.intro hF (And.intro hNx hput)))
                  clear hP7 hF hNx hput hP6 ho6 hf5 hf6 hfr hf3 hN hm7 hf7 hz7
                  go_wp2_with fail
                  go_roundg (l.length - (j + 1))
                  case measure => have := HJ.out; omega
                  case rel =>
                    obtain ⟨hP7, hF, hNx, hput⟩ := HFin.out
                    refine ⟨j + 1, upd mm' u.s (muV u x (.slice (some ⟨g, 0, none⟩) u.v.length cap)), (fun k => G' k ∨ k = g), by have := HJ.out; omega, by go_num, ?_, hNx, hF⟩
                    rw [hput]
                    exact hP7
            · have HH := Lib.hid (show (decide (u.n = m.n) && decide (u.d = m.d) && decide (nd < (x : Int))) = false by simp; omega)
              go_upto_region 17 with (fail)
              clear h1
              clear x1 x2 y1 y2 y4 hb4 hbm hbm5
              have hby5 := hby4.fr hf5 (fun _ _ h => h)
              have hP5 := hP4.fr hf5 (fun _ _ _ h => h)
              have HF5 := Lib.hid (HF4.out.tr hf5)
              clear hP4 hby4 hf5 HF4
              obtain ⟨w4x, hw4x⟩ : ∃ w4x, w4x = w5 := ⟨_, rfl⟩
              rw [← hw4x] at hb5 hby5 hP5 HF5 ⊢
              have hb5x := hb5
              clear hb5
              clear hw4x
              have a0 : (w4x.alloc (.cells #[] 5)).cell? ⟨q, 3, none⟩ = some (.slice sa u.v.length sc) := al_cell (hb5x.cell 3 rfl) _
              go_wp2_with (first
                | (at_builtin
                   refine wpList_bi2 rfl .append _ _ _ _ _ rfl rfl rfl _ (ap_new w4x _ u.v hby5 (by omega) _) ?_
                   rintro v' w5 ⟨g, cap, rfl, hg, hgl, ho5, hf5⟩
                   have hb5 := hb5x.fr hf5 (fun h => h)
                   clear a0
                   have a0 : w5.cell? ⟨q, 3, none⟩ = some (.slice sa u.v.length sc) := hb5.cell 3 rfl
                   have a1 := hb5.frozen 3))
              clear a0 a1
              obtain ⟨w6, hw6⟩ : ∃ w6, w6 = w5.setCell ⟨q, 3, none⟩ (.slice (some ⟨g, 0, none⟩) u.v.length cap) := ⟨_, rfl⟩
              rw [← hw6]
              have hf6 : Fr (fun k => k = q) w5 w6 := by rw [hw6]; exact Fr.set1 _ _ _ _
              have hb6 : Blk w6 q 46 #[.int .u64 u.s, .int .u64 u.n, .int .i64 u.d, .slice (some ⟨g, 0, none⟩) u.v.length cap] := by
                have := hb5.set_ 3 (.slice (some ⟨g, 0, none⟩) u.v.length cap)
                rw [hw6]
                simpa using this
              have hq4 : q < w4x.heap.size := hb5x.lt
              have hP6 : PX w6 r _ (c + j) (fun k => G' k ∨ k = g) sv mb sb mm' sm := ((hP5.fr hf5 (fun _ _ _ h => h)).fr hf6 (fun k _ hk e => hqG (e ▸ hk))).up (fun k _ hk => .inl hk)
              have ho6 : OwB w6 (fun k => G' k ∨ k = g) (.slice (some ⟨g, 0, none⟩) u.v.length cap) u.v := ⟨own_fr ho5 hf6 (fun k hk => by simp [Value.ownBlock] at hk; omega), fun k hk => by simp [Value.ownBlock] at hk; exact .inr hk.symm⟩
              have b0 : w6.cell? ⟨q, 0, none⟩ = some (.int .u64 u.s) := hb6.cell 0 rfl
              have b1 : w6.cell? ⟨q, 1, none⟩ = some (.int .u64 u.n) := hb6.cell 1 rfl
              have b2 : w6.cell? ⟨q, 2, none⟩ = some (.int .i64 u.d) := hb6.cell 2 rfl
              have b3 : w6.cell? ⟨q, 3, none⟩ = some (.slice (some ⟨g, 0, none⟩) u.v.length cap) := hb6.cell 3 rfl
              have c9 : w6.cell? ⟨r, 9, none⟩ = some (.map (some mb)) := hP6.blk.cell 9 rfl
              have hM6 := hP6.mus.fr ((Fr.refl (fun _ => False) w6).drew) (fun h => h)
              have hcj : c + j < maxLen := by have := HC.out; omega
              have H6 := Lib.hid (And.intro hP6 (And.intro ho6 (And.intro hf5 hf6)))
              clear hw6 hf6 hP6 ho6 ho5 hf5 hb5
              obtain ⟨w7, hrun, hm7, hf7, hz7⟩ := hM6.update key64 Try.underlying42 Try.underlying108 hcj u.s hs64 (muV u x (.slice (some ⟨g, 0, none⟩) u.v.length cap))
              have H7 := Lib.hid (And.intro hm7 (And.intro hf7 hz7))
              unfold muV at hrun
              clear hm7 hf7 hz7 hM6
              go_region
              all_goals
                clear b0 b1 b2 b3 c9 hrun
                obtain ⟨hm7, hf7, hz7⟩ := H7.out
                obtain ⟨hP6, ho6, hf5, hf6⟩ := H6.out
                have hP7 := hP6.putMu ho6 hul hm7 hf7.of_drew hs64
                obtain ⟨hfr, hf3, hN⟩ := F3.out
                have hF : Fr G w w7 := by
                  have e1 := ((hfr.tr hf3.none_up).tr HF5.out.none_up).tr hf5.none_up
                  have e2 : Fr G w w6 := e1.trans hf6 (fun k hk h => by
                    rcases h with h | h
                    · exact h
                    · have := HQ'.out; have := hfr.size; omega)
                  exact e2.trans hf7.of_drew (fun k hk h => by
                    rcases h with h | h
                    · exact h
                    · subst h; exact HX.out.mbG)
                have hNx : Nx G (fun k => G' k ∨ k = g) w w7 := fun k hk => by
                  have e7 := hf7.of_drew.size
                  have e6 := hf6.size
                  have e5 := hf5.size
                  have e4 := HF5.out.size
                  have e3 := hf3.size
                  have e0 := hfr.size
                  rcases hk with hk | hk
                  · rcases hN k hk with h | h
                    · exact .inl h
                    · exact .inr ⟨h.1, by omega⟩
                  · exact .inr ⟨by omega, by omega⟩
                have hput : (l.take (j + 1)).foldl (putM x) p.mu = upd ((l.take j).foldl (putM x) p.mu) u.s (u, (x : Int)) := by
                  rw [htk.out, List.foldl_append]
                  exact (putM_some HM.out.1).trans (by rw [HLS.out, HH.out]; rfl)
                have HFin := Lib.hid (And.intro hP7 (And.intro hF (And.intro hNx hput)))
                clear hP7 hF hNx hput hP6 ho6 hf5 hf6 hfr hf3 hN hm7 hf7 hz7
                go_wp2_with fail
                go_roundg (l.length - (j + 1))
                case measure => have := HJ.out; omega
                case rel =>
                  obtain ⟨hP7, hF, hNx, hput⟩ := HFin.out
                  refine ⟨j + 1, upd mm' u.s (muV u x (.slice (some ⟨g, 0, none⟩) u.v.length cap)), (fun k => G' k ∨ k = g), by have := HJ.out; omega, by go_num, ?_, hNx, hF⟩
                  rw [hput]
                  exact hP7
    · obtain rfl : j = l.length := by omega
      have HF := Lib.hid (And.intro hP (And.intro hN hfr))
      clear hP hN hfr
      go_wp2_with fail
      try rw [Exit.noGoto_ret]
      go_ret
      obtain ⟨hP, hN, hfr⟩ := HF.out
      rw [List.take_length, HSS.out] at hP
      exact ⟨rfl, G', ⟨_, _, _, _, _, hP⟩, hN, hfr⟩
end Go.Proofs.Ytkpfgoalohbfeaa

