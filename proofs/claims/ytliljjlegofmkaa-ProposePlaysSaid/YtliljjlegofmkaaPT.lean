/- A law's proposer; the chapter's examples. -/
import Derived.Test.YtliljjlegofmkaaPQ
import Derived.KernelRfl
import Derived.Lib.SlBytesConst
namespace Go.Proofs.Ytliljjlegofmkaa
open Go.RowKit

/-- A proposer that a law has made. -/
structure Lw (W w : World) (r : Nat) (p : Ps) (c : Nat) (G : Nat → Prop) : Prop where
  pr : PR w r p c G
  lo : ∀ j, G j → W.heap.size ≤ j ∧ j < w.heap.size
  fr : Fr (fun k => W.heap.size ≤ k) W w
section
variable {W w w' : World} {r c c' : Nat} {p p' : Ps} {G G' X : Nat → Prop}
theorem Lw.hG (h : Lw W w r p c G) : ∀ j, G j → j < w.heap.size := fun j hj => (h.lo j hj).2
theorem Lw.off (h : Lw W w r p c G) (hf : Fr X w w') (hX : ∀ k, X k → ¬ G k ∧ W.heap.size ≤ k) : Lw W w' r p c G :=
  ⟨h.pr.fr hf (fun k _ hk hx => (hX k hx).1 hk), fun j hj => ⟨(h.lo j hj).1, by have := (h.lo j hj).2; have := hf.size; omega⟩, h.fr.trans hf (fun k _ hk => hk.elim id fun hx => (hX k hx).2)⟩
theorem Lw.up (h : Lw W w r p c G) (hf : Fr (fun _ => False) w w') : Lw W w' r p c G := h.off hf (fun _ h => h.elim)
theorem Lw.next (h : Lw W w r p c G) (hp : PR w' r p' c' G') (hn : Nx G G' w w') (hf : Fr G w w') : Lw W w' r p' c' G' := by
  refine ⟨hp, fun j hj => ?_, h.fr.trans hf (fun k _ hk => hk.elim id fun hx => (h.lo k hx).1)⟩
  have := hf.size
  have := h.fr.size
  rcases hn j hj with h1 | h1
  · have := h.lo j h1; exact ⟨this.1, by omega⟩
  · exact ⟨by omega, h1.2⟩
theorem Lw.mono (h : Lw W w r p c G) (hc : c ≤ c') : Lw W w r p c' G := ⟨h.pr.mono hc, h.lo, h.fr⟩
theorem Lw.below (h : Lw W w r p c G) : Below W.heap.size W w := h.fr.below (Nat.le_refl _)
theorem Lw.none_ (h : Lw W w r p c G) (hf : Fr (fun _ => False) w w') : Below W.heap.size W w' := (h.up hf).below

theorem prm_lw (h : Lw W w r p c G) (x : Int) (v : Value) (l : List Vt) (hc : c + l.length < maxLen) (hl : VtL w v l G) :
    Calls Try.prog 14 #[.pointer (some ⟨r, 0, none⟩), .int .i64 x, v] w fun e w' => e = .returned (.int .i64 (prmE p x l)) ∧
      ∃ G', Lw W w' r (prmP p x l) (c + l.length) G' ∧ Nx G G' w w' ∧ Fr G w w' := by
  refine (prm_any r p c G x v l w h.pr h.hG hc hl).mono ?_
  rintro e w' ⟨he, G', h1, h2, h3⟩
  exact ⟨he, G', h.next h1 h2 h3, h2, h3⟩
theorem prm_lw0 (h : Lw W w r p c G) (x : Int) (hc : c < maxLen) :
    Calls Try.prog 14 #[.pointer (some ⟨r, 0, none⟩), .int .i64 x, .slice none 0 0] w fun e w' => e = .returned (.int .i64 (prmE p x [])) ∧
      ∃ G', Lw W w' r (prmP p x []) c G' ∧ Nx G G' w w' ∧ Fr G w w' := by
  refine (prm_lw h x _ [] (by simpa using hc) (VtL.nil w G)).mono ?_
  rintro e w' ⟨he, G', h1, h2, h3⟩
  exact ⟨he, G', by simpa using h1, h2, h3⟩
/-- What Propose leaves, at a law. -/
def LwPro (W w : World) (r c : Nat) (G : Nat → Prop) (E : Int) (V : Vt) (p' : Ps) (e : Ending) (w' : World) : Prop :=
  ∃ va vc G', e = .returned (.tuple #[vtV V (.slice va V.v.length vc), .int .i64 E]) ∧ w'.ownsRow w.heap.size 5 1 (.slice va V.v.length vc) V.v.length (u8s V.v) ∧
    Lw W w' r p' (c + 1) G' ∧ Nx G G' w w' ∧ (∀ j, (Value.slice va V.v.length vc).ownBlock = some j → ¬ G' j) ∧ Fr G w w'
theorem pro_lw (h : Lw W w r p c G) (k : Nat) (hk64 : k < 18446744073709551616) (s : Value) (own : List UInt8) (hc : c < maxLen) (hby : Byt w s own) :
    Calls Try.prog 16 #[.pointer (some ⟨r, 0, none⟩), .int .u64 k, s] w fun e w' => LwPro W w r c G (proE p k own) (proV p k own) (proP p k own) e w' := by
  refine (pro_any r p c G k hk64 s own w h.pr h.hG hc hby).mono ?_
  rintro e w' ⟨va, vc, G', he, h1, h2, h3, h4, h5⟩
  exact ⟨va, vc, G', he, h1, h.next h2 h3 h5, h3, h4, h5⟩
theorem byt_nil (w : World) : Byt w (.slice none 0 0) [] := ⟨none, 0, rfl, fun _ => rfl, fun h => absurd rfl h⟩
theorem acc_lw (h : Lw W w r p c G) (x : Int) (k : Nat) (hk64 : k < 18446744073709551616) :
    Calls Try.prog 18 #[.pointer (some ⟨r, 0, none⟩), .int .i64 x, .int .u64 k] w fun e w' => e = .returned (.int .i64 (accE p x k)) ∧ Lw W w' r (accP p x k) c G ∧ Fr G w w' := by
  refine (acc_any r p c G x k hk64 w h.pr).mono ?_
  rintro e w' ⟨he, h1, h2⟩
  exact ⟨he, h.next h1 (Nx.refl _ _ _) h2, h2⟩
end

theorem byt_lit (w : World) (u : UInt8) (m : Nat × Nat) : Byt (w.alloc (.cells #[.int .u8 (u.toNat : Int)] 5 m)) (.slice (some ⟨w.heap.size, 0, none⟩) 1 1) [u] := by
  refine ⟨some ⟨w.heap.size, 0, none⟩, 1, rfl, (fun h => by cases h), fun _ => ⟨w.heap.size, 0, rfl, fun i v hv => ?_⟩⟩
  match i, hv with
  | 0, hv =>
    simp only [List.getElem?_cons_zero, Option.some.injEq] at hv
    subst hv
    unfold World.cell?
    rw [heap_alloc_new w _]
    rfl
/-- One vote in a list of its own. -/
theorem vtl_one {w' : World} {b : Nat} {s : Value} {p : Vt} {X : Nat → Prop} (hB : Blk w' b 45 #[.int .u64 p.s, .int .u64 p.n, .int .i64 p.d, s]) (hs : Byt w' s p.v) (hX : ¬ X b) (hX2 : ∀ g, s.ownBlock = some g → p.v ≠ [] → ¬ X g) (hl : p.v.length ≤ maxLen) (h1 : p.s < 18446744073709551616) (h2 : p.n < 18446744073709551616)
    (h3 : -9223372036854775808 ≤ p.d) (h4 : p.d ≤ 9223372036854775807) (c : Nat) : VtL w' (.slice (some ⟨b, 0, none⟩) 1 c) [p] X := by
  refine ⟨⟨some ⟨b, 0, none⟩, c, rfl, fun i q hq => ?_⟩, by simp [maxLen]⟩
  match i, hq with
  | 0, hq =>
    simp only [List.getElem?_cons_zero, Option.some.injEq] at hq
    subst hq
    exact ⟨b, 0, s, rfl, hX, ⟨hB.cell 0 rfl, hB.cell 1 rfl, hB.cell 2 rfl, hB.cell 3 rfl, hs, hl, h1, h2, h3, h4⟩, hX2⟩

theorem Nx.not {G G' : Nat → Prop} {w w' : World} (h : Nx G G' w w') {j : Nat} (hj : ¬ G j) (hl : j < w.heap.size) : ¬ G' j := fun h' => by
  rcases h j h' with h1 | h1
  · exact hj h1
  · omega
/-- Something of the law's own: a block that is not the proposer's. -/
theorem Lw.not_new {W w : World} {r c : Nat} {p : Ps} {G : Nat → Prop} (h : Lw W w r p c G) {j : Nat} (hj : w.heap.size ≤ j) : ¬ G j := fun hg => by have := (h.lo j hg).2; omega

def Q3 : Qu := ⟨1, 3, 2, 2, []⟩
set_option maxHeartbeats 1000000 in
theorem three_any (w : World) : Calls Try.prog 22 #[] w fun e w' => e = .returned (Q3.v (.slice none 0 0)) ∧ Fr (fun _ => False) w w' := by
  obtain ⟨w1, hw1⟩ : ∃ w1, w1 = w.alloc (.cells #[.int .i64 0, .int .i64 0, .int .i64 0, .int .i64 0, .slice none 0 0] 24) := ⟨_, rfl⟩
  have hf1 : Fr (fun _ => False) w w1 := by rw [hw1]; exact (Fr.refl _ w).alloc _
  have hB : Blk w1 w.heap.size 24 #[.int .i64 0, .int .i64 0, .int .i64 0, .int .i64 0, .slice none 0 0] := by rw [hw1]; exact Blk.new _ _ _
  have HW := Lib.hid hw1
  clear hw1
  have b0 := hB.cell 0 rfl
  have b1 := hB.cell 1 rfl
  have b2 := hB.cell 2 rfl
  have b3 := hB.cell 3 rfl
  have b4 := hB.cell 4 rfl
  have b5 := hB.frozen
  go_enter Try.func22, Try.ntmps22
  go_upto_region 1 with (fail)
  rw [← HW.out]
  go_wp2_with fail
  have hX : Fr (fun x => x = w.heap.size) w1 (((((w1.setCell ⟨w.heap.size, 0, none⟩ (.int .i64 1)).setCell ⟨w.heap.size, 1, none⟩ (.int .i64 3)).setCell ⟨w.heap.size, 2, none⟩ (.int .i64 2)).setCell ⟨w.heap.size, 3, none⟩ (.int .i64 2)).setCell ⟨w.heap.size, 4, none⟩ (.slice none 0 0)) :=
    ((((Fr.set1 w1 w.heap.size 0 _).setCell (p := ⟨w.heap.size, 1, none⟩) (fun _ => rfl) _).setCell (p := ⟨w.heap.size, 2, none⟩) (fun _ => rfl) _).setCell (p := ⟨w.heap.size, 3, none⟩) (fun _ => rfl) _).setCell (p := ⟨w.heap.size, 4, none⟩) (fun _ => rfl) _
  have hW := ((((hB.set_ 0 (.int .i64 1)).set_ 1 (.int .i64 3)).set_ 2 (.int .i64 2)).set_ 3 (.int .i64 2)).set_ 4 (.slice none 0 0)
  refine bodyPost_ret (results_cell_row rfl _ _ w.heap.size 24 #[.int .i64 1, .int .i64 3, .int .i64 2, .int .i64 2, .slice none 0 0] (0, 0) _ rfl ?_ Try.underlying24 rfl (by kernel_rfl)) rfl ⟨rfl, ?_⟩
  · show Blk _ w.heap.size 24 _
    simpa using hW
  · exact hf1.trans hX (fun x hx h => by rcases h with h | h; exact h; omega)
theorem new_lw (W w : World) (hW : Fr (fun k => W.heap.size ≤ k) W w) (q : Qu) (s : Value) (n : Nat) (d : Int) (f : Nat) (hs : Ints w s q.s) (hnil : ∀ c, s = .slice none 0 c → c = 0) (hl : q.s.length ≤ 1000) (h : rightE q = 0) (hb : rightB n d = true) (hn : n < 18446744073709551616) (hf1 : 1 ≤ f) (hf64 : f < 18446744073709551616) :
    Calls Try.prog 12 #[q.v s, .agg #[.int .u64 n, .int .i64 d], .int .u64 f] w fun e w' => ∃ r G, e = .returned (.tuple #[.pointer (some ⟨r, 0, none⟩), .int .i64 0]) ∧
      Lw W w' r (newP q n d f) 0 G ∧ Fr (fun _ => False) w w' ∧ (∀ j, G j → w.heap.size ≤ j) := by
  refine (new_ok q s n d f w hs hnil hl h hb hn hf1 hf64).mono ?_
  rintro e w' ⟨r, he, h1, h2⟩
  exact ⟨r, _, he, ⟨h1, fun j hj => ⟨by have := hW.size; omega, hj.2⟩, hW.tr h2.none_up⟩, h2, fun j hj => hj.1⟩
theorem ints_nil (w : World) : Ints w (.slice none 0 0) [] := ⟨none, 0, rfl, fun h => absurd rfl h⟩

def K0 : Ps := newP Q3 5 0 1
def K1 : Ps := prmP K0 0 []
def K2 : Ps := prmP K1 2 [⟨1, 3, 1, [120]⟩]
def K3 : Ps := proP K2 1 [121]
def K4 : Ps := proP K3 2 [121]
def K5 : Ps := accP K4 0 1
def K6 : Ps := accP K5 1 1
theorem k_a : proE K0 1 [] = 100 := by kernel_rfl
theorem k_a2 : proP K0 1 [] = K0 := by kernel_rfl
theorem k_a3 : proV K0 1 [] = ⟨0, 0, 0, []⟩ := by kernel_rfl
theorem k_b : prmE K1 2 [⟨1, 3, 1, [120]⟩] = 0 := by kernel_rfl
theorem k_c : proE K2 1 [121] = 0 := by kernel_rfl
theorem k_c2 : proV K2 1 [121] = ⟨1, 5, 0, [120]⟩ := by kernel_rfl
theorem k_d : proE K3 2 [121] = 0 := by kernel_rfl
theorem k_d2 : proV K3 2 [121] = ⟨2, 5, 0, [121]⟩ := by kernel_rfl
theorem k_f : accE K5 1 1 = 0 := by kernel_rfl
theorem k_x : chB K6 1 = some [120] := by kernel_rfl
theorem k_is : isCh K6 1 = true := by kernel_rfl
theorem k_no : isCh K6 2 = false := by kernel_rfl
theorem k_f1 : K6.f = 1 := by kernel_rfl
theorem k_pre : PreAt K6 2 := ⟨by rw [k_f1]; omega, fun j h1 h2 => by
  rw [k_f1] at h1
  have : j = 1 := by omega
  rw [this]; exact k_is, k_no⟩
theorem k_mu : K6.mu = upd (fun _ => none) 1 (⟨1, 3, 1, [120]⟩, 2) := by kernel_rfl
theorem k_top : TopAt K6 1 := by
  refine ⟨fun k hk => ?_, .inr ?_⟩
  · rw [k_mu] at hk
    unfold upd at hk
    split at hk
    · omega
    · cases hk
  · rw [k_mu]; rfl
theorem q3_right : rightE Q3 = 0 := by kernel_rfl

set_option maxRecDepth 100000 in
set_option maxHeartbeats 8000000 in
theorem known_lw (W : World) : Calls Try.prog 11 #[] W fun e w' => e = .returned (.bool true) ∧ Fr (fun k => W.heap.size ≤ k) W w' := by
  have kc := fun (w : World) (C : Array Value) (n c : Nat) => Lib.run_convert_bytes_const (P := Try.prog) w 35 5 C n c Try.underlying35 Try.underlying5
  go_enter Try.func11, Try.ntmps11
  go_wp2_with fail
  refine (three_any W).mono ?_
  rintro e w1 ⟨rfl, hf1⟩
  go_wp2_with fail
  refine (new_lw W w1 hf1.none_up Q3 _ 5 0 1 (ints_nil w1) (fun c h => by injection h with _ _ h; exact h.symm) (by decide) q3_right (by decide) (by omega) (by omega) (by omega)).mono ?_
  rintro e w2 ⟨r, G, rfl, hL, -, -⟩
  clear hf1
  go_wp2_with fail
  refine (pro_lw hL 1 (by omega) _ [] (by decide) (byt_nil w2)).mono ?_
  rintro e w3 ⟨va, vc, G3, rfl, -, hL3, -, -, -⟩
  rw [show newP Q3 5 0 1 = K0 from rfl, k_a, k_a3]
  rw [show newP Q3 5 0 1 = K0 from rfl, k_a2] at hL3
  simp only [vtV, List.length_nil]
  clear hL G
  go_upto_region 5 with (fail)
  have hL4 := hL3.up ((Fr.refl (fun _ => False) w3).alloc (.cells #[.int .u64 0, .int .u64 0, .int .i64 0, .slice va 0 vc] 45))
  clear hL3
  go_wp2_with fail
  refine (prm_lw0 hL4 0 (by decide)).mono ?_
  rintro e w5 ⟨rfl, G5, hL5, -, -⟩
  rw [show prmP K0 0 [] = K1 from rfl] at hL5
  clear hL4
  obtain ⟨w6, hw6⟩ : ∃ w6, w6 = w5.alloc (.cells #[.int .u8 120] 5 (1, 2)) := ⟨_, rfl⟩
  obtain ⟨w7, hw7⟩ : ∃ w7, w7 = w6.alloc (.cells #[.int .u64 1, .int .u64 3, .int .i64 1, .slice (some ⟨w5.heap.size, 0, none⟩) 1 1] 45) := ⟨_, rfl⟩
  have hz6 : w6.heap.size = w5.heap.size + 1 := by rw [hw6]; simp
  have hf6 : Fr (fun _ => False) w5 w6 := by rw [hw6]; exact (Fr.refl _ w5).alloc _
  have hf7 : Fr (fun _ => False) w6 w7 := by rw [hw7]; exact (Fr.refl _ w6).alloc _
  have hb6 : Byt w6 (.slice (some ⟨w5.heap.size, 0, none⟩) 1 1) [120] := by rw [hw6]; exact byt_lit w5 120 _
  have hB7 : Blk w7 w6.heap.size 45 #[.int .u64 1, .int .u64 3, .int .i64 1, .slice (some ⟨w5.heap.size, 0, none⟩) 1 1] := by rw [hw7]; exact Blk.new _ _ _
  have hL7 := (hL5.up hf6).up hf7
  have hV7 : VtL w7 (.slice (some ⟨w6.heap.size, 0, none⟩) 1 1) [⟨1, 3, 1, [120]⟩] G5 :=
    vtl_one (p := ⟨1, 3, 1, [120]⟩) hB7 (hb6.fr hf7 (fun _ _ h => h)) (fun h => by have := (hL5.lo _ h).2; omega) (fun g hg _ h => by simp [Value.ownBlock] at hg; have := (hL5.lo _ h).2; omega) (by decide) (by decide) (by decide) (by decide) (by decide) 1
  have H67 := Lib.hid (And.intro hw6 hw7)
  have HZ6 := Lib.hid hz6
  clear hw6 hw7 hz6 hf6 hf7 hb6 hB7 hL5
  go_wp2_with fail
  rw [← H67.out.1, ← HZ6.out, ← H67.out.2]
  clear H67 HZ6
  refine (prm_lw hL7 2 _ [⟨1, 3, 1, [120]⟩] (by decide) hV7).mono ?_
  rintro e w8 ⟨rfl, G8, hL8, -, -⟩
  rw [k_b]
  rw [show prmP K1 2 [⟨1, 3, 1, [120]⟩] = K2 from rfl] at hL8
  clear hL7 hV7
  obtain ⟨w9, hw9⟩ : ∃ w9, w9 = w8.alloc (.cells #[.int .u8 121] 5 (1, 2)) := ⟨_, rfl⟩
  have hb9 : Byt w9 (.slice (some ⟨w8.heap.size, 0, none⟩) 1 1) [121] := by rw [hw9]; exact byt_lit w8 121 _
  have hL9 : Lw W w9 r K2 _ G8 := hL8.up (by rw [hw9]; exact (Fr.refl _ w8).alloc _)
  have HW9 := Lib.hid hw9
  clear hw9 hL8
  go_wp2_with fail
  rw [← HW9.out]
  clear HW9
  refine (pro_lw hL9 1 (by omega) _ [121] (by decide) hb9).mono ?_
  rintro e w10 ⟨va10, vc10, G10, rfl, ho10, hL10, -, hn10, -⟩
  rw [k_c2] at ho10 hn10
  rw [k_c, k_c2]
  rw [show proP K2 1 [121] = K3 from rfl] at hL10
  simp only [vtV, List.length_cons, List.length_nil, Nat.zero_add] at ho10 hn10 ⊢
  clear hL9 hb9
  obtain ⟨w11, hw11⟩ : ∃ w11, w11 = w10.alloc (.cells #[.int .u64 1, .int .u64 5, .int .i64 0, .slice va10 1 vc10] 45) := ⟨_, rfl⟩
  have hf11 : Fr (fun _ => False) w10 w11 := by rw [hw11]; exact (Fr.refl _ w10).alloc _
  have hB11 : Blk w11 w10.heap.size 45 #[.int .u64 1, .int .u64 5, .int .i64 0, .slice va10 1 vc10] := by rw [hw11]; exact Blk.new _ _ _
  have hL11 := hL10.up hf11
  have ho11 := own_fr ho10 hf11 (fun _ _ h => h)
  have hq11 := hL10.not_new (Nat.le_refl w10.heap.size)
  have HW11 := Lib.hid hw11
  clear hw11 hf11 hL10 ho10
  go_upto_region 8 with (fail)
  rw [← HW11.out]
  obtain ⟨q11, hq⟩ : ∃ q, q = w10.heap.size := ⟨_, rfl⟩
  rw [← hq] at hB11 hq11 ⊢
  clear HW11 hq
  obtain ⟨w12, hw12⟩ : ∃ w12, w12 = w11.alloc (.cells #[.int .u8 121] 5 (1, 2)) := ⟨_, rfl⟩
  have hf12 : Fr (fun _ => False) w11 w12 := by rw [hw12]; exact (Fr.refl _ w11).alloc _
  have hb12 : Byt w12 (.slice (some ⟨w11.heap.size, 0, none⟩) 1 1) [121] := by rw [hw12]; exact byt_lit w11 121 _
  have hL12 := hL11.up hf12
  have hB12 := hB11.fr hf12 (fun h => h)
  have ho12 := own_fr ho11 hf12 (fun _ _ h => h)
  have HW12 := Lib.hid hw12
  clear hw12 hf12 hL11 hB11 ho11
  go_wp2_with fail
  rw [← HW12.out]
  clear HW12
  refine (pro_lw hL12 2 (by omega) _ [121] (by decide) hb12).mono ?_
  rintro e w13 ⟨va13, vc13, G13, rfl, ho13, hL13, hN13, hn13, hf13⟩
  rw [k_d2] at ho13 hn13
  rw [k_d, k_d2]
  rw [show proP K3 2 [121] = K4 from rfl] at hL13
  simp only [vtV, List.length_cons, List.length_nil, Nat.zero_add] at ho13 hn13 ⊢
  have hB13 := hB12.fr hf13 hq11
  have ho13a := own_fr ho12 hf13 hn10
  have hq13 := hN13.not hq11 hB12.lt
  have hn13a := fun j (hj : (Value.slice va10 1 vc10).ownBlock = some j) => hN13.not (hn10 j hj) (own_lt ho12 hj)
  clear hL12 hb12 hB12 ho12 hN13 hf13 hq11 hn10
  obtain ⟨w14, hw14⟩ : ∃ w14, w14 = w13.alloc (.cells #[.int .u64 2, .int .u64 5, .int .i64 0, .slice va13 1 vc13] 45) := ⟨_, rfl⟩
  have hf14 : Fr (fun _ => False) w13 w14 := by rw [hw14]; exact (Fr.refl _ w13).alloc _
  have hC14 : Blk w14 w13.heap.size 45 #[.int .u64 2, .int .u64 5, .int .i64 0, .slice va13 1 vc13] := by rw [hw14]; exact Blk.new _ _ _
  have hL14 := hL13.up hf14
  have hB14 := hB13.fr hf14 (fun h => h)
  have ho14 := own_fr ho13a hf14 (fun _ _ h => h)
  have hp14 := own_fr ho13 hf14 (fun _ _ h => h)
  have hq14 := hL13.not_new (Nat.le_refl w13.heap.size)
  have HW14 := Lib.hid hw14
  clear hw14 hf14 hL13 hB13 ho13 ho13a
  go_upto_region 9 with (fail)
  rw [← HW14.out]
  obtain ⟨q14, hq⟩ : ∃ q, q = w13.heap.size := ⟨_, rfl⟩
  rw [← hq] at hC14 hq14 ⊢
  clear HW14 hq
  go_wp2_with fail
  refine (acc_lw hL14 0 1 (by omega)).mono ?_
  rintro e w15 ⟨rfl, hL15, hf15⟩
  rw [show accP K4 0 1 = K5 from rfl] at hL15
  go_wp2_with fail
  refine (acc_lw hL15 1 1 (by omega)).mono ?_
  rintro e w16 ⟨rfl, hL16, hf16⟩
  rw [show accP K5 1 1 = K6 from rfl] at hL16
  rw [k_f]
  have hf17 := hf15.tr hf16
  have hB16 := hB14.fr hf17 hq13
  have hC16 := hC14.fr hf17 hq14
  have ho16 := own_fr ho14 hf17 hn13a
  have hp16 := own_fr hp14 hf17 hn13
  clear hL14 hL15 hf15 hf16 hf17 hB14 hC14 ho14 hp14 hq13 hq14 hn13a hn13
  go_wp2_with fail
  refine (chosen_any r K6 _ _ 1 (by omega) w16 hL16.pr).mono ?_
  rintro e w18 ⟨va18, vc18, rfl, ho18, hf18⟩
  rw [k_x] at ho18 ⊢
  simp only [Option.getD_some, Option.isSome_some, List.length_cons, List.length_nil, Nat.zero_add] at ho18 ⊢
  have hB18 := hB16.fr hf18 (fun h => h)
  have hC18 := hC16.fr hf18 (fun h => h)
  have hL18 := hL16.up hf18
  have e1 : (convert 35 9 (.slice va10 1 vc10)).run Try.prog w18 = .ok (.string ⟨#[120]⟩) w18 := run_str (src := 35) (dst := 9) Try.underlying35 Try.underlying5 Try.underlying9 (Byt.of_own (own_fr ho16 hf18 (fun _ _ h => h)))
  have e2 : (convert 35 9 (.slice va13 1 vc13)).run Try.prog w18 = .ok (.string ⟨#[121]⟩) w18 := run_str (src := 35) (dst := 9) Try.underlying35 Try.underlying5 Try.underlying9 (Byt.of_own (own_fr hp16 hf18 (fun _ _ h => h)))
  have e3 : (convert 35 9 (.slice va18 1 vc18)).run Try.prog w18 = .ok (.string ⟨#[120]⟩) w18 := run_str (src := 35) (dst := 9) Try.underlying35 Try.underlying5 Try.underlying9 (Byt.of_own ho18)
  have b3 : w18.cell? ⟨q11, 3, none⟩ = some (.slice va10 1 vc10) := hB18.cell 3 rfl
  have d3 : w18.cell? ⟨q14, 3, none⟩ = some (.slice va13 1 vc13) := hC18.cell 3 rfl
  clear hL16 hf18 hB16 hC16 ho16 hp16 ho18 hB18 hC18
  go_wp2_with fail
  refine (prefix_any r K6 _ _ w18 hL18.pr).mono ?_
  rintro e w19 ⟨⟨at', -, hat, rfl⟩, hf19⟩
  obtain rfl : at' = 2 := hat.inj k_pre
  have hL19 := hL18.up hf19
  clear e1 e2 e3 b3 d3 hL18 hf19 hat
  go_wp2_with fail
  refine (top_any r K6 _ _ w19 hL19.pr (by decide)).mono ?_
  rintro e w20 ⟨⟨t, ht, rfl⟩, hf20⟩
  obtain rfl : t = 1 := ht.inj k_top
  have hL20 := hL19.up hf20
  clear hL19 hf20 ht
  go_wp2_with fail
  go_ret
  exact ⟨rfl, hL20.fr⟩
theorem known_any (w : World) : Calls Try.prog 11 #[] w fun e w' => e = .returned (.bool true) ∧ Fr (fun _ => False) w w' := by
  refine (known_lw w).mono ?_
  rintro e w' ⟨he, hf⟩
  exact ⟨he, hf.mono fun k hk h => by omega⟩
end Go.Proofs.Ytliljjlegofmkaa
