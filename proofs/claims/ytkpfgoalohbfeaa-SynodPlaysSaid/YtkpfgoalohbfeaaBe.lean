/- Merged: PT PU PW PSa PSm PMu PMx PMw PLa. -/
import Derived.Test.YtkpfgoalohbfeaaBd
import Derived.KernelRfl
import Derived.Lib.SlBytesConst
import Derived.Test.YtkpfgoalohbfeaaBb
import Derived.OpenShut
import Derived.Deep.Slices
import Derived.Deep.Fields
import Derived.Deep.LoopGhost
import Derived.Deep.QuietTactic
import Derived.BigQuiet
import Derived.Deep.RegionHeld3
import Derived.Deep.AppendLies
import Derived.IntWalk
/- A law's proposer; the chapter's examples. -/
namespace Go.Proofs.Ytkpfgoalohbfeaa
open Go.RowKit

/-- A proposer that a law has made. -/
structure Lw (W w : World) (r : Nat) (p : Ps) (c : Nat) (G : Nat → Prop) : Prop where
  pr : PR w r p c G
  lo : ∀ j, G j → W.heap.size ≤ j ∧ j < w.heap.size
  fr : Fr (fun k => W.heap.size ≤ k) W w
section
variable {W w w' : World} {r c c' : Nat} {p p' : Ps} {G G' X : Nat → Prop}
theorem Lw.hG (h : Lw W w r p c G) : ∀ j, G j → j < w.heap.size := fun j hj => (h.lo j hj).2
theorem Lw.off (h : Lw W w r p c G) (hf : Fr X w w') (hX : ∀ k, X k → ¬ G k ∧ W.heap.size ≤ k) : Lw W w' r p c G :=
  ⟨h.pr.fr hf (fun k _ hk hx => (hX k hx).1 hk), fun j hj => ⟨(h.lo j hj).1, by have := (h.lo j hj).2; have := hf.size; omega⟩, h.fr.trans hf (fun k _ hk => hk.elim id fun hx => (hX k hx).2)⟩
theorem Lw.up (h : Lw W w r p c G) (hf : Fr (fun _ => False) w w') : Lw W w' r p c G := h.off hf (fun _ h => h.elim)
theorem Lw.next (h : Lw W w r p c G) (hp : PR w' r p' c' G') (hn : Nx G G' w w') (hf : Fr G w w') : Lw W w' r p' c' G' := by
  refine ⟨hp, fun j hj => ?_, h.fr.trans hf (fun k _ hk => hk.elim id fun hx => (h.lo k hx).1)⟩
  have := hf.size
  have := h.fr.size
  rcases hn j hj with h1 | h1
  · have := h.lo j h1; exact ⟨this.1, by omega⟩
  · exact ⟨by omega, h1.2⟩
theorem Lw.mono (h : Lw W w r p c G) (hc : c ≤ c') : Lw W w r p c' G := ⟨h.pr.mono hc, h.lo, h.fr⟩
theorem Lw.below (h : Lw W w r p c G) : Below W.heap.size W w := h.fr.below (Nat.le_refl _)
theorem Lw.none_ (h : Lw W w r p c G) (hf : Fr (fun _ => False) w w') : Below W.heap.size W w' := (h.up hf).below

theorem prm_lw (h : Lw W w r p c G) (x : Int) (v : Value) (l : List Vt) (hc : c + l.length < maxLen) (hl : VtL w v l G) :
    Calls Try.prog 60 #[.pointer (some ⟨r, 0, none⟩), .int .i64 x, v] w fun e w' => e = .returned (.int .i64 (prmE p x l)) ∧
      ∃ G', Lw W w' r (prmP p x l) (c + l.length) G' ∧ Nx G G' w w' ∧ Fr G w w' := by
  refine (prm_any r p c G x v l w h.pr h.hG hc hl).mono ?_
  rintro e w' ⟨he, G', h1, h2, h3⟩
  exact ⟨he, G', h.next h1 h2 h3, h2, h3⟩
theorem prm_lw0 (h : Lw W w r p c G) (x : Int) (hc : c < maxLen) :
    Calls Try.prog 60 #[.pointer (some ⟨r, 0, none⟩), .int .i64 x, .slice none 0 0] w fun e w' => e = .returned (.int .i64 (prmE p x [])) ∧
      ∃ G', Lw W w' r (prmP p x []) c G' ∧ Nx G G' w w' ∧ Fr G w w' := by
  refine (prm_lw h x _ [] (by simpa using hc) (VtL.nil w G)).mono ?_
  rintro e w' ⟨he, G', h1, h2, h3⟩
  exact ⟨he, G', by simpa using h1, h2, h3⟩
/-- What Propose leaves, at a law. -/
def LwPro (W w : World) (r c : Nat) (G : Nat → Prop) (E : Int) (V : Vt) (p' : Ps) (e : Ending) (w' : World) : Prop :=
  ∃ va vc G', e = .returned (.tuple #[vtV V (.slice va V.v.length vc), .int .i64 E]) ∧ w'.ownsRow w.heap.size 5 1 (.slice va V.v.length vc) V.v.length (u8s V.v) ∧
    Lw W w' r p' (c + 1) G' ∧ Nx G G' w w' ∧ (∀ j, (Value.slice va V.v.length vc).ownBlock = some j → ¬ G' j) ∧ Fr G w w'
theorem pro_lw (h : Lw W w r p c G) (k : Nat) (hk64 : k < 18446744073709551616) (s : Value) (own : List UInt8) (hc : c < maxLen) (hby : Byt w s own) :
    Calls Try.prog 61 #[.pointer (some ⟨r, 0, none⟩), .int .u64 k, s] w fun e w' => LwPro W w r c G (proE p k own) (proV p k own) (proP p k own) e w' := by
  refine (pro_any r p c G k hk64 s own w h.pr h.hG hc hby).mono ?_
  rintro e w' ⟨va, vc, G', he, h1, h2, h3, h4, h5⟩
  exact ⟨va, vc, G', he, h1, h.next h2 h3 h5, h3, h4, h5⟩
theorem byt_nil (w : World) : Byt w (.slice none 0 0) [] := ⟨none, 0, rfl, fun _ => rfl, fun h => absurd rfl h⟩
theorem acc_lw (h : Lw W w r p c G) (x : Int) (k : Nat) (hk64 : k < 18446744073709551616) :
    Calls Try.prog 62 #[.pointer (some ⟨r, 0, none⟩), .int .i64 x, .int .u64 k] w fun e w' => e = .returned (.int .i64 (accE p x k)) ∧ Lw W w' r (accP p x k) c G ∧ Fr G w w' := by
  refine (acc_any r p c G x k hk64 w h.pr).mono ?_
  rintro e w' ⟨he, h1, h2⟩
  exact ⟨he, h.next h1 (Nx.refl _ _ _) h2, h2⟩
end

theorem byt_lit (w : World) (u : UInt8) (m : Nat × Nat) : Byt (w.alloc (.cells #[.int .u8 (u.toNat : Int)] 5 m)) (.slice (some ⟨w.heap.size, 0, none⟩) 1 1) [u] := by
  refine ⟨some ⟨w.heap.size, 0, none⟩, 1, rfl, (fun h => by cases h), fun _ => ⟨w.heap.size, 0, rfl, fun i v hv => ?_⟩⟩
  match i, hv with
  | 0, hv =>
    simp only [List.getElem?_cons_zero, Option.some.injEq] at hv
    subst hv
    unfold World.cell?
    rw [heap_alloc_new w _]
    rfl
/-- One vote in a list of its own. -/
theorem vtl_one {w' : World} {b : Nat} {s : Value} {p : Vt} {X : Nat → Prop} (hB : Blk w' b 46 #[.int .u64 p.s, .int .u64 p.n, .int .i64 p.d, s]) (hs : Byt w' s p.v) (hX : ¬ X b) (hX2 : ∀ g, s.ownBlock = some g → p.v ≠ [] → ¬ X g) (hl : p.v.length ≤ maxLen) (h1 : p.s < 18446744073709551616) (h2 : p.n < 18446744073709551616)
    (h3 : -9223372036854775808 ≤ p.d) (h4 : p.d ≤ 9223372036854775807) (c : Nat) : VtL w' (.slice (some ⟨b, 0, none⟩) 1 c) [p] X := by
  refine ⟨⟨some ⟨b, 0, none⟩, c, rfl, fun i q hq => ?_⟩, by simp [maxLen]⟩
  match i, hq with
  | 0, hq =>
    simp only [List.getElem?_cons_zero, Option.some.injEq] at hq
    subst hq
    exact ⟨b, 0, s, rfl, hX, ⟨hB.cell 0 rfl, hB.cell 1 rfl, hB.cell 2 rfl, hB.cell 3 rfl, hs, hl, h1, h2, h3, h4⟩, hX2⟩

theorem Nx.not {G G' : Nat → Prop} {w w' : World} (h : Nx G G' w w') {j : Nat} (hj : ¬ G j) (hl : j < w.heap.size) : ¬ G' j := fun h' => by
  rcases h j h' with h1 | h1
  · exact hj h1
  · omega
/-- Something of the law's own: a block that is not the proposer's. -/
theorem Lw.not_new {W w : World} {r c : Nat} {p : Ps} {G : Nat → Prop} (h : Lw W w r p c G) {j : Nat} (hj : w.heap.size ≤ j) : ¬ G j := fun hg => by have := (h.lo j hg).2; omega

def Q3 : Qu := ⟨1, 3, 2, 2, []⟩
theorem new_lw (W w : World) (hW : Fr (fun k => W.heap.size ≤ k) W w) (q : Qu) (s : Value) (n : Nat) (d : Int) (f : Nat) (hs : Ints w s q.s) (hnil : ∀ c, s = .slice none 0 c → c = 0) (hl : q.s.length ≤ 1000) (h : rightE q = 0) (hb : rightB n d = true) (hn : n < 18446744073709551616) (hf1 : 1 ≤ f) (hf64 : f < 18446744073709551616) :
    Calls Try.prog 37 #[q.v s, .agg #[.int .u64 n, .int .i64 d], .int .u64 f] w fun e w' => ∃ r G, e = .returned (.tuple #[.pointer (some ⟨r, 0, none⟩), .int .i64 0]) ∧
      Lw W w' r (newP q n d f) 0 G ∧ Fr (fun _ => False) w w' ∧ (∀ j, G j → w.heap.size ≤ j) := by
  refine (new_ok q s n d f w hs hnil hl h hb hn hf1 hf64).mono ?_
  rintro e w' ⟨r, he, h1, h2⟩
  exact ⟨r, _, he, ⟨h1, fun j hj => ⟨by have := hW.size; omega, hj.2⟩, hW.tr h2.none_up⟩, h2, fun j hj => hj.1⟩
theorem ints_nil (w : World) : Ints w (.slice none 0 0) [] := ⟨none, 0, rfl, fun h => absurd rfl h⟩

def K0 : Ps := newP Q3 5 0 1
def K1 : Ps := prmP K0 0 []
def K2 : Ps := prmP K1 2 [⟨1, 3, 1, [120]⟩]
def K3 : Ps := proP K2 1 [121]
def K4 : Ps := proP K3 2 [121]
def K5 : Ps := accP K4 0 1
def K6 : Ps := accP K5 1 1
theorem k_a : proE K0 1 [] = 100 := by kernel_rfl
theorem k_a2 : proP K0 1 [] = K0 := by kernel_rfl
theorem k_a3 : proV K0 1 [] = ⟨0, 0, 0, []⟩ := by kernel_rfl
theorem k_b : prmE K1 2 [⟨1, 3, 1, [120]⟩] = 0 := by kernel_rfl
theorem k_c : proE K2 1 [121] = 0 := by kernel_rfl
theorem k_c2 : proV K2 1 [121] = ⟨1, 5, 0, [120]⟩ := by kernel_rfl
theorem k_d : proE K3 2 [121] = 0 := by kernel_rfl
theorem k_d2 : proV K3 2 [121] = ⟨2, 5, 0, [121]⟩ := by kernel_rfl
theorem k_f : accE K5 1 1 = 0 := by kernel_rfl
theorem k_x : chB K6 1 = some [120] := by kernel_rfl
theorem k_is : isCh K6 1 = true := by kernel_rfl
theorem k_no : isCh K6 2 = false := by kernel_rfl
theorem k_f1 : K6.f = 1 := by kernel_rfl
theorem k_pre : PreAt K6 2 := ⟨by rw [k_f1]; omega, fun j h1 h2 => by
  rw [k_f1] at h1
  have : j = 1 := by omega
  rw [this]; exact k_is, k_no⟩
theorem k_mu : K6.mu = upd (fun _ => none) 1 (⟨1, 3, 1, [120]⟩, 2) := by kernel_rfl
theorem k_top : TopAt K6 1 := by
  refine ⟨fun k hk => ?_, .inr ?_⟩
  · rw [k_mu] at hk
    unfold upd at hk
    split at hk
    · omega
    · cases hk
  · rw [k_mu]; rfl
theorem q3_right : rightE Q3 = 0 := by kernel_rfl

end Go.Proofs.Ytkpfgoalohbfeaa

/- Votes, acts, systems as they come in. -/
namespace Go.Proofs.Ytkpfgoalohbfeaa
open Go.RowKit Go.ChangeShapes Go.WideShapes Go.Deep
theorem u32_of {n : Int} (h : (Lit.int .u32 n).wf = true) : 0 ≤ n ∧ n < 4294967296 := by
  simp [Lit.wf, IntKind.min, IntKind.max, IntKind.signed, IntKind.bits] at h; exact ⟨by omega, by omega⟩
theorem u64_of {n : Int} (h : (Lit.int .u64 n).wf = true) : 0 ≤ n ∧ n < 18446744073709551616 := by
  simp [Lit.wf, IntKind.min, IntKind.max, IntKind.signed, IntKind.bits] at h; exact ⟨by omega, by omega⟩
theorem i64_of {n : Int} (h : (Lit.int .i64 n).wf = true) : -9223372036854775808 ≤ n ∧ n ≤ 9223372036854775807 := by
  simp [Lit.wf, IntKind.min, IntKind.max, IntKind.signed, IntKind.bits] at h; exact ⟨by omega, by omega⟩
/-- An act: its kind, its node, its slot, the value, the votes. -/
structure At where
  k : Int
  n : Int
  s : Nat
  o : List UInt8
  v : List Vt
/-- An act's cells at a place. -/
structure ActAt (w : World) (b o : Nat) (x : At) (os vs : Value) (X : Nat → Prop) : Prop where
  c0 : w.cell? ⟨b, o, none⟩ = some (.int .i64 x.k)
  c1 : w.cell? ⟨b, o + 1, none⟩ = some (.int .i64 x.n)
  c2 : w.cell? ⟨b, o + 2, none⟩ = some (.int .u64 x.s)
  c3 : w.cell? ⟨b, o + 3, none⟩ = some os
  c4 : w.cell? ⟨b, o + 4, none⟩ = some vs
  own : Byt w os x.o
  ol : x.o.length ≤ maxLen
  ox : ∀ g, os.ownBlock = some g → x.o ≠ [] → ¬ X g
  vot : VtL w vs x.v X
  s64 : x.s < 18446744073709551616
  bx : ¬ X b
def AtL (w : World) (v : Value) (xs : List At) (X : Nat → Prop) : Prop :=
  ∃ A c, v = .slice A xs.length c ∧ xs.length ≤ maxLen ∧ ∀ i x, xs[i]? = some x → ∃ b off os vs, A = some ⟨b, off, none⟩ ∧ ActAt w b (off + i * 5) x os vs X
theorem ActAt.up {w w' : World} {b o : Nat} {x : At} {os vs : Value} {X Y : Nat → Prop} (h : ActAt w b o x os vs X) (hf : Fr Y w w') (hx : ∀ k, Y k → X k) : ActAt w' b o x os vs X :=
  ⟨hf.cell h.c0 (fun e => h.bx (hx _ e)), hf.cell h.c1 (fun e => h.bx (hx _ e)), hf.cell h.c2 (fun e => h.bx (hx _ e)), hf.cell h.c3 (fun e => h.bx (hx _ e)), hf.cell h.c4 (fun e => h.bx (hx _ e)),
    h.own.fr' hf (fun k hk hn e => h.ox k hk hn (hx k e)), h.ol, h.ox, h.vot.up hf hx, h.s64, h.bx⟩

section
variable {H : Type} {enc : TypeId × Value → H} {w : World} {base : Nat} {spare : Nat → Bool} {held : Bool}
theorem trod_byt {fuel : Nat} {cs : List Value} {x : DataW H × List MemPlace} (h : DataW.trod enc Try.prog w base spare held fuel 31 cs = some x) :
    ∃ s bs, cs = [s] ∧ Byt w s bs ∧ bs.length ≤ maxLen ∧ ∀ k, s.ownBlock = some k → bs ≠ [] → k < w.heap.size := by
  rcases open_ints Try.underlying31 Try.underlying5 (by kernel_rfl) h with ⟨rfl, _⟩ | ⟨a, len, cap, zs, rfl, _, hl, hm, hz, _, hcell, hw⟩
  · exact ⟨_, [], rfl, ⟨none, 0, rfl, fun _ => rfl, fun h => absurd rfl h⟩, by simp, fun k hk => by simp [Value.ownBlock] at hk⟩
  · have hzl : len ≤ zs.length := by rw [hz]; split <;> omega
    have hlen : ((zs.take len).map fun z => UInt8.ofNat z.toNat).length = len := by simp; omega
    have hget : ∀ i u, ((zs.take len).map fun z => UInt8.ofNat z.toNat)[i]? = some u → i < len ∧ (u.toNat : Int) = zs.getD i 0 := by
      intro i u hu
      have hi : i < len := by rw [← hlen]; exact (List.getElem?_eq_some_iff.1 hu).1
      refine ⟨hi, ?_⟩
      rw [List.getElem?_map, List.getElem?_take, if_pos hi, List.getElem?_eq_getElem (by omega)] at hu
      simp only [Option.map_some, Option.some.injEq] at hu
      rw [List.getD_eq_getElem?_getD, List.getElem?_eq_getElem (by omega)]
      have := hw _ (List.getElem_mem (l := zs) (n := i) (by omega))
      simp [Lit.wf, IntKind.min, IntKind.max, IntKind.signed, IntKind.bits] at this
      rw [← hu]
      simp only [Option.getD_some, UInt8.toNat_ofNat']
      omega
    refine ⟨_, (zs.take len).map fun z => UInt8.ofNat z.toNat, rfl, ⟨some a, cap, by rw [hlen], (fun h => by cases h), fun hne => ?_⟩, by rw [hlen]; omega, fun k hk hne => ?_⟩
    · have hpos : 0 < len := by
        rcases Nat.eq_zero_or_pos len with h0 | h0
        · subst h0; simp at hne
        · exact h0
      obtain ⟨b, off, rfl, hc⟩ := ints_at hcell (by omega)
      exact ⟨b, off, rfl, fun i u hu => by rw [hc i (by have := (hget i u hu).1; omega), (hget i u hu).2]⟩
    · have hpos : 0 < len := by
        rcases Nat.eq_zero_or_pos len with h0 | h0
        · subst h0; simp at hne
        · exact h0
      obtain ⟨b, off, rfl, hc⟩ := ints_at hcell (by omega)
      simp only [Value.ownBlock] at hk
      injection hk with hk
      subst hk
      exact World.block_lt_of_cell? w _ (hc 0 (by omega))
theorem trod_ints {fuel : Nat} {cs : List Value} {x : DataW H × List MemPlace} (h : DataW.trod enc Try.prog w base spare held fuel 22 cs = some x) :
    ∃ s l, cs = [s] ∧ Ints w s l ∧ l.length ≤ maxLen ∧ ∀ c, s = .slice none 0 c → c = 0 := by
  rcases open_ints Try.underlying22 Try.underlying3 (by kernel_rfl) h with ⟨rfl, _⟩ | ⟨a, len, cap, zs, rfl, _, hl, hm, hz, _, hcell, hw⟩
  · exact ⟨_, [], rfl, ⟨none, 0, rfl, fun h => absurd rfl h⟩, by simp, fun c h => by injection h with _ _ h; exact h.symm⟩
  · have hzl : len ≤ zs.length := by rw [hz]; split <;> omega
    have hlen : (zs.take len).length = len := by simp; omega
    refine ⟨_, zs.take len, rfl, ⟨some a, cap, by rw [hlen], fun hne => ?_⟩, by rw [hlen]; omega, fun c h => by injection h with h; cases h⟩
    have hpos : 0 < len := by
      rcases Nat.eq_zero_or_pos len with h0 | h0
      · subst h0; simp at hne
      · exact h0
    obtain ⟨b, off, rfl, hc⟩ := ints_at hcell (by omega)
    refine ⟨b, off, rfl, fun i z hzi => ?_⟩
    have hi : i < len := by have := (List.getElem?_eq_some_iff.1 hzi).1; omega
    rw [List.getElem?_take, if_pos hi] at hzi
    rw [hc i (by omega), List.getD_eq_getElem?_getD, hzi]
    rfl
set_option maxRecDepth 100000 in
theorem trod_qu {fuel : Nat} {cs : List Value} {x : DataW H × List MemPlace} (h : DataW.trod enc Try.prog w base spare held fuel 24 cs = some x) :
    ∃ (q : Qu) (s : Value), cs = [.int .i64 q.k, .int .i64 q.n, .int .i64 q.o, .int .i64 q.t, s] ∧ Ints w s q.s ∧ q.s.length ≤ maxLen ∧ ∀ c, s = .slice none 0 c → c = 0 := by
  obtain ⟨xs, n, _, hx, hlen, hxl, hf⟩ := DataW.trod_struct Try.underlying24 h
  have hl5 : cs.length = 5 := hlen.trans (by kernel_rfl)
  match cs, hl5 with
  | [c0, c1, c2, c3, c4], _ =>
    have g0 := hf 0 _ rfl
    have g1 := hf 1 _ rfl
    have g2 := hf 2 _ rfl
    have g3 := hf 3 _ rfl
    have g4 := hf 4 _ rfl
    have l5 : xs.length = 5 := hxl.trans rfl
    match xs, l5 with
    | [y0, y1, y2, y3, y4], _ =>
      have e0 : DataW.trod enc Try.prog w base spare held n 3 [c0] = some y0 := g0
      have e1 : DataW.trod enc Try.prog w base spare held n 3 [c1] = some y1 := g1
      have e2 : DataW.trod enc Try.prog w base spare held n 3 [c2] = some y2 := g2
      have e3 : DataW.trod enc Try.prog w base spare held n 3 [c3] = some y3 := g3
      have e4 : DataW.trod enc Try.prog w base spare held n 22 [c4] = some y4 := g4
      obtain ⟨k, hc0, _, wf0⟩ := DataW.trod_int Try.underlying3 e0
      obtain ⟨n', hc1, _, wf1⟩ := DataW.trod_int Try.underlying3 e1
      obtain ⟨o, hc2, _, wf2⟩ := DataW.trod_int Try.underlying3 e2
      obtain ⟨t, hc3, _, wf3⟩ := DataW.trod_int Try.underlying3 e3
      obtain ⟨s, l, hc4, hb, hbl, hnil⟩ := trod_ints e4
      injection hc0 with hc0 _
      injection hc1 with hc1 _
      injection hc2 with hc2 _
      injection hc3 with hc3 _
      injection hc4 with hc4 _
      subst hc0 hc1 hc2 hc3 hc4
      exact ⟨⟨k, n', o, t, l⟩, c4, rfl, hb, hbl, hnil⟩
set_option maxRecDepth 100000 in
theorem trod_bal {fuel : Nat} {cs : List Value} {x : DataW H × List MemPlace} (h : DataW.trod enc Try.prog w base spare held fuel 44 cs = some x) :
    ∃ (n : Nat) (d : Int), cs = [.int .u64 n, .int .i64 d] ∧ n < 18446744073709551616 ∧ -9223372036854775808 ≤ d ∧ d ≤ 9223372036854775807 := by
  obtain ⟨xs, n, _, hx, hlen, hxl, hf⟩ := DataW.trod_struct Try.underlying44 h
  have hl2 : cs.length = 2 := hlen.trans (by kernel_rfl)
  match cs, hl2 with
  | [c0, c1], _ =>
    have g0 := hf 0 _ rfl
    have g1 := hf 1 _ rfl
    have l2 : xs.length = 2 := hxl.trans rfl
    match xs, l2 with
    | [y0, y1], _ =>
      have e0 : DataW.trod enc Try.prog w base spare held n 42 [c0] = some y0 := g0
      have e1 : DataW.trod enc Try.prog w base spare held n 3 [c1] = some y1 := g1
      obtain ⟨a, hc0, _, wf0⟩ := DataW.trod_int Try.underlying42 e0
      obtain ⟨d, hc1, _, wf1⟩ := DataW.trod_int Try.underlying3 e1
      obtain ⟨h1, h2⟩ := u64_of wf0
      obtain ⟨h3, h4⟩ := i64_of wf1
      obtain ⟨a, rfl⟩ := Int.eq_ofNat_of_zero_le h1
      injection hc0 with hc0 _
      injection hc1 with hc1 _
      subst hc0 hc1
      exact ⟨a, d, rfl, by omega, h3, h4⟩
set_option maxRecDepth 100000 in
theorem trod_vt {fuel : Nat} {cs : List Value} {x : DataW H × List MemPlace} (h : DataW.trod enc Try.prog w base spare held fuel 46 cs = some x) :
    ∃ (p : Vt) (s : Value), cs = [.int .u64 p.s, .int .u64 p.n, .int .i64 p.d, s] ∧ Byt w s p.v ∧ p.v.length ≤ maxLen ∧ p.s < 18446744073709551616 ∧ p.n < 18446744073709551616 ∧ -9223372036854775808 ≤ p.d ∧ p.d ≤ 9223372036854775807 ∧ ∀ k, s.ownBlock = some k → p.v ≠ [] → k < w.heap.size := by
  obtain ⟨xs, n, _, hx, hlen, hxl, hf⟩ := DataW.trod_struct Try.underlying46 h
  have hl4 : cs.length = 4 := hlen.trans (by kernel_rfl)
  match cs, hl4 with
  | [c0, c1, c2, c3], _ =>
    have g0 := hf 0 _ rfl
    have g1 := hf 1 _ rfl
    have g2 := hf 2 _ rfl
    have l3 : xs.length = 3 := hxl.trans rfl
    match xs, l3 with
    | [y0, y1, y2], _ =>
      have e0 : DataW.trod enc Try.prog w base spare held n 42 [c0] = some y0 := g0
      have e1 : DataW.trod enc Try.prog w base spare held n 44 [c1, c2] = some y1 := g1
      have e2 : DataW.trod enc Try.prog w base spare held n 31 [c3] = some y2 := g2
      obtain ⟨a, hc0, _, wf0⟩ := DataW.trod_int Try.underlying42 e0
      obtain ⟨bn, d, hc1, h1, h2, h3⟩ := trod_bal e1
      obtain ⟨s, bs, hc2, hb, hbl, hlt⟩ := trod_byt e2
      obtain ⟨h4, h5⟩ := u64_of wf0
      obtain ⟨a, rfl⟩ := Int.eq_ofNat_of_zero_le h4
      injection hc0 with hc0 _
      injection hc1 with hc1 hc1'
      injection hc1' with hc1' _
      injection hc2 with hc2 _
      subst hc0 hc1 hc1' hc2
      exact ⟨⟨a, bn, d, bs⟩, c3, rfl, hb, hbl, by show a < _; omega, h1, h2, h3, hlt⟩
theorem cells_at {a : Addr} {n : Nat} {cs : List Value} (h : w.cells? base a n = some cs) (hn : 0 < n) : ∃ b off, a = ⟨b, off, none⟩ ∧ b < w.heap.size ∧ ∀ j, j < n → w.cell? ⟨b, off + j, none⟩ = cs[j]? := by
  obtain ⟨_, hl, hc⟩ := World.cells?_some h
  obtain ⟨b, off, spot⟩ := a
  have h0 := hc 0 hn
  rw [List.getElem?_eq_getElem (by omega)] at h0
  have hspot : spot = none := by simpa [Addr.add] using World.cell?_spot h0
  subst hspot
  refine ⟨b, off, rfl, World.block_lt_of_cell? w _ h0, fun j hj => ?_⟩
  rw [← Go.WideShapes.add_plain]
  exact hc j hj
instance : Inhabited Vt := ⟨⟨0, 0, 0, []⟩⟩
instance : Inhabited At := ⟨⟨0, 0, 0, [], []⟩⟩
theorem trod_vts {fuel : Nat} {cs : List Value} {x : DataW H × List MemPlace} (h : DataW.trod enc Try.prog w base spare held fuel 51 cs = some x) :
    ∃ v ps, cs = [v] ∧ VtL w v ps (fun k => w.heap.size ≤ k) := by
  have hc4 : Try.prog.cellsOf 46 = 4 := by kernel_rfl
  rcases open_slice Try.underlying51 h with ⟨rfl, _⟩ | ⟨a, len, cap, m, n, D, Pl, rfl, _, hl, hm, hmm, _, hi⟩
  · exact ⟨_, [], rfl, VtL.nil _ _⟩
  · have hle : len ≤ m := by rw [hmm]; split <;> omega
    rw [hc4] at hi
    rcases Nat.eq_zero_or_pos len with h0 | h0
    · subst h0
      exact ⟨_, [], rfl, ⟨some a, cap, rfl, fun i p hp => by simp at hp⟩, by simp⟩
    have ha : ∃ b off, a = ⟨b, off, none⟩ := by
      obtain ⟨cs', hc, _⟩ := hi 0 (by omega)
      obtain ⟨b, off, he, _⟩ := cells_at hc (by omega)
      simp [Addr.add] at he
      exact ⟨b, off, he⟩
    obtain ⟨b, off, rfl⟩ := ha
    have each : ∀ i, i < len → ∃ p : Vt, ∃ s, b < w.heap.size ∧ VtAt w b (off + i * 4) p s ∧ ∀ k, s.ownBlock = some k → p.v ≠ [] → k < w.heap.size := by
      intro i hil
      obtain ⟨cs', hc, ht⟩ := hi i (by omega)
      obtain ⟨p, s, rfl, hb, hbl, h1, h2, h3, h4, h5⟩ := trod_vt ht
      obtain ⟨b', off', he, hbl', hcell⟩ := cells_at hc (by omega)
      rw [Go.WideShapes.add_plain] at he
      injection he with he1 he2
      subst he1 he2
      exact ⟨p, s, hbl', ⟨hcell 0 (by omega), hcell 1 (by omega), hcell 2 (by omega), hcell 3 (by omega), hb, hbl, h1, h2, h3, h4⟩, h5⟩
    obtain ⟨P, hP⟩ := choose_lt each
    refine ⟨_, (List.range len).map P, rfl, ⟨some ⟨b, off, none⟩, cap, by simp, fun i p hp => ?_⟩, by simp; omega⟩
    have hil : i < len := by have := (List.getElem?_eq_some_iff.1 hp).1; simpa using this
    rw [List.getElem?_map, List.getElem?_range hil] at hp
    simp only [Option.map_some, Option.some.injEq] at hp
    subst hp
    obtain ⟨s, hb, h, h5⟩ := hP i hil
    exact ⟨b, off, s, rfl, by omega, h, fun g hg hn => by have := h5 g hg hn; omega⟩
end
end Go.Proofs.Ytkpfgoalohbfeaa

/- long; the document's Same of bytes, and of votes. -/
namespace Go.Proofs.Ytkpfgoalohbfeaa
open Go.RowKit

/-- Not too long. -/
def ShortA (x : At) : Prop := x.o.length ≤ 4000 ∧ x.v.length ≤ 4000 ∧ ∀ y ∈ x.v, y.v.length ≤ 4000
def Short (l : List At) (j : Nat) : Prop := ∀ i x, i < j → i < 60 → l[i]? = some x → ShortA x
def SameW (w w' : World) : Prop := w = w'
def LongPost (l : List At) (w : World) (e : Ending) (w' : World) : Prop := ∃ b, e = .returned (.bool b) ∧ w = w' ∧ (b = false → Short l l.length)
def Upto (x : At) (k n : Nat) : Prop := x.o.length ≤ n ∧ k ≤ n ∧ k ≤ x.v.length ∧ ∀ i y, i < k → x.v[i]? = some y → min y.v.length 4000 < n
theorem Upto.short {x : At} {n : Nat} (h : Upto x x.v.length n) (hn : n ≤ 4000) : ShortA x := by
  obtain ⟨h1, h2, h3, h4⟩ := h
  refine ⟨by omega, by omega, fun y hy => ?_⟩
  obtain ⟨i, hi⟩ := List.getElem?_of_mem hy
  have := h4 i y (List.getElem?_eq_some_iff.1 hi).1 hi
  omega
theorem Upto.next {x : At} {k n : Nat} {y : Vt} (h : Upto x k n) (hy : x.v[k]? = some y) : Upto x (k + 1) (n + (min y.v.length 4000 + 1)) := by
  obtain ⟨h1, h2, h3, h4⟩ := h
  have := (List.getElem?_eq_some_iff.1 hy).1
  refine ⟨by omega, by omega, by omega, fun i z hi hz => ?_⟩
  by_cases hik : i = k
  · subst hik
    rw [hy] at hz
    cases hz
    omega
  · have := h4 i z (by omega) hz
    omega
theorem Short.next {l : List At} {j : Nat} {x : At} (h : Short l j) (hx : l[j]? = some x) (hs : ShortA x) : Short l (j + 1) := by
  intro i y hi h60 hy
  by_cases hij : i = j
  · subst hij
    rw [hx] at hy
    cases hy
    exact hs
  · exact h i y (by omega) h60 hy

theorem str_tl {a b : List UInt8} (h : a ≠ b) : ((strOf a).toList == (strOf b).toList) = false := by
  unfold strOf
  rw [ByteArray.toList_mk, ByteArray.toList_mk]
  simpa using h
set_option maxHeartbeats 1000000 in
theorem same_any (a b : Value) (la lb : List UInt8) (w : World) (ha : Byt w a la) (hb : Byt w b lb) :
    Calls Try.prog 15 #[a, b] w fun e w' => e = .returned (.bool (decide (la = lb))) ∧ w = w' := by
  have e1 : (convert 31 9 a).run Try.prog w = .ok (.string (strOf la)) w := run_str (src := 31) (dst := 9) Try.underlying31 Try.underlying5 Try.underlying9 ha
  have e2 : (convert 31 9 b).run Try.prog w = .ok (.string (strOf lb)) w := run_str (src := 31) (dst := 9) Try.underlying31 Try.underlying5 Try.underlying9 hb
  obtain ⟨A, c, rfl, -, -⟩ := ha
  obtain ⟨B, d, rfl, -, -⟩ := hb
  by_cases h : la = lb
  · subst h
    obtain ⟨S, hS⟩ : ∃ S, S = strOf la := ⟨_, rfl⟩
    rw [← hS] at e1 e2
    clear hS
    rw [decide_eq_true rfl]
    go_enter Try.func15, Try.ntmps15
    go_wp2_with fail
    go_ret
    exact ⟨rfl, rfl⟩
  · have hs := str_tl h
    obtain ⟨S, hS⟩ : ∃ S, S = strOf la := ⟨_, rfl⟩
    obtain ⟨T, hT⟩ : ∃ T, T = strOf lb := ⟨_, rfl⟩
    rw [← hS] at e1 hs
    rw [← hT] at e2 hs
    clear hS hT
    rw [decide_eq_false h]
    go_enter Try.func15, Try.ntmps15
    go_wp2_with fail
    go_ret
    exact ⟨rfl, rfl⟩

def SameVPost (la lb : List Vt) (w : World) (e : Ending) (w' : World) : Prop := ∃ bb, e = .returned (.bool bb) ∧ (bb = true ↔ la = lb) ∧ Fr (fun _ => False) w w'
theorem take_succ_eq {α : Type} {a b : List α} {j : Nat} {x : α} (h : a.take j = b.take j) (ha : a[j]? = some x) (hb : b[j]? = some x) : a.take (j + 1) = b.take (j + 1) := by
  rw [List.take_add_one, List.take_add_one, h, ha, hb]
theorem ne_at {α : Type} {a b : List α} {j : Nat} {x y : α} (ha : a[j]? = some x) (hb : b[j]? = some y) (h : x ≠ y) : a ≠ b := by
  rintro rfl
  rw [ha] at hb
  injection hb with hb
  exact h hb

set_option maxRecDepth 100000 in
set_option maxHeartbeats 4000000 in
theorem rsame_any (a b : Value) (la lb : List Vt) (X Y : Nat → Prop) (w : World) (ha : VtL w a la X) (hb : VtL w b lb Y) :
    Calls Try.prog 53 #[a, b] w (SameVPost la lb w) := by
  have ha' := ha.mono (Y := fun _ => False) (fun _ h => h.elim)
  have hb' := hb.mono (Y := fun _ => False) (fun _ h => h.elim)
  clear ha hb
  have HA := Lib.hid ha'
  have HB := Lib.hid hb'
  obtain ⟨⟨A, c, rfl, -⟩, hla⟩ := ha'
  obtain ⟨⟨B, d, rfl, -⟩, hlb⟩ := hb'
  unfold maxLen at hla hlb
  by_cases hl : la.length = lb.length
  · have hl' : ((la.length : Int) != (lb.length : Int)) = false := by simp [hl]
    have HL := Lib.hid hl
    clear hl
    go_enter Try.func53, Try.ntmps53
    go_wp2_with fail
    clear hl'
    go_loopg [5] la.length (fun g x5 wr => ∃ (j : Nat), j + g = la.length ∧ x5 = .int .i64 j ∧ la.take j = lb.take j ∧ Fr (fun _ => False) w wr)
    case atStart => exact ⟨0, by omega, rfl, rfl, Fr.refl _ _⟩
    case round =>
      obtain ⟨j, hj, rfl, htk, hfr⟩ := hrel
      have HJ := Lib.hid hj
      have HT := Lib.hid htk
      have hj' : j ≤ la.length := by omega
      clear hj htk
      by_cases hlt : j < la.length
      · obtain ⟨p, hp⟩ : ∃ p, la[j]? = some p := ⟨_, List.getElem?_eq_getElem hlt⟩
        have hlt' : j < lb.length := by have := HL.out; omega
        obtain ⟨p', hp'⟩ : ∃ p, lb[j]? = some p := ⟨_, List.getElem?_eq_getElem hlt'⟩
        obtain ⟨⟨A1, c1, e1, h1⟩, -⟩ := HA.out.fr hfr
        obtain ⟨b1, o1, s1, rfl, -, hat, -⟩ := h1 j p hp
        injection e1 with e1 _ e3
        subst e1 e3
        obtain ⟨⟨A2, c2, e2, h2⟩, -⟩ := HB.out.fr hfr
        obtain ⟨b2, o2, s2, rfl, -, hat', -⟩ := h2 j p' hp'
        injection e2 with e2 _ e3
        subst e2 e3
        have q0 := hat.c0
        have q1 := hat.c1
        have q2 := hat.c2
        have q3 := hat.c3
        have r0 := hat'.c0
        have r1 := hat'.c1
        have r2 := hat'.c2
        have r3 := hat'.c3
        have hj0 : (0 : Int) ≤ (j : Int) := by omega
        have hj1 : (j : Int) < (la.length : Int) := by omega
        have hj2 : (j : Int) < (lb.length : Int) := by omega
        have kc1 := fun n => run_str (P := Try.prog) (w := wr.drewN n) (src := 31) (dst := 9) Try.underlying31 Try.underlying5 Try.underlying9 (hat.by_.drewN n)
        have kc2 := fun n => run_str (P := Try.prog) (w := wr.drewN n) (src := 31) (dst := 9) Try.underlying31 Try.underlying5 Try.underlying9 (hat'.by_.drewN n)
        have HP := Lib.hid (And.intro hp hp')
        have HN := Lib.hid (fun h : p ≠ p' => ne_at hp hp' h)
        clear hat hat' h1 h2 hp hp'
        obtain ⟨s, n, d0, v⟩ := p
        obtain ⟨s', n', d0', v'⟩ := p'
        simp only at q0 q1 q2 q3 r0 r1 r2 r3 kc1 kc2
        by_cases hs : s = s'
        · subst hs
          by_cases hnd : n = n' ∧ d0 = d0'
          · obtain ⟨rfl, rfl⟩ := hnd
            by_cases hv : v = v'
            · subst hv
              go_upto_region 6 with (fail)
              go_quiet (fail)
              go_wp2_with fail
              go_roundg (la.length - (j + 1))
              case measure => have := HJ.out; omega
              case rel => exact ⟨j + 1, by have := HJ.out; omega, by go_num, take_succ_eq HT.out HP.out.1 HP.out.2, hfr.drewN _⟩
            · have hv1 := str_tl hv
              have hv2 : ((strOf v).toList != (strOf v').toList) = true := by simp [bne, hv1]
              have HV := Lib.hid hv
              clear hv
              go_upto_region 6 with (fail)
              go_quiet (fail)
              go_wp2_with fail
              go_ret
              refine ⟨false, rfl, ?_, hfr.drewN _⟩
              have := HN.out (by intro e; injection e; first | exact HV.out ‹_› | exact HV.out (by assumption))
              simp [this]
          · by_cases hn : n = n'
            · subst hn
              have hd : ¬ d0 = d0' := fun h => hnd ⟨rfl, h⟩
              have hd1 : (d0 != d0') = true := by simpa using hd
              have hd2 : (d0 == d0') = false := by simpa using hd
              have HV := Lib.hid hd
              clear hd hnd
              go_upto_region 6 with (fail)
              go_quiet (fail)
              go_wp2_with fail
              go_ret
              refine ⟨false, rfl, ?_, hfr.drewN _⟩
              have := HN.out (by intro e; injection e; first | exact HV.out ‹_› | exact HV.out (by assumption))
              simp [this]
            · have hn1 : ((n : Int) != (n' : Int)) = true := by simp; omega
              have hn2 : ((n : Int) == (n' : Int)) = false := by simp; omega
              have HV := Lib.hid hn
              clear hn hnd
              go_upto_region 6 with (fail)
              go_quiet (fail)
              go_wp2_with fail
              go_ret
              refine ⟨false, rfl, ?_, hfr.drewN _⟩
              have := HN.out (by intro e; injection e; first | exact HV.out ‹_› | exact HV.out (by assumption))
              simp [this]
        · have hs1 : ((s : Int) != (s' : Int)) = true := by simp; omega
          go_upto_region 6 with (fail)
          go_quiet (fail)
          go_wp2_with fail
          go_ret
          refine ⟨false, rfl, ?_, hfr.drewN _⟩
          have := HN.out (by intro e; injection e with e; exact hs e)
          simp [this]
      · obtain rfl : j = la.length := by omega
        go_wp2_with fail
        go_ret
        refine ⟨true, rfl, ?_, hfr⟩
        have h := HT.out
        rw [List.take_length, HL.out, List.take_length] at h
        simp [h]
  · have hl' : ((la.length : Int) != (lb.length : Int)) = true := by simp; omega
    have hne : la ≠ lb := fun e => hl (by rw [e])
    have HN := Lib.hid hne
    clear hl hne
    go_enter Try.func53, Try.ntmps53
    go_wp2_with fail
    go_ret
    exact ⟨false, rfl, by simp [HN.out], Fr.refl _ _⟩
end Go.Proofs.Ytkpfgoalohbfeaa

/- ProposeSame. -/
namespace Go.Proofs.Ytkpfgoalohbfeaa
open Go.RowKit

/-! ### plain -/
theorem q3_isq {sec : Bool} {a b : Nat} (hab : a ≠ b) (ha : a < 3) (hb : b < 3) {p : Nat → Bool} (h1 : p a = true) (h2 : p b = true) : isQ Q3 sec p = true := by
  have hm : isQ Q3 sec (2 ^ a ||| 2 ^ b).testBit = true := by
    have h : ∀ (a b : Fin 3) (s : Bool), a ≠ b → isQ Q3 s (2 ^ a.val ||| 2 ^ b.val).testBit = true := by decide +kernel
    exact h ⟨a, ha⟩ ⟨b, hb⟩ sec (fun e => hab (by injection e))
  refine isQ_mono (fun i _ hi => ?_) hm
  rw [Nat.testBit_or, Nat.testBit_two_pow, Nat.testBit_two_pow, Bool.or_eq_true, decide_eq_true_eq, decide_eq_true_eq] at hi
  rcases hi with rfl | rfl
  · exact h1
  · exact h2
theorem prmP_bit {p : Ps} {x : Int} {l : List Vt} {i : Nat} (h : p.set.testBit i = true) : (prmP p x l).set.testBit i = true := by
  unfold prmP; split
  · show (p.set ||| _).testBit i = true
    rw [Nat.testBit_or, h]; rfl
  · exact h
theorem prmP_own {p : Ps} {x : Nat} (hn : nodeB p x = true) : (prmP p x []).set.testBit x = true := by
  have e : prmE p x [] = 0 := by unfold prmE; rw [hn]; rfl
  unfold prmP
  split
  · show (p.set ||| 2 ^ x).testBit x = true
    rw [Nat.testBit_or, Nat.testBit_two_pow]
    simp
  · rename_i h
    cases ht : p.set.testBit x with
    | true => rfl
    | false => exact absurd ⟨e, ht⟩ h
theorem accP_set (p : Ps) (x : Int) (k : Nat) : (accP p x k).set = p.set := by unfold accP; split <;> (try split) <;> rfl
theorem proP_set (p : Ps) (k : Nat) (own : List UInt8) : (proP p k own).set = p.set := by unfold proP; split <;> (try split) <;> rfl

/-- Nothing is proposed yet. -/
structure S0 (p : Ps) : Prop where
  q : p.q = Q3
  f : p.f = 1
  sl : ∀ k, p.sl k = none
theorem S0.new (n : Nat) (d : Int) : S0 (newP Q3 n d 1) := ⟨rfl, rfl, fun _ => rfl⟩
theorem S0.prm {p : Ps} (h : S0 p) (x : Int) (l : List Vt) : S0 (prmP p x l) := ⟨(prmP_q p x l).trans h.q, (prmP_f p x l).trans h.f, fun k => by rw [prmP_sl]; exact h.sl k⟩
theorem S0.node {p : Ps} (h : S0 p) (x : Nat) (hx : x < 3) : nodeB p x = true := by
  unfold nodeB
  rw [h.q]
  exact decide_eq_true ⟨by omega, by show (x : Int) < 3; omega⟩
/-- A value has been proposed in the slot k, and a quorum has accepted it. -/
structure SmP (p : Ps) (k : Nat) (V : Vt) : Prop where
  q : p.q = Q3
  f : p.f = 1
  s0 : p.set.testBit 0 = true
  s1 : p.set.testBit 1 = true
  sl : ∃ X, p.sl k = some (V, X) ∧ X.testBit 0 = true ∧ X.testBit 2 = true
section
variable {p : Ps} {k : Nat} {V : Vt}
theorem rd_of (hq : p.q = Q3) (h0 : p.set.testBit 0 = true) (h1 : p.set.testBit 1 = true) : readyB p = true := by
  unfold readyB; rw [hq]; exact q3_isq (by decide) (by decide) (by decide) h0 h1
theorem SmP.prm (h : SmP p k V) (x : Int) (l : List Vt) : SmP (prmP p x l) k V :=
  ⟨(prmP_q p x l).trans h.q, (prmP_f p x l).trans h.f, prmP_bit h.s0, prmP_bit h.s1, by rw [prmP_sl]; exact h.sl⟩
theorem SmP.acc (h : SmP p k V) (x : Int) (j : Nat) : SmP (accP p x j) k V := by
  obtain ⟨X, h1, h2, h3⟩ := h.sl
  obtain ⟨Y, h4, h5⟩ := accP_sl (x := x) (k := j) h1
  exact ⟨(accP_q p x j).trans h.q, (accP_f p x j).trans h.f, by rw [accP_set]; exact h.s0, by rw [accP_set]; exact h.s1, Y, h4, h5 _ h2, h5 _ h3⟩
theorem SmP.pro (h : SmP p k V) (hk : 1 ≤ k) (own : List UInt8) : proE p k own = 0 ∧ proV p k own = V ∧ proP p k own = p := by
  obtain ⟨X, h1, -⟩ := h.sl
  have e : proE p k own = 0 := by
    unfold proE
    rw [rd_of h.q h.s0 h.s1, h.f, if_pos rfl, if_neg (by omega), h1]
  refine ⟨e, ?_, ?_⟩
  · unfold proV; rw [if_pos e, h1]
  · unfold proP; rw [if_pos e, h1]
theorem SmP.ch (h : SmP p k V) : chB p k = some V.v := by
  obtain ⟨X, h1, h2, h3⟩ := h.sl
  unfold chB
  rw [h1, h.q]
  show (if isQ Q3 true X.testBit = true then some V.v else none) = _
  rw [q3_isq (by decide) (by decide) (by decide) h2 h3]
  rfl
/-- The first proposal. -/
theorem S0.pro (h : S0 p) (hw : Wf p) (hk : 1 ≤ k) (h0 : p.set.testBit 0 = true) (h1 : p.set.testBit 1 = true) (own : List UInt8) (ho : own.length ≤ 100) :
    proE p k own = 0 ∧ ∃ V, proV p k own = V ∧ V.s = k ∧ V.n = p.n ∧ V.d = p.d ∧ V.v.length ≤ 100 ∧ proP p k own = { p with sl := upd p.sl k (V, 0) } := by
  have hl : (proVal p k own).length ≤ 100 := by
    unfold proVal muB
    cases hm : p.mu k with
    | none => simpa using ho
    | some y => obtain ⟨v, nd⟩ := y; exact (hw.mu k v nd hm).2.2
  have e : proE p k own = 0 := by
    unfold proE
    rw [rd_of h.q h0 h1, h.f, if_pos rfl, if_neg (by omega), h.sl k]
    simp only
    rw [if_neg (by omega)]
  refine ⟨e, _, rfl, ?_⟩
  unfold proV proP
  rw [if_pos e, if_pos e, h.sl k]
  exact ⟨rfl, rfl, rfl, hl, rfl⟩
theorem acc_at {x : Nat} {z : Int} (hz : z = (x : Int)) (hq : p.q = Q3) (hx : x < 3) {X : Nat} (h : p.sl k = some (V, X)) : accE p z k = 0 ∧ accP p z k = { p with sl := upd p.sl k (V, X ||| 2 ^ x) } := by
  subst hz
  have hn : nodeB p x = true := by
    unfold nodeB
    rw [hq]
    exact decide_eq_true ⟨by omega, by show (x : Int) < 3; omega⟩
  unfold accE accP
  rw [hn, h]
  exact ⟨rfl, rfl⟩
/-- .. and two that accept. -/
theorem S0.both (h : S0 p) (h0 : p.set.testBit 0 = true) (h1 : p.set.testBit 1 = true) {p1 : Ps} (hp : p1 = { p with sl := upd p.sl k (V, 0) }) :
    accE p1 0 k = 0 ∧ accE (accP p1 0 k) 2 k = 0 ∧ SmP (accP (accP p1 0 k) 2 k) k V := by
  have a1 : p1.sl k = some (V, 0) := by rw [hp]; simp [upd]
  have q1 : p1.q = Q3 := by rw [hp]; exact h.q
  obtain ⟨e1, e2⟩ := acc_at (x := 0) (z := 0) rfl q1 (by decide) a1
  have a2 : (accP p1 0 k).sl k = some (V, 0 ||| 2 ^ 0) := by rw [e2]; simp [upd]
  obtain ⟨e3, e4⟩ := acc_at (x := 2) (z := 2) rfl ((accP_q p1 0 k).trans q1) (by decide) a2
  refine ⟨e1, e3, ?_⟩
  rw [e4]
  refine ⟨(accP_q p1 0 k).trans q1, ?_, ?_, ?_, _, by simp [upd]; rfl, by decide, by decide⟩
  · show (accP p1 0 k).f = 1; rw [accP_f, hp]; exact h.f
  · show (accP p1 0 k).set.testBit 0 = true; rw [accP_set, hp]; exact h0
  · show (accP p1 0 k).set.testBit 1 = true; rw [accP_set, hp]; exact h1
end
end Go.Proofs.Ytkpfgoalohbfeaa

/- The walk of ProposeSame. -/
namespace Go.Proofs.Ytkpfgoalohbfeaa
open Go.RowKit

/-- The law's proposer, and a vote that it told, in a block of the law's own. -/
structure SmR (W w : World) (r bv : Nat) (V : Vt) (s : Value) (p : Ps) (c : Nat) (G : Nat → Prop) : Prop where
  l : Lw W w r p c G
  b : Blk w bv 46 #[.int .u64 V.s, .int .u64 V.n, .int .i64 V.d, s]
  o : w.ownsRow 0 5 1 s V.v.length (u8s V.v)
  nb : ¬ G bv
  no : ∀ j, s.ownBlock = some j → ¬ G j
section
variable {W w w' : World} {r bv c c' : Nat} {V : Vt} {s : Value} {p p' : Ps} {G G' : Nat → Prop}
theorem SmR.up (h : SmR W w r bv V s p c G) (hf : Fr (fun _ => False) w w') : SmR W w' r bv V s p c G := ⟨h.l.up hf, h.b.fr hf (fun h => h), own_fr h.o hf (fun _ _ h => h), h.nb, h.no⟩
theorem SmR.next (h : SmR W w r bv V s p c G) (hl : Lw W w' r p' c' G') (hn : Nx G G' w w') (hf : Fr G w w') : SmR W w' r bv V s p' c' G' :=
  ⟨hl, h.b.fr hf h.nb, own_fr h.o hf h.no, hn.not h.nb h.b.lt, fun j hj => hn.not (h.no j hj) (own_lt h.o hj)⟩
theorem SmR.end_ (h : SmR W w r bv V s p c G) (hf : Fr (fun _ => False) w w') : Below W.heap.size W w' := h.l.none_ hf
theorem VtL.inG {W w : World} {r c : Nat} {p : Ps} {G : Nat → Prop} {v : Value} {l : List Vt} (h : VtL W v l (fun k => W.heap.size ≤ k)) (hL : Lw W w r p c G) : VtL w v l G :=
  (h.up hL.fr (fun _ h => h)).mono (fun k hk => (hL.lo k hk).1)
theorem Byt.inW {W w : World} {r c : Nat} {p : Ps} {G : Nat → Prop} {v : Value} {l : List UInt8} (h : Byt W v l) (hL : Lw W w r p c G) : Byt w v l := h.keep (Nat.le_refl _) hL.fr
/-- A vote may be put into a list. -/
def VtOk (V : Vt) : Prop := V.s < 18446744073709551616 ∧ V.n < 18446744073709551616 ∧ -9223372036854775808 ≤ V.d ∧ V.d ≤ 9223372036854775807 ∧ V.v.length ≤ 1000
theorem VtOk.one {w' : World} {b : Nat} {s : Value} {V : Vt} {X : Nat → Prop} (h : VtOk V) (hB : Blk w' b 46 #[.int .u64 V.s, .int .u64 V.n, .int .i64 V.d, s]) (hs : Byt w' s V.v) (hX : ¬ X b) (hX2 : ∀ g, s.ownBlock = some g → V.v ≠ [] → ¬ X g) (c : Nat) :
    VtL w' (.slice (some ⟨b, 0, none⟩) 1 c) [V] X :=
  vtl_one hB hs hX hX2 (by have := h.2.2.2.2; unfold maxLen; omega) h.1 h.2.1 h.2.2.1 h.2.2.2.1 c
end

theorem wf_vtok {p : Ps} (hw : Wf p) {V : Vt} (hs : V.s < 18446744073709551616) (hn : V.n = p.n) (hd : V.d = p.d) (hl : V.v.length ≤ 100) : VtOk V := by
  have h1 := hw.rb
  have h2 := hw.n64
  unfold rightB at h1
  simp only [decide_eq_true_eq] at h1
  unfold VtOk
  rw [hn, hd]
  refine ⟨hs, h2, by omega, by omega, by omega⟩

end Go.Proofs.Ytkpfgoalohbfeaa

/- What has to be proposed, plainly; a row of votes of a law's own. -/
namespace Go.Proofs.Ytkpfgoalohbfeaa
open Go.RowKit

/-! ### plain -/
theorem lessB_iff {a : Nat} {b : Int} {c : Nat} {d : Int} : lessB a b c d = true ↔ a < c ∨ (a = c ∧ b < d) := by unfold lessB; simp
theorem lessB_no {a : Nat} {b : Int} {c : Nat} {d : Int} : lessB a b c d = false ↔ c < a ∨ (a = c ∧ d ≤ b) := by
  rw [Bool.eq_false_iff, Ne, lessB_iff]; omega
def selV (k : Nat) (l : List Vt) : List Vt := l.filter fun v => decide (v.s = k)
def MuAll (m : Option (Vt × Int)) (all : List Vt) : Prop :=
  (m = none ∧ all = []) ∨ ∃ v nd, m = some (v, nd) ∧ v ∈ all ∧ ∀ a ∈ all, lessB v.n v.d a.n a.d = false
theorem MuAll.put {mu : Nat → Option (Vt × Int)} {all : List Vt} {x : Int} {v : Vt} {k : Nat} (h : MuAll (mu k) all) : MuAll (putM x mu v k) (if v.s = k then all ++ [v] else all) := by
  by_cases hk : v.s = k
  · subst hk
    rw [if_pos rfl]
    unfold putM
    rcases h with ⟨h1, rfl⟩ | ⟨m, nd, h1, h2, h3⟩
    · rw [h1]
      simp only [upd, if_true]
      exact .inr ⟨v, x, rfl, by simp, fun a ha => by
        have : a = v := by simpa using ha
        subst this
        rw [lessB_no]; omega⟩
    · rw [h1]
      simp only
      split
      · rename_i hc
        rw [Bool.or_eq_true, Bool.and_eq_true, Bool.and_eq_true, lessB_iff, decide_eq_true_eq, decide_eq_true_eq] at hc
        refine .inr ⟨m, nd, h1, by simp [h2], fun a ha => ?_⟩
        rcases List.mem_append.1 ha with ha | ha
        · exact h3 a ha
        · have : a = v := by simpa using ha
          subst this
          rw [lessB_no]; omega
      · rename_i hc
        have hc' : lessB v.n v.d m.n m.d = false := by
          cases h : lessB v.n v.d m.n m.d with
          | false => rfl
          | true => rw [h] at hc; simp at hc
        rw [lessB_no] at hc'
        simp only [upd, if_true]
        refine .inr ⟨v, x, rfl, by simp, fun a ha => ?_⟩
        rcases List.mem_append.1 ha with ha | ha
        · have := h3 a ha
          rw [lessB_no] at this ⊢
          omega
        · have : a = v := by simpa using ha
          subst this
          rw [lessB_no]; omega
  · rw [if_neg hk]
    have hu : upd mu v.s (v, x) k = mu k := by simp only [upd]; rw [if_neg (fun e => hk e.symm)]
    have : putM x mu v k = mu k := by
      unfold putM
      cases hm : mu v.s with
      | none => exact hu
      | some y =>
        obtain ⟨m, nd⟩ := y
        simp only
        by_cases hc : (lessB v.n v.d m.n m.d || decide (v.n = m.n) && decide (v.d = m.d) && decide (nd < x)) = true
        · rw [if_pos hc]
        · rw [if_neg hc]; exact hu
    rw [this]; exact h
theorem MuAll.fold {x : Int} {k : Nat} : ∀ (l : List Vt) {mu : Nat → Option (Vt × Int)} {all : List Vt}, MuAll (mu k) all → MuAll (l.foldl (putM x) mu k) (all ++ selV k l)
  | [], mu, all, h => by simpa [selV] using h
  | v :: l, mu, all, h => by
    have h1 := MuAll.fold (x := x) (k := k) l (MuAll.put (x := x) (v := v) h)
    rw [List.foldl_cons]
    by_cases hk : v.s = k
    · rw [if_pos hk] at h1
      rw [show selV k (v :: l) = v :: selV k l by unfold selV; rw [List.filter_cons, if_pos (by simpa using hk)]]
      rwa [List.append_assoc] at h1
    · rw [if_neg hk] at h1
      rw [show selV k (v :: l) = selV k l by unfold selV; rw [List.filter_cons, if_neg (by simpa using hk)]]
      exact h1
def bestB (v : List UInt8) (all : List Vt) (a : Vt) : Bool := decide (a.v = v) && all.all fun b => !lessB a.n a.d b.n b.d
theorem MuAll.found {v : Vt} {nd : Int} {all : List Vt} (h : MuAll (some (v, nd)) all) : all.any (bestB v.v all) = true := by
  rcases h with ⟨h, _⟩ | ⟨v', nd', h, h2, h3⟩
  · cases h
  · injection h with h
    injection h with h _
    subst h
    rw [List.any_eq_true]
    refine ⟨v, h2, ?_⟩
    unfold bestB
    rw [Bool.and_eq_true, decide_eq_true_eq, List.all_eq_true]
    exact ⟨rfl, fun a ha => by rw [h3 a ha]; rfl⟩
theorem MuAll.len {m : Option (Vt × Int)} {all : List Vt} (h : MuAll m all) : m.isSome = decide (0 < all.length) := by
  rcases h with ⟨rfl, rfl⟩ | ⟨v, nd, rfl, h2, _⟩
  · rfl
  · have := List.length_pos_of_mem h2
    simp [this]
theorem prmP_mu {p : Ps} {x : Int} {l : List Vt} (h : prmE p x l = 0) (ht : p.set.testBit x.toNat = false) : (prmP p x l).mu = l.foldl (putM x) p.mu ∧ (prmP p x l).set = p.set ||| 2 ^ x.toNat := by
  unfold prmP; rw [if_pos ⟨h, ht⟩]; exact ⟨rfl, rfl⟩
theorem prmP_no {p : Ps} {x : Int} {l : List Vt} (h : ¬ prmE p x l = 0 ∨ p.set.testBit x.toNat = true) : prmP p x l = p := by
  unfold prmP; rw [if_neg]
  rintro ⟨h1, h2⟩
  rcases h with h | h
  · exact h h1
  · rw [h] at h2; cases h2
theorem prmE_node {p : Ps} {x : Int} {l : List Vt} (h : prmE p x l = 0) : 0 ≤ x ∧ x < p.q.n := by
  unfold prmE at h
  cases hb : nodeB p x with
  | true => simpa [nodeB] using hb
  | false => rw [hb] at h; simp at h

/-! ### the twelve marks -/
def tolds (S : Nat) : Array Value := ((List.range 12).map fun i => Value.bool (S.testBit i)).toArray
theorem tolds_get (S i : Nat) (hi : i < 12) : (tolds S)[i]? = some (.bool (S.testBit i)) := by
  unfold tolds
  rw [List.getElem?_toArray, List.getElem?_map, List.getElem?_range hi]
  rfl
theorem tolds_size (S : Nat) : (tolds S).size = 12 := by simp [tolds]
theorem tolds_set (S i : Nat) (_hi : i < 12) : (tolds S).setIfInBounds i (.bool true) = tolds (S ||| 2 ^ i) := by
  apply Array.ext_getElem?
  intro j
  rw [Array.getElem?_setIfInBounds]
  by_cases hj : j < 12
  · rw [tolds_get _ j hj, tolds_get _ j hj, tolds_size, Nat.testBit_or, Nat.testBit_two_pow]
    by_cases hij : i = j
    · subst hij; simp; omega
    · simp [hij]
  · have h1 : ∀ S, (tolds S)[j]? = none := fun S => Array.getElem?_eq_none (by rw [tolds_size]; omega)
    rw [h1, h1, if_neg (by omega)]

/-! ### a row of votes of the law's own, their values what came in -/
def flatV : List Vt → List Value → List Value
  | p :: ps, s :: ss => .int .u64 p.s :: .int .u64 p.n :: .int .i64 p.d :: s :: flatV ps ss
  | _, _ => []
theorem flatV_get : ∀ (ps : List Vt) (ss : List Value) (j : Nat) (p : Vt) (s : Value), ps[j]? = some p → ss[j]? = some s →
    (flatV ps ss)[j * 4]? = some (.int .u64 p.s) ∧ (flatV ps ss)[j * 4 + 1]? = some (.int .u64 p.n) ∧ (flatV ps ss)[j * 4 + 2]? = some (.int .i64 p.d) ∧ (flatV ps ss)[j * 4 + 3]? = some s
  | [], _, j, p, s, h, _ => by simp at h
  | q :: ps, [], j, p, s, _, h => by simp at h
  | q :: ps, t :: ss, 0, p, s, h, h' => by
    simp at h h'
    subst h h'
    exact ⟨rfl, rfl, rfl, rfl⟩
  | q :: ps, t :: ss, j + 1, p, s, h, h' => by
    have := flatV_get ps ss j p s (by simpa using h) (by simpa using h')
    simp only [flatV]
    rw [show (j + 1) * 4 = j * 4 + 1 + 1 + 1 + 1 by omega, show j * 4 + 1 + 1 + 1 + 1 + 1 = (j * 4 + 1) + 1 + 1 + 1 + 1 by omega, show j * 4 + 1 + 1 + 1 + 1 + 2 = (j * 4 + 2) + 1 + 1 + 1 + 1 by omega, show j * 4 + 1 + 1 + 1 + 1 + 3 = (j * 4 + 3) + 1 + 1 + 1 + 1 by omega]
    simpa only [List.getElem?_cons_succ] using this
theorem flatV_append : ∀ (ps : List Vt) (ss : List Value) (qs : List Vt) (ts : List Value), ss.length = ps.length → flatV (ps ++ qs) (ss ++ ts) = flatV ps ss ++ flatV qs ts
  | [], [], qs, ts, _ => by simp [flatV]
  | [], t :: ss, qs, ts, h => by simp at h
  | q :: ps, [], qs, ts, h => by simp at h
  | q :: ps, t :: ss, qs, ts, h => by
    simp only [List.cons_append, flatV]
    rw [flatV_append ps ss qs ts (by simpa using h)]
structure SentV (W w : World) (v : Value) (ps : List Vt) (vs : List Value) : Prop where
  row : w.ownsRow W.heap.size 46 4 v ps.length (flatV ps vs)
  len : vs.length = ps.length
  byt : ∀ (i : Nat) (p : Vt) (u : Value), ps[i]? = some p → vs[i]? = some u → Byt W u p.v
section
variable {W w w' : World} {v v' : Value} {ps : List Vt} {vs : List Value} {X : Nat → Prop}
theorem SentV.fr (h : SentV W w v ps vs) (hf : Fr X w w') (hx : ∀ k, v.ownBlock = some k → ¬ X k) : SentV W w' v ps vs := ⟨own_fr h.row hf hx, h.len, h.byt⟩
theorem SentV.form (h : SentV W w v ps vs) : ∃ a c, v = .slice a ps.length c := by
  rcases own_form h.row with ⟨rfl, hL, _⟩ | ⟨g, cap, cur, rfl, _⟩
  · exact ⟨none, 0, by rw [hL]⟩
  · exact ⟨_, _, rfl⟩
theorem SentV.at (h : SentV W w v ps vs) {j : Nat} {p : Vt} (hp : ps[j]? = some p) :
    ∃ g lc u, v = .slice (some ⟨g, 0, none⟩) ps.length lc ∧ Byt W u p.v ∧ w.cell? ⟨g, j * 4, none⟩ = some (.int .u64 p.s) ∧ w.cell? ⟨g, j * 4 + 1, none⟩ = some (.int .u64 p.n) ∧ w.cell? ⟨g, j * 4 + 2, none⟩ = some (.int .i64 p.d) ∧ w.cell? ⟨g, j * 4 + 3, none⟩ = some u := by
  have hj := (List.getElem?_eq_some_iff.1 hp).1
  have hjv : j < vs.length := by rw [h.len]; exact hj
  obtain ⟨e1, e2, e3, e4⟩ := flatV_get ps vs j p vs[j] hp (List.getElem?_eq_getElem hjv)
  have hrow := h.row
  rcases own_form hrow with ⟨rfl, hL, _⟩ | ⟨g, cap, cur, rfl, _⟩
  · omega
  · exact ⟨g, cap, vs[j], rfl, h.byt j p _ hp (List.getElem?_eq_getElem hjv), own_cell (own_base hrow) _ e1, own_cell (own_base hrow) _ e2, own_cell (own_base hrow) _ e3, own_cell (own_base hrow) _ e4⟩
theorem SentV.more {p : Vt} {s : Value} (h : SentV W w v ps vs) (hs : Byt W s p.v) (ha : Appended W.heap.size 46 4 w v ps.length 1 (flatV ps vs) [.int .u64 p.s, .int .u64 p.n, .int .i64 p.d, s] v' w') : SentV W w' v' (ps ++ [p]) (vs ++ [s]) := by
  refine ⟨?_, by simp [h.len], fun i q u hq hu => ?_⟩
  · rw [List.length_append, List.length_singleton, flatV_append _ _ _ _ h.len]
    exact ha.1
  · by_cases hi : i < ps.length
    · rw [List.getElem?_append_left hi] at hq
      rw [List.getElem?_append_left (by rw [h.len]; exact hi)] at hu
      exact h.byt i q u hq hu
    · have hi' : i = ps.length := by
        have := (List.getElem?_eq_some_iff.1 hq).1
        simp at this; omega
      subst hi'
      rw [List.getElem?_append_right (Nat.le_refl _)] at hq
      rw [List.getElem?_append_right (by rw [h.len]; exact Nat.le_refl _), h.len] at hu
      simp at hq hu
      subst hq hu
      exact hs
theorem SentV.nil (W w : World) : SentV W w (.slice none 0 0) [] [] := ⟨World.ownsRow_nil _ _ _ _, rfl, fun i p u h => by simp at h⟩
theorem selV_take_yes {k : Nat} {l : List Vt} {j : Nat} {v : Vt} (hv : l[j]? = some v) (hs : v.s = k) : selV k (l.take (j + 1)) = selV k (l.take j) ++ [v] := by
  unfold selV
  rw [List.take_add_one, List.filter_append, hv]
  simp [hs]
theorem selV_take_no {k : Nat} {l : List Vt} {j : Nat} {v : Vt} (hv : l[j]? = some v) (hs : ¬ v.s = k) : selV k (l.take (j + 1)) = selV k (l.take j) := by
  unfold selV
  rw [List.take_add_one, List.filter_append, hv]
  simp [hs]
theorem selV_len (k : Nat) (l : List Vt) (j : Nat) : (selV k (l.take j)).length ≤ j := by
  unfold selV
  exact Nat.le_trans (List.length_filter_le _ _) (List.length_take_le _ _)
end
end Go.Proofs.Ytkpfgoalohbfeaa

/- The document's Less and Right of ballots. -/
namespace Go.Proofs.Ytkpfgoalohbfeaa
open Go.RowKit

set_option maxHeartbeats 1000000 in
theorem rless_any (a : Nat) (b : Int) (c : Nat) (d : Int) (w : World) :
    Calls Try.prog 19 #[.agg #[.int .u64 a, .int .i64 b], .agg #[.int .u64 c, .int .i64 d]] w fun e w' => e = .returned (.bool (lessB a b c d)) ∧ Fr (fun _ => False) w w' := by
  have hf := ((Fr.refl (fun _ => False) w).alloc (.cells #[.int .u64 a, .int .i64 b] 44)).alloc (.cells #[.int .u64 c, .int .i64 d] 44)
  have HF := Lib.hid hf
  clear hf
  by_cases h1 : a = c
  · have e1 : lessB a b c d = decide (b < d) := by simp [lessB, h1]
    rw [e1]; clear e1
    subst h1
    go_enter Try.func19, Try.ntmps19
    go_wp2
    go_ret
    exact ⟨rfl, HF.out⟩
  · have h2 : ((a : Int) == (c : Int)) = false := by simp; omega
    by_cases h0 : a < c
    · have e1 : lessB a b c d = true := by simp [lessB, h0]
      rw [e1]; clear e1
      have h0' : (a : Int) < (c : Int) := by omega
      clear h1
      go_enter Try.func19, Try.ntmps19
      go_wp2
      go_ret
      exact ⟨rfl, HF.out⟩
    · have e1 : lessB a b c d = false := by simp [lessB, h0, h1]
      rw [e1]; clear e1
      have h0' : ¬ (a : Int) < (c : Int) := by omega
      clear h1
      go_enter Try.func19, Try.ntmps19
      go_wp2
      go_ret
      exact ⟨rfl, HF.out⟩
set_option maxHeartbeats 1000000 in
theorem rright9_any (n : Nat) (d : Int) (w : World) :
    Calls Try.prog 77 #[.agg #[.int .u64 n, .int .i64 d]] w fun e w' => e = .returned (.bool (rightB n d)) ∧ Fr (fun _ => False) w w' := by
  have hf := (Fr.refl (fun _ => False) w).alloc (.cells #[.int .u64 n, .int .i64 d] 44)
  have HF := Lib.hid hf
  clear hf
  by_cases h0 : (1 : Int) ≤ (n : Int)
  · by_cases h1 : 0 ≤ d
    · have e1 : rightB n d = decide (d ≤ 11) := by
        unfold rightB; rw [decide_eq_decide]; omega
      rw [e1]; clear e1
      go_enter Try.func77, Try.ntmps77
      go_wp2
      go_ret
      exact ⟨rfl, HF.out⟩
    · have e1 : rightB n d = false := by simp [rightB, h1]
      rw [e1]; clear e1
      go_enter Try.func77, Try.ntmps77
      go_wp2
      go_ret
      exact ⟨rfl, HF.out⟩
  · have e1 : rightB n d = false := by unfold rightB; rw [decide_eq_false]; omega
    rw [e1]; clear e1
    go_enter Try.func77, Try.ntmps77
    go_wp2
    go_ret
    exact ⟨rfl, HF.out⟩
end Go.Proofs.Ytkpfgoalohbfeaa

/- The walk of ProposeMust. -/
namespace Go.Proofs.Ytkpfgoalohbfeaa
open Go.RowKit

def Q12 : Qu := ⟨1, 12, 1, 12, []⟩
theorem q12_right : rightE Q12 = 0 := by kernel_rfl
def topN : Nat := 18446744073709551615
theorem vtinfo : (Try.prog.info? 46).map (fun i => (i.zero, i.size, i.bytes)) = some (some (.agg #[.int .u64 0, .int .u64 0, .int .i64 0, .slice none 0 0]), 4, 48) := by kernel_rfl
/-- The law's proposer, its marks, its ballot, and the votes that it was told. -/
structure MuR (W w : World) (r bt b7 : Nat) (p : Ps) (c S : Nat) (lv : Value) (L : List Vt) (vs : List Value) (G : Nat → Prop) : Prop where
  l : Lw W w r p c G
  t : Blk w bt 40 (tolds S)
  b : Blk w b7 44 #[.int .u64 (topN : Nat), .int .i64 11]
  s : SentV W w lv L vs
  nt : ¬ G bt
  nb : ¬ G b7
  ns : ∀ j, lv.ownBlock = some j → ¬ G j
section
variable {W w w' : World} {r bt b7 c c' S : Nat} {p p' : Ps} {lv lv' : Value} {L : List Vt} {vs : List Value} {G G' : Nat → Prop}
theorem MuR.up (h : MuR W w r bt b7 p c S lv L vs G) (hf : Fr (fun _ => False) w w') : MuR W w' r bt b7 p c S lv L vs G :=
  ⟨h.l.up hf, h.t.fr hf (fun h => h), h.b.fr hf (fun h => h), h.s.fr hf (fun _ _ h => h), h.nt, h.nb, h.ns⟩
theorem MuR.next (h : MuR W w r bt b7 p c S lv L vs G) (hl : Lw W w' r p' c' G') (hn : Nx G G' w w') (hf : Fr G w w') : MuR W w' r bt b7 p' c' S lv L vs G' :=
  ⟨hl, h.t.fr hf h.nt, h.b.fr hf h.nb, h.s.fr hf h.ns, hn.not h.nt h.t.lt, hn.not h.nb h.b.lt, fun j hj => hn.not (h.ns j hj) (own_lt (own_base h.s.row) hj)⟩
theorem MuR.end_ (h : MuR W w r bt b7 p c S lv L vs G) (hf : Fr (fun _ => False) w w') : Below W.heap.size W w' := h.l.none_ hf
theorem MuR.mark (h : MuR W w r bt b7 p c S lv L vs G) (hlo : W.heap.size ≤ bt) {x : Nat} (hx : x < 12) (u : Value) (hu : u = .bool true) : MuR W (w.setCell ⟨bt, x, none⟩ u) r bt b7 p c (S ||| 2 ^ x) lv L vs G := by
  subst hu
  have hf : Fr (fun k => k = bt) w (w.setCell ⟨bt, x, none⟩ (.bool true)) := Fr.set1 _ _ _ _
  have ht := h.t.set_ x (.bool true)
  rw [tolds_set S x hx] at ht
  refine ⟨h.l.off hf (fun k hk => by subst hk; exact ⟨h.nt, hlo⟩), ht, h.b.fr hf (h.b.ne_ h.t (by decide)), h.s.fr hf (fun k hk => own_blk_ne h.s.row h.t (by decide) k hk), h.nt, h.nb, h.ns⟩
theorem MuR.more {p' : Vt} {s : Value} (h : MuR W w r bt b7 p c S lv L vs G) (hs : Byt W s p'.v) (ha : Appended W.heap.size 46 4 w lv L.length 1 (flatV L vs) [.int .u64 p'.s, .int .u64 p'.n, .int .i64 p'.d, s] lv' w') :
    MuR W w' r bt b7 p c S lv' (L ++ [p']) (vs ++ [s]) G := by
  have hf : Fr (fun k => lv.ownBlock = some k) w w' := (Fr.refl _ w).grown ha.2.1 (fun k hk _ => hk)
  have hX : ∀ k, lv.ownBlock = some k → ¬ G k ∧ W.heap.size ≤ k := fun k hk => ⟨h.ns k hk, (h.s.row.lt k hk).1⟩
  refine ⟨h.l.off hf hX, h.t.fr hf (fun e => own_blk_ne h.s.row h.t (by decide) _ e rfl), h.b.fr hf (fun e => own_blk_ne h.s.row h.b (by decide) _ e rfl), h.s.more hs ha, h.nt, h.nb, fun j hj => ?_⟩
  rcases ha.2.2 with e | e
  · rw [e] at hj; exact h.ns j hj
  · rw [e] at hj
    injection hj with hj
    subst hj
    exact h.l.not_new (Nat.le_refl _)
theorem vtl_at {W : World} {v : Value} {ps : List Vt} {X : Nat → Prop} (h : VtL W v ps X) : ∃ A c, v = .slice A ps.length c := by
  obtain ⟨⟨A, c, rfl, -⟩, -⟩ := h
  exact ⟨A, c, rfl⟩
end

/-- What the law knows of its proposer. -/
structure M0 (p : Ps) (k S : Nat) (L : List Vt) : Prop where
  q : p.q = Q12
  f : p.f = 1
  n : p.n = topN
  d : p.d = 11
  sl : ∀ j, p.sl j = none
  s : p.set = S
  mu : MuAll (p.mu k) L
theorem M0.new (k : Nat) : M0 (newP Q12 topN 11 1) k 0 [] := ⟨rfl, rfl, rfl, rfl, fun _ => rfl, rfl, .inl ⟨rfl, rfl⟩⟩
theorem prmP_n (p : Ps) (x : Int) (l : List Vt) : (prmP p x l).n = p.n := by unfold prmP; split <;> rfl
theorem prmP_d (p : Ps) (x : Int) (l : List Vt) : (prmP p x l).d = p.d := by unfold prmP; split <;> rfl
theorem M0.prm {p : Ps} {k S : Nat} {L : List Vt} (h : M0 p k S L) {x : Int} {y : Nat} (hy : x = (y : Int)) {l : List Vt} (hE : prmE p x l = 0) (ht : S.testBit y = false) : M0 (prmP p x l) k (S ||| 2 ^ y) (L ++ selV k l) := by
  subst hy
  obtain ⟨e1, e2⟩ := prmP_mu hE (by rw [h.s]; exact ht)
  refine ⟨(prmP_q _ _ _).trans h.q, (prmP_f _ _ _).trans h.f, (prmP_n _ _ _).trans h.n, (prmP_d _ _ _).trans h.d, fun j => by rw [prmP_sl]; exact h.sl j, by rw [e2, h.s]; rfl, ?_⟩
  rw [e1]
  exact h.mu.fold l
theorem M0.pro {p : Ps} {k S : Nat} {L : List Vt} (h : M0 p k S L) (hw : Wf p) (hk : 1 ≤ k) (hr : readyB p = true) (own : List UInt8) (ho : own.length ≤ 100) :
    proE p k own = 0 ∧ proV p k own = ⟨k, topN, 11, (muB p k).getD own⟩ := by
  have hl : (proVal p k own).length ≤ 100 := by
    unfold proVal muB
    cases hm : p.mu k with
    | none => simpa using ho
    | some y => obtain ⟨v, nd⟩ := y; exact (hw.mu k v nd hm).2.2
  have e : proE p k own = 0 := by
    unfold proE
    rw [hr, h.f, if_pos rfl, if_neg (by omega), h.sl k]
    simp only
    rw [if_neg (by omega)]
  refine ⟨e, ?_⟩
  unfold proV
  rw [if_pos e, h.sl k]
  simp only [h.n, h.d]
  rfl
theorem tolds_0 : tolds 0 = #[.bool false, .bool false, .bool false, .bool false, .bool false, .bool false, .bool false, .bool false, .bool false, .bool false, .bool false, .bool false] := by
  simp [tolds, List.range, List.range.loop]

end Go.Proofs.Ytkpfgoalohbfeaa

/- Copy, Lent, Whole, Spoil of the document's lists. -/
namespace Go.Proofs.Ytkpfgoalohbfeaa
open Go.RowKit

set_option maxHeartbeats 1000000 in
theorem lcopy_any (s : Value) (bs : List UInt8) (w : World) (hs : Byt w s bs) (hl : bs.length ≤ 1000000) :
    Calls Try.prog 66 #[s] w fun e w' => ∃ va vc, e = .returned (.slice va bs.length vc) ∧ w'.ownsRow w.heap.size 5 1 (.slice va bs.length vc) bs.length (u8s bs) ∧ Fr (fun _ => False) w w' := by
  obtain ⟨i0, hi0, hz0, hz1, hz2⟩ := info_parts u8info
  have hs0 := hs
  obtain ⟨A, c, rfl, -, -⟩ := hs0
  have hown0 := World.ownsRow_nil w w.heap.size 5 1
  go_enter Try.func66, Try.ntmps66
  go_wp2_with (first
    | (at_builtin
       refine wpList_bi2 rfl .append _ _ _ _ _ rfl rfl rfl _ (ap_byt (base := w.heap.size) Try.underlying31 hi0 hz0 hz1 hz2 rfl hown0 _ bs hs (by omega) (by omega)) ?_
       rintro v' w1 hap))
  have ho2 := hap.1
  simp only [Nat.zero_add, List.nil_append] at ho2
  have hf := hap.fr (Fr.refl (fun _ => False) w) (fun k hk _ => by simp [Value.ownBlock] at hk)
  obtain ⟨va, vc, rfl⟩ : ∃ va vc, v' = .slice va bs.length vc := by
    rcases own_form ho2 with ⟨h1, h2, _⟩ | ⟨g, cap, cur, h1, _⟩
    · exact ⟨none, 0, by rw [h1, h2]⟩
    · exact ⟨some ⟨g, 0, none⟩, cap, h1⟩
  go_ret
  exact ⟨va, vc, rfl, ho2, hf⟩

/-- What was lent: the bytes, two marks behind them. -/
def Marks (w : World) (g cap : Nat) (bs : List UInt8) : Prop := ∃ cur, Blk w g 5 cur ∧ bs.length + 2 ≤ cap ∧ cap ≤ maxLen ∧ cur.size = cap ∧ cur.toList.take (bs.length + 2) = u8s (bs ++ [91, 92])

set_option maxRecDepth 100000 in
set_option maxHeartbeats 2000000 in
theorem lent_any (s : Value) (bs : List UInt8) (w : World) (hs : Byt w s bs) (hl : bs.length ≤ 100000) :
    Calls Try.prog 46 #[s] w fun e w' => ∃ g cap, e = .returned (.slice (some ⟨g, 0, none⟩) bs.length cap) ∧ Marks w' g cap bs ∧ w.heap.size ≤ g ∧ Fr (fun _ => False) w w' := by
  obtain ⟨i0, hi0, hz0, hz1, hz2⟩ := info_parts u8info
  have hs0 := hs
  obtain ⟨A, c, rfl, -, -⟩ := hs0
  go_enter Try.func46, Try.ntmps46
  go_wp2_with fail
  refine (lcopy_any _ bs w hs (by omega)).mono ?_
  rintro e w1 ⟨va, vc, rfl, ho1, hf1⟩
  obtain ⟨w2, hw2⟩ : ∃ w2, w2 = w1.alloc (.cells #[.int .u8 91, .int .u8 92] 5) := ⟨_, rfl⟩
  have hf2 : Fr (fun _ => False) w1 w2 := by rw [hw2]; exact (Fr.refl _ w1).alloc _
  have ho2 := own_fr ho1 hf2 (fun _ _ h => h)
  have hn2 : ∀ j u, [Value.int .u8 91, .int .u8 92][j]? = some u → w2.cell? (Addr.add ⟨w1.heap.size, 0, none⟩ j) = some u := by
    rw [hw2]; exact World.news_of_block (cs := #[.int .u8 91, .int .u8 92]) (t := 5) (fr := (0, 0)) (heap_alloc_new w1 _)
  have HW2 := Lib.hid hw2
  have hz := (hf1.tr hf2).size
  clear hw2 ho1
  go_wp2_with (first
    | (at_builtin
       rw [← HW2.out]
       clear HW2
       refine wpList_bi2 rfl .append _ _ _ _ _ rfl rfl rfl _ (ap_cells (base := w.heap.size) Try.underlying31 hi0 hz0 hz1 hz2 rfl (by omega) ho2 ⟨w1.heap.size, 0, none⟩ 2 2 [.int .u8 91, .int .u8 92] rfl hn2 (by simp [Value.oneCell']) (by unfold maxLen; omega) (by omega) hz) ?_
       rintro v' w3 hap
       obtain ⟨g, cap, hg, rfl, hB⟩ : ∃ g cap, w.heap.size ≤ g ∧ v' = .slice (some ⟨g, 0, none⟩) (bs.length + 2) cap ∧ ∃ cur, Blk w3 g 5 cur ∧ bs.length + 2 ≤ cap ∧ cap ≤ maxLen ∧ cur.size = cap * 1 ∧ cur.toList.take ((bs.length + 2) * 1) = u8s bs ++ [.int .u8 91, .int .u8 92] := by
         rcases own_form hap.1 with ⟨_, h2, _⟩ | ⟨g, cap, cur, h1, hb, h3, h4, h5, h6, h7⟩
         · omega
         · exact ⟨g, cap, hb, h1, cur, h3, h4, h5, h6, h7⟩
       have hm2 : bs.length + 2 ≤ cap := by obtain ⟨_, _, h, _⟩ := hB; exact h
       have HX := Lib.hid (And.intro hap hB)
       clear hap hB))
  obtain ⟨hap, cur, h3, h4, h5, h6, h7⟩ := HX.out
  go_ret
  refine ⟨g, cap, rfl, ⟨cur, h3, h4, h5, by rw [h6, Nat.mul_one], ?_⟩, hg, hap.fr (hf1.tr hf2) (fun k hk hlt => by have := (ho2.lt k hk).1; omega)⟩
  rw [Nat.mul_one] at h7
  rw [h7, u8s_append]
  rfl

theorem Marks.byt {w : World} {g cap : Nat} {bs : List UInt8} (h : Marks w g cap bs) : Byt w (.slice (some ⟨g, 0, none⟩) bs.length cap) bs := by
  obtain ⟨cur, h1, h2, h3, h4, h5⟩ := h
  refine Byt.of_own (base := 0) (e := 5) (n := bs.length) (own_mk h1 (by omega) h3 (by rw [h4, Nat.mul_one]) ?_)
  have := congrArg (List.take bs.length) h5
  rw [List.take_take, Nat.min_eq_left (by omega), u8s_append, List.take_append_of_le_length (by simp)] at this
  rw [Nat.mul_one, this, List.take_of_length_le (by simp)]
theorem Marks.fr {w w' : World} {g cap : Nat} {bs : List UInt8} {X : Nat → Prop} (h : Marks w g cap bs) (hf : Fr X w w') (hx : ¬ X g) : Marks w' g cap bs := by
  obtain ⟨cur, h1, h2⟩ := h
  exact ⟨cur, h1.fr hf hx, h2⟩

set_option maxRecDepth 100000 in
set_option maxHeartbeats 2000000 in
theorem whole_any (g cap : Nat) (s : Value) (bs : List UInt8) (w : World) (hm : Marks w g cap bs) (hs : Byt w s bs) (hl : bs.length ≤ 100000) :
    Calls Try.prog 48 #[.slice (some ⟨g, 0, none⟩) bs.length cap, s] w fun e w' => e = .returned (.bool true) ∧ w = w' := by
  have hv1 := run_str (src := 31) (dst := 9) Try.underlying31 Try.underlying5 Try.underlying9 hm.byt
  have hv2 := run_str (src := 31) (dst := 9) Try.underlying31 Try.underlying5 Try.underlying9 hs
  obtain ⟨cur, h1, h2, h3, h4, h5⟩ := hm
  have hs0 := hs
  obtain ⟨A, c, rfl, -, -⟩ := hs0
  have c0 : w.cell? ⟨g, bs.length, none⟩ = some (.int .u8 91) := h1.cell _ (by
    have := congrArg (fun l => l[bs.length]?) h5
    simpa [u8s, List.getElem?_take] using this)
  have c1 : w.cell? ⟨g, bs.length + 1, none⟩ = some (.int .u8 92) := h1.cell _ (by
    have := congrArg (fun l => l[bs.length + 1]?) h5
    simpa [u8s, List.getElem?_take] using this)
  have w1 : IntKind.i64.wrap ((bs.length : Int) + 2) = (bs.length : Int) + 2 := IntWalk.i64_in _ (by omega)
  have w2 : IntKind.i64.wrap ((bs.length : Int) + 1) = (bs.length : Int) + 1 := IntWalk.i64_in _ (by omega)
  have w3 : ((bs.length : Int) + 2).toNat = bs.length + 2 := by omega
  have w4 : ((bs.length : Int) + 1).toNat = bs.length + 1 := by omega
  have w5 : (0 : Int) ≤ (bs.length : Int) + 2 := by omega
  have w6 : (bs.length : Int) + 2 ≤ (cap : Int) := by omega
  clear h1 h3 h4 h5
  go_enter Try.func48, Try.ntmps48
  go_wp2_with fail
  go_ret
  exact ⟨rfl, rfl⟩

set_option maxHeartbeats 1000000 in
theorem spoil_any (s : Value) (bs : List UInt8) (w : World) (hs : w.ownsRow 0 5 1 s bs.length (u8s bs)) :
    Calls Try.prog 30 #[s] w fun e w' => e = .returned (.tuple #[]) ∧ Fr (fun k => s.ownBlock = some k) w w' := by
  rcases own_form hs with ⟨rfl, hn, _⟩ | ⟨g, cap, cur, rfl, _, hg, hcap, hm, hsz, htk⟩
  · have hb : bs = [] := List.eq_nil_of_length_eq_zero hn
    subst hb
    go_enter Try.func30, Try.ntmps30
    go_wp2_with fail
    go_loopg [2] 0 (fun g' x2 wr => x2 = .int .i64 0 ∧ w = wr)
    case atStart => exact ⟨rfl, rfl⟩
    case round =>
      obtain ⟨rfl, rfl⟩ := hrel
      go_wp2_with fail
      exact bodyPost_end (results_none rfl _ _ _) rfl ⟨rfl, Fr.refl _ w⟩
  · have hbl : bs.length ≤ 9223372036854775807 := by unfold maxLen at hm; omega
    have h0 : ∀ i, i < bs.length → ∃ z : Int, cur[i]? = some (.int .u8 z) := by
      intro i hi
      have hu := u8s_get bs i (List.getElem?_eq_getElem hi)
      rw [← htk, List.getElem?_take, if_pos (by omega)] at hu
      exact ⟨_, by simpa using hu⟩
    go_enter Try.func30, Try.ntmps30
    go_wp2_with fail
    go_loopg [2] bs.length (fun g' x2 wr => ∃ (j : Nat) (cs : Array Value), j + g' = bs.length ∧ x2 = .int .i64 j ∧ Blk wr g 5 cs ∧ (∀ i, i < bs.length → ∃ z : Int, cs[i]? = some (.int .u8 z)) ∧ Fr (fun k => k = g) w wr)
    case atStart => exact ⟨0, cur, by omega, rfl, hg, h0, Fr.refl _ w⟩
    case round =>
      clear hg h0 htk hs hsz
      obtain ⟨j, cs, hj, rfl, hB, hc, hf⟩ := hrel
      have HJ := Lib.hid hj
      have HC := Lib.hid hc
      have hj' : j ≤ bs.length := by omega
      clear hj hc
      by_cases hlt : j < bs.length
      · obtain ⟨z, hz⟩ := HC.out j hlt
        have q0 := hB.cell j hz
        have q1 := hB.frozen j
        have hlt' : (j : Int) < (bs.length : Int) := by omega
        have HB := Lib.hid (And.intro hB hf)
        clear hz hB hf
        go_wp2_with fail
        go_roundg (bs.length - (j + 1))
        case measure => have := HJ.out; omega
        case rel =>
          obtain ⟨hB, hf⟩ := HB.out
          refine ⟨j + 1, _, by omega, by go_num, hB.set_ j _, fun i hi => ?_, hf.setCell (p := ⟨g, j, none⟩) (fun _ => rfl) _⟩
          by_cases hij : j = i
          · subst hij
            obtain ⟨z', hz'⟩ := HC.out j hi
            have := (Array.getElem?_eq_some_iff.1 hz').1
            exact ⟨_, by rw [Array.getElem?_setIfInBounds_self_of_lt this]⟩
          · rw [Array.getElem?_setIfInBounds_ne hij]
            exact HC.out i hi
      · go_wp2_with fail
        exact bodyPost_end (results_none rfl _ _ _) rfl ⟨rfl, hf.mono fun k _ h => by subst h; rfl⟩
end Go.Proofs.Ytkpfgoalohbfeaa

