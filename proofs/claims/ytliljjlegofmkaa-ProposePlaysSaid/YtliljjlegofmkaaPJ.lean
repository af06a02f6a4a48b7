/- Promise. -/
import Derived.Test.YtliljjlegofmkaaPF
import Derived.Test.YtliljjlegofmkaaPC
import Derived.Test.YtliljjlegofmkaaPH
namespace Go.Proofs.Ytliljjlegofmkaa
open Go.RowKit

/-- One vote told by node x. -/
def putM (x : Int) (mu : Nat → Option (Vt × Int)) (v : Vt) : Nat → Option (Vt × Int) :=
  match mu v.s with
  | some (m, nd) => if lessB v.n v.d m.n m.d || (decide (v.n = m.n) && decide (v.d = m.d) && decide (nd < x)) then mu else upd mu v.s (v, x)
  | none => upd mu v.s (v, x)
def prmE (p : Ps) (x : Int) (l : List Vt) : Int := if nodeB p x then (if rightV p.n p.d (p.f - 1) l then 0 else 91) else 2
def prmP (p : Ps) (x : Int) (l : List Vt) : Ps := if prmE p x l = 0 ∧ p.set.testBit x.toNat = false then { p with set := p.set ||| 2 ^ x.toNat, mu := l.foldl (putM x) p.mu } else p

/-- The blocks behind a step. -/
def Nx (G G' : Nat → Prop) (w w' : World) : Prop := ∀ j, G' j → G j ∨ (w.heap.size ≤ j ∧ j < w'.heap.size)
theorem Nx.refl (G : Nat → Prop) (w w' : World) : Nx G G w w' := fun _ h => .inl h
theorem Nx.lt {G G' : Nat → Prop} {w w' : World} (h : Nx G G' w w') (hG : ∀ j, G j → j < w.heap.size) (hs : w.heap.size ≤ w'.heap.size) : ∀ j, G' j → j < w'.heap.size := fun j hj => by
  rcases h j hj with h | h
  · have := hG j h; omega
  · exact h.2
theorem Nx.tr {G G' G'' : Nat → Prop} {w w1 w2 : World} (h : Nx G G' w w1) (k : Nx G' G'' w1 w2) (hs : w.heap.size ≤ w1.heap.size) (hs2 : w1.heap.size ≤ w2.heap.size) : Nx G G'' w w2 := fun j hj => by
  rcases k j hj with h1 | h1
  · rcases h j h1 with h2 | h2
    · exact .inl h2
    · exact .inr ⟨h2.1, by omega⟩
  · exact .inr ⟨by omega, h1.2⟩

section
variable {w w' : World} {G : Nat → Prop} {r c : Nat} {p : Ps} {sv : Value} {mb sb : Nat} {mm sm : Nat → Option Value}
theorem OwB.set_ {G : Nat → Prop} {s : Value} {bs : List UInt8} {g i : Nat} {t : TypeId} {cs : Array Value} {u : Value} (h : OwB w G s bs) (hB : Blk w g t cs) (ht : 5 ≠ t) : OwB (w.setCell ⟨g, i, none⟩ u) G s bs :=
  ⟨own_fr h.1 (Fr.set1 w g i u) (own_blk_ne h.1 hB ht), h.2⟩
/-- The set of those who promised, written. -/
theorem PX.setSet (h : PX w r p c G sv mb sb mm sm) (Z : Nat) (hZ : Z < 4096) : PX (w.setCell ⟨r, 8, none⟩ (.int .u32 Z)) r { p with set := Z } c G sv mb sb mm sm := by
  have hf := Fr.set1 w r 8 (.int .u32 Z)
  refine ⟨?_, own_fr h.site hf (own_blk_ne h.site h.blk (by decide)), h.siteG, h.rG, h.mbG, h.sbG, h.ne, h.mus.fr hf (fun e => h.mus.blk_ne h.blk e.symm), h.sls.fr hf (fun e => h.sls.blk_ne h.blk e.symm), fun j => ?_, fun j => ?_, h.inj, ?_⟩
  · have := h.blk.set_ 8 (.int .u32 Z)
    simpa [prC] using this
  · rcases h.mu j with h1 | ⟨v', nd, s', h1, h2, h3⟩
    · exact .inl h1
    · exact .inr ⟨v', nd, s', h1, h2, h3.set_ h.blk (by decide)⟩
  · rcases h.sl j with ⟨h1, h2⟩ | ⟨v', Y, g', s', h1, h2, h3, h4, h5⟩
    · exact .inl ⟨h1, h2⟩
    · exact .inr ⟨v', Y, g', s', h1, h2, h3.fr hf (h3.ne_ h.blk (by decide)), h4, h5.set_ h.blk (by decide)⟩
  · have W := h.wf
    exact ⟨W.ok, W.ql, W.rb, W.n64, W.f1, W.f64, hZ, W.mu, W.sl⟩
theorem Mp.owb_fr {m : Nat → Option Value} {b n : Nat} {s : Value} {bs : List UInt8} (hm : Mp w b n m) (h : OwB w G s bs) (hf : Fr (fun j => j = b) w w') : OwB w' G s bs := ⟨own_fr h.1 hf (hm.own_ne h.1), h.2⟩
/-- A vote put among what has to be proposed. -/
theorem PX.putMu (h : PX w r p c G sv mb sb mm sm) {v : Vt} {x : Int} {s : Value} (ho : OwB w G s v.v) (hl : v.v.length ≤ 100) (hm : Mp w' mb (c + 1) (upd mm v.s (muV v x s))) (hf : Fr (fun j => j = mb) w w') (hs : v.s < 18446744073709551616) :
    PX w' r { p with mu := upd p.mu v.s (v, x) } (c + 1) G sv mb sb (upd mm v.s (muV v x s)) sm := by
  refine ⟨h.blk.fr hf (h.mus.blk_ne h.blk), own_fr h.site hf (h.mus.own_ne h.site), h.siteG, h.rG, h.mbG, h.sbG, h.ne, hm, (h.sls.fr hf (fun e => h.ne e.symm)).mono (by omega), fun j => ?_, fun j => ?_, h.inj, ?_⟩
  · by_cases hj : j = v.s
    · subst hj
      exact .inr ⟨v, x, s, by simp [upd], by simp [upd], h.mus.owb_fr ho hf⟩
    · rcases h.mu j with ⟨h1, h2⟩ | ⟨v', nd, s', h1, h2, h3⟩
      · exact .inl ⟨by simp [upd, hj, h1], by simp [upd, hj, h2]⟩
      · exact .inr ⟨v', nd, s', by simp [upd, hj, h1], by simp [upd, hj, h2], h.mus.owb_fr h3 hf⟩
  · rcases h.sl j with ⟨h1, h2⟩ | ⟨v', Y, g', s', h1, h2, h3, h4, h5⟩
    · exact .inl ⟨h1, h2⟩
    · exact .inr ⟨v', Y, g', s', h1, h2, h3.fr hf (h.mus.blk_ne h3), h4, h.mus.owb_fr h5 hf⟩
  · have W := h.wf
    refine ⟨W.ok, W.ql, W.rb, W.n64, W.f1, W.f64, W.st, fun j v' nd hj => ?_, W.sl⟩
    by_cases hjk : j = v.s
    · subst hjk
      simp only [upd, if_pos, Option.some.injEq, Prod.mk.injEq] at hj
      obtain ⟨rfl, rfl⟩ := hj
      exact ⟨rfl, hs, hl⟩
    · simp only [upd, if_neg hjk] at hj
      exact W.mu j v' nd hj
theorem PX.wr (h : PX w r p c G sv mb sb mm sm) {X : Nat → Prop} (hf : Fr X w w') (hx : ∀ k, k < w.heap.size → ¬ X k) : PX w' r p c G sv mb sb mm sm := h.fr hf (fun k hk _ => hx k hk)
end
end Go.Proofs.Ytliljjlegofmkaa
