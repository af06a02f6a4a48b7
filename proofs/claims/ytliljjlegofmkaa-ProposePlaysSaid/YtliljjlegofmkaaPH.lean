/- Accepted. -/
import Derived.Test.YtliljjlegofmkaaPF
namespace Go.Proofs.Ytliljjlegofmkaa
open Go.RowKit

def accE (p : Ps) (x : Int) (k : Nat) : Int := if nodeB p x then (if (p.sl k).isSome then 0 else 4) else 2
def accP (p : Ps) (x : Int) (k : Nat) : Ps := if nodeB p x then (match p.sl k with | some (v, X) => { p with sl := upd p.sl k (v, X ||| 2 ^ x.toNat) } | none => p) else p

theorem or_lt (X j : Nat) (hX : X < 4096) (hj : j < 12) : X ||| 2 ^ j < 4096 := Nat.or_lt_two_pow (n := 12) hX (Nat.pow_lt_pow_right (by omega) hj)

theorem or_bit (X x : Nat) (hX : X < 4096) (hx : x < 12) : bits .or .u32 (X : Int) ((2 : Int) ^ x % 4294967296) = ((X ||| 2 ^ x : Nat) : Int) := by
  have h : (2 : Nat) ^ x ≤ 2 ^ 12 := Nat.pow_le_pow_right (by omega) (by omega)
  rw [pow_int (by omega), u32_or_nat _ _ (by omega) (by omega)]

/-- What one more who accepted leaves. -/
theorem PX.acc {w : World} {G : Nat → Prop} {r c : Nat} {p : Ps} {sv : Value} {mb sb : Nat} {mm sm : Nat → Option Value} (h : PX w r p c G sv mb sb mm sm) {k X g : Nat} {v : Vt} {s : Value} (hm : p.sl k = some (v, X))
    (hy : sm k = some (.pointer (some ⟨g, 0, none⟩))) (hB : Blk w g 91 (slC v X s)) (hg : G g) (ho : OwB w G s v.v) (Z : Nat) (hZ : Z < 4096) :
    PX (w.setCell ⟨g, 4, none⟩ (.int .u32 Z)) r { p with sl := upd p.sl k (v, Z) } c G sv mb sb mm sm := by
  have hf := Fr.set1 w g 4 (.int .u32 Z)
  have hrg : r ≠ g := h.blk.ne_ hB (by decide)
  have hobyte : ∀ {s : Value} {bs : List UInt8}, OwB w G s bs → OwB (w.setCell ⟨g, 4, none⟩ (.int .u32 Z)) G s bs := fun ho => ⟨own_fr ho.1 hf (own_blk_ne ho.1 hB (by decide)), ho.2⟩
  refine ⟨h.blk.fr hf hrg, own_fr h.site hf (own_blk_ne h.site hB (by decide)), h.siteG, h.rG, h.mbG, h.sbG, h.ne, h.mus.fr hf (fun e => h.mus.blk_ne hB e.symm), h.sls.fr hf (fun e => h.sls.blk_ne hB e.symm), fun j => ?_, fun j => ?_, h.inj, ?_⟩
  · rcases h.mu j with h1 | ⟨v', nd, s', h1, h2, h3⟩
    · exact .inl h1
    · exact .inr ⟨v', nd, s', h1, h2, hobyte h3⟩
  · by_cases hj : j = k
    · subst hj
      refine .inr ⟨v, Z, g, s, by simp [upd], hy, ?_, hg, hobyte ho⟩
      have := hB.set_ 4 (.int .u32 Z)
      simpa [slC] using this
    · rcases h.sl j with ⟨h1, h2⟩ | ⟨v', Y, g', s', h1, h2, h3, h4, h5⟩
      · exact .inl ⟨by simp [upd, hj, h1], h2⟩
      · have hne : g' ≠ g := fun e => hj (h.inj j k g (by rw [h2, e]) hy)
        exact .inr ⟨v', Y, g', s', by simp [upd, hj, h1], h2, h3.fr hf hne, h4, hobyte h5⟩
  · have W := h.wf
    refine ⟨W.ok, W.ql, W.rb, W.n64, W.f1, W.f64, W.st, W.mu, fun j v' Y hj => ?_⟩
    by_cases hjk : j = k
    · subst hjk
      simp only [upd, if_pos, Option.some.injEq, Prod.mk.injEq] at hj
      obtain ⟨rfl, rfl⟩ := hj
      obtain ⟨a, b, c, _, d⟩ := W.sl j v X hm
      exact ⟨a, b, c, hZ, d⟩
    · simp only [upd, if_neg hjk] at hj
      exact W.sl j v' Y hj

set_option maxRecDepth 100000 in
set_option maxHeartbeats 4000000 in
theorem acc_any (r : Nat) (p : Ps) (c : Nat) (G : Nat → Prop) (x : Int) (k : Nat) (hk : k < 18446744073709551616) (w : World) (h : PR w r p c G) :
    Calls Try.prog 18 #[.pointer (some ⟨r, 0, none⟩), .int .i64 x, .int .u64 k] w fun e w' => e = .returned (.int .i64 (accE p x k)) ∧ PR w' r (accP p x k) c G ∧ Fr G w w' := by
  have hx := h
  obtain ⟨sv, mb, sb, mm, sm, h⟩ := h
  have c1 : w.cell? ⟨r, 1, none⟩ = some (.int .i64 p.q.n) := h.blk.cell 1 rfl
  have c10 : w.cell? ⟨r, 10, none⟩ = some (.map (some sb)) := h.blk.cell 10 rfl
  have hlk := h.sls.look key64 Try.underlying31 Try.underlying78 (zero_slot w) k hk
  unfold accE accP
  cases hb : nodeB p x with
  | false =>
    have HB := Lib.hid hb
    have HX := Lib.hid hx
    clear h hb hx hlk
    simp only [Bool.false_eq_true, if_false]
    go_enter Try.func18, Try.ntmps18
    go_wp2_with fail
    refine (node_any r p x w c1).mono ?_
    rintro e w1 ⟨rfl, rfl⟩
    rw [HB.out]
    go_wp2_with fail
    go_ret
    exact ⟨rfl, HX.out, Fr.refl _ _⟩
  | true =>
    have HB := Lib.hid hb
    simp only [if_true]
    have hn12 := h.wf.ok.n
    simp only [nodeB, decide_eq_true_eq] at hb
    rcases h.sl k with ⟨hm, hy⟩ | ⟨v, X, g, s, hm, hy, hB, hg, ho⟩
    · rw [hy] at hlk
      rw [hm]
      simp only [Option.getD_none, Option.isSome_none] at hlk ⊢
      have HX := Lib.hid hx
      clear h hm hy hx hb
      go_enter Try.func18, Try.ntmps18
      go_wp2_with fail
      refine (node_any r p x w c1).mono ?_
      rintro e w1 ⟨rfl, rfl⟩
      rw [HB.out]
      go_wp2_with fail
      go_ret
      exact ⟨rfl, HX.out, Fr.refl _ _⟩
    · rw [hy] at hlk
      rw [hm]
      obtain ⟨x, rfl⟩ := Int.eq_ofNat_of_zero_le hb.1
      have hx12 : x < 12 := by omega
      obtain ⟨-, -, hvl, hX, -⟩ := h.wf.sl k v X hm
      simp only [Option.getD_some, Option.isSome_some] at hlk ⊢
      have HP := Lib.hid (PX.acc h hm hy hB hg ho (X ||| 2 ^ x) (or_lt X x hX hx12))
      have HG := Lib.hid hg
      have g4 : w.cell? ⟨g, 4, none⟩ = some (.int .u32 X) := hB.cell 4 rfl
      have f4 := hB.frozen 4
      clear h hm hy hx ho hB hb
      go_enter Try.func18, Try.ntmps18
      go_wp2_with fail
      refine (node_any r p x w c1).mono ?_
      rintro e w1 ⟨rfl, rfl⟩
      rw [HB.out]
      go_upto_region 8 with (fail)
      go_region
      rw [or_bit X x hX hx12]
      go_wp2_with fail
      go_ret
      exact ⟨rfl, ⟨_, _, _, _, _, HP.out.fr (Fr.refl (fun _ => False) _).drew (fun _ _ _ h => h)⟩, ((Fr.set1 w g 4 _).mono (fun k _ e => by subst e; exact HG.out)).drew⟩
end Go.Proofs.Ytliljjlegofmkaa
