/- Propose: what it answers; a slot put. -/
import Derived.Test.YtliljjlegofmkaaPJ
import Derived.Test.YtliljjlegofmkaaPG
namespace Go.Proofs.Ytliljjlegofmkaa
open Go.RowKit

def proVal (p : Ps) (k : Nat) (own : List UInt8) : List UInt8 := (muB p k).getD own
def proE (p : Ps) (k : Nat) (own : List UInt8) : Int := if readyB p then (if k < p.f then 2 else match p.sl k with | some _ => 0 | none => if 100 < (proVal p k own).length then 3 else 0) else 100
def proV (p : Ps) (k : Nat) (own : List UInt8) : Vt := if proE p k own = 0 then (match p.sl k with | some (v, _) => v | none => ⟨k, p.n, p.d, proVal p k own⟩) else ⟨0, 0, 0, []⟩
def proP (p : Ps) (k : Nat) (own : List UInt8) : Ps := if proE p k own = 0 then (match p.sl k with | some _ => p | none => { p with sl := upd p.sl k (⟨k, p.n, p.d, proVal p k own⟩, 0) }) else p

section
variable {w w' : World} {G : Nat → Prop} {r c : Nat} {p : Ps} {sv : Value} {mb sb : Nat} {mm sm : Nat → Option Value}
/-- A slot put. -/
theorem PX.putSl (h : PX w r p c G sv mb sb mm sm) {v : Vt} {g : Nat} {s : Value} {k : Nat} (hs : v.s = k) (hk : k < 18446744073709551616) (hf0 : p.f ≤ k) (hn : v.n = p.n) (hd : v.d = p.d) (hB : Blk w g 91 (slC v 0 s)) (hg : G g) (ho : OwB w G s v.v) (hl : v.v.length ≤ 100)
    (hnew : ∀ j, sm j ≠ some (.pointer (some ⟨g, 0, none⟩))) (hm : Mp w' sb (c + 1) (upd sm k (.pointer (some ⟨g, 0, none⟩)))) (hf : Fr (fun j => j = sb) w w') :
    PX w' r { p with sl := upd p.sl k (v, 0) } (c + 1) G sv mb sb mm (upd sm k (.pointer (some ⟨g, 0, none⟩))) := by
  refine ⟨h.blk.fr hf (h.sls.blk_ne h.blk), own_fr h.site hf (h.sls.own_ne h.site), h.siteG, h.rG, h.mbG, h.sbG, h.ne, (h.mus.fr hf h.ne).mono (by omega), hm, fun j => ?_, fun j => ?_, fun a b g' ha hb => ?_, ?_⟩
  · rcases h.mu j with ⟨h1, h2⟩ | ⟨v', nd, s', h1, h2, h3⟩
    · exact .inl ⟨h1, h2⟩
    · exact .inr ⟨v', nd, s', h1, h2, h.sls.owb_fr h3 hf⟩
  · by_cases hj : j = k
    · subst hj
      exact .inr ⟨v, 0, g, s, by simp [upd], by simp [upd], hB.fr hf (h.sls.blk_ne hB), hg, h.sls.owb_fr ho hf⟩
    · rcases h.sl j with ⟨h1, h2⟩ | ⟨v', Y, g', s', h1, h2, h3, h4, h5⟩
      · exact .inl ⟨by simp [upd, hj, h1], by simp [upd, hj, h2]⟩
      · exact .inr ⟨v', Y, g', s', by simp [upd, hj, h1], by simp [upd, hj, h2], h3.fr hf (h.sls.blk_ne h3), h4, h.sls.owb_fr h5 hf⟩
  · unfold upd at ha hb
    split at ha
    · rename_i ea
      injection ha with ha; injection ha with ha; injection ha with ha; injection ha with ha
      subst ha
      split at hb
      · rename_i eb; rw [ea, eb]
      · exact absurd hb (hnew b)
    · rename_i ea
      split at hb
      · injection hb with hb; injection hb with hb; injection hb with hb; injection hb with hb
        subst hb
        exact absurd ha (hnew a)
      · exact h.inj a b g' ha hb
  · have W := h.wf
    refine ⟨W.ok, W.ql, W.rb, W.n64, W.f1, W.f64, W.st, W.mu, fun j v' Y hj => ?_⟩
    by_cases hjk : j = k
    · subst hjk
      simp only [upd, if_pos, Option.some.injEq, Prod.mk.injEq] at hj
      obtain ⟨rfl, rfl⟩ := hj
      exact ⟨hs, hk, hl, by omega, hf0, hn, hd⟩
    · simp only [upd, if_neg hjk] at hj
      exact W.sl j v' Y hj
theorem PX.new_ne (h : PX w r p c G sv mb sb mm sm) {g : Nat} (hg : w.heap.size ≤ g) : ∀ j, sm j ≠ some (.pointer (some ⟨g, 0, none⟩)) := fun j e => by
  rcases h.sl j with ⟨_, h2⟩ | ⟨v', Y, g', s', _, h2, h3, _, _⟩
  · rw [h2] at e; cases e
  · rw [h2] at e
    injection e with e; injection e with e; injection e with e; injection e with e
    have := h3.lt
    omega
end

/-- What Propose leaves. -/
def ProPost (r c : Nat) (G : Nat → Prop) (w : World) (E : Int) (V : Vt) (p' : Ps) (e : Ending) (w' : World) : Prop :=
  ∃ va vc G', e = .returned (.tuple #[vtV V (.slice va V.v.length vc), .int .i64 E]) ∧ w'.ownsRow w.heap.size 5 1 (.slice va V.v.length vc) V.v.length (u8s V.v) ∧
    PR w' r p' (c + 1) G' ∧ Nx G G' w w' ∧ (∀ j, (Value.slice va V.v.length vc).ownBlock = some j → ¬ G' j) ∧ Fr G w w'

/-- A result of nothing. -/
theorem pro_zero {r : Nat} {p : Ps} {c : Nat} {G : Nat → Prop} {w w' : World} (h : PR w r p c G) (hf : Fr (fun _ => False) w w') (E : Int) :
    ProPost r c G w E ⟨0, 0, 0, []⟩ p (.returned (.tuple #[.agg #[.int .u64 0, .int .u64 0, .int .i64 0, .slice none 0 0], .int .i64 E])) w' :=
  ⟨none, 0, G, rfl, World.ownsRow_nil _ _ _ _, (h.none_ hf).mono (by omega), Nx.refl _ _ _, fun j hj => by simp [Value.ownBlock] at hj, hf.none_up⟩

set_option maxRecDepth 100000 in
set_option maxHeartbeats 4000000 in
theorem pro_state (r : Nat) (p : Ps) (c : Nat) (G : Nat → Prop) (k : Nat) (A : Option Addr) (n sc : Nat) (w : World) (h : PR w r p c G) (hr : readyB p = false) :
    Calls Try.prog 16 #[.pointer (some ⟨r, 0, none⟩), .int .u64 k, .slice A n sc] w fun e w' => ProPost r c G w 100 ⟨0, 0, 0, []⟩ p e w' := by
  obtain ⟨w1, hw1⟩ : ∃ w1, w1 = w.alloc (.cells #[.int .u64 0, .int .u64 0, .int .i64 0, .slice none 0 0] 45) := ⟨_, rfl⟩
  have hf1 : Fr (fun _ => False) w w1 := by rw [hw1]; exact (Fr.refl _ w).alloc _
  have hB1 : Blk w1 w.heap.size 45 #[.int .u64 0, .int .u64 0, .int .i64 0, .slice none 0 0] := by rw [hw1]; exact Blk.new _ _ _
  have HW := Lib.hid hw1
  have HR := Lib.hid hr
  clear hw1 hr
  go_enter Try.func16, Try.ntmps16
  go_upto_region 3 with (fail)
  rw [← HW.out]
  clear HW
  go_wp2_with fail
  refine (ready_any r p c G w1 (h.none_ hf1)).mono ?_
  rintro e w2 ⟨rfl, hf2⟩
  rw [HR.out]
  have hB2 := hB1.fr hf2 (fun h => h)
  have b0 := hB2.cell 0 rfl
  have b1 := hB2.cell 1 rfl
  have b2 := hB2.cell 2 rfl
  have b3 := hB2.cell 3 rfl
  have b4 := hB2.frozen
  go_wp2_with fail
  have hX : Fr (fun x => x = w.heap.size) w2 ((((w2.setCell ⟨w.heap.size, 0, none⟩ (.int .u64 0)).setCell ⟨w.heap.size, 1, none⟩ (.int .u64 0)).setCell ⟨w.heap.size, 2, none⟩ (.int .i64 0)).setCell ⟨w.heap.size, 3, none⟩ (.slice none 0 0)) :=
    (((Fr.set1 w2 w.heap.size 0 _).setCell (p := ⟨w.heap.size, 1, none⟩) (fun _ => rfl) _).setCell (p := ⟨w.heap.size, 2, none⟩) (fun _ => rfl) _).setCell (p := ⟨w.heap.size, 3, none⟩) (fun _ => rfl) _
  have hW := (((hB2.set_ 0 (.int .u64 0)).set_ 1 (.int .u64 0)).set_ 2 (.int .i64 0)).set_ 3 (.slice none 0 0)
  refine bodyPost_ret (results_row_tmp rfl _ _ w.heap.size 45 #[.int .u64 0, .int .u64 0, .int .i64 0, .slice none 0 0] (0, 0) _ rfl ?_ Try.underlying45 rfl (by kernel_rfl)) rfl ?_
  · show Blk _ w.heap.size 45 _
    simpa using hW
  · exact pro_zero h ((hf1.tr hf2).trans hX (fun x hx h => by rcases h with h | h; exact h; omega)) 100
end Go.Proofs.Ytliljjlegofmkaa
