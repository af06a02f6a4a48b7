/- The document's Promise. -/
import Derived.Test.YtliljjlegofmkaaPRf
import Derived.Deep.QuietTactic
import Derived.BigQuiet
namespace Go.Proofs.Ytliljjlegofmkaa
open Go.RowKit

theorem tdinfo : (Try.prog.info? 113).map (fun i => (i.zero, i.size, i.bytes)) = some (some (.agg #[.int .i64 0, .slice none 0 0]), 2, 32) := by kernel_rfl
def rprmE (st : Rs) (x : Int) (l : List Vt) : Int := if inN st.q x then (if rightV st.n st.d (st.f - 1) l then 0 else 91) else 2
def rprmS (st : Rs) (x : Int) (l : List Vt) : Rs := if rprmE st x l = 0 ∧ toldBit st.L x.toNat = false then { st with L := st.L ++ [(x.toNat, l)] } else st
section
variable {w0 w w' : World} {r : Nat} {st : Rs} {F : Nat → Prop} {sv lv sl ml v v' : Value} {tv svs : List Value}
theorem RX.putTold (h0 : RX w0 r st F sv lv sl ml tv svs) (hf0 : Fr (fun _ => False) w0 w) (t : Nat × List Vt) (hn : t.1 < st.q.n.toNat) (hd : toldBit st.L t.1 = false) (hr : rightV st.n st.d (st.f - 1) t.2 = true)
    (hv : VtL w v t.2 (fun k => k < w0.heap.size ∨ w.heap.size ≤ k)) (ha : Appended 0 113 2 w lv st.L.length 1 (flat2 (tld st.L tv)) [.int .i64 (t.1 : Int), v] v' w') :
    RX (w'.setCell ⟨r, 8, none⟩ v') r { st with L := st.L ++ [t] } (More F w0 w') sv v' sl ml (tv ++ [v]) svs := by
  have h := h0.fr hf0 (fun _ _ h => h)
  have hf := app_fr (r := r) ha 8 v'
  have ho := app_own ha
  have hr0 := h0.blk.lt
  have hs0 := hf0.size
  have hs1 := hf.size
  have hs1' : (w'.setCell ⟨r, 8, none⟩ v').heap.size = w'.heap.size := by simp
  have hl0 := fun k hk => own_lt h0.told (k := k) hk
  have hs0' := fun k hk => own_lt h0.slot (k := k) hk
  have hm0 := fun k hk => own_lt h0.mark (k := k) hk
  obtain ⟨k1, k2⟩ := h.keepV (F' := More F w0 w') (lv' := v') (sl' := sl) (ml' := ml) hf (fun k hk => by rcases hk with hk | hk; exact .inr (.inl hk); exact .inr (.inr (.inl hk))) (fun k hk => by
    rcases hk with hk | hk | hk | hk | hk
    · exact .inl (.inl fun hF => hk (.inl hF))
    · exact .inl (.inr (.inl hk))
    · rcases ho k hk with h1 | h1
      · exact .inl (.inr (.inr (.inl h1)))
      · exact .inr h1.1
    · exact .inl (.inr (.inr (.inr (.inl hk))))
    · exact .inl (.inr (.inr (.inr (.inr hk)))))
  have hB : Blk w' r 99 _ := ha.blk h.blk (fun e => own_blk_ne h.told h.blk (by decide) r e rfl)
  have hrow := ha.1
  refine ⟨by simpa using hB.set_ 8 v', own_fr h.site hf (fun k hk => ?_), ?_, own_fr h.slot hf (fun k hk => ?_), own_fr h.mark hf (fun k hk => ?_), by simp [h.tlen], h.slen, fun i u s hu hs => ?_, k2, .inl h.rF, fun k hk => .inl (h.svF k hk), fun k hk => ?_, fun k hk => .inl (h.slF k hk), fun k hk => .inl (h.mlF k hk), ?_⟩
  · rintro (e | e)
    · exact own_blk_ne h.site h.blk (by decide) k hk e
    · exact own_own_ne h.site h.told (by decide) k k hk e rfl
  · show World.ownsRow _ 0 113 2 v' (st.L ++ [t]).length (flat2 (tld (st.L ++ [t]) (tv ++ [v])))
    rw [List.length_append, List.length_singleton, tld_append h.tlen, flat2_append]
    refine own_fr hrow (Fr.set1 w' r 8 v') (fun k hk e => ?_)
    exact own_blk_ne hrow hB (by decide) k hk e
  · rintro (e | e)
    · exact own_blk_ne h.slot h.blk (by decide) k hk e
    · exact own_own_ne h.slot h.told (by decide) k k hk e rfl
  · rintro (e | e)
    · exact own_blk_ne h.mark h.blk (by decide) k hk e
    · exact own_own_ne h.mark h.told (by decide) k k hk e rfl
  · by_cases hi : i < st.L.length
    · have hu' : st.L[i]? = some u := by
        have hu : (st.L ++ [t])[i]? = some u := hu
        rwa [List.getElem?_append_left hi] at hu
      have hs' : tv[i]? = some s := by rwa [List.getElem?_append_left (by rw [h.tlen]; exact hi)] at hs
      exact k1 i u s hu' hs'
    · have hi' : i = st.L.length := by
        have hu : (st.L ++ [t])[i]? = some u := hu
        have := (List.getElem?_eq_some_iff.1 hu).1
        simp at this; omega
      subst hi'
      have hu : (st.L ++ [t])[st.L.length]? = some u := hu
      rw [List.getElem?_append_right (Nat.le_refl _)] at hu
      rw [List.getElem?_append_right (by rw [h.tlen]; exact Nat.le_refl _), h.tlen] at hs
      simp at hu hs
      subst hu hs
      refine (hv.up hf (fun k hk => ?_)).mono (fun k hk => ?_)
      · rcases hk with hk | hk
        · left; rw [hk]; exact hr0
        · exact .inl (hl0 k hk)
      · rcases hk with hk | hk | hk | hk | hk
        · by_cases hkw : k < w0.heap.size
          · exact .inl hkw
          · by_cases hkw2 : k < w'.heap.size
            · exact absurd (.inr ⟨by omega, hkw2⟩) hk
            · right; omega
        · left; rw [hk]; exact hr0
        · rcases ho k hk with h1 | h1
          · exact .inl (hl0 k h1)
          · exact .inr h1.1
        · exact .inl (hs0' k hk)
        · exact .inl (hm0 k hk)
  · rcases ho k hk with h1 | h1
    · exact .inl (h.lvF k h1)
    · exact .inr ⟨by omega, h1.2⟩
  · have hw := h.wf
    refine ⟨hw.ok, hw.ql, hw.rb, hw.n64, hw.f1, hw.f64, fun x hx => ?_, ?_, fun x hx => ?_, hw.sl, hw.sd, hw.mks⟩
    · rcases List.mem_append.1 hx with hx | hx
      · exact hw.node x hx
      · have : x = t := by simpa using hx
        rw [this]; exact hn
    · refine List.pairwise_append.2 ⟨hw.dist, by simp, fun a ha b hb => ?_⟩
      have : b = t := by simpa using hb
      rw [this]
      unfold toldBit at hd
      rw [List.any_eq_false] at hd
      simpa using hd a ha
    · rcases List.mem_append.1 hx with hx | hx
      · exact hw.vot x hx
      · have : x = t := by simpa using hx
        rw [this]; exact hr
end
/-- Where the check of votes stands. -/
def LastV (f : Nat) (l : List Vt) (j last : Nat) : Prop := (j = 0 ∧ last = f - 1) ∨ ∃ u, 0 < j ∧ l[j - 1]? = some u ∧ last = u.s ∧ f ≤ u.s

/-! ### the votes, in new memory -/
/-- The first j votes of l lie in a row of their own, each value in a row of its own, all behind w0. -/
structure Cop (w0 w : World) (v : Value) (l : List Vt) (vs : List Value) : Prop where
  row : w.ownsRow w0.heap.size 45 4 v l.length (flatV l vs)
  len : vs.length = l.length
  val : ∀ (i : Nat) (p : Vt) (s : Value), l[i]? = some p → vs[i]? = some s → w.ownsRow w0.heap.size 5 1 s p.v.length (u8s p.v)
  fr : Fr (fun _ => False) w0 w
section
variable {w0 w w' : World} {v v' : Value} {l : List Vt} {vs : List Value}
theorem Cop.up (h : Cop w0 w v l vs) (hf : Fr (fun _ => False) w w') : Cop w0 w' v l vs :=
  ⟨own_fr h.row hf (fun _ _ h => h), h.len, fun i p s h1 h2 => own_fr (h.val i p s h1 h2) hf (fun _ _ h => h), h.fr.tr hf⟩
theorem Cop.put1 (h : Cop w0 w v l vs) {b i : Nat} {u : Value} {t : TypeId} {cs : Array Value} (hB : Blk w b t cs) (hb : w0.heap.size ≤ b) (h1 : 5 ≠ t) (hv : ∀ k, v.ownBlock = some k → k ≠ b) : Cop w0 (w.setCell ⟨b, i, none⟩ u) v l vs := by
  have hf := Fr.set1 w b i u
  exact ⟨own_fr h.row hf (fun k hk => hv k hk), h.len, fun i p s h3 h4 => own_fr (h.val i p s h3 h4) hf (fun k hk => own_blk_ne (h.val i p s h3 h4) hB h1 k hk), h.fr.setCell (p := ⟨b, i, none⟩) (fun h => by simp only at h; omega) u⟩
theorem Cop.more {p : Vt} {s : Value} (h : Cop w0 w v l vs) (hs : w.ownsRow w0.heap.size 5 1 s p.v.length (u8s p.v)) (ha : Appended w0.heap.size 45 4 w v l.length 1 (flatV l vs) [.int .u64 p.s, .int .u64 p.n, .int .i64 p.d, s] v' w') : Cop w0 w' v' (l ++ [p]) (vs ++ [s]) := by
  have hf : Fr (fun k => v.ownBlock = some k) w w' := (Fr.refl _ w).grown ha.2.1 (fun k hk _ => hk)
  refine ⟨?_, by simp [h.len], fun i q u hq hu => ?_, ha.fr h.fr (fun k hk hlt => by have := (h.row.lt k hk).1; omega)⟩
  · rw [List.length_append, List.length_singleton, flatV_append _ _ _ _ h.len]
    exact ha.1
  · by_cases hi : i < l.length
    · rw [List.getElem?_append_left hi] at hq
      rw [List.getElem?_append_left (by rw [h.len]; exact hi)] at hu
      exact own_fr (h.val i q u hq hu) hf (fun k hk e => own_own_ne (h.val i q u hq hu) h.row (by decide) k k hk e rfl)
    · have hi' : i = l.length := by
        have := (List.getElem?_eq_some_iff.1 hq).1
        simp at this; omega
      subst hi'
      rw [List.getElem?_append_right (Nat.le_refl _)] at hq
      rw [List.getElem?_append_right (by rw [h.len]; exact Nat.le_refl _), h.len] at hu
      simp at hq hu
      subst hq hu
      exact own_fr hs hf (fun k hk e => own_own_ne hs h.row (by decide) k k hk e rfl)
theorem Cop.nil (w : World) : Cop w w (.slice none 0 0) [] [] := ⟨World.ownsRow_nil _ _ _ _, rfl, fun i p s h => by simp at h, Fr.refl _ _⟩
/-- A vote of numbers in their bounds. -/
def VtN (p : Vt) : Prop := p.s < 18446744073709551616 ∧ p.n < 18446744073709551616 ∧ -9223372036854775808 ≤ p.d ∧ p.d ≤ 9223372036854775807 ∧ p.v.length ≤ maxLen
theorem Cop.vtl (h : Cop w0 w v l vs) (hn : ∀ p ∈ l, VtN p) (hl : l.length ≤ maxLen) : VtL w v l (fun k => k < w0.heap.size ∨ w.heap.size ≤ k) := by
  rcases own_form h.row with ⟨rfl, hL, _⟩ | ⟨g, cap, cur, rfl, hg0, hg, _⟩
  · have : l = [] := List.eq_nil_of_length_eq_zero hL
    subst this
    exact VtL.nil _ _
  · have hrow := own_base h.row
    refine ⟨⟨_, cap, rfl, fun i p hp => ?_⟩, hl⟩
    have hi : i < vs.length := by rw [h.len]; exact (List.getElem?_eq_some_iff.1 hp).1
    obtain ⟨e1, e2, e3, e4⟩ := flatV_get _ _ i _ _ hp (List.getElem?_eq_getElem hi)
    have ho := h.val i p _ hp (List.getElem?_eq_getElem hi)
    obtain ⟨n1, n2, n3, n4, n5⟩ := hn p (List.mem_of_getElem? hp)
    refine ⟨g, 0, vs[i], rfl, by have := hg.lt; omega, ⟨by rw [Nat.zero_add]; exact own_cell hrow _ e1, by rw [Nat.zero_add]; exact own_cell hrow _ e2, by rw [Nat.zero_add]; exact own_cell hrow _ e3, by rw [Nat.zero_add]; exact own_cell hrow _ e4, Byt.of_own ho, n5, n1, n2, n3, n4⟩, fun k hk _ => ?_⟩
    have := ho.lt k hk
    omega
end
end Go.Proofs.Ytliljjlegofmkaa
