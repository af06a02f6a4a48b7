/- The document's Propose: a slot more. -/
import Derived.Test.YtliljjlegofmkaaPRj
namespace Go.Proofs.Ytliljjlegofmkaa
open Go.RowKit

section
variable {w0 w w' : World} {r : Nat} {st : Rs} {F : Nat → Prop} {sv lv sl ml s v' : Value} {tv svs : List Value}
theorem findV_none {S : List Vt} {k : Nat} (h : findV S k = none) : ∀ v ∈ S, v.s ≠ k := fun v hv e => by
  unfold findV at h
  rw [List.find?_eq_none] at h
  exact h v hv (by simp [e])
theorem RX.putSlot (h0 : RX w0 r st F sv lv sl ml tv svs) (hf0 : Fr (fun _ => False) w0 w) (p : Vt) (hp : st.f ≤ p.s ∧ p.s < 18446744073709551616 ∧ p.n = st.n ∧ p.d = st.d ∧ p.v.length ≤ 100) (hd : findV st.S p.s = none)
    (hs : w.ownsRow w0.heap.size 5 1 s p.v.length (u8s p.v)) (ha : Appended 0 45 4 w sl st.S.length 1 (flatV st.S svs) [.int .u64 p.s, .int .u64 p.n, .int .i64 p.d, s] v' w') :
    RX (w'.setCell ⟨r, 9, none⟩ v') r { st with S := st.S ++ [p] } (More F w0 w') sv lv v' ml tv (svs ++ [s]) := by
  have h := h0.fr hf0 (fun _ _ h => h)
  have hf := app_fr (r := r) ha 9 v'
  have ho := app_own ha
  have hr0 := h0.blk.lt
  have hs0 := hf0.size
  have hs1 := hf.size
  have hs1' : (w'.setCell ⟨r, 9, none⟩ v').heap.size = w'.heap.size := by simp
  have hl0 := fun k hk => own_lt h0.told (k := k) hk
  have hs0' := fun k hk => own_lt h0.slot (k := k) hk
  have hm0 := fun k hk => own_lt h0.mark (k := k) hk
  obtain ⟨k1, k2⟩ := h.keepV (F' := More F w0 w') (lv' := lv) (sl' := v') (ml' := ml) hf (fun k hk => by rcases hk with hk | hk; exact .inr (.inl hk); exact .inr (.inr (.inr (.inl hk)))) (fun k hk => by
    rcases hk with hk | hk | hk | hk | hk
    · exact .inl (.inl fun hF => hk (.inl hF))
    · exact .inl (.inr (.inl hk))
    · exact .inl (.inr (.inr (.inl hk)))
    · rcases ho k hk with h1 | h1
      · exact .inl (.inr (.inr (.inr (.inl h1))))
      · exact .inr h1.1
    · exact .inl (.inr (.inr (.inr (.inr hk)))))
  have hB : Blk w' r 99 _ := ha.blk h.blk (fun e => own_blk_ne h.slot h.blk (by decide) r e rfl)
  have hrow := ha.1
  have hsx : ∀ k, s.ownBlock = some k → w0.heap.size ≤ k ∧ k < w.heap.size := fun k hk => hs.lt k hk
  refine ⟨by simpa using hB.set_ 9 v', own_fr h.site hf (fun k hk => ?_), own_fr h.told hf (fun k hk => ?_), ?_, own_fr h.mark hf (fun k hk => ?_), h.tlen, by simp [h.slen], k1, fun i u z hu hz => ?_, .inl h.rF, fun k hk => .inl (h.svF k hk), fun k hk => .inl (h.lvF k hk), fun k hk => ?_, fun k hk => .inl (h.mlF k hk), ?_⟩
  · rintro (e | e)
    · exact own_blk_ne h.site h.blk (by decide) k hk e
    · exact own_own_ne h.site h.slot (by decide) k k hk e rfl
  · rintro (e | e)
    · exact own_blk_ne h.told h.blk (by decide) k hk e
    · exact own_own_ne h.told h.slot (by decide) k k hk e rfl
  · show World.ownsRow _ 0 45 4 v' (st.S ++ [p]).length (flatV (st.S ++ [p]) (svs ++ [s]))
    rw [List.length_append, List.length_singleton, flatV_append _ _ _ _ h.slen]
    refine own_fr hrow (Fr.set1 w' r 9 v') (fun k hk e => ?_)
    exact own_blk_ne hrow hB (by decide) k hk e
  · rintro (e | e)
    · exact own_blk_ne h.mark h.blk (by decide) k hk e
    · exact own_own_ne h.mark h.slot (by decide) k k hk e rfl
  · by_cases hi : i < st.S.length
    · have hu' : st.S[i]? = some u := by
        have hu : (st.S ++ [p])[i]? = some u := hu
        rwa [List.getElem?_append_left hi] at hu
      have hz' : svs[i]? = some z := by rwa [List.getElem?_append_left (by rw [h.slen]; exact hi)] at hz
      exact k2 i u z hu' hz'
    · have hi' : i = st.S.length := by
        have hu : (st.S ++ [p])[i]? = some u := hu
        have := (List.getElem?_eq_some_iff.1 hu).1
        simp at this; omega
      subst hi'
      have hu : (st.S ++ [p])[st.S.length]? = some u := hu
      rw [List.getElem?_append_right (Nat.le_refl _)] at hu
      rw [List.getElem?_append_right (by rw [h.slen]; exact Nat.le_refl _), h.slen] at hz
      simp at hu hz
      subst hu hz
      refine ⟨Byt.of_own (own_fr hs hf (fun k hk => ?_)), fun k hk hn hO => ?_⟩
      · have := hsx k hk
        rintro (e | e)
        · omega
        · have := hs0' k e; omega
      · have hkx := hsx k hk
        rcases hO with e | e | e | e | e
        · exact e (.inr ⟨hkx.1, by omega⟩)
        · omega
        · have := hl0 k e; omega
        · rcases ho k e with h1 | h1
          · have := hs0' k h1; omega
          · omega
        · have := hm0 k e; omega
  · rcases ho k hk with h1 | h1
    · exact .inl (h.slF k h1)
    · exact .inr ⟨by omega, h1.2⟩
  · have hw := h.wf
    refine ⟨hw.ok, hw.ql, hw.rb, hw.n64, hw.f1, hw.f64, hw.node, hw.dist, hw.vot, fun x hx => ?_, ?_, hw.mks⟩
    · rcases List.mem_append.1 hx with hx | hx
      · exact hw.sl x hx
      · have : x = p := by simpa using hx
        rw [this]; exact hp
    · refine List.pairwise_append.2 ⟨hw.sd, by simp, fun a ha b hb => ?_⟩
      have : b = p := by simpa using hb
      rw [this]
      exact findV_none hd a ha
end

/-- What the document's Propose leaves. -/
def RPro (r : Nat) (st : Rs) (F : Nat → Prop) (k : Nat) (own : List UInt8) (w : World) (e : Ending) (w' : World) : Prop :=
  ∃ o va vc, BestR st.L k o ∧ e = .returned (.tuple #[vtV (rproV st k own o) (.slice va (rproV st k own o).v.length vc), .int .i64 (rproE st k own o)]) ∧
    Byt w' (.slice va (rproV st k own o).v.length vc) (rproV st k own o).v ∧ (∀ j, (Value.slice va (rproV st k own o).v.length vc).ownBlock = some j → (rproV st k own o).v ≠ [] → F j ∨ w.heap.size ≤ j) ∧
    ∃ F', RR w' r (rproS st k own o) F' ∧ Nx F F' w w' ∧ Fr F w w'
theorem rpro_no {r : Nat} {st : Rs} {F : Nat → Prop} {k : Nat} {own : List UInt8} {w w' : World} {o : Option (Vt × Nat)} {E : Int} (ho : BestR st.L k o) (hE : rproE st k own o = E) (h0 : ¬ E = 0) (h : RR w r st F) (hf : Fr (fun _ => False) w w') :
    RPro r st F k own w (.returned (.tuple #[.agg #[.int .u64 0, .int .u64 0, .int .i64 0, .slice none 0 0], .int .i64 E])) w' := by
  have hv : rproV st k own o = ⟨0, 0, 0, []⟩ := by unfold rproV; rw [hE, if_neg h0]
  have hs : rproS st k own o = st := by unfold rproS; rw [hE, if_neg h0]
  refine ⟨o, none, 0, ho, by rw [hv, hE]; rfl, by rw [hv]; exact byt_nil _, fun j hj => by simp [Value.ownBlock] at hj, F, by rw [hs]; exact h.none_ hf, Nx.refl _ _ _, hf.none_up⟩
/-- The result's row turned behind all. -/
theorem RR.off {r : Nat} {st : Rs} {F : Nat → Prop} {w w' : World} {b : Nat} (h : RR w r st F) (hf : Fr (fun k => k = b) w w') (hb : ¬ F b) : RR w' r st F := h.fr hf (fun _ hk e => hb (e ▸ hk))
end Go.Proofs.Ytliljjlegofmkaa
