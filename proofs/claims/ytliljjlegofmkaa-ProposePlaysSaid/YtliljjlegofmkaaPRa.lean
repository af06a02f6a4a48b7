/- The document's proposer: what it holds; Copy of a system; New. -/
import Derived.Test.YtliljjlegofmkaaPLa
import Derived.Test.YtliljjlegofmkaaPNe
import Derived.Test.YtliljjlegofmkaaPMx
import Derived.Deep.RegionWith
namespace Go.Proofs.Ytliljjlegofmkaa
open Go.RowKit

/-- The document's proposer: what each node told, what was proposed, who accepted. -/
structure Rs where
  q : Qu
  n : Nat
  d : Int
  f : Nat
  L : List (Nat × List Vt)
  S : List Vt
  M : List (Nat × Nat)
structure RWf (st : Rs) : Prop where
  ok : Ok st.q
  ql : st.q.s.length ≤ 1000
  rb : rightB st.n st.d = true
  n64 : st.n < 18446744073709551616
  f1 : 1 ≤ st.f
  f64 : st.f < 18446744073709551616
  node : ∀ t ∈ st.L, t.1 < st.q.n.toNat
  dist : st.L.Pairwise fun a b => a.1 ≠ b.1
  vot : ∀ t ∈ st.L, rightV st.n st.d (st.f - 1) t.2 = true
  sl : ∀ v ∈ st.S, st.f ≤ v.s ∧ v.s < 18446744073709551616 ∧ v.n = st.n ∧ v.d = st.d ∧ v.v.length ≤ 100
  sd : st.S.Pairwise fun a b => a.s ≠ b.s
  mks : ∀ m ∈ st.M, m.1 < st.q.n.toNat ∧ m.2 < 18446744073709551616
def rs0 (q : Qu) (n : Nat) (d : Int) (f : Nat) : Rs := ⟨q, n, d, f, [], [], []⟩
theorem rs0_wf {q : Qu} {n : Nat} {d : Int} {f : Nat} (h : Ok q) (hl : q.s.length ≤ 1000) (hb : rightB n d = true) (hn : n < 18446744073709551616) (hf1 : 1 ≤ f) (hf64 : f < 18446744073709551616) : RWf (rs0 q n d f) :=
  ⟨h, hl, hb, hn, hf1, hf64, by simp [rs0], by simp [rs0], by simp [rs0], by simp [rs0], by simp [rs0], by simp [rs0]⟩

/-! ### rows of pairs -/
def flat2 : List (Value × Value) → List Value
  | [] => []
  | (a, b) :: l => a :: b :: flat2 l
theorem flat2_get : ∀ (ps : List (Value × Value)) (j : Nat) (a b : Value), ps[j]? = some (a, b) → (flat2 ps)[j * 2]? = some a ∧ (flat2 ps)[j * 2 + 1]? = some b
  | [], j, a, b, h => by simp at h
  | (x, y) :: ps, 0, a, b, h => by
    simp at h
    obtain ⟨h1, h2⟩ := h
    subst h1 h2
    exact ⟨rfl, rfl⟩
  | (x, y) :: ps, j + 1, a, b, h => by
    have := flat2_get ps j a b (by simpa using h)
    simp only [flat2]
    rw [show (j + 1) * 2 = j * 2 + 1 + 1 by omega, show j * 2 + 1 + 1 + 1 = (j * 2 + 1) + 1 + 1 by omega]
    simpa only [List.getElem?_cons_succ] using this
theorem flat2_append : ∀ (ps qs : List (Value × Value)), flat2 (ps ++ qs) = flat2 ps ++ flat2 qs
  | [], qs => by simp [flat2]
  | (a, b) :: ps, qs => by simp only [List.cons_append, flat2]; rw [flat2_append ps qs]
def tld (L : List (Nat × List Vt)) (tv : List Value) : List (Value × Value) := List.zipWith (fun t v => (Value.int .i64 (t.1 : Int), v)) L tv
def mrk (M : List (Nat × Nat)) : List (Value × Value) := M.map fun m => (.int .i64 (m.1 : Int), .int .u64 (m.2 : Int))
theorem tld_get {L : List (Nat × List Vt)} {tv : List Value} {i : Nat} {t : Nat × List Vt} {v : Value} (h : L[i]? = some t) (h' : tv[i]? = some v) : (tld L tv)[i]? = some (.int .i64 (t.1 : Int), v) := by
  unfold tld; rw [List.getElem?_zipWith, h, h']
theorem tld_append {L : List (Nat × List Vt)} {tv : List Value} (h : tv.length = L.length) (t : Nat × List Vt) (v : Value) : tld (L ++ [t]) (tv ++ [v]) = tld L tv ++ [(.int .i64 (t.1 : Int), v)] := by
  unfold tld; rw [List.zipWith_append h.symm]; rfl

/-- Blocks that may turn where the document's proposer does. -/
def Off (F : Nat → Prop) (r : Nat) (lv sl ml : Value) (k : Nat) : Prop := ¬ F k ∨ k = r ∨ lv.ownBlock = some k ∨ sl.ownBlock = some k ∨ ml.ownBlock = some k
structure RX (w : World) (r : Nat) (st : Rs) (F : Nat → Prop) (sv lv sl ml : Value) (tv svs : List Value) : Prop where
  blk : Blk w r 99 #[.int .i64 st.q.k, .int .i64 st.q.n, .int .i64 st.q.o, .int .i64 st.q.t, sv, .int .u64 st.n, .int .i64 st.d, .int .u64 st.f, lv, sl, ml]
  site : w.ownsRow 0 3 1 sv st.q.s.length (i64s st.q.s)
  told : w.ownsRow 0 113 2 lv st.L.length (flat2 (tld st.L tv))
  slot : w.ownsRow 0 45 4 sl st.S.length (flatV st.S svs)
  mark : w.ownsRow 0 116 2 ml st.M.length (flat2 (mrk st.M))
  tlen : tv.length = st.L.length
  slen : svs.length = st.S.length
  tvo : ∀ (i : Nat) (t : Nat × List Vt) (v : Value), st.L[i]? = some t → tv[i]? = some v → VtL w v t.2 (Off F r lv sl ml)
  svo : ∀ (i : Nat) (v : Vt) (s : Value), st.S[i]? = some v → svs[i]? = some s → Byt w s v.v ∧ ∀ k, s.ownBlock = some k → v.v ≠ [] → ¬ Off F r lv sl ml k
  rF : F r
  svF : ∀ k, sv.ownBlock = some k → F k
  lvF : ∀ k, lv.ownBlock = some k → F k
  slF : ∀ k, sl.ownBlock = some k → F k
  mlF : ∀ k, ml.ownBlock = some k → F k
  wf : RWf st
def RR (w : World) (r : Nat) (st : Rs) (F : Nat → Prop) : Prop := ∃ sv lv sl ml tv svs, RX w r st F sv lv sl ml tv svs

section
variable {w w' : World} {r : Nat} {st : Rs} {F F' X : Nat → Prop} {sv lv sl ml : Value} {tv svs : List Value}
theorem RX.fr (h : RX w r st F sv lv sl ml tv svs) (hf : Fr X w w') (hx : ∀ k, F k → ¬ X k) : RX w' r st F sv lv sl ml tv svs := by
  have hO : ∀ k, X k → Off F r lv sl ml k := fun k hk => .inl fun hF => hx k hF hk
  exact ⟨h.blk.fr hf (hx r h.rF), own_fr h.site hf (fun k hk => hx k (h.svF k hk)), own_fr h.told hf (fun k hk => hx k (h.lvF k hk)), own_fr h.slot hf (fun k hk => hx k (h.slF k hk)), own_fr h.mark hf (fun k hk => hx k (h.mlF k hk)), h.tlen, h.slen,
    fun i t v h1 h2 => (h.tvo i t v h1 h2).up hf hO, fun i v s h1 h2 => ⟨(h.svo i v s h1 h2).1.fr' hf (fun k hk hn hX => (h.svo i v s h1 h2).2 k hk hn (hO k hX)), (h.svo i v s h1 h2).2⟩, h.rF, h.svF, h.lvF, h.slF, h.mlF, h.wf⟩
theorem RR.fr (h : RR w r st F) (hf : Fr X w w') (hx : ∀ k, F k → ¬ X k) : RR w' r st F := by
  obtain ⟨sv, lv, sl, ml, tv, svs, h⟩ := h
  exact ⟨sv, lv, sl, ml, tv, svs, h.fr hf hx⟩
theorem RR.none_ (h : RR w r st F) (hf : Fr (fun _ => False) w w') : RR w' r st F := h.fr hf (fun _ _ h => h)
theorem RR.wf (h : RR w r st F) : RWf st := by obtain ⟨_, _, _, _, _, _, h⟩ := h; exact h.wf
theorem own_sl4 {w : World} {base e size n : Nat} {v : Value} {xs : List Value} (h : w.ownsRow base e size v n xs) : ∃ va vc, v = .slice va n vc := by
  rcases own_form h with ⟨h1, h2, _⟩ | ⟨g, cap, cur, h1, _⟩
  · exact ⟨none, 0, by rw [h1, h2]⟩
  · exact ⟨some ⟨g, 0, none⟩, cap, h1⟩
/-- What a node told. -/
theorem RX.told_at (h : RX w r st F sv lv sl ml tv svs) {i : Nat} {t : Nat × List Vt} (ht : st.L[i]? = some t) :
    ∃ g lc v, lv = .slice (some ⟨g, 0, none⟩) st.L.length lc ∧ w.cell? ⟨g, i * 2, none⟩ = some (.int .i64 (t.1 : Int)) ∧ w.cell? ⟨g, i * 2 + 1, none⟩ = some v ∧ VtL w v t.2 (Off F r lv sl ml) := by
  have hi := (List.getElem?_eq_some_iff.1 ht).1
  have hiv : i < tv.length := by rw [h.tlen]; exact hi
  obtain ⟨e1, e2⟩ := flat2_get _ i _ _ (tld_get ht (List.getElem?_eq_getElem hiv))
  have hrow := h.told
  rcases own_form hrow with ⟨_, hL, _⟩ | ⟨g, cap, cur, hlv, _⟩
  · omega
  · refine ⟨g, cap, tv[i], hlv, ?_, ?_, h.tvo i t _ ht (List.getElem?_eq_getElem hiv)⟩
    · rw [hlv] at hrow; exact own_cell hrow _ e1
    · rw [hlv] at hrow; exact own_cell hrow _ e2
theorem RX.slot_at (h : RX w r st F sv lv sl ml tv svs) {i : Nat} {v : Vt} (hv : st.S[i]? = some v) :
    ∃ g lc s, sl = .slice (some ⟨g, 0, none⟩) st.S.length lc ∧ w.cell? ⟨g, i * 4, none⟩ = some (.int .u64 v.s) ∧ w.cell? ⟨g, i * 4 + 1, none⟩ = some (.int .u64 v.n) ∧ w.cell? ⟨g, i * 4 + 2, none⟩ = some (.int .i64 v.d) ∧ w.cell? ⟨g, i * 4 + 3, none⟩ = some s ∧ Byt w s v.v ∧ ∀ k, s.ownBlock = some k → v.v ≠ [] → ¬ Off F r lv sl ml k := by
  have hi := (List.getElem?_eq_some_iff.1 hv).1
  have hiv : i < svs.length := by rw [h.slen]; exact hi
  obtain ⟨e1, e2, e3, e4⟩ := flatV_get _ _ i _ _ hv (List.getElem?_eq_getElem hiv)
  have hrow := h.slot
  have ho := h.svo i v _ hv (List.getElem?_eq_getElem hiv)
  rcases own_form hrow with ⟨_, hL, _⟩ | ⟨g, cap, cur, hsl, _⟩
  · omega
  · rw [hsl] at hrow
    exact ⟨g, cap, svs[i], hsl, own_cell hrow _ e1, own_cell hrow _ e2, own_cell hrow _ e3, own_cell hrow _ e4, ho.1, ho.2⟩
theorem RX.mark_at (h : RX w r st F sv lv sl ml tv svs) {i : Nat} {m : Nat × Nat} (hm : st.M[i]? = some m) :
    ∃ g lc, ml = .slice (some ⟨g, 0, none⟩) st.M.length lc ∧ w.cell? ⟨g, i * 2, none⟩ = some (.int .i64 (m.1 : Int)) ∧ w.cell? ⟨g, i * 2 + 1, none⟩ = some (.int .u64 (m.2 : Int)) := by
  have hi := (List.getElem?_eq_some_iff.1 hm).1
  have hmm : (mrk st.M)[i]? = some (.int .i64 (m.1 : Int), .int .u64 (m.2 : Int)) := by unfold mrk; rw [List.getElem?_map, hm]; rfl
  obtain ⟨e1, e2⟩ := flat2_get _ i _ _ hmm
  have hrow := h.mark
  rcases own_form hrow with ⟨_, hL, _⟩ | ⟨g, cap, cur, hml, _⟩
  · omega
  · rw [hml] at hrow
    exact ⟨g, cap, hml, own_cell hrow _ e1, own_cell hrow _ e2⟩
end

/-! ### append of numbers to nothing -/
set_option maxRecDepth 100000 in
theorem ap_ints (w : World) (A : Option Addr) (c : Nat) (l : List Int) (hs : Ints w (.slice A l.length c) l) (hc : A = none → c = 0) (hl : l.length ≤ 1000) (ty : TypeId) (consts : Array Bool) :
    ∃ v' w', (builtin .append #[22, 22] ty consts #[.slice none 0 0, .slice A l.length c]).run Try.prog w = .ok (.value v') w' ∧ (w'.ownsRow w.heap.size 3 1 v' l.length (i64s l) ∧ Fr (fun _ => False) w w') := by
  obtain ⟨i0, hi0, hz0, hz1, hz2⟩ := info_parts i64info
  have hown0 := World.ownsRow_nil w w.heap.size 3 1
  have hfin : ∀ v' w', Appended w.heap.size 3 1 w (.slice none 0 0) 0 l.length [] (i64s l) v' w' → w'.ownsRow w.heap.size 3 1 v' l.length (i64s l) ∧ Fr (fun _ => False) w w' := fun v' w' h2 => by
    have h3 := h2.1
    simp only [Nat.zero_add, List.nil_append] at h3
    exact ⟨h3, h2.fr (Fr.refl _ w) (fun k hk _ => by simp [Value.ownBlock] at hk)⟩
  cases A with
  | none =>
    have := hc rfl
    subst this
    have hn : l = [] := by
      by_cases hn : l = []
      · exact hn
      · obtain ⟨A', c', he, h2⟩ := hs
        injection he with e1 _ _
        subst e1
        obtain ⟨_, _, h, _⟩ := h2 hn
        cases h
    subst hn
    have hr := run_append_owned_none (P := Try.prog) w w.heap.size 22 ty 3 i0 1 Try.underlying22 hi0 _ 0 [] hown0
    exact ⟨_, _, by simp only [builtin, Sem.run_bind, List.length_nil, hr, Result.andThen_ok, Sem.run_pure], hfin _ _ ⟨by simpa [i64s] using hown0, ⟨rfl, rfl, rfl, Nat.le_refl _, fun _ _ _ => rfl⟩, .inl rfl⟩⟩
  | some a =>
    obtain ⟨v', w', h1, h2⟩ := ap_cells (base := w.heap.size) (ty := ty) (P := Try.prog) Try.underlying22 hi0 hz0 hz1 hz2 rfl (by omega) hown0 a l.length c (i64s l) (by simp [i64s]) (fun j u hu => by
      have hn : l ≠ [] := by rintro rfl; simp [i64s] at hu
      obtain ⟨A', c', he, h2⟩ := hs
      injection he with e1 _ _
      subst e1
      obtain ⟨b, off, he, h3⟩ := h2 hn
      injection he with he
      subst he
      rw [add_none]
      simp only [i64s, List.getElem?_map, Option.map_eq_some_iff] at hu
      obtain ⟨z, hz, rfl⟩ := hu
      exact h3 j z hz) (fun u hu => by
      simp only [i64s, List.mem_map] at hu
      obtain ⟨z, _, rfl⟩ := hu
      rfl) (by simp only [maxLen]; omega) (by omega) (Nat.le_refl _) consts
    exact ⟨v', w', h1, hfin _ _ h2⟩

set_option maxHeartbeats 1000000 in
theorem rcopyq_any (q : Qu) (s : Value) (w : World) (hs : Ints w s q.s) (hnil : ∀ c, s = .slice none 0 c → c = 0) (hl : q.s.length ≤ 1000) :
    Calls Try.prog 43 #[q.v s] w fun e w' => ∃ va vc, e = .returned (q.v (.slice va q.s.length vc)) ∧ w'.ownsRow w.heap.size 3 1 (.slice va q.s.length vc) q.s.length (i64s q.s) ∧ Fr (fun _ => False) w w' := by
  obtain ⟨k, n, o, t, l⟩ := q
  have hs0 := hs
  obtain ⟨A, c, rfl, hcl⟩ := hs0
  simp only [Qu.v] at hl hs ⊢
  have hc : A = none → c = 0 := by
    rintro rfl
    by_cases hn : l = []
    · subst hn; exact hnil c rfl
    · obtain ⟨_, _, h, _⟩ := hcl hn
      cases h
  have HCn := Lib.hid hc
  clear hc hcl hnil
  obtain ⟨w1, hw1⟩ : ∃ w1, w1 = (w.alloc (.cells #[.int .i64 k, .int .i64 n, .int .i64 o, .int .i64 t, .slice A l.length c] 24)).alloc (.cells #[.int .i64 0, .int .i64 0, .int .i64 0, .int .i64 0, .slice none 0 0] 24) := ⟨_, rfl⟩
  have hf1 : Fr (fun _ => False) w w1 := by rw [hw1]; exact ((Fr.refl _ w).alloc _).alloc _
  have hb1 : Blk w1 w.heap.size 24 #[.int .i64 k, .int .i64 n, .int .i64 o, .int .i64 t, .slice A l.length c] := by rw [hw1]; exact (Blk.new _ _ _).alloc _
  have hb2 : Blk w1 (w.heap.size + 1) 24 #[.int .i64 0, .int .i64 0, .int .i64 0, .int .i64 0, .slice none 0 0] := by
    have := Blk.new (w.alloc (.cells #[.int .i64 k, .int .i64 n, .int .i64 o, .int .i64 t, .slice A l.length c] 24)) 24 #[.int .i64 0, .int .i64 0, .int .i64 0, .int .i64 0, .slice none 0 0]
    rw [hw1]; simpa using this
  have hz1 : w1.heap.size = w.heap.size + 2 := by rw [hw1]; simp
  have hs1 := hs.up hf1
  have HW := Lib.hid hw1
  have HZ := Lib.hid hz1
  clear hw1 hz1
  have a4 := hb1.cell 4 rfl
  go_enter Try.func43, Try.ntmps43
  go_upto_region 1 with (fail)
  rw [← HW.out]
  clear HW
  go_wp2_with (first
    | (at_builtin
       refine wpList_bi2 rfl .append _ _ _ _ _ rfl rfl rfl _ (ap_ints w1 A c l hs1 HCn.out hl _) ?_
       rintro v' w4 ⟨ho, hf4⟩
       obtain ⟨va, vc, rfl⟩ := own_sl4 ho
       have hb1' := hb1.fr hf4 (fun h => h)
       have hb2' := hb2.fr hf4 (fun h => h)
       clear a4
       have a0 := hb1'.cell 0 rfl
       have a1 := hb1'.cell 1 rfl
       have a2 := hb1'.cell 2 rfl
       have a3 := hb1'.cell 3 rfl
       have a4 := hb1'.cell 4 rfl
       have a5 := hb1'.frozen 4
       have d0 := hb2'.cell 0 rfl
       have d1 := hb2'.cell 1 rfl
       have d2 := hb2'.cell 2 rfl
       have d3 := hb2'.cell 3 rfl
       have d4 := hb2'.cell 4 rfl
       have d5 := hb2'.frozen))
  have hX : Fr (fun k => k = w.heap.size ∨ k = w.heap.size + 1) w4 ((((((w4.setCell ⟨w.heap.size, 4, none⟩ (.slice va l.length vc)).setCell ⟨w.heap.size + 1, 0, none⟩ (.int .i64 k)).setCell ⟨w.heap.size + 1, 1, none⟩ (.int .i64 n)).setCell ⟨w.heap.size + 1, 2, none⟩ (.int .i64 o)).setCell ⟨w.heap.size + 1, 3, none⟩ (.int .i64 t)).setCell ⟨w.heap.size + 1, 4, none⟩ (.slice va l.length vc)) :=
    ((((((Fr.refl _ w4).setCell (p := ⟨w.heap.size, 4, none⟩) (by simp) _).setCell (p := ⟨w.heap.size + 1, 0, none⟩) (by simp) _).setCell (p := ⟨w.heap.size + 1, 1, none⟩) (by simp) _).setCell (p := ⟨w.heap.size + 1, 2, none⟩) (by simp) _).setCell (p := ⟨w.heap.size + 1, 3, none⟩) (by simp) _).setCell (p := ⟨w.heap.size + 1, 4, none⟩) (by simp) _
  have hB' := (((((hb2'.far (p := ⟨w.heap.size, 4, none⟩) (by simp) (.slice va l.length vc)).set_ 0 (.int .i64 k)).set_ 1 (.int .i64 n)).set_ 2 (.int .i64 o)).set_ 3 (.int .i64 t)).set_ 4 (.slice va l.length vc)
  refine bodyPost_ret (results_cell_row rfl _ _ (w.heap.size + 1) 24 #[.int .i64 k, .int .i64 n, .int .i64 o, .int .i64 t, .slice va l.length vc] (0, 0) _ rfl ?_ Try.underlying24 rfl (by kernel_rfl)) rfl ⟨va, vc, rfl, ?_, ?_⟩
  · show Blk _ (w.heap.size + 1) 24 _
    simpa using hB'
  · refine own_fr (own_up (own_base ho) (fun k hk => ?_)) hX (fun k hk => ?_)
    · have := (ho.lt k hk).1; have := HZ.out; omega
    · have := (ho.lt k hk).1; have := HZ.out; omega
  · exact (hf1.tr hf4).trans hX (fun k hk h => by rcases h with h | h; exact h; omega)
end Go.Proofs.Ytliljjlegofmkaa
