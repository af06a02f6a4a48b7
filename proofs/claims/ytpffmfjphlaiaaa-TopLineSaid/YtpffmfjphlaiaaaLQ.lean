/- The line: a piece comes. -/
import Derived.Test.YtpffmfjphlaiaaaLP
namespace Go.Proofs.Ytpffmfjphlaiaaa
open Go.RowKit

theorem ap_rows (w : World) (base base2 : Nat) (v v2 : Value) (n m : Nat) (xs news : List Value) (ho : w.ownsRow base 24 1 v n xs) (h2 : w.ownsRow base2 24 1 v2 m news) (h1 : ∀ u ∈ news, u.oneCell' = true) (hn : n ≤ 1000) (hm : m ≤ 1000) (hb : base ≤ w.heap.size) (ty : TypeId) (consts : Array Bool) :
    ∃ v' w', (builtin .append #[22, 22] ty consts #[v, v2]).run Try.prog w = .ok (.value v') w' ∧ Appended base 24 1 w v n m xs news v' w' := by
  obtain ⟨i0, hi0, hz0, hz1, hz2⟩ := info_parts slinfo
  rcases own_form h2 with ⟨rfl, rfl, rfl⟩ | ⟨g, cap, cur, rfl, -⟩
  · refine ⟨v, w, ?_, ?_, ⟨rfl, rfl, rfl, Nat.le_refl _, fun _ _ _ => rfl⟩, .inl rfl⟩
    · have := run_append_owned_none (P := Try.prog) w base 22 ty 24 i0 1 Try.underlying22 hi0 v n xs ho
      simp only [builtin, Sem.run_bind, this, Result.andThen_ok, Sem.run_pure]
    · simpa using ho
  · refine ap_cells (P := Try.prog) (ty := ty) Try.underlying22 hi0 hz0 hz1 hz2 rfl (by omega) ho ⟨g, 0, none⟩ m cap news (by rw [h2.1]) (fun j u hu => ?_) h1 (by simp only [maxLen]; omega) (by omega) hb consts
    rw [add_none, Nat.zero_add]
    exact own_cell h2 j hu

/-- The line between the receiver's answer and its keeping. -/
structure LnM (w : World) (a sb rb mb nb : Nat) (st : Ls) (got' : Nat) (E' : Nat → Bool) (bd : Nat → List UInt8) (win span : Nat) (col : Nat → Nat) : Prop where
  ex : ∃ lv vs, Blk w a 34 #[.pointer (some ⟨sb, 0, none⟩), .pointer (some ⟨rb, 0, none⟩), .pointer (some ⟨nb, 0, none⟩), lv, .bool false] ∧ OutR w lv st.got vs bd col
  own : col a = 5
  snd : SndR w sb st.acked st.now st.S bd win span col
  rcv : RcvR w rb mb 3 got' E' bd (st.n + 1) col
  net : NetR w nb 2 (st.L.map (pkOf bd)) (apF st.apart) (fun k => col k = 3)
  cap : Cap w col
theorem SndR.far {w w' : World} {sb acked now : Nat} {S : List Nat} {bd : Nat → List UInt8} {win span : Nat} {col : Nat → Nat} {s : Nat} {t : TypeId} {cs : Array Value} (h : SndR w sb acked now S bd win span col) (hf : Fr (fun k => k = s) w w') (h0 : col s = 0) (hB : Blk w s t cs) (hno : ∀ (i : Nat) (z : Int), cs[i]? ≠ some (.int .u8 z)) : SndR w' sb acked now S bd win span col := by
  obtain ⟨⟨lv, vs, hb, hP⟩, ho, hle, hro⟩ := h
  exact ⟨⟨lv, vs, hb.fr hf (fun e => by rw [e] at ho; omega), ⟨hP.len, own_fr hP.row hf (fun k hk e => by have := hP.rin k hk; rw [e] at this; omega), hP.rin, fun i v hv => (hP.body i v hv).far hf hB hno⟩⟩, ho, hle, hro⟩
theorem LnM.far {w w' : World} {a sb rb mb nb : Nat} {st : Ls} {got' : Nat} {E' : Nat → Bool} {bd : Nat → List UInt8} {win span : Nat} {col : Nat → Nat} {s : Nat} {t : TypeId} {cs : Array Value} (h : LnM w a sb rb mb nb st got' E' bd win span col) (hf : Fr (fun k => k = s) w w') (h0 : col s = 0) (hB : Blk w s t cs) (hno : ∀ (i : Nat) (z : Int), cs[i]? ≠ some (.int .u8 z)) : LnM w' a sb rb mb nb st got' E' bd win span col := by
  obtain ⟨lv, vs, hb, hO⟩ := h.ex
  have hz := hf.size
  exact ⟨⟨lv, vs, hb.fr hf (fun e => by have := h.own; rw [e] at this; omega), ⟨own_fr hO.row hf (fun k hk e => by have := hO.rin k hk; rw [e] at this; omega), hO.rin, fun i v hv => (hO.body i v hv).far hf hB hno⟩⟩, h.own, h.snd.far hf h0 hB hno,
    ⟨h.rcv.blk.fr hf (fun e => by have := h.rcv.own; rw [e] at this; omega), h.rcv.mp.far hf (fun e => by have := h.rcv.ownm; rw [e] at this; omega) hB hno, h.rcv.own, h.rcv.ownm, h.rcv.fst⟩, h.net.fr hf (fun k hk e => by rw [e] at hk; omega), fun k hk => h.cap k (by omega)⟩
theorem LnM.fr0 {w w' : World} {a sb rb mb nb : Nat} {st : Ls} {got' : Nat} {E' : Nat → Bool} {bd : Nat → List UInt8} {win span : Nat} {col : Nat → Nat} (h : LnM w a sb rb mb nb st got' E' bd win span col) (hf : Fr (fun _ => False) w w') : LnM w' a sb rb mb nb st got' E' bd win span col := by
  have hr : Recol 6 w w' col col := Recol.same h.cap hf.none_up
  obtain ⟨lv, vs, hB, hO⟩ := h.ex
  exact ⟨⟨lv, vs, hB.fr hf (fun h => h), hO.recol hr (by omega) (by omega)⟩, h.own, h.snd.recol hr (by omega) (by omega), h.rcv.recol hr (by omega) (by omega), h.net.recol hr (by omega), hr.cap⟩
theorem LnR.mid {w w' : World} {a sb rb mb nb : Nat} {st : Ls} {got' : Nat} {E' : Nat → Bool} {bd : Nat → List UInt8} {win span : Nat} {col : Nat → Nat} (h : LnR w a sb rb mb nb st bd win span col) (hr : Recol 2 w w' col col) (hrcv : RcvR w' rb mb 3 got' E' bd (st.n + 1) col) : LnM w' a sb rb mb nb st got' E' bd win span col := by
  obtain ⟨lv, vs, hB, hO⟩ := h.ex
  exact ⟨⟨lv, vs, hB.fr hr.fr (fun e => by have := h.own; omega), hO.recol hr (by omega) (by omega)⟩, h.own, h.snd.recol hr (by omega) (by omega), hrcv, h.net.recol hr (by omega), hr.cap⟩
def keptSt (st : Ls) (q r : Nat) : Ls := { st with life := 3, got := st.got + r, E := drp (addE st.E st.got q) st.got r, n := st.n + 1 }
/-- What came out is kept. -/
theorem LnM.keep {w w1 w2 : World} {a sb rb mb nb q r : Nat} {st : Ls} {bd : Nat → List UInt8} {win span : Nat} {col : Nat → Nat} {lv lvo v' : Value} {vs vso : List Value} {base : Nat}
    (h : LnM w a sb rb mb nb st (st.got + r) (drp (addE st.E st.got q) st.got r) bd win span col)
    (hB : Blk w a 34 #[.pointer (some ⟨sb, 0, none⟩), .pointer (some ⟨rb, 0, none⟩), .pointer (some ⟨nb, 0, none⟩), lv, .bool false]) (hO : OutR w lv st.got vs bd col)
    (hOut : Outs w base lvo st.got r vso bd col) (hap : Appended 0 24 1 w lv st.got r vs vso v' w1) (hw2 : w2 = w1.setCell ⟨a, 3, none⟩ v') :
    ∃ col', LnR w2 a sb rb mb nb (keptSt st q r) bd win span col' ∧ Tr w w2 col col' := by
  have hX1 : Fr (fun k => lv.ownBlock = some k) w w1 := hap.fr (Fr.refl _ w) (fun k hk _ => hk)
  have hF1 : Fr (fun k => col k = 4) w w1 := hX1.mono (fun k _ e => hO.rin k e)
  have hf12 : Fr (fun k => k = a) w1 w2 := by rw [hw2]; exact Fr.set1 _ _ _ _
  have ha := hB.lt
  have hz1 := hX1.size
  have hz2 := hf12.size
  have hvl : vs.length = st.got := by have := hO.row.1; omega
  have hcap1 : ∀ k, v'.ownBlock = some k → k < w1.heap.size := fun k hk => own_lt hap.1 hk
  have hr4 : Recol 4 w w1 col (fun k => if k < w.heap.size then col k else if v'.ownBlock = some k then 4 else 0) :=
    ⟨fun k hk => by simp only [if_pos hk], fun k hk => by simp only [if_neg (show ¬ k < w.heap.size by omega)]; by_cases e : v'.ownBlock = some k <;> simp [e],
      fun k hk => by simp only [if_neg (show ¬ k < w.heap.size by omega)]; rw [if_neg (fun e => by have := hcap1 k e; omega)], hF1⟩
  obtain ⟨col', hcol'⟩ : ∃ col' : Nat → Nat, col' = (fun k => if k < w.heap.size then col k else if v'.ownBlock = some k then 4 else 0) := ⟨_, rfl⟩
  rw [← hcol'] at hr4
  have hca : col' a = 5 := by rw [hr4.old a ha]; exact h.own
  have hr5 : Recol 5 w1 w2 col' col' := Recol.same hr4.cap (hf12.mono (fun k _ e => by rw [e]; exact hca))
  have hB1 := hB.fr hX1 (fun e => by have := hO.rin a e; have := h.own; omega)
  have hO1 : OutR w1 v' (st.got + r) (vs ++ vso) bd col' := by
    refine ⟨hap.1, fun k hk => ?_, fun i v hv => ?_⟩
    · rw [hcol']
      by_cases hkw : k < w.heap.size
      · simp only [if_pos hkw]
        rcases hap.2.2 with e | e
        · exact hO.rin k (by rw [← e]; exact hk)
        · rw [e] at hk; injection hk with hk; omega
      · simp only [if_neg hkw, if_pos hk]
    · by_cases hi : i < vs.length
      · rw [List.getElem?_append_left hi] at hv
        exact (hO.body i v hv).recol hr4 (by omega)
      · rw [List.getElem?_append_right (by omega)] at hv
        have := (hOut.body _ v hv).recol hr4 (by omega)
        rwa [show st.got + (i - vs.length) + 1 = i + 1 by omega] at this
  exact ⟨col', ⟨⟨v', _, by rw [hw2]; exact hB1.set_ 3 v', hO1.recol hr5 (by omega) (by omega)⟩, hca, (h.snd.recol hr4 (by omega) (by omega)).recol hr5 (by omega) (by omega), (h.rcv.recol hr4 (by omega) (by omega)).recol hr5 (by omega) (by omega), (h.net.recol hr4 (by omega)).recol hr5 (by omega), hr5.cap⟩, (hr4.tr_ (by omega)).trans (hr5.tr_ (by omega))⟩

set_option maxRecDepth 100000 in
set_option maxHeartbeats 4000000 in
theorem comes_data (a sb rb mb nb : Nat) (st : Ls) (bd : Nat → List UInt8) (win span : Nat) (col : Nat → Nat) (b off c : Nat) (q : Nat) (w : World) (h : LnR w a sb rb mb nb st bd win span col) (hs : Byt w (.slice (some ⟨b, off, none⟩) (segB false q (bd q)).length c) (segB false q (bd q))) (hc : (segB false q (bd q)).length ≤ c) (hq : q < 128) (hq0 : 0 < q) (hb : (bd q).length ≤ 1000)
    (hlife : st.life = 0 ∨ st.life = 3) (hg2 : st.got < 100) (hn2 : st.n < 1000000) (hE8 : ∀ k, st.E k = true → k ≤ st.got + 8) :
    Calls Try.prog 11 #[.pointer (some ⟨a, 0, none⟩), .agg #[.int .i64 0, .int .i64 1, .slice (some ⟨b, off, none⟩) (segB false q (bd q)).length c], .bool false] w fun e w' => e = .returned (.tuple #[]) ∧ ∃ r col', (∀ i, i < r → addE st.E st.got q (st.got + i + 1) = true) ∧ addE st.E st.got q (st.got + r + 1) = false ∧
      LnR w' a sb rb mb nb { keptSt st q r with L := sentL st (true, st.got + r) } bd win span col' ∧ Tr w w' col col' := by
  obtain ⟨w1, hw1⟩ : ∃ w1, w1 = w.alloc (.cells #[.int .i64 0, .int .i64 1, .slice (some ⟨b, off, none⟩) (segB false q (bd q)).length c] 40) := ⟨_, rfl⟩
  have hf1 : Fr (fun _ => False) w w1 := by rw [hw1]; exact (Fr.refl _ w).alloc _
  have hB1 : Blk w1 w.heap.size 40 #[.int .i64 0, .int .i64 1, .slice (some ⟨b, off, none⟩) (segB false q (bd q)).length c] := by rw [hw1]; exact Blk.new _ _ _
  have c2 : w1.cell? ⟨w.heap.size, 2, none⟩ = some (.slice (some ⟨b, off, none⟩) (segB false q (bd q)).length c) := hB1.cell 2 rfl
  have hp := parse_ok b off c false q (bd q) w1 (hs.fr hf1 (fun _ _ h => h)) hc hq ⟨hq0, hb⟩ hb
  obtain ⟨n, hn⟩ : ∃ n, n = (segB false q (bd q)).length := ⟨_, rfl⟩
  obtain ⟨body, hbody⟩ : ∃ body, body = bd q := ⟨_, rfl⟩
  rw [← hn] at hp hw1 c2 hB1 ⊢
  rw [← hbody] at hp
  have HW := Lib.hid hw1
  have HP := Lib.hid hp
  have HH := Lib.hid (And.intro h (And.intro hf1 (And.intro hB1 hbody)))
  clear hw1 hf1 hB1 hp hs h hn hc hbody
  go_enter Try.func11, Try.ntmps11
  go_upto_region 1 with (fail)
  rw [← HW.out]
  go_wp2_with fail
  refine HP.out.mono ?_
  rintro e w2 ⟨g, o, c', rfl, hg, hby2, hf2⟩
  obtain ⟨w3, hw3⟩ : ∃ w3, w3 = w2.alloc (Obj.cells #[.int .u64 3, .int .u64 (q : Int), .bool false, .slice (some ⟨g, o, none⟩) body.length c'] 60) := ⟨_, rfl⟩
  have hf23 : Fr (fun _ => False) w2 w3 := by rw [hw3]; exact (Fr.refl _ w2).alloc _
  have hf13 := hf2.tr hf23
  have hL3 := (HH.out.1.fr0 HH.out.2.1).fr0 hf13
  have hS3 : Blk w3 w2.heap.size 60 #[.int .u64 3, .int .u64 (q : Int), .bool false, .slice (some ⟨g, o, none⟩) body.length c'] := by rw [hw3]; exact Blk.new _ _ _
  have hP3 := HH.out.2.2.1.fr hf13 (fun h => h)
  obtain ⟨lv, vs, hB, hO⟩ := hL3.ex
  have a4 : w3.cell? ⟨a, 4, none⟩ = some (.bool false) := hB.cell 4 rfl
  have af := hB.frozen
  have p1 : w3.cell? ⟨w.heap.size, 1, none⟩ = some (.int .i64 1) := hP3.cell 1 rfl
  have hltw : a < w.heap.size := by obtain ⟨lv, vs, hB, -⟩ := HH.out.1.ex; exact hB.lt
  have HW3 := Lib.hid hw3
  have H3 := Lib.hid (And.intro hL3 (And.intro hS3 (And.intro hP3 (And.intro hf13 (And.intro (hby2.fr hf23 (fun _ _ h => h)) hg)))))
  clear hL3 hS3 hP3 hB hO hf2 hf23 hf13 hby2 hw3
  go_upto_region 2 with (fail)
  rw [← HW3.out]
  go_upto_region 7 with (fail)
  obtain ⟨w4, hw4⟩ : ∃ w4, w4 = w3.setCell ⟨a, 4, none⟩ (.bool false) := ⟨_, rfl⟩
  obtain ⟨hL4, hR4⟩ := H3.out.1.bad_
  have hf34 : Fr (fun k => k = a) w3 (w3.setCell ⟨a, 4, none⟩ (.bool false)) := Fr.set1 _ _ _ _
  rw [← hw4] at hL4 hR4 hf34 ⊢
  clear hw4 a4 af p1
  have hz1 := HH.out.2.1.size
  have hz2 : w.heap.size ≤ w2.heap.size := by
    have h3 := H3.out.2.2.2.1.size
    have h4 : w3.heap.size = w2.heap.size + 1 := by rw [HW3.out]; simp
    have h5 := H3.out.2.2.1.lt
    omega
  have hS4 := H3.out.2.1.fr hf34 (by omega)
  have hbd4 : Bd w4 (.slice (some ⟨g, o, none⟩) body.length c') (bd q) col := by
    have hg := H3.out.2.2.2.2.2
    refine ⟨?_, fun k hk _ => ?_⟩
    · rw [← HH.out.2.2.2]
      exact H3.out.2.2.2.2.1.fr hf34 (fun k hk e => by simp only [Value.ownBlock] at hk; injection hk with hk; omega)
    · simp only [Value.ownBlock] at hk; injection hk with hk
      exact HH.out.1.cap k (by omega)
  have HR : Hid (∀ wx, Fr (fun _ => False) w4 wx → _) := Lib.hid fun wx (hf : Fr (fun _ => False) w4 wx) => rhear_any rb mb st.life st.got st.n st.E bd col q _ wx (hL4.fr0 hf).rcv (hL4.fr0 hf).cap hlife (hbd4.fr hf (fun _ h => h.elim)) hq0 (by omega) (by omega) hn2 hE8 hb
  obtain ⟨lv, vs, hB, -⟩ := hL4.ex
  have a1 : w4.cell? ⟨a, 1, none⟩ = some (.pointer (some ⟨rb, 0, none⟩)) := hB.cell 1 rfl
  have s0 : w4.cell? ⟨w2.heap.size, 0, none⟩ = some (.int .u64 3) := hS4.cell 0 rfl
  have s1 : w4.cell? ⟨w2.heap.size, 1, none⟩ = some (.int .u64 (q : Int)) := hS4.cell 1 rfl
  have s2 : w4.cell? ⟨w2.heap.size, 2, none⟩ = some (.bool false) := hS4.cell 2 rfl
  have s3 : w4.cell? ⟨w2.heap.size, 3, none⟩ = some (.slice (some ⟨g, o, none⟩) body.length c') := hS4.cell 3 rfl
  have zo := Obj.cells #[.int .u64 0, .int .u64 0, .bool false, .slice none 0 0] 60
  have b1 := al_cell a1 (Obj.cells #[.int .u64 0, .int .u64 0, .bool false, .slice none 0 0] 60)
  have t0 := al_cell s0 (Obj.cells #[.int .u64 0, .int .u64 0, .bool false, .slice none 0 0] 60)
  have t1 := al_cell s1 (Obj.cells #[.int .u64 0, .int .u64 0, .bool false, .slice none 0 0] 60)
  have t2 := al_cell s2 (Obj.cells #[.int .u64 0, .int .u64 0, .bool false, .slice none 0 0] 60)
  have t3 := al_cell s3 (Obj.cells #[.int .u64 0, .int .u64 0, .bool false, .slice none 0 0] 60)
  have H4 := Lib.hid (And.intro hL4 hR4)
  have hcol0 : col w4.heap.size = 0 := hL4.cap _ (Nat.le_refl _)
  clear hL4 hR4 hS4 hf34 hbd4 hB zo
  go_cut [8, 9, 10] (fun x8 x9 x10 wx => ∃ r vso base ab, x9 = .pointer (some ⟨ab, 0, none⟩) ∧ x10 = .int .i64 0 ∧ (∀ i, i < r → addE st.E st.got q (st.got + i + 1) = true) ∧ addE st.E st.got q (st.got + r + 1) = false ∧ w4.heap.size ≤ ab ∧ col ab = 0 ∧
      Blk wx ab 60 #[.int .u64 3, .int .u64 ((st.got + r : Nat) : Int), .bool true, .slice none 0 0] ∧ LnM wx a sb rb mb nb st (st.got + r) (drp (addE st.E st.got q) st.got r) bd win span col ∧ Outs wx base x8 st.got r vso bd col ∧ w4.heap.size ≤ base ∧ Tr w4 wx col col)
  case first =>
    go_region_law (first
      | (go_simp
         go_at_call 28
         with_reducible show Calls _ _ _ w4.drew _
         refine (HR.out _ (Fr.refl _ w4).drew).mono ?_
         rintro e w5 ⟨r, lvo, vso, rfl, hall, hfin, hrcv, hout, hrec⟩
         have hA := True.intro
         have HM := Lib.hid (And.intro ((H4.out.1.fr0 (Fr.refl _ w4).drew).mid hrec hrcv) (And.intro hrec.fr.size (And.intro ((Tr.of0 (Fr.refl (fun _ => False) w4).drew).trans (hrec.tr_ (by omega))) (And.intro hrec.cap hout))))
         clear hrec hrcv hout)
      | (go_simp
         go_at_call 28
         refine (HR.out _ ((Fr.refl _ w4).alloc _).drew).mono ?_
         rintro e w5 ⟨r, lvo, vso, rfl, hall, hfin, hrcv, hout, hrec⟩
         have hnb := (Blk.new w4 60 #[.int .u64 0, .int .u64 0, .bool false, .slice none 0 0]).drew.fr hrec.fr (by omega)
         have z0 : w5.cell? ⟨w4.heap.size, 0, none⟩ = some (.int .u64 0) := hnb.cell 0 rfl
         have z1 : w5.cell? ⟨w4.heap.size, 1, none⟩ = some (.int .u64 0) := hnb.cell 1 rfl
         have z2 : w5.cell? ⟨w4.heap.size, 2, none⟩ = some (.bool false) := hnb.cell 2 rfl
         have z3 : w5.cell? ⟨w4.heap.size, 3, none⟩ = some (.slice none 0 0) := hnb.cell 3 rfl
         have zf := hnb.frozen
         have HM := Lib.hid (And.intro ((H4.out.1.fr0 ((Fr.refl _ w4).alloc _).drew).mid hrec hrcv) (And.intro hrec.fr.size (And.intro ((Tr.of0 ((Fr.refl (fun _ => False) w4).alloc _).drew).trans (hrec.tr_ (by omega))) (And.intro hrec.cap (And.intro hout hnb)))))
         clear hrec hrcv hout hnb))
    all_goals
      clear a1 s0 s1 s2 s3 b1 t0 t1 t2 t3
      go_wp2_with fail
      go_meet
      first
        | (have _k := hA
           obtain ⟨hM, hz5, hT, hcp, hout⟩ := HM.out
           have hz5' : w4.heap.size ≤ w5.heap.size := hz5
           exact ⟨r, vso, w4.drew.heap.size, w5.heap.size, rfl, rfl, hall, hfin, hz5', hcp _ (Nat.le_refl _), Blk.new _ _ _, hM.fr0 ((Fr.refl _ w5).alloc _), hout.fr ((Fr.refl (fun _ => False) w5).alloc _) (fun _ h => h.elim), Nat.le_refl _, hT.trans (Tr.of0 ((Fr.refl _ w5).alloc _))⟩)
        | (obtain ⟨hM, hz5, hT, hcp, hout, hnb⟩ := HM.out
           have hz5' : w4.heap.size + 1 ≤ w5.heap.size := by simpa using hz5
           have hX := seg_set w5 w4.heap.size (.int .u64 3) (.int .u64 ((st.got + r : Nat) : Int)) (.bool true) (.slice none 0 0)
           exact ⟨r, vso, (w4.alloc (Obj.cells #[.int .u64 0, .int .u64 0, .bool false, .slice none 0 0] 60)).drew.heap.size, w4.heap.size, rfl, rfl, hall, hfin, Nat.le_refl _, hcol0, (((hnb.set_ 0 (.int .u64 3)).set_ 1 (.int .u64 ((st.got + r : Nat) : Int))).set_ 2 (.bool true)).set_ 3 (.slice none 0 0), hM.far hX hcol0 hnb (seg_no _ _ _ _ _ _),
             hout.far hX (fun e => by
               have h1 := (hout.row.lt _ e).1
               have h2 : w4.heap.size + 1 ≤ w4.heap.size := by simpa using h1
               omega) hnb (seg_no _ _ _ _ _ _), by simp, ⟨fun _ _ h => h, hT.fr.trans hX (fun k hk h => h.elim id (fun e => by omega))⟩⟩)
  case rest =>
    obtain ⟨r, vso, base, ab, rfl, rfl, hall, hfin, hab, hcab, hBab, hM, hout, hbase, hT⟩ := hcut
    obtain ⟨w5, hw5⟩ : ∃ w5, w5 = wc := ⟨_, rfl⟩
    rw [← hw5] at hBab hM hout hT ⊢
    clear hw5
    obtain ⟨lv5, vs5, hB5, hO5⟩ := hM.ex
    have hr8 : r ≤ 1000 := by
      by_cases h : r ≤ 1000
      · exact h
      · exfalso
        have h1 := hall (r - 1) (by omega)
        unfold addE at h1
        split at h1
        · rename_i h2; omega
        · have := hE8 _ h1; omega
    have hgr : st.got + r < 128 := by
      by_cases h : r = 0
      · omega
      · have h1 := hall (r - 1) (by omega)
        unfold addE at h1
        split at h1
        · rename_i h2; omega
        · have := hE8 _ h1; omega
    have hap := fun (ty : TypeId) (consts : Array Bool) => ap_rows w5 0 base lv5 u8 st.got r vs5 vso hO5.row hout.row (fun u hu => by
      obtain ⟨i, hi⟩ := List.getElem?_of_mem hu
      obtain ⟨A, c', rfl, -⟩ := (hout.body i u hi).1
      rfl) (by omega) (by omega) (Nat.zero_le _) ty consts
    have HAP := Lib.hid hap
    have e3 : w5.cell? ⟨a, 3, none⟩ = some lv5 := hB5.cell 3 rfl
    have H5 := Lib.hid (And.intro hM (And.intro hout (And.intro hB5 (And.intro hO5 (And.intro hT (And.intro hBab (And.intro hcab (And.intro hall (And.intro hfin hab)))))))))
    clear hap hM hout hB5 hO5 hT hBab hcab hall hfin a1 s0 s1 s2 s3 b1 t0 t1 t2 t3
    go_upto_region 9 with (first
      | (at_builtin
         refine wpList_bi2 rfl .append _ _ _ _ _ rfl rfl rfl _ (HAP.out _) ?_
         rintro v6 w6 hap6
         obtain ⟨A6, c6, rfl⟩ : ∃ A6 c6, v6 = .slice A6 (st.got + r) c6 := by
           rcases own_form hap6.1 with ⟨rfl, h1, -⟩ | ⟨g', cap', cur, rfl, -⟩
           · exact ⟨none, 0, by rw [h1]⟩
           · exact ⟨_, _, rfl⟩
         have hB6 := H5.out.2.2.1.fr (hap6.fr (X := fun k => lv5.ownBlock = some k) (Fr.refl _ w5) (fun k hk _ => hk)) (fun e => by have := H5.out.2.2.2.1.rin a e; have := H5.out.1.own; omega)
         have f3 : w6.cell? ⟨a, 3, none⟩ = some lv5 := hB6.cell 3 rfl
         have ff := hB6.frozen
         have H6 := Lib.hid hap6
         clear hap6 hB6))
    obtain ⟨w7, hw7⟩ : ∃ w7, w7 = w6.setCell ⟨a, 3, none⟩ (.slice A6 (st.got + r) c6) := ⟨_, rfl⟩
    obtain ⟨hM, hout, hB5, hO5, hT, hBab, hcab, hall, hfin, hab⟩ := H5.out
    obtain ⟨col7, hL7, hT7⟩ := hM.keep hB5 hO5 hout H6.out hw7
    have hX6 : Fr (fun k => lv5.ownBlock = some k) w5 w6 := H6.out.fr (Fr.refl _ w5) (fun k hk _ => hk)
    have hB7 : Blk w7 ab 60 #[.int .u64 3, .int .u64 ((st.got + r : Nat) : Int), .bool true, .slice none 0 0] := by
      have h1 := hBab.fr hX6 (fun e => by have := hO5.rin ab e; omega)
      rw [hw7]
      exact h1.fr (Fr.set1 w6 a 3 _) (fun e => by have := hM.own; rw [← e, hcab] at this; omega)
    rw [← hw7]
    clear hw7 hX6 hM hout hB5 hO5 hall hfin e3 f3 ff
    obtain ⟨lv7, vs7, hBl7, -⟩ := hL7.ex
    have g4 : w7.cell? ⟨a, 4, none⟩ = some (.bool false) := hBl7.cell 4 rfl
    have gf := hBl7.frozen
    obtain ⟨hL8, hR8⟩ := hL7.bad_
    have hB8 := hB7.fr (Fr.set1 w7 a 4 (.bool false)) (fun e => by
      have h1 := H5.out.1.own
      rw [← e, hcab] at h1
      omega)
    have H8 := Lib.hid (And.intro hL8 (And.intro hR8 (And.intro hB8 (And.intro hT hT7))))
    clear hBl7 hB7 hL7 hL8 hR8 hB8 hT hT7 hcab hBab
    go_upto_region 10 with (fail)
    obtain ⟨w8, hw8⟩ : ∃ w8, w8 = w7.setCell ⟨a, 4, none⟩ (.bool false) := ⟨_, rfl⟩
    obtain ⟨hL8, hR8, hB8, hT, hT7⟩ := H8.out
    rw [← hw8] at hL8 hR8 hB8 ⊢
    clear hw8 g4 gf
    have r0 : w8.cell? ⟨ab, 0, none⟩ = some (.int .u64 3) := hB8.cell 0 rfl
    have r1 : w8.cell? ⟨ab, 1, none⟩ = some (.int .u64 ((st.got + r : Nat) : Int)) := hB8.cell 1 rfl
    have r2 : w8.cell? ⟨ab, 2, none⟩ = some (.bool true) := hB8.cell 2 rfl
    have r3 : w8.cell? ⟨ab, 3, none⟩ = some (.slice none 0 0) := hB8.cell 3 rfl
    obtain ⟨G, hG⟩ : ∃ G, G = st.got + r := ⟨_, rfl⟩
    rw [← hG] at r1 hgr
    have hsd := sends_any a sb rb mb nb _ bd win span col7 true G (.slice none 0 0) [] w8 hL8 ⟨none, 0, rfl, fun _ => rfl, fun h => absurd rfl h⟩ rfl hgr rfl (by simp)
    have hcs : (if (true : Bool) = true then (1 : Int) else 0) = 1 := rfl
    rw [hcs] at hsd
    have HS := Lib.hid (And.intro hsd (And.intro hR8 (And.intro hT (And.intro hT7 hG))))
    clear hsd hcs hR8 hB8 hT hT7 hL8 hG H8
    go_wp2_with fail
    refine HS.out.1.mono ?_
    rintro e w9 ⟨rfl, col9, hL9, hR9⟩
    have H9 := Lib.hid (And.intro hL9 hR9)
    clear hL9 hR9 r0 r1 r2 r3
    go_wp2_with fail
    obtain ⟨hL9, hR9⟩ := H9.out
    obtain ⟨-, hR8, hT, hT7, hG⟩ := HS.out
    have t1 : Tr w w3 col col := Tr.of0 (HH.out.2.1.tr H3.out.2.2.2.1)
    refine bodyPost_end (results_none rfl _ _ _) rfl ⟨rfl, r, col9, H5.out.2.2.2.2.2.2.2.1, H5.out.2.2.2.2.2.2.2.2.1, ?_, ((((t1.trans (H4.out.2.tr_ (by omega))).trans hT).trans hT7).trans (hR8.tr_ (by omega))).trans (hR9.tr_ (by omega))⟩
    rw [hG] at hL9
    exact hL9
end Go.Proofs.Ytpffmfjphlaiaaa
