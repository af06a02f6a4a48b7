/- The line: what comes. -/
import Derived.Test.YtpffmfjphlaiaaaLO
namespace Go.Proofs.Ytpffmfjphlaiaaa
open Go.RowKit

theorem LnR.line {w w' : World} {a sb rb mb nb : Nat} {st : Ls} {bd : Nat → List UInt8} {win span : Nat} {col : Nat → Nat} (h : LnR w a sb rb mb nb st bd win span col) (hf : Fr (fun k => k = a) w w') (hs : ∀ lv, Blk w a 34 #[.pointer (some ⟨sb, 0, none⟩), .pointer (some ⟨rb, 0, none⟩), .pointer (some ⟨nb, 0, none⟩), lv, .bool false] → Blk w' a 34 #[.pointer (some ⟨sb, 0, none⟩), .pointer (some ⟨rb, 0, none⟩), .pointer (some ⟨nb, 0, none⟩), lv, .bool false]) :
    LnR w' a sb rb mb nb st bd win span col ∧ Recol 5 w w' col col := by
  have hr : Recol 5 w w' col col := Recol.same h.cap (hf.mono (fun k _ e => by rw [e]; exact h.own))
  obtain ⟨lv, vs, hB, hO⟩ := h.ex
  exact ⟨⟨⟨lv, vs, hs lv hB, hO.recol hr (by omega) (by omega)⟩, h.own, h.snd.recol hr (by omega) (by omega), h.rcv.recol hr (by omega) (by omega), h.net.recol hr (by omega), hr.cap⟩, hr⟩
theorem LnR.bad_ {w : World} {a sb rb mb nb : Nat} {st : Ls} {bd : Nat → List UInt8} {win span : Nat} {col : Nat → Nat} (h : LnR w a sb rb mb nb st bd win span col) :
    LnR (w.setCell ⟨a, 4, none⟩ (.bool false)) a sb rb mb nb st bd win span col ∧ Recol 5 w (w.setCell ⟨a, 4, none⟩ (.bool false)) col col :=
  h.line (Fr.set1 _ _ _ _) (fun _ hB => hB.set_ 4 (.bool false))

set_option maxRecDepth 100000 in
set_option maxHeartbeats 4000000 in
theorem parse_bad2 (b off c : Nat) (a : Bool) (q : Nat) (body : List UInt8) (i : Nat) (d0 d : UInt8) (bs : List UInt8) (hbs : bs = (segB a q body).set i d) (h6 : 6 ≤ i) (hd0 : (segB a q body)[i]? = some d0) (hne : d0 ≠ d) (w : World) (hs : Byt w (.slice (some ⟨b, off, none⟩) bs.length c) bs) (hc : bs.length ≤ c) (hb : body.length ≤ 1000) :
    Calls Try.prog 26 #[.slice (some ⟨b, off, none⟩) bs.length c] w fun e w' => e = .returned (.tuple #[.agg #[.int .u64 0, .int .u64 0, .bool false, .slice none 0 0], .int .i64 21]) ∧ Fr (fun _ => False) w w' := by
  obtain ⟨w1, hw1⟩ : ∃ w1, w1 = w.alloc (.cells #[.int .u64 0, .int .u64 0, .bool false, .slice none 0 0] 60) := ⟨_, rfl⟩
  have hf1 : Fr (fun _ => False) w w1 := by rw [hw1]; exact (Fr.refl _ w).alloc _
  have hB1 : Blk w1 w.heap.size 60 #[.int .u64 0, .int .u64 0, .bool false, .slice none 0 0] := by rw [hw1]; exact Blk.new _ _ _
  have hg := get_bad b off c (kindB a) (segIn q body) i d0 d bs hbs h6 hd0 hne w1 (hs.fr hf1 (fun _ _ h => h)) hc (by simp [segIn]; omega)
  obtain ⟨n, hn⟩ : ∃ n, n = bs.length := ⟨_, rfl⟩
  rw [← hn] at hg ⊢
  have HW := Lib.hid hw1
  have HG := Lib.hid hg
  have H1 := Lib.hid (And.intro hf1 hB1)
  clear hw1 hf1 hB1 hg hbs hd0 hs hc hn
  go_enter Try.func26, Try.ntmps26
  go_upto_region 1 with (fail)
  rw [← HW.out]
  go_wp2_with fail
  refine HG.out.mono ?_
  rintro e w2 ⟨rfl, hf2⟩
  have b2 := H1.out.2.fr hf2 (fun h => h)
  obtain ⟨w3, hw3⟩ : ∃ w3, w3 = w2.alloc (.cells #[.int .u8 0, .slice none 0 0] 86) := ⟨_, rfl⟩
  have hf3 : Fr (fun _ => False) w2 w3 := by rw [hw3]; exact (Fr.refl _ w2).alloc _
  have b3 := b2.fr hf3 (fun h => h)
  have c0 : w3.cell? ⟨w.heap.size, 0, none⟩ = some (.int .u64 0) := b3.cell 0 rfl
  have c1 : w3.cell? ⟨w.heap.size, 1, none⟩ = some (.int .u64 0) := b3.cell 1 rfl
  have c2 : w3.cell? ⟨w.heap.size, 2, none⟩ = some (.bool false) := b3.cell 2 rfl
  have c3 : w3.cell? ⟨w.heap.size, 3, none⟩ = some (.slice none 0 0) := b3.cell 3 rfl
  have cf := b3.frozen
  have HW3 := Lib.hid hw3
  have H3 := Lib.hid (And.intro b3 (And.intro hf2 hf3))
  clear hw3 b2 b3 hf2 hf3
  go_upto_region 2 with (fail)
  rw [← HW3.out]
  go_wp2_with fail
  have hW := (((H3.out.1.set_ 0 (.int .u64 0)).set_ 1 (.int .u64 0)).set_ 2 (.bool false)).set_ 3 (.slice none 0 0)
  have hX : Fr (fun x => x = w.heap.size) w3 ((((w3.setCell ⟨w.heap.size, 0, none⟩ (.int .u64 0)).setCell ⟨w.heap.size, 1, none⟩ (.int .u64 0)).setCell ⟨w.heap.size, 2, none⟩ (.bool false)).setCell ⟨w.heap.size, 3, none⟩ (.slice none 0 0)) :=
    (((Fr.set1 w3 w.heap.size 0 _).setCell (p := ⟨w.heap.size, 1, none⟩) (fun _ => rfl) _).setCell (p := ⟨w.heap.size, 2, none⟩) (fun _ => rfl) _).setCell (p := ⟨w.heap.size, 3, none⟩) (fun _ => rfl) _
  refine bodyPost_ret (results_row_tmp rfl _ _ w.heap.size 60 #[.int .u64 0, .int .u64 0, .bool false, .slice none 0 0] (0, 0) _ rfl ?_ Try.underlying60 rfl (by kernel_rfl)) rfl ⟨rfl, ?_⟩
  · exact hW
  · exact ((H1.out.1.tr H3.out.2.1).tr H3.out.2.2).trans hX (fun j hj h => h.elim id (fun e => by omega))

set_option maxRecDepth 100000 in
set_option maxHeartbeats 4000000 in
theorem comes_bad (a sb rb mb nb : Nat) (st : Ls) (bd : Nat → List UInt8) (win span : Nat) (col : Nat → Nat) (f t : Int) (b off c : Nat) (ack : Bool) (q : Nat) (body : List UInt8) (i : Nat) (d0 d : UInt8) (bs : List UInt8) (hbs : bs = (segB ack q body).set i d) (h6 : 6 ≤ i) (hd0 : (segB ack q body)[i]? = some d0) (hne : d0 ≠ d) (w : World) (h : LnR w a sb rb mb nb st bd win span col) (hs : Byt w (.slice (some ⟨b, off, none⟩) bs.length c) bs) (hc : bs.length ≤ c) (hb : body.length ≤ 1000) :
    Calls Try.prog 11 #[.pointer (some ⟨a, 0, none⟩), .agg #[.int .i64 f, .int .i64 t, .slice (some ⟨b, off, none⟩) bs.length c], .bool true] w fun e w' => e = .returned (.tuple #[]) ∧ LnR w' a sb rb mb nb st bd win span col ∧ Tr w w' col col := by
  obtain ⟨w1, hw1⟩ : ∃ w1, w1 = w.alloc (.cells #[.int .i64 f, .int .i64 t, .slice (some ⟨b, off, none⟩) bs.length c] 40) := ⟨_, rfl⟩
  have hf1 : Fr (fun _ => False) w w1 := by rw [hw1]; exact (Fr.refl _ w).alloc _
  have hB1 : Blk w1 w.heap.size 40 #[.int .i64 f, .int .i64 t, .slice (some ⟨b, off, none⟩) bs.length c] := by rw [hw1]; exact Blk.new _ _ _
  have c2 : w1.cell? ⟨w.heap.size, 2, none⟩ = some (.slice (some ⟨b, off, none⟩) bs.length c) := hB1.cell 2 rfl
  have hp := parse_bad2 b off c ack q body i d0 d bs hbs h6 hd0 hne w1 (hs.fr hf1 (fun _ _ h => h)) hc hb
  obtain ⟨n, hn⟩ : ∃ n, n = bs.length := ⟨_, rfl⟩
  rw [← hn] at hp hw1 c2 ⊢
  have HW := Lib.hid hw1
  have HP := Lib.hid hp
  have HH := Lib.hid (And.intro h hf1)
  clear hw1 hf1 hB1 hp hs h hbs hd0 hn hc
  go_enter Try.func11, Try.ntmps11
  go_upto_region 1 with (fail)
  rw [← HW.out]
  go_wp2_with fail
  refine HP.out.mono ?_
  rintro e w2 ⟨rfl, hf2⟩
  have hL2 := (HH.out.1.fr0 HH.out.2).fr0 hf2
  have H2 := Lib.hid (And.intro hf2 hL2)
  have hLw := hL2.fr0 ((Fr.refl (fun _ => False) w2).alloc (Obj.cells #[.int .u64 0, .int .u64 0, .bool false, .slice none 0 0] 60))
  obtain ⟨lv, vs, hB, -⟩ := hLw.ex
  have a4 : (w2.alloc (Obj.cells #[.int .u64 0, .int .u64 0, .bool false, .slice none 0 0] 60)).cell? ⟨a, 4, none⟩ = some (.bool false) := hB.cell 4 rfl
  have af := hB.frozen
  have H3 := Lib.hid hLw
  clear hf2 hL2 hLw hB
  go_wp2_with fail
  obtain ⟨h4, h5⟩ := H3.out.bad_
  exact bodyPost_ret (results_none rfl _ _ _) rfl ⟨rfl, h4, ((Tr.of0 HH.out.2).trans ((Tr.of0 H2.out.1).trans (Tr.of0 ((Fr.refl (fun _ => False) w2).alloc _)))).trans (h5.tr_ (by omega))⟩

/-- What an ack makes of the state. -/
def ackSt (st : Ls) (q : Nat) : Ls := { st with acked := max st.acked q, S := st.S.drop (q - st.acked) }

set_option maxRecDepth 100000 in
set_option maxHeartbeats 4000000 in
theorem comes_ack (a sb rb mb nb : Nat) (st : Ls) (bd : Nat → List UInt8) (win span : Nat) (col : Nat → Nat) (b off c : Nat) (q : Nat) (w : World) (h : LnR w a sb rb mb nb st bd win span col) (hs : Byt w (.slice (some ⟨b, off, none⟩) (segB true q []).length c) (segB true q [])) (hc : (segB true q []).length ≤ c) (hq : q < 128) (hqa : q ≤ st.acked + st.S.length) (hack : st.acked < 1000000) :
    Calls Try.prog 11 #[.pointer (some ⟨a, 0, none⟩), .agg #[.int .i64 1, .int .i64 0, .slice (some ⟨b, off, none⟩) (segB true q []).length c], .bool false] w fun e w' => e = .returned (.tuple #[]) ∧ ∃ col', LnR w' a sb rb mb nb (ackSt st q) bd win span col' ∧ Tr w w' col col' := by
  obtain ⟨w1, hw1⟩ : ∃ w1, w1 = w.alloc (.cells #[.int .i64 1, .int .i64 0, .slice (some ⟨b, off, none⟩) (segB true q []).length c] 40) := ⟨_, rfl⟩
  have hf1 : Fr (fun _ => False) w w1 := by rw [hw1]; exact (Fr.refl _ w).alloc _
  have hB1 : Blk w1 w.heap.size 40 #[.int .i64 1, .int .i64 0, .slice (some ⟨b, off, none⟩) (segB true q []).length c] := by rw [hw1]; exact Blk.new _ _ _
  have c2 : w1.cell? ⟨w.heap.size, 2, none⟩ = some (.slice (some ⟨b, off, none⟩) (segB true q []).length c) := hB1.cell 2 rfl
  have hp := parse_ok b off c true q [] w1 (hs.fr hf1 (fun _ _ h => h)) hc hq rfl (by simp)
  obtain ⟨n, hn⟩ : ∃ n, n = (segB true q []).length := ⟨_, rfl⟩
  rw [← hn] at hp hw1 c2 hB1 ⊢
  have HW := Lib.hid hw1
  have HP := Lib.hid hp
  have HH := Lib.hid (And.intro h (And.intro hf1 hB1))
  clear hw1 hf1 hB1 hp hs h hn hc
  go_enter Try.func11, Try.ntmps11
  go_upto_region 1 with (fail)
  rw [← HW.out]
  go_wp2_with fail
  refine HP.out.mono ?_
  rintro e w2 ⟨g, o, c', rfl, hg, hby2, hf2⟩
  obtain ⟨w3, hw3⟩ : ∃ w3, w3 = w2.alloc (Obj.cells #[.int .u64 3, .int .u64 (q : Int), .bool true, .slice (some ⟨g, o, none⟩) 0 c'] 60) := ⟨_, rfl⟩
  have hf23 : Fr (fun _ => False) w2 w3 := by rw [hw3]; exact (Fr.refl _ w2).alloc _
  have hf13 := hf2.tr hf23
  have hL3 := (HH.out.1.fr0 HH.out.2.1).fr0 hf13
  have hS3 : Blk w3 w2.heap.size 60 #[.int .u64 3, .int .u64 (q : Int), .bool true, .slice (some ⟨g, o, none⟩) 0 c'] := by rw [hw3]; exact Blk.new _ _ _
  have hP3 := HH.out.2.2.fr hf13 (fun h => h)
  obtain ⟨lv, vs, hB, -⟩ := hL3.ex
  have a4 : w3.cell? ⟨a, 4, none⟩ = some (.bool false) := hB.cell 4 rfl
  have af := hB.frozen
  have p1 : w3.cell? ⟨w.heap.size, 1, none⟩ = some (.int .i64 0) := hP3.cell 1 rfl
  have hlta := hB.lt
  have hltw : a < w.heap.size := by obtain ⟨lv, vs, hB, -⟩ := HH.out.1.ex; exact hB.lt
  have HW3 := Lib.hid hw3
  have H3 := Lib.hid (And.intro hL3 (And.intro hS3 (And.intro hP3 (And.intro hf13 hB))))
  clear hL3 hS3 hP3 hB hf2 hf23 hf13 hby2 hw3
  go_upto_region 2 with (fail)
  rw [← HW3.out]
  go_upto_region 6 with (fail)
  obtain ⟨w4, hw4⟩ : ∃ w4, w4 = w3.setCell ⟨a, 4, none⟩ (.bool false) := ⟨_, rfl⟩
  obtain ⟨hL4, hR4⟩ := H3.out.1.bad_
  have hf34 : Fr (fun k => k = a) w3 (w3.setCell ⟨a, 4, none⟩ (.bool false)) := Fr.set1 _ _ _ _
  rw [← hw4] at hL4 hR4 hf34 ⊢
  clear hw4 a4 af p1
  have hz2 : w.heap.size ≤ w2.heap.size := by have := HH.out.2.1.size; have := H3.out.2.2.1.lt; have h3 := H3.out.2.2.2.1.size; have h4 : w3.heap.size = w2.heap.size + 1 := by rw [HW3.out]; simp
                                              omega
  have HK : Hid (∀ wx col', LnR wx a sb rb mb nb st bd win span col' ∨ (∃ st', LnR wx a sb rb mb nb st' bd win span col') → wx.cell? ⟨a, 4, none⟩ = some (.bool false) ∧ wx.cell? ⟨a, 0, none⟩ = some (.pointer (some ⟨sb, 0, none⟩)) ∧ ∀ i, wx.frozen? ⟨a, i, none⟩ = false) := Lib.hid fun wx col' hx => by
    rcases hx with h | ⟨st', h⟩
    · obtain ⟨lv, vs, hB, -⟩ := h.ex; exact ⟨hB.cell 4 rfl, hB.cell 0 rfl, hB.frozen⟩
    · obtain ⟨lv, vs, hB, -⟩ := h.ex; exact ⟨hB.cell 4 rfl, hB.cell 0 rfl, hB.frozen⟩
  obtain ⟨a4, a0, af⟩ := HK.out w4 col (.inl hL4)
  have hS4 := H3.out.2.1.fr hf34 (by omega)
  have s0 : w4.cell? ⟨w2.heap.size, 0, none⟩ = some (.int .u64 3) := hS4.cell 0 rfl
  have s1 : w4.cell? ⟨w2.heap.size, 1, none⟩ = some (.int .u64 (q : Int)) := hS4.cell 1 rfl
  have s2 : w4.cell? ⟨w2.heap.size, 2, none⟩ = some (.bool true) := hS4.cell 2 rfl
  have s3 : w4.cell? ⟨w2.heap.size, 3, none⟩ = some (.slice (some ⟨g, o, none⟩) 0 c') := hS4.cell 3 rfl
  have hd : Fr (fun _ => False) w4 w4.drew := (Fr.refl _ w4).drew
  have hsh := shear_any sb st.acked st.now st.S bd win span col q (some ⟨g, o, none⟩) c' w4.drew (hL4.fr0 hd).snd (hL4.fr0 hd).cap hqa hack
  have HS := Lib.hid hsh
  have H4 := Lib.hid (And.intro hL4 (And.intro hR4 hS4))
  clear hsh hL4 hR4 hS4 hf34
  go_region_law (first
    | (go_simp
       go_at_call 27
       refine HS.out.mono ?_
       rintro e w5 ⟨rfl, col5, hsn5, hrec5⟩
       have hL5 : LnR w5 a sb rb mb nb (ackSt st q) bd win span col5 := by
         have hL4d := H4.out.1.fr0 (Fr.refl (fun _ => False) w4).drew
         obtain ⟨lv, vs, hB, hO⟩ := hL4d.ex
         exact ⟨⟨lv, vs, hB.fr hrec5.fr (fun e => by have := hL4d.own; omega), hO.recol hrec5 (by omega) (by omega)⟩, by rw [hrec5.old a hB.lt]; exact hL4d.own, hsn5, hL4d.rcv.recol hrec5 (by omega) (by omega), hL4d.net.recol hrec5 (by omega), hrec5.cap⟩
       obtain ⟨e4, e0, ef⟩ := HK.out w5 col5 (.inr ⟨_, hL5⟩)
       have H5 := Lib.hid (And.intro hL5 hrec5)
       clear hL5 hrec5 hsn5))
  all_goals
    clear s0 s1 s2 s3 a0 a4 af
    go_wp2_with fail
    obtain ⟨h6, h7⟩ := H5.out.1.bad_
    refine bodyPost_ret (results_none rfl _ _ _) rfl ⟨rfl, col5, h6, ?_⟩
    have t1 : Tr w w3 col col := Tr.of0 (HH.out.2.1.tr H3.out.2.2.2.1)
    have t2 : Tr w4 w5 col col5 := (Tr.of0 (Fr.refl (fun _ => False) w4).drew).trans (H5.out.2.tr_ (by omega))
    exact ((t1.trans (H4.out.2.1.tr_ (by omega))).trans t2).trans (h7.tr_ (by omega))
end Go.Proofs.Ytpffmfjphlaiaaa
