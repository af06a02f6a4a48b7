/- The line: a move. -/
import Derived.Test.YtpffmfjphlaiaaaLS
import Derived.Test.YtpffmfjphlaiaaaLY
namespace Go.Proofs.Ytpffmfjphlaiaaa
open Go.RowKit

def MovedTo (Len : Nat) (w w' : World) (a sb rb mb nb : Nat) (st : Ls) (bd : Nat → List UInt8) (win span : Nat) (col : Nat → Nat) : Prop :=
  ∃ st' col', LnR w' a sb rb mb nb st' bd win span col' ∧ Good Len st' ∧ st'.now ≤ st.now + 1 ∧ st'.n ≤ st.n + 1 ∧ Tr w w' col col'
theorem MovedTo.pre {Len : Nat} {w w1 w' : World} {a sb rb mb nb : Nat} {st : Ls} {bd : Nat → List UInt8} {win span : Nat} {col : Nat → Nat} (h : MovedTo Len w1 w' a sb rb mb nb st bd win span col) (hf : Fr (fun _ => False) w w1) : MovedTo Len w w' a sb rb mb nb st bd win span col := by
  obtain ⟨st', col', h1, h2, h3, h4, h5⟩ := h
  exact ⟨st', col', h1, h2, h3, h4, (Tr.of0 hf).trans h5⟩

theorem at_some {bd : Nat → List UInt8} {L : List (Bool × Nat)} {k : Nat} (h : k < L.length) : ∃ p, L[k]? = some p ∧ at? (L.map (pkOf bd)) (k : Int) = some (pkOf bd p) := by
  refine ⟨L[k], List.getElem?_eq_getElem h, ?_⟩
  unfold at?
  rw [if_pos (by omega)]
  simp [h]
theorem at_none {bd : Nat → List UInt8} {L : List (Bool × Nat)} {k : Nat} (h : L.length = 0) : at? (L.map (pkOf bd)) (k : Int) = none := by
  have : L = [] := List.eq_nil_of_length_eq_zero h
  subst this
  unfold at?
  rw [if_pos (by omega)]
  simp
theorem pk_len {bd : Nat → List UInt8} (hbl : ∀ k, (bd k).length ≤ 1000) (p : Bool × Nat) : (pkOf bd p).b.length ≤ 1012 := by
  unfold pkOf segB
  have := hbl p.2
  split <;> simp only [] <;> rw [frB_len] <;> simp [segIn] <;> omega
theorem erase_map {bd : Nat → List UInt8} : ∀ (L : List (Bool × Nat)) (k : Nat), (L.map (pkOf bd)).eraseIdx k = (L.eraseIdx k).map (pkOf bd)
  | [], _ => rfl
  | _ :: _, 0 => rfl
  | _ :: L, k + 1 => by simp [List.eraseIdx, erase_map L k]
theorem setP_ap (b on : Bool) : setP 2 0 1 (apF b) on = apF on := by
  have h : pairOk 2 0 1 = true := by decide
  unfold setP
  rw [if_pos h]
  funext i j
  unfold setA apF
  simp only [Int.toNat_zero, Int.toNat_one]
  split <;> rfl
theorem mem_erase {L : List (Bool × Nat)} {k : Nat} {p : Bool × Nat} (h : p ∈ L.eraseIdx k) : p ∈ L := (List.eraseIdx_sublist L k).subset h
theorem len_erase {L : List (Bool × Nat)} {k : Nat} : (L.eraseIdx k).length ≤ L.length := (List.eraseIdx_sublist L k).length_le
/-! ### a packet is taken out -/
section
variable {w : World} {col col' : Nat → Nat} {bd : Nat → List UInt8}
theorem Bd.sw {v : Value} {bs : List UInt8} (h : Bd w v bs col) (hs : ∀ k, col k ≠ 3 → col' k = col k) : Bd w v bs col' :=
  ⟨h.1, fun k hk hn => by have := h.2 k hk hn; rw [hs k (by omega)]; exact this⟩
theorem SndR.sw {sb acked now : Nat} {S : List Nat} {win span : Nat} (h : SndR w sb acked now S bd win span col) (hs : ∀ k, col k ≠ 3 → col' k = col k) : SndR w sb acked now S bd win span col' := by
  obtain ⟨⟨lv, vs, hb, hP⟩, ho, hle, hro⟩ := h
  exact ⟨⟨lv, vs, hb, ⟨hP.len, hP.row, fun k hk => by have := hP.rin k hk; rw [hs k (by omega)]; exact this, fun i v hv => (hP.body i v hv).sw hs⟩⟩, by rw [hs sb (by omega)]; exact ho, hle, hro⟩
theorem RcvR.sw {rb mb life got n : Nat} {E : Nat → Bool} (h : RcvR w rb mb life got E bd n col) (hs : ∀ k, col k ≠ 3 → col' k = col k) : RcvR w rb mb life got E bd n col' := by
  obtain ⟨m, h1, h3⟩ := h.mp
  have ho := h.own
  have hm := h.ownm
  refine ⟨h.blk, ⟨m, h1, fun k => ⟨fun hk => ?_, (h3 k).2⟩⟩, by rw [hs rb (by omega)]; exact ho, by rw [hs mb (by omega)]; exact hm, h.fst⟩
  obtain ⟨v, hv, hb⟩ := (h3 k).1 hk
  exact ⟨v, hv, hb.sw hs⟩
theorem OutR.sw {lv : Value} {got : Nat} {vs : List Value} (h : OutR w lv got vs bd col) (hs : ∀ k, col k ≠ 3 → col' k = col k) : OutR w lv got vs bd col' :=
  ⟨h.row, fun k hk => by have := h.rin k hk; rw [hs k (by omega)]; exact this, fun i v hv => (h.body i v hv).sw hs⟩
end
theorem LnR.take {w w' : World} {a sb rb mb nb : Nat} {st : Ls} {bd : Nat → List UInt8} {win span : Nat} {col : Nat → Nat} {L' : List (Bool × Nat)} {g : Nat} (h : LnR w a sb rb mb nb st bd win span col) (hn : NetR w' nb 2 (L'.map (pkOf bd)) (apF st.apart) (fun x => (col x = 3 ∧ x < w.heap.size) ∧ x ≠ g)) (hg : col g = 3 ∧ g < w.heap.size) (hf : Fr (fun x => col x = 3 ∧ x < w.heap.size) w w') :
    LnR w' a sb rb mb nb { st with L := L' } bd win span (fun x => if x = g then 7 else col x) ∧ Tr w w' col (fun x => if x = g then 7 else col x) := by
  have hf3 : Fr (fun x => col x = 3) w w' := hf.mono (fun _ _ h => h.1)
  have hr : Recol 3 w w' col col := Recol.same h.cap hf3
  have hz := hf.size
  have hs : ∀ k, col k ≠ 3 → (fun x => if x = g then 7 else col x) k = col k := fun k hk => by
    have : k ≠ g := fun e => hk (by rw [e]; exact hg.1)
    simp [this]
  obtain ⟨lv, vs, hB, hO⟩ := h.ex
  have ho := h.own
  refine ⟨⟨⟨lv, vs, hB.fr hf3 (fun e => by omega), (hO.recol hr (by omega) (by omega)).sw hs⟩, (hs a (by omega)).trans ho, (h.snd.recol hr (by omega) (by omega)).sw hs, (h.rcv.recol hr (by omega) (by omega)).sw hs, hn.up (fun k hk => by simp [hk.2, hk.1.1]), fun k hk => ?_⟩, ⟨fun k _ h0 => (hs k (by omega)).trans h0, hf3.mono (fun k _ e => by omega)⟩⟩
  have : k ≠ g := by omega
  simp only [if_neg this]
  exact h.cap k (by omega)
theorem comes_good (Len : Nat) (a sb rb mb nb : Nat) (st : Ls) (bd : Nat → List UInt8) (win span : Nat) (col : Nat → Nat) (p : Bool × Nat) (g c : Nat) (w : World) (h : LnR w a sb rb mb nb st bd win span col) (hg : Good Len st) (hbl : ∀ k, (bd k).length ≤ 1000) (hn : st.n < 1000000)
    (ho : w.ownsRow 0 5 1 (.slice (some ⟨g, 0, none⟩) (pkOf bd p).b.length c) (pkOf bd p).b.length (u8s (pkOf bd p).b)) (hp0 : p.1 = false → 1 ≤ p.2 ∧ p.2 ≤ Len) (hp1 : p.1 = true → p.2 ≤ st.got) :
    Calls Try.prog 11 #[.pointer (some ⟨a, 0, none⟩), .agg #[.int .i64 (pkOf bd p).f, .int .i64 (pkOf bd p).t, .slice (some ⟨g, 0, none⟩) (pkOf bd p).b.length c], .bool false] w fun e w' => e = .returned (.tuple #[]) ∧ MovedTo Len w w' a sb rb mb nb st bd win span col := by
  have hc : (pkOf bd p).b.length ≤ c := by
    rcases own_form ho with ⟨h, -⟩ | ⟨g', cap', cur, h, -, -, h1, -⟩
    · cases h
    · injection h with _ _ h; omega
  have hb := Byt.of_own ho
  have hlen := hg.len
  have hgl := hg.gl
  have hag := hg.ag
  have hsum := hg.sum
  obtain ⟨k, q⟩ := p
  cases k with
  | true =>
    have hq := hp1 rfl
    refine (comes_ack a sb rb mb nb st bd win span col g 0 c q w h hb hc (by omega) (by omega) (by omega)).mono ?_
    rintro e w' ⟨rfl, col', h1, h2⟩
    exact ⟨rfl, _, col', h1, hg.acked hq, Nat.le_succ _, Nat.le_succ _, h2⟩
  | false =>
    obtain ⟨hq1, hq2⟩ := hp0 rfl
    refine (comes_data a sb rb mb nb st bd win span col g 0 c q w h hb hc (by omega) (by omega) (hbl q) hg.life (by omega) hn (fun k hk => (hg.ear k hk).2.1)).mono ?_
    rintro e w' ⟨rfl, r, col', hall, hfin, h1, h2⟩
    exact ⟨rfl, _, col', h1, hg.data hq2 hall hfin, Nat.le_succ _, Nat.le_refl _, h2⟩
theorem MovedTo.after {Len : Nat} {w w1 w' : World} {a sb rb mb nb : Nat} {st : Ls} {L' : List (Bool × Nat)} {bd : Nat → List UInt8} {win span : Nat} {col col1 : Nat → Nat} (h : MovedTo Len w1 w' a sb rb mb nb { st with L := L' } bd win span col1) (ht : Tr w w1 col col1) : MovedTo Len w w' a sb rb mb nb st bd win span col := by
  obtain ⟨st', col', h1, h2, h3, h4, h5⟩ := h
  exact ⟨st', col', h1, h2, h3, h4, ht.trans h5⟩

theorem u8s_set : ∀ (l : List UInt8) (i : Nat) (d : UInt8), (u8s l).set i (.int .u8 (d.toNat : Int)) = u8s (l.set i d)
  | [], _, _ => rfl
  | _ :: _, 0, _ => rfl
  | b :: l, i + 1, d => by
    have := u8s_set l i d
    simp only [u8s, List.map_cons, List.set_cons_succ] at this ⊢
    rw [this]
theorem own_put {w : World} {g n cap i : Nat} {bs : List UInt8} {d : UInt8} (h : w.ownsRow 0 5 1 (.slice (some ⟨g, 0, none⟩) n cap) n (u8s bs)) (_ : i < n) :
    (w.setCell ⟨g, i, none⟩ (.int .u8 (d.toNat : Int))).ownsRow 0 5 1 (.slice (some ⟨g, 0, none⟩) n cap) n (u8s (bs.set i d)) := by
  rcases own_form h with ⟨h, -⟩ | ⟨g', cap', cur, h, -, hb, h1, h2, h3, h4⟩
  · cases h
  · injection h with h h5 h6
    injection h with h
    injection h with h
    subst h h6
    refine own_mk (hb.set_ i _) h1 h2 (by simpa using h3) ?_
    rw [← u8s_set, ← h4]
    simp [List.take_set]
theorem pk_bytes (bd : Nat → List UInt8) (p : Bool × Nat) : ∃ body : List UInt8, (pkOf bd p).b = segB p.1 p.2 body ∧ (body = [] ∨ body = bd p.2) := by
  unfold pkOf
  cases h : p.1
  · exact ⟨bd p.2, rfl, .inr rfl⟩
  · exact ⟨[], rfl, .inl rfl⟩

set_option maxHeartbeats 1000000 in
theorem moves_six (Len : Nat) (a sb rb mb nb : Nat) (st : Ls) (bd : Nat → List UInt8) (win span : Nat) (col : Nat → Nat) (at_ by_ : Int) (w : World) (h : LnR w a sb rb mb nb st bd win span col) (hg : Good Len st) (hbl : ∀ k, (bd k).length ≤ 1000) (hl0 : ¬ st.L.length = 0) :
    Calls Try.prog 5 #[.pointer (some ⟨a, 0, none⟩), .agg #[.int .i64 6, .int .i64 at_, .int .i64 by_]] w fun e w' => e = .returned (.tuple #[]) ∧ MovedTo Len w w' a sb rb mb nb st bd win span col := by
  obtain ⟨k, hk1, hk2⟩ := at_val at_ st.L.length hl0 hg.room
  obtain ⟨p, hp1, hp2⟩ := at_some (bd := bd) (L := st.L) (k := k) hk1
  obtain ⟨body, hbody, hbd⟩ := pk_bytes bd p
  have hbodyl : body.length ≤ 1000 := by
    rcases hbd with h | h
    · rw [h]; simp
    · rw [h]; exact hbl _
  have hseg : (pkOf bd p).b.length = body.length + 12 := by rw [hbody]; unfold segB; rw [frB_len]; simp [segIn]; omega
  obtain ⟨lv, vs, hB, -⟩ := h.ex
  refine moves6 (fun wx w3 g cap => w3.ownsRow 0 5 1 (.slice (some ⟨g, 0, none⟩) (pkOf bd p).b.length cap) (pkOf bd p).b.length (u8s (pkOf bd p).b) ∧ (col g = 3 ∧ g < wx.heap.size) ∧ NetR w3 nb 2 ((st.L.map (pkOf bd)).eraseIdx ((k : Int).toNat)) (apF st.apart) (fun x => (col x = 3 ∧ x < wx.heap.size) ∧ x ≠ g) ∧ Fr (fun x => col x = 3 ∧ x < wx.heap.size) wx w3)
    (fun w' => MovedTo Len w w' a sb rb mb nb st bd win span col) a nb at_ by_ w st.L.length k (pkOf bd p).b.length (pkOf bd p).f (pkOf bd p).t (pkOf bd p).b hk2 hl0 hg.room rfl (by omega) (by omega) (hB.cell 2 rfl) (Lib.hid fun wx hf => ?_) (Lib.hid fun wx hf => ?_) (Lib.hid ?_) (Lib.hid ?_)
  · have := len_any nb 2 _ _ _ wx (h.fr0 hf).net
    rw [List.length_map] at this
    exact this
  · refine (take_some nb 2 _ _ _ (k : Int) _ hp2 wx (h.fr0 hf).net.cap (fun k hk => hk.2)).mono ?_
    rintro e w3 ⟨g, cap, h1, h2, h3, h4, h5⟩
    exact ⟨g, cap, h1, h2, h3, h4, h5⟩
  · rintro wx w3 g cap ⟨h1, h2, h3, h4⟩
    refine ⟨h4.mono (fun k _ e => ?_), h1⟩
    rcases Nat.lt_or_ge k w.heap.size with h5 | h5
    · exact h5
    · have := h.cap k h5
      omega
  · rintro wx w3 w4 g cap i d0 d hf ⟨h1, h2, h3, h4⟩ hf4 h6 hd0 hne
    rw [Int.toNat_natCast, erase_map] at h3
    obtain ⟨hL3, hT3⟩ := (h.fr0 hf).take h3 h2 h4
    have hL4 := hL3.fr0 hf4
    have ho4 := own_fr h1 hf4 (fun _ _ h => h)
    have hil : i < (pkOf bd p).b.length := (List.getElem?_eq_some_iff.1 hd0).1
    have ho5 := own_put (d := d) ho4 hil
    obtain ⟨w5, hw5⟩ : ∃ w5, w5 = w4.setCell ⟨g, i, none⟩ (.int .u8 (d.toNat : Int)) := ⟨_, rfl⟩
    have hf5 : Fr (fun x => x = g) w4 w5 := by rw [hw5]; exact Fr.set1 _ _ _ _
    rw [← hw5] at ho5 ⊢
    obtain ⟨col1, hcol1⟩ : ∃ col1, col1 = (fun x => if x = g then 7 else col x) := ⟨_, rfl⟩
    rw [← hcol1] at hL4 hT3
    have hg7 : col1 g = 7 := by rw [hcol1]; simp
    have hr5 : Recol 7 w4 w5 col1 col1 := Recol.same hL4.cap (hf5.mono (fun k _ e => by rw [e]; exact hg7))
    have hL5 : LnR w5 a sb rb mb nb { st with L := st.L.eraseIdx k } bd win span col1 := by
      obtain ⟨lv, vs, hB, hO⟩ := hL4.ex
      exact ⟨⟨lv, vs, hB.fr hr5.fr (fun e => by have := hL4.own; omega), hO.recol hr5 (by omega) (by omega)⟩, hL4.own, hL4.snd.recol hr5 (by omega) (by omega), hL4.rcv.recol hr5 (by omega) (by omega), hL4.net.recol hr5 (by omega), hr5.cap⟩
    have hcap : ((pkOf bd p).b.set i d).length ≤ cap := by
      rcases own_form ho5 with ⟨h, -⟩ | ⟨g', cap', cur, h, -, -, h1, -⟩
      · cases h
      · injection h with _ _ h; rw [List.length_set]; omega
    have hby := Byt.of_own ho5
    have hcm := comes_bad a sb rb mb nb _ bd win span col1 (pkOf bd p).f (pkOf bd p).t g 0 cap p.1 p.2 body i d0 d ((pkOf bd p).b.set i d) (by rw [hbody]) h6 (by rw [← hbody]; exact hd0) hne w5 hL5 (by rw [List.length_set]; exact hby) hcap hbodyl
    rw [List.length_set] at hcm
    refine hcm.mono ?_
    rintro e w6 ⟨rfl, hL6, hT6⟩
    refine ⟨rfl, { st with L := st.L.eraseIdx k }, col1, hL6, hg.sub (ap := st.apart) (fun x h => mem_erase h) (Nat.le_trans len_erase hg.room), Nat.le_succ _, Nat.le_succ _, ?_⟩
    exact ((((Tr.of0 hf).trans hT3).trans (Tr.of0 hf4)).trans (hr5.tr_ (by omega))).trans hT6

set_option maxRecDepth 100000 in
set_option maxHeartbeats 8000000 in
theorem moves_any (Len : Nat) (a sb rb mb nb : Nat) (st : Ls) (bd : Nat → List UInt8) (win span : Nat) (col : Nat → Nat) (kind at_ by_ : Int) (w : World) (h : LnR w a sb rb mb nb st bd win span col) (hg : Good Len st) (hbl : ∀ k, (bd k).length ≤ 1000) (hnow : st.now < 100000) (hn : st.n < 100000) :
    Calls Try.prog 5 #[.pointer (some ⟨a, 0, none⟩), .agg #[.int .i64 kind, .int .i64 at_, .int .i64 by_]] w fun e w' => e = .returned (.tuple #[]) ∧ MovedTo Len w w' a sb rb mb nb st bd win span col := by
  by_cases h6 : kind = 6 ∧ ¬ st.L.length = 0
  · obtain ⟨rfl, h6⟩ := h6
    exact moves_six Len a sb rb mb nb st bd win span col at_ by_ w h hg hbl h6
  have H6 := Lib.hid h6
  clear h6
  obtain ⟨w1, hw1⟩ : ∃ w1, w1 = w.alloc (.cells #[.int .i64 kind, .int .i64 at_, .int .i64 by_] 29) := ⟨_, rfl⟩
  have hf1 : Fr (fun _ => False) w w1 := by rw [hw1]; exact (Fr.refl _ w).alloc _
  have hB1 : Blk w1 w.heap.size 29 #[.int .i64 kind, .int .i64 at_, .int .i64 by_] := by rw [hw1]; exact Blk.new _ _ _
  have hL1 := h.fr0 hf1
  have hcw : col w.heap.size = 0 := h.cap _ (Nat.le_refl _)
  obtain ⟨lv, vs, hb, -⟩ := hL1.ex
  have a2 : w1.cell? ⟨a, 2, none⟩ = some (.pointer (some ⟨nb, 0, none⟩)) := hb.cell 2 rfl
  have m1 : w1.cell? ⟨w.heap.size, 1, none⟩ = some (.int .i64 at_) := hB1.cell 1 rfl
  obtain ⟨len, hlen⟩ : ∃ len, len = st.L.length := ⟨_, rfl⟩
  have hlen' : len = (st.L.map (pkOf bd)).length := by rw [hlen, List.length_map]
  have hLen : Hid (∀ wx, Fr (fun _ => False) w1 wx → Calls Try.prog 9 #[.pointer (some ⟨nb, 0, none⟩)] wx fun e w' => e = .returned (.int .i64 (len : Int)) ∧ wx = w') := Lib.hid fun wx hf => by
    rw [hlen']
    exact len_any nb 2 _ _ _ wx (hL1.fr0 hf).net
  have hl256 : len ≤ 256 := by rw [hlen]; exact hg.room
  have hli : (len : Int) ≤ 256 := by omega
  have HW := Lib.hid hw1
  have H1 := Lib.hid (And.intro hL1 (And.intro hg (And.intro hf1 (And.intro hB1 hlen))))
  clear hw1 hf1 hB1 hL1 hb hlen hlen' h hg
  go_enter Try.func5, Try.ntmps5
  go_upto_region 1 with (fail)
  rw [← HW.out]
  go_wp2_with fail
  refine (hLen.out w1 (Fr.refl _ _)).mono ?_
  rintro e w2 ⟨rfl, rfl⟩
  go_upto_if 13 with (fail)
  go_cut [4] (fun x4 wx => ∃ k : Nat, x4 = .int .i64 (k : Int) ∧ k ≤ 256 ∧ (k < len ∨ len = 0) ∧ Fr (fun _ => False) w1 wx)
  case first =>
    by_cases hl0 : len = 0
    · subst hl0
      go_wp2_with fail
      go_meet
      exact ⟨0, rfl, by omega, .inr (by first | rfl | trivial), Fr.refl _ _⟩
    · have hl1 : (0 : Int) < (len : Int) := by omega
      have hwl : IntKind.u64.wrap (len : Int) = (len : Int) := by rw [IntKind.wrap_u64]; omega
      have hne0 : ¬ (len : Int) = 0 := by omega
      go_upto_region 3 with (fail)
      go_region_law (first
        | (go_simp
           go_at_call 9
           refine (hLen.out _ (Fr.refl _ w1).drew).mono ?_
           rintro e wy ⟨rfl, rfl⟩))
      all_goals
        go_wp2_with fail
        go_meet
        obtain ⟨k, hk1, hk2⟩ := at_val at_ len hl0 hl256
        exact ⟨k, congrArg (Value.int .i64) hk2, by omega, .inl hk1, (Fr.refl _ w1).drew⟩
  case rest =>
    obtain ⟨k, rfl, hk, hkl, hf2⟩ := hcut
    obtain ⟨w2, hw2⟩ : ∃ w2, w2 = wc := ⟨_, rfl⟩
    rw [← hw2] at hf2 ⊢
    clear hw2
    have hL2 := H1.out.1.fr0 hf2
    have hB2 := H1.out.2.2.2.1.fr hf2 (fun h => h)
    obtain ⟨lv, vs, hb, -⟩ := hL2.ex
    have e2 : w2.cell? ⟨a, 2, none⟩ = some (.pointer (some ⟨nb, 0, none⟩)) := hb.cell 2 rfl
    have m0 : w2.cell? ⟨w.heap.size, 0, none⟩ = some (.int .i64 kind) := hB2.cell 0 rfl
    have m2 : w2.cell? ⟨w.heap.size, 2, none⟩ = some (.int .i64 by_) := hB2.cell 2 rfl
    have H2 := Lib.hid (And.intro hL2 (And.intro hB2 (H1.out.2.2.1.tr hf2)))
    have HG := Lib.hid (And.intro H1.out.2.1 H1.out.2.2.2.2)
    have hsum := H1.out.2.1.sum
    have hglen := H1.out.2.1.len
    clear hL2 hB2 hb hf2 a2 m1
    by_cases k0 : kind = 0
    · subst k0
      have htk := ltick_any a sb rb mb nb st bd win span col w2 H2.out.1 hbl (by omega) (by omega)
      have HT := Lib.hid htk
      clear htk hsum
      go_wp2_with fail
      refine HT.out.mono ?_
      rintro e w3 ⟨rfl, col3, hL3, hT3⟩
      have H3 := Lib.hid (And.intro hL3 hT3)
      clear hL3 hT3
      go_wp2_with fail
      refine bodyPost_end (results_none rfl _ _ _) rfl ⟨rfl, MovedTo.pre (w1 := w2) ?_ H2.out.2.2⟩
      exact ⟨_, col3, H3.out.1, HG.out.1.tick, Nat.le_refl _, Nat.le_succ _, H3.out.2⟩
    · have k0b : (kind == 0) = false := by simpa using k0
      by_cases k3 : kind = 3
      · subst k3
        by_cases hl0 : len = 0
        · have hdr := drop_none nb 2 _ _ _ (k : Int) (at_none (bd := bd) (by rw [← HG.out.2]; exact hl0)) w2 H2.out.1.net
          have HT := Lib.hid hdr
          clear hdr hsum k0 k0b
          go_wp2_with fail
          refine HT.out.mono ?_
          rintro e w3 ⟨rfl, rfl⟩
          go_wp2_with fail
          refine bodyPost_end (results_none rfl _ _ _) rfl ⟨rfl, MovedTo.pre (w1 := w3) ?_ H2.out.2.2⟩
          exact ⟨st, col, H2.out.1, HG.out.1, by omega, by omega, Tr.of0 (Fr.refl _ _)⟩
        · obtain ⟨p, hp1, hp2⟩ := at_some (bd := bd) (L := st.L) (k := k) (by have := HG.out.2; omega)
          have hdr := drop_some nb 2 _ _ _ (k : Int) _ hp2 w2 H2.out.1.net
          have HT := Lib.hid hdr
          clear hdr hsum k0 k0b hp1 hp2
          go_wp2_with fail
          refine HT.out.mono ?_
          rintro e w3 ⟨rfl, G, hN3, hGF, hf3⟩
          have H3 := Lib.hid (And.intro hN3 (And.intro hGF hf3))
          clear hN3 hGF hf3
          go_wp2_with fail
          refine bodyPost_end (results_none rfl _ _ _) rfl ⟨rfl, MovedTo.pre (w1 := w2) ?_ H2.out.2.2⟩
          have hN3 := H3.out.1
          rw [Int.toNat_natCast, erase_map] at hN3
          obtain ⟨col3, hL3, hR3⟩ := H2.out.1.net_ (ap := st.apart) hN3 (fun k hk => .inl (H3.out.2.1 k hk)) H3.out.2.2
          exact ⟨_, col3, hL3, HG.out.1.sub (fun p h => mem_erase h) (Nat.le_trans len_erase HG.out.1.room), by simp, by simp, hR3.tr_ (by omega)⟩
      · have k3b : (kind == 3) = false := by simpa using k3
        by_cases k4 : kind = 4
        · subst k4
          by_cases hl0 : len = 0
          · have hdr := twice_none nb 2 _ _ _ (k : Int) (at_none (bd := bd) (by rw [← HG.out.2]; exact hl0)) w2 H2.out.1.net
            have HT := Lib.hid hdr
            clear hdr hsum k0 k0b k3 k3b
            go_wp2_with fail
            refine HT.out.mono ?_
            rintro e w3 ⟨rfl, rfl⟩
            go_wp2_with fail
            refine bodyPost_end (results_none rfl _ _ _) rfl ⟨rfl, MovedTo.pre (w1 := w3) ?_ H2.out.2.2⟩
            exact ⟨st, col, H2.out.1, HG.out.1, by omega, by omega, Tr.of0 (Fr.refl _ _)⟩
          · by_cases hfull : 256 ≤ len
            · have hdr := twice_full nb 2 _ _ _ (k : Int) (by rw [List.length_map, ← HG.out.2]; exact hfull) w2 H2.out.1.net
              have HT := Lib.hid hdr
              clear hdr hsum k0 k0b k3 k3b
              go_wp2_with fail
              refine HT.out.mono ?_
              rintro e w3 ⟨rfl, rfl⟩
              go_wp2_with fail
              refine bodyPost_end (results_none rfl _ _ _) rfl ⟨rfl, MovedTo.pre (w1 := w3) ?_ H2.out.2.2⟩
              exact ⟨st, col, H2.out.1, HG.out.1, by omega, by omega, Tr.of0 (Fr.refl _ _)⟩
            · obtain ⟨p, hp1, hp2⟩ := at_some (bd := bd) (L := st.L) (k := k) (by have := HG.out.2; omega)
              have hdr := twice_some nb 2 _ _ _ (k : Int) _ hp2 (by have := pk_len hbl p; omega) (by rw [List.length_map, ← HG.out.2]; omega) w2 H2.out.1.net
              have HT := Lib.hid hdr
              have HP := Lib.hid hp1
              clear hdr hsum k0 k0b k3 k3b hp1 hp2
              go_wp2_with fail
              refine HT.out.mono ?_
              rintro e w3 ⟨rfl, hN3, hf3⟩
              have H3 := Lib.hid (And.intro hN3 hf3)
              clear hN3 hf3
              go_wp2_with fail
              refine bodyPost_end (results_none rfl _ _ _) rfl ⟨rfl, MovedTo.pre (w1 := w2) ?_ H2.out.2.2⟩
              have hN3 := H3.out.1
              rw [show st.L.map (pkOf bd) ++ [pkOf bd p] = (st.L ++ [p]).map (pkOf bd) by simp] at hN3
              obtain ⟨col3, hL3, hR3⟩ := H2.out.1.net_ (ap := st.apart) hN3 (fun k hk => hk) H3.out.2
              exact ⟨_, col3, hL3, HG.out.1.sub (fun x h => by
                rcases List.mem_append.1 h with h | h
                · exact h
                · rw [List.mem_singleton.1 h]; exact List.mem_of_getElem? HP.out) (by simp; have := HG.out.2; omega), by simp, by simp, hR3.tr_ (by omega)⟩
        · have k4b : (kind == 4) = false := by simpa using k4
          by_cases k5 : kind = 5
          · subst k5
            by_cases hl0 : len = 0
            · have hdr := back_none nb 2 _ _ _ (k : Int) (at_none (bd := bd) (by rw [← HG.out.2]; exact hl0)) w2 H2.out.1.net
              have HT := Lib.hid hdr
              clear hdr hsum k0 k0b k3 k3b k4 k4b
              go_wp2_with fail
              refine HT.out.mono ?_
              rintro e w3 ⟨rfl, rfl⟩
              go_wp2_with fail
              refine bodyPost_end (results_none rfl _ _ _) rfl ⟨rfl, MovedTo.pre (w1 := w3) ?_ H2.out.2.2⟩
              exact ⟨st, col, H2.out.1, HG.out.1, by omega, by omega, Tr.of0 (Fr.refl _ _)⟩
            · obtain ⟨p, hp1, hp2⟩ := at_some (bd := bd) (L := st.L) (k := k) (by have := HG.out.2; omega)
              have hdr := back_some nb 2 _ _ _ (k : Int) _ hp2 w2 H2.out.1.net
              have HT := Lib.hid hdr
              have HP := Lib.hid hp1
              clear hdr hsum k0 k0b k3 k3b k4 k4b hp1 hp2
              go_wp2_with fail
              refine HT.out.mono ?_
              rintro e w3 ⟨rfl, hN3, hf3⟩
              have H3 := Lib.hid (And.intro hN3 hf3)
              clear hN3 hf3
              go_wp2_with fail
              refine bodyPost_end (results_none rfl _ _ _) rfl ⟨rfl, MovedTo.pre (w1 := w2) ?_ H2.out.2.2⟩
              have hN3 := H3.out.1
              rw [Int.toNat_natCast, erase_map, show (st.L.eraseIdx k).map (pkOf bd) ++ [pkOf bd p] = (st.L.eraseIdx k ++ [p]).map (pkOf bd) by simp] at hN3
              obtain ⟨col3, hL3, hR3⟩ := H2.out.1.net_ (ap := st.apart) hN3 (fun k hk => hk) H3.out.2
              exact ⟨_, col3, hL3, HG.out.1.sub (fun x h => by
                rcases List.mem_append.1 h with h | h
                · exact mem_erase h
                · rw [List.mem_singleton.1 h]; exact List.mem_of_getElem? HP.out) (by
                  have h1 := (List.getElem?_eq_some_iff.1 HP.out).1
                  have h2 := List.length_eraseIdx_of_lt h1
                  have h3 := HG.out.1.room
                  simp only [List.length_append, List.length_cons, List.length_nil]
                  omega), by simp, by simp, hR3.tr_ (by omega)⟩
          · have k5b : (kind == 5) = false := by simpa using k5
            by_cases k7 : kind = 7
            · subst k7
              have hdr := part_any nb 2 _ _ _ 0 1 w2 H2.out.1.net
              rw [setP_ap] at hdr
              have HT := Lib.hid hdr
              clear hdr hsum k0 k0b k3 k3b k4 k4b k5 k5b
              go_wp2_with fail
              refine HT.out.mono ?_
              rintro e w3 ⟨rfl, hN3, hf3⟩
              have H3 := Lib.hid (And.intro hN3 hf3)
              clear hN3 hf3
              go_wp2_with fail
              refine bodyPost_end (results_none rfl _ _ _) rfl ⟨rfl, MovedTo.pre (w1 := w2) ?_ H2.out.2.2⟩
              obtain ⟨col3, hL3, hR3⟩ := H2.out.1.net_ (L' := st.L) (ap := true) H3.out.1 (fun k hk => .inl hk) H3.out.2
              exact ⟨_, col3, hL3, HG.out.1.sub (fun x h => h) HG.out.1.room, by simp, by simp, hR3.tr_ (by omega)⟩
            · have k7b : (kind == 7) = false := by simpa using k7
              by_cases k126 : kind = 1 ∨ kind = 2 ∨ kind = 6
              · by_cases hl0 : len = 0
                · have hdr := take_none nb 2 _ _ _ (k : Int) (at_none (bd := bd) (by rw [← HG.out.2]; exact hl0)) w2 H2.out.1.net
                  have HT := Lib.hid hdr
                  clear hdr hsum
                  rcases k126 with rfl | rfl | rfl
                  all_goals
                    clear k0 k0b k3 k3b k4 k4b k5 k5b k7 k7b
                    go_wp2_with fail
                    refine HT.out.mono ?_
                    rintro e w3 ⟨rfl, hf3⟩
                    have H3 := Lib.hid hf3
                    clear hf3
                    go_wp2_with fail
                    refine bodyPost_end (results_none rfl _ _ _) rfl ⟨rfl, MovedTo.pre (w1 := w2) ?_ H2.out.2.2⟩
                    have hff : Fr (fun _ => False) w2 (w3.alloc (Obj.cells #[.int .i64 0, .int .i64 0, .slice none 0 0] 40)) := H3.out.alloc _
                    exact ⟨st, col, H2.out.1.fr0 hff, HG.out.1, by omega, by omega, Tr.of0 hff⟩
                · obtain ⟨p, hp1, hp2⟩ := at_some (bd := bd) (L := st.L) (k := k) (by have := HG.out.2; omega)
                  have hmem : p ∈ st.L := List.mem_of_getElem? hp1
                  have hdr := take_some nb 2 _ _ _ (k : Int) _ hp2 w2 H2.out.1.net.cap (fun k hk => hk.2)
                  have HT := Lib.hid hdr
                  obtain ⟨pf, hpf⟩ : ∃ pf, pf = (pkOf bd p).f := ⟨_, rfl⟩
                  obtain ⟨pt, hpt⟩ : ∃ pt, pt = (pkOf bd p).t := ⟨_, rfl⟩
                  obtain ⟨pl, hpl⟩ : ∃ pl, pl = (pkOf bd p).b.length := ⟨_, rfl⟩
                  rw [← hpf, ← hpt, ← hpl] at HT
                  have HP := Lib.hid (And.intro hpf (And.intro hpt (And.intro hpl hmem)))
                  clear hdr hsum hp1 hp2 hpf hpt hpl hmem
                  rcases k126 with rfl | rfl | rfl
                  case inr.inr => exact absurd ⟨rfl, by rw [← HG.out.2]; exact hl0⟩ H6.out
                  all_goals
                    clear k0 k0b k3 k3b k4 k4b k5 k5b k7 k7b
                    go_wp2_with fail
                    refine HT.out.mono ?_
                    rintro e w3 ⟨g, cap, rfl, ho3, hg3, hN3, hf3⟩
                    rw [Int.toNat_natCast, erase_map] at hN3
                    obtain ⟨hL3, hT3⟩ := H2.out.1.take hN3 hg3 hf3
                    obtain ⟨w4, hw4⟩ : ∃ w4, w4 = w3.alloc (Obj.cells #[.int .i64 pf, .int .i64 pt, .slice (some ⟨g, 0, none⟩) pl cap] 40) := ⟨_, rfl⟩
                    have hf4 : Fr (fun _ => False) w3 w4 := by rw [hw4]; exact (Fr.refl _ w3).alloc _
                    have hB4 : Blk w4 w3.heap.size 40 #[.int .i64 pf, .int .i64 pt, .slice (some ⟨g, 0, none⟩) pl cap] := by rw [hw4]; exact Blk.new _ _ _
                    have hm4 := (H2.out.2.1.fr hf3 (fun e => by have h1 := e.1; omega)).fr hf4 (fun h => h)
                    have n0 : w4.cell? ⟨w.heap.size, 0, none⟩ = some (.int .i64 _) := hm4.cell 0 rfl
                    have q0 : w4.cell? ⟨w3.heap.size, 0, none⟩ = some (.int .i64 pf) := hB4.cell 0 rfl
                    have q1 : w4.cell? ⟨w3.heap.size, 1, none⟩ = some (.int .i64 pt) := hB4.cell 1 rfl
                    have q2 : w4.cell? ⟨w3.heap.size, 2, none⟩ = some (.slice (some ⟨g, 0, none⟩) pl cap) := hB4.cell 2 rfl
                    have hcg := comes_good Len a sb rb mb nb _ bd win span _ p g cap w4 (hL3.fr0 hf4) (HG.out.1.sub (ap := st.apart) (fun x h => mem_erase h) (Nat.le_trans len_erase HG.out.1.room)) hbl (by show st.n < 1000000; omega) (by rw [← HP.out.2.2.1]; exact own_fr ho3 hf4 (fun _ _ h => h)) (fun e => HG.out.1.dat p.2 (by rw [← e]; exact HP.out.2.2.2)) (fun e => HG.out.1.ack p.2 (by rw [← e]; exact HP.out.2.2.2))
                    rw [← HP.out.1, ← HP.out.2.1, ← HP.out.2.2.1] at hcg
                    have HC := Lib.hid (And.intro hcg (hT3.trans (Tr.of0 hf4)))
                    have HW4 := Lib.hid hw4
                    clear hcg hw4 hf4 hB4 hm4 hL3 hT3 ho3 hg3 hN3 hf3 m0 m2
                    go_upto_region 12 with (fail)
                    rw [← HW4.out]
                    go_wp2_with fail
                    refine HC.out.1.mono ?_
                    rintro e w5 ⟨rfl, hM5⟩
                    have H5 := Lib.hid hM5
                    clear hM5
                    go_wp2_with fail
                    refine bodyPost_end (results_none rfl _ _ _) rfl ⟨rfl, MovedTo.pre (w1 := w2) (H5.out.after HC.out.2) H2.out.2.2⟩
              · have k1b : (kind == 1) = false := by simp; omega
                have k2b : (kind == 2) = false := by simp; omega
                have k6b : (kind == 6) = false := by simp; omega
                have hdr := join_any nb 2 _ _ _ 0 1 w2 H2.out.1.net
                rw [setP_ap] at hdr
                have HT := Lib.hid hdr
                clear hdr hsum k126
                go_wp2_with fail
                refine HT.out.mono ?_
                rintro e w3 ⟨rfl, hN3, hf3⟩
                have H3 := Lib.hid (And.intro hN3 hf3)
                clear hN3 hf3
                go_wp2_with fail
                refine bodyPost_end (results_none rfl _ _ _) rfl ⟨rfl, MovedTo.pre (w1 := w2) ?_ H2.out.2.2⟩
                obtain ⟨col3, hL3, hR3⟩ := H2.out.1.net_ (L' := st.L) (ap := false) H3.out.1 (fun k hk => .inl hk) H3.out.2
                exact ⟨_, col3, hL3, HG.out.1.sub (fun x h => h) HG.out.1.room, by simp, by simp, hR3.tr_ (by omega)⟩
end Go.Proofs.Ytpffmfjphlaiaaa
