/- The line's state; sends. -/
import Derived.Test.YtpffmfjphlaiaaaLN
import Derived.Test.YtpffmfjphlaiaaaLL
import Derived.Test.YtpffmfjphlaiaaaLK
import Derived.Test.YtpffmfjphlaiaaaNetH
namespace Go.Proofs.Ytpffmfjphlaiaaa
open Go.RowKit

/-- A packet: an ack (true) or a piece, and its number. -/
def pkOf (bd : Nat → List UInt8) (p : Bool × Nat) : Pk := if p.1 then ⟨1, 0, segB true p.2 []⟩ else ⟨0, 1, segB false p.2 (bd p.2)⟩
/-- All that a line holds, in plain words: the sender's (acked, now, S), the receiver's (life, got, E, n), the net's (L, parted). -/
structure Ls where
  acked : Nat
  now : Nat
  S : List Nat
  life : Nat
  got : Nat
  E : Nat → Bool
  n : Nat
  L : List (Bool × Nat)
  apart : Bool
def apF (b : Bool) : Nat → Nat → Bool := fun i j => if (i = 0 ∧ j = 1) ∨ (i = 1 ∧ j = 0) then b else false
structure OutR (w : World) (lv : Value) (got : Nat) (vs : List Value) (bd : Nat → List UInt8) (col : Nat → Nat) : Prop where
  row : w.ownsRow 0 24 1 lv got vs
  rin : ∀ k, lv.ownBlock = some k → col k = 4
  body : ∀ (i : Nat) (v : Value), vs[i]? = some v → Bd w v (bd (i + 1)) col
theorem OutR.recol {i : Nat} {w w' : World} {lv : Value} {got : Nat} {vs : List Value} {bd : Nat → List UInt8} {col col' : Nat → Nat} (h : OutR w lv got vs bd col) (hr : Recol i w w' col col') (h0 : i ≠ 0) (h4 : i ≠ 4) : OutR w' lv got vs bd col' :=
  ⟨own_fr h.row hr.fr (fun k hk hX => h4 (by rw [← hX]; exact h.rin k hk)), fun k hk => by rw [hr.old k (own_lt h.row hk)]; exact h.rin k hk, fun i v hv => (h.body i v hv).recol hr h0⟩
theorem NetR.recol {i : Nat} {w w' : World} {nb : Nat} {N : Int} {L : List Pk} {A : Nat → Nat → Bool} {col col' : Nat → Nat} (h : NetR w nb N L A (fun k => col k = 3)) (hr : Recol i w w' col col') (h3 : i ≠ 3) : NetR w' nb N L A (fun k => col' k = 3) := by
  have hc := h.cap
  exact (hc.fr hr.fr (fun k hk hX => h3 (by rw [← hX, hk.1]))).up (fun k hk => by rw [hr.old k hk.2]; exact hk.1)

/-- The line. -/
structure LnR (w : World) (a sb rb mb nb : Nat) (st : Ls) (bd : Nat → List UInt8) (win span : Nat) (col : Nat → Nat) : Prop where
  ex : ∃ lv vs, Blk w a 34 #[.pointer (some ⟨sb, 0, none⟩), .pointer (some ⟨rb, 0, none⟩), .pointer (some ⟨nb, 0, none⟩), lv, .bool false] ∧ OutR w lv st.got vs bd col
  own : col a = 5
  snd : SndR w sb st.acked st.now st.S bd win span col
  rcv : RcvR w rb mb st.life st.got st.E bd st.n col
  net : NetR w nb 2 (st.L.map (pkOf bd)) (apF st.apart) (fun k => col k = 3)
  cap : Cap w col
theorem LnR.fr0 {w w' : World} {a sb rb mb nb : Nat} {st : Ls} {bd : Nat → List UInt8} {win span : Nat} {col : Nat → Nat} (h : LnR w a sb rb mb nb st bd win span col) (hf : Fr (fun _ => False) w w') : LnR w' a sb rb mb nb st bd win span col := by
  have hr : Recol 6 w w' col col := Recol.same h.cap hf.none_up
  obtain ⟨lv, vs, hB, hO⟩ := h.ex
  exact ⟨⟨lv, vs, hB.fr hf (fun h => h), hO.recol hr (by omega) (by omega)⟩, h.own, h.snd.recol hr (by omega) (by omega), h.rcv.recol hr (by omega) (by omega), h.net.recol hr (by omega), hr.cap⟩
/-- What a packet more makes of the net's row. -/
def sentL (st : Ls) (p : Bool × Nat) : List (Bool × Nat) := if st.L.length < 256 ∧ st.apart = false then st.L ++ [p] else st.L
theorem sendL_plain (bd : Nat → List UInt8) (st : Ls) (p : Bool × Nat) (hb : (pkOf bd p).b.length ≤ 1200) : sendL 2 (st.L.map (pkOf bd)) (apF st.apart) (pkOf bd p) = (sentL st p).map (pkOf bd) := by
  have hft : (pkOf bd p).f = (if p.1 then 1 else 0) ∧ (pkOf bd p).t = (if p.1 then 0 else 1) := by
    unfold pkOf; cases p.1 <;> exact ⟨rfl, rfl⟩
  have hin : (inN 2 (pkOf bd p).f && inN 2 (pkOf bd p).t) = true := by
    rw [hft.1, hft.2]; cases p.1 <;> decide
  have hap : apF st.apart (pkOf bd p).f.toNat (pkOf bd p).t.toNat = st.apart := by
    rw [hft.1, hft.2]; cases p.1 <;> rfl
  unfold sendL sentL sendE
  rw [if_pos hin, if_neg (show ¬ 1200 < (pkOf bd p).b.length by omega), hap, List.length_map]
  by_cases h : st.L.length < 256 ∧ st.apart = false
  · rw [if_pos h, if_pos ⟨by rw [if_neg (by omega)], h.2⟩, List.map_append]; rfl
  · rw [if_neg h, if_neg]
    rintro ⟨h1, h2⟩
    split at h1
    · omega
    · exact h ⟨by omega, h2⟩
/-- The net turned: the rest of the line is as it was. -/
theorem LnR.net_ {w w' : World} {a sb rb mb nb : Nat} {st : Ls} {bd : Nat → List UInt8} {win span : Nat} {col : Nat → Nat} {L' : List (Bool × Nat)} {ap : Bool} {F : Nat → Prop} (h : LnR w a sb rb mb nb st bd win span col) (hn : NetR w' nb 2 (L'.map (pkOf bd)) (apF ap) F) (hF : ∀ k, F k → col k = 3 ∨ w.heap.size ≤ k) (hf : Fr (fun k => col k = 3) w w') :
    ∃ col', LnR w' a sb rb mb nb { st with L := L', apart := ap } bd win span col' ∧ Recol 3 w w' col col' := by
  have hz := hf.size
  have hc := hn.cap
  have hr : Recol 3 w w' col (fun k => if k < w.heap.size then col k else if k < w'.heap.size then 3 else 0) :=
    ⟨fun k hk => by simp only [if_pos hk], fun k hk => by simp only [if_neg (show ¬ k < w.heap.size by omega)]; by_cases h : k < w'.heap.size <;> simp [h], fun k hk => by simp only [if_neg (show ¬ k < w.heap.size by omega), if_neg (show ¬ k < w'.heap.size by omega)], hf⟩
  obtain ⟨lv, vs, hB, hO⟩ := h.ex
  refine ⟨_, ⟨⟨lv, vs, hB.fr hf (fun e => by rw [h.own] at e; omega), hO.recol hr (by omega) (by omega)⟩, by rw [hr.old a hB.lt]; exact h.own, h.snd.recol hr (by omega) (by omega), h.rcv.recol hr (by omega) (by omega), hc.up (fun k hk => ?_), hr.cap⟩, hr⟩
  by_cases hk' : k < w.heap.size
  · simp only [if_pos hk']
    rcases hF k hk.1 with e | e
    · exact e
    · omega
  · simp only [if_neg hk', if_pos hk.2]

set_option maxRecDepth 100000 in
set_option maxHeartbeats 4000000 in
theorem sends_any (a sb rb mb nb : Nat) (st : Ls) (bd : Nat → List UInt8) (win span : Nat) (col : Nat → Nat) (ack : Bool) (q : Nat) (s : Value) (body : List UInt8) (w : World) (h : LnR w a sb rb mb nb st bd win span col) (hs : Byt w s body) (hbody : body = if ack then [] else bd q) (hq : q < 128) (hok : okSeg ack q body.length) (hb : body.length ≤ 1000) :
    Calls Try.prog 23 #[.pointer (some ⟨a, 0, none⟩), .agg #[.int .u64 3, .int .u64 (q : Int), .bool ack, s], .int .i64 (if ack then 1 else 0)] w fun e w' => e = .returned (.tuple #[]) ∧ ∃ col', LnR w' a sb rb mb nb { st with L := sentL st (ack, q) } bd win span col' ∧ Recol 3 w w' col col' := by
  have hs0 := hs
  obtain ⟨A, c, rfl, -, -⟩ := hs0
  obtain ⟨w1, hw1⟩ : ∃ w1, w1 = w.alloc (.cells #[.int .u64 3, .int .u64 (q : Int), .bool ack, .slice A body.length c] 60) := ⟨_, rfl⟩
  have hf1 : Fr (fun _ => False) w w1 := by rw [hw1]; exact (Fr.refl _ w).alloc _
  have hB1 : Blk w1 w.heap.size 60 #[.int .u64 3, .int .u64 (q : Int), .bool ack, .slice A body.length c] := by rw [hw1]; exact Blk.new _ _ _
  have c0 : w1.cell? ⟨w.heap.size, 0, none⟩ = some (.int .u64 3) := hB1.cell 0 rfl
  have c1 : w1.cell? ⟨w.heap.size, 1, none⟩ = some (.int .u64 (q : Int)) := hB1.cell 1 rfl
  have c2 : w1.cell? ⟨w.heap.size, 2, none⟩ = some (.bool ack) := hB1.cell 2 rfl
  have c3 : w1.cell? ⟨w.heap.size, 3, none⟩ = some (.slice A body.length c) := hB1.cell 3 rfl
  have hby := bytes_any ack q _ body w1 (hs.fr hf1 (fun _ _ h => h)) hq hok hb
  have HW := Lib.hid hw1
  have H1 := Lib.hid (And.intro h (And.intro hf1 (And.intro hby hbody)))
  have hfr : (if ack then (1 : Int) else 0) = (pkOf bd (ack, q)).f := by unfold pkOf; cases ack <;> rfl
  have hto : IntKind.i64.wrap (1 - (pkOf bd (ack, q)).f) = (pkOf bd (ack, q)).t := by unfold pkOf; cases ack <;> rfl
  obtain ⟨pf, hpf⟩ : ∃ pf, pf = (pkOf bd (ack, q)).f := ⟨_, rfl⟩
  obtain ⟨pt, hpt⟩ : ∃ pt, pt = (pkOf bd (ack, q)).t := ⟨_, rfl⟩
  rw [hfr, ← hpf]
  have hpp : 1 - pf = pt := by rw [hpf, hpt]; unfold pkOf; cases ack <;> rfl
  have hp01 : 0 ≤ pf ∧ pf ≤ 1 := by rw [hpf]; unfold pkOf; cases ack <;> exact ⟨by simp, by simp⟩
  have hp0 := hp01.1
  have hp1 := hp01.2
  have HP := Lib.hid (And.intro hpf hpt)
  clear hw1 hf1 hB1 hby hs h hbody hfr hto hpf hpt hp01 hok
  go_enter Try.func23, Try.ntmps23
  go_upto_region 1 with (fail)
  rw [← HW.out]
  go_wp2_with fail
  refine H1.out.2.2.1.mono ?_
  rintro e w2 ⟨g, cap, rfl, hg, ho2, hf2⟩
  obtain ⟨h, hf1, -, hbody⟩ := H1.out
  have hf02 := hf1.tr hf2
  obtain ⟨lv, vs, hB, hO⟩ := h.ex
  have hB2 := hB.fr hf02 (fun h => h)
  have a2 : w2.cell? ⟨a, 2, none⟩ = some (.pointer (some ⟨nb, 0, none⟩)) := hB2.cell 2 rfl
  have hN2 := h.net.fr hf02 (fun _ _ h => h)
  have hpb : (pkOf bd (ack, q)).b = segB ack q body := by rw [hbody]; unfold pkOf; cases ack <;> rfl
  have hsl : (segB ack q body).length = body.length + 12 := by unfold segB; rw [frB_len]; simp [segIn]; omega
  have hsend := send_any nb 2 _ _ _ (pkOf bd (ack, q)) (.slice (some ⟨g, 0, none⟩) (segB ack q body).length cap) w2 hN2 (by rw [hpb]; exact Byt.of_own ho2) (by rw [hpb]; omega)
  rw [← HP.out.1, ← HP.out.2, sendL_plain bd st (ack, q) (by rw [hpb]; omega)] at hsend
  have HS := Lib.hid hsend
  have H2 := Lib.hid (And.intro hf02 (And.intro hpb hsl))
  clear h hf1 hbody hB hO hB2 hN2 hpb hsend hf2 ho2 hf02 c0 c1 c2 c3
  rw [hsl] at HS ⊢
  go_wp2_with fail
  refine HS.out.mono ?_
  rintro e w3 ⟨rfl, hN3, hf3⟩
  have H3 := Lib.hid (And.intro hN3 hf3)
  clear hN3 hf3
  go_wp2_with fail
  refine bodyPost_end (results_none rfl _ _ _) rfl ⟨rfl, ?_⟩
  obtain ⟨hN3, hf3⟩ := H3.out
  obtain ⟨col', h1, h2⟩ := (H1.out.1.fr0 H2.out.1).net_ hN3 (fun _ h => h) hf3
  exact ⟨col', h1, (Recol.same H1.out.1.cap H2.out.1.none_up).trans h2⟩

/-- What was nobody's stays so, and is not turned. -/
structure Tr (w w' : World) (col col' : Nat → Nat) : Prop where
  keep : ∀ k, k < w.heap.size → col k = 0 → col' k = 0
  fr : Fr (fun k => col k ≠ 0) w w'
theorem Recol.tr_ {i : Nat} {w w' : World} {c c' : Nat → Nat} (h : Recol i w w' c c') (hi : i ≠ 0) : Tr w w' c c' := ⟨fun k hk h0 => by rw [h.old k hk]; exact h0, h.fr.mono (fun k _ e => by rw [e]; exact hi)⟩
theorem Tr.trans {w w1 w2 : World} {c c1 c2 : Nat → Nat} (h : Tr w w1 c c1) (k : Tr w1 w2 c1 c2) : Tr w w2 c c2 := by
  have hz := h.fr.size
  exact ⟨fun x hx h0 => k.keep x (by omega) (h.keep x hx h0), h.fr.trans k.fr (fun x hx hh => hh.elim id (fun e h0 => e (h.keep x hx h0)))⟩
theorem Tr.of0 {w w' : World} {c : Nat → Nat} (hf : Fr (fun _ => False) w w') : Tr w w' c c := ⟨fun _ _ h => h, hf.none_up⟩
/-- The tick's packets, as far as there is room. -/
def sentAll (ap : Bool) (L : List (Bool × Nat)) : List Nat → List (Bool × Nat)
  | [] => L
  | n :: ns => sentAll ap (if L.length < 256 ∧ ap = false then L ++ [(false, n)] else L) ns
theorem sentAll_append (ap : Bool) : ∀ (L : List (Bool × Nat)) (a b : List Nat), sentAll ap L (a ++ b) = sentAll ap (sentAll ap L a) b
  | _, [], _ => rfl
  | _, _ :: ns, b => sentAll_append ap _ ns b
def tickSt (st : Ls) (win span : Nat) : Ls :=
  { st with now := st.now + 1, S := tkS (st.now + 1) span (min st.S.length win) st.S, L := sentAll st.apart st.L (tkN (st.now + 1) span st.acked (min st.S.length win) st.S) }

set_option maxRecDepth 100000 in
set_option maxHeartbeats 4000000 in
theorem ltick_any (a sb rb mb nb : Nat) (st : Ls) (bd : Nat → List UInt8) (win span : Nat) (col : Nat → Nat) (w : World) (h : LnR w a sb rb mb nb st bd win span col) (hbl : ∀ k, (bd k).length ≤ 1000) (hnow : st.now < 1000000) (hack : st.acked + st.S.length < 100) :
    Calls Try.prog 8 #[.pointer (some ⟨a, 0, none⟩)] w fun e w' => e = .returned (.tuple #[]) ∧ ∃ col', LnR w' a sb rb mb nb (tickSt st win span) bd win span col' ∧ Tr w w' col col' := by
  obtain ⟨lv, vs, hB, hO⟩ := h.ex
  have a0 : w.cell? ⟨a, 0, none⟩ = some (.pointer (some ⟨sb, 0, none⟩)) := hB.cell 0 rfl
  have htk := tick_any sb st.acked st.now st.S bd win span col w h.snd h.cap hbl hnow (by omega)
  have HT := Lib.hid htk
  have HH := Lib.hid (And.intro h hB)
  clear htk h hB hO
  go_enter Try.func8, Try.ntmps8
  go_wp2_with fail
  refine HT.out.mono ?_
  rintro e w1 ⟨lvo, vso, rfl, hseg, hsnd, hrec⟩
  obtain ⟨m, hm⟩ : ∃ m, m = min st.S.length win := ⟨_, rfl⟩
  rw [← hm] at hseg hsnd
  obtain ⟨Ns, hNs⟩ : ∃ Ns, Ns = tkN (st.now + 1) span st.acked m st.S := ⟨_, rfl⟩
  rw [← hNs] at hseg
  have hNl : Ns.length < 1000 := by
    rw [hNs]
    have := tkN_len (st.now + 1) span st.acked m st.S
    omega
  have hNli : (Ns.length : Int) < 1000 := by omega
  have hL1 : LnR w1 a sb rb mb nb { st with now := st.now + 1, S := tkS (st.now + 1) span m st.S } bd win span col := by
    obtain ⟨lv, vs, hB, hO⟩ := HH.out.1.ex
    exact ⟨⟨lv, vs, hB.fr hrec.fr (fun e => by have := HH.out.1.own; omega), hO.recol hrec (by omega) (by omega)⟩, HH.out.1.own, hsnd, HH.out.1.rcv.recol hrec (by omega) (by omega), HH.out.1.net.recol hrec (by omega), hrec.cap⟩
  obtain ⟨fA, fc, rfl, hfA⟩ : ∃ fA fc, lvo = .slice fA Ns.length fc ∧ (Ns ≠ [] → ∃ g, fA = some ⟨g, 0, none⟩) := by
    rcases own_form hseg.row with ⟨rfl, h1, -⟩ | ⟨g, cap, cur, rfl, -⟩
    · have : Ns = [] := List.eq_nil_of_length_eq_zero h1
      subst this
      exact ⟨none, 0, rfl, fun h => absurd rfl h⟩
    · exact ⟨_, cap, rfl, fun _ => ⟨g, rfl⟩⟩
  have H1 := Lib.hid (And.intro hseg (And.intro hL1 (And.intro hrec (And.intro hm (And.intro hNs hfA)))))
  clear hseg hsnd hrec hm hNs hL1 hfA
  go_wp2_with fail
  go_loopg [3] Ns.length (fun g x3 wr => ∃ (j : Nat) (col' : Nat → Nat), j + g = Ns.length ∧ x3 = .int .i64 j ∧ LnR wr a sb rb mb nb { st with now := st.now + 1, S := tkS (st.now + 1) span m st.S, L := sentAll st.apart st.L (Ns.take j) } bd win span col' ∧ Recol 3 w1 wr col col')
  case atStart => exact ⟨0, col, by omega, rfl, H1.out.2.1, Recol.same H1.out.2.1.cap (Fr.refl _ _)⟩
  case round =>
    obtain ⟨j, col', hj, rfl, hL, hR⟩ := hrel
    obtain ⟨w2, hw2⟩ : ∃ w2, w2 = wr := ⟨_, rfl⟩
    rw [← hw2] at hL hR ⊢
    clear hw2
    have HJ := Lib.hid hj
    by_cases hjl : j < Ns.length
    · obtain ⟨n, hn⟩ : ∃ n, Ns[j]? = some n := ⟨_, List.getElem?_eq_getElem hjl⟩
      obtain ⟨v, hv⟩ : ∃ v, vso[j]? = some v := ⟨_, List.getElem?_eq_getElem (by rw [H1.out.1.len]; exact hjl)⟩
      obtain ⟨g, rfl⟩ := H1.out.2.2.2.2.2 (by rintro rfl; simp at hjl)
      have hz1 := H1.out.2.2.1.fr.size
      have hseg2 := H1.out.1.fr hR.fr (fun k hX hk => by
        rcases Nat.lt_or_ge k w.heap.size with h | h
        · exact h
        · have := HH.out.1.cap k h
          omega)
      obtain ⟨h0, h1, h2, h3⟩ := flat4_get Ns vso j n v hn hv
      have r0 := own_cell hseg2.row (j * 4) h0
      have r1 := own_cell hseg2.row (j * 4 + 1) h1
      have r2 := own_cell hseg2.row (j * 4 + 2) h2
      have r3 := own_cell hseg2.row (j * 4 + 3) h3
      obtain ⟨hvB, -⟩ := hseg2.body j n v hn hv
      obtain ⟨i, hi, hni⟩ : ∃ i, i < m ∧ n = st.acked + i + 1 := by
        have hmem := List.mem_of_getElem? hn
        rw [H1.out.2.2.2.2.1] at hmem
        unfold tkN at hmem
        simp only [List.mem_map, List.mem_filter, List.mem_range] at hmem
        obtain ⟨i, ⟨hi, -⟩, rfl⟩ := hmem
        exact ⟨i, hi, rfl⟩
      have hmS := H1.out.2.2.2.1
      have hsd := sends_any a sb rb mb nb _ bd win span col' false n v (bd n) w2 hL hvB rfl (by omega) ⟨by omega, hbl n⟩ (hbl n)
      have hcs : (if (false : Bool) = true then (1 : Int) else 0) = 0 := rfl
      rw [hcs] at hsd
      have HS := Lib.hid (And.intro hsd (And.intro hn hR))
      obtain ⟨vA, vc, rfl, -, -⟩ := hvB
      have hji : (j : Int) < (Ns.length : Int) := by omega
      clear hsd hn hv hseg2 h0 h1 h2 h3 hL hR hj hi hni hmS hcs
      go_wp2_with fail
      refine HS.out.1.mono ?_
      rintro e w3 ⟨rfl, col3, hL3, hR3⟩
      have H3 := Lib.hid (And.intro hL3 hR3)
      clear hL3 hR3 r0 r1 r2 r3
      go_wp2_with fail
      go_roundg (Ns.length - (j + 1))
      case measure => have := HJ.out; omega
      case rel =>
        refine ⟨j + 1, col3, by have := HJ.out; omega, by go_num, ?_, HS.out.2.2.trans H3.out.2⟩
        have := H3.out.1
        rw [List.take_add_one, HS.out.2.1, Option.toList_some, sentAll_append]
        exact this
    · obtain rfl : j = Ns.length := by omega
      have HL := Lib.hid (And.intro hL hR)
      clear hL hR hj
      go_wp2_with fail
      refine bodyPost_end (results_none rfl _ _ _) rfl ⟨rfl, col', ?_, (H1.out.2.2.1.tr_ (by omega)).trans (HL.out.2.tr_ (by omega))⟩
      have h1 := HL.out.1
      rw [List.take_length, H1.out.2.2.2.2.1, H1.out.2.2.2.1] at h1
      exact h1
end Go.Proofs.Ytpffmfjphlaiaaa
