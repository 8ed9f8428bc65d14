/- A device that is on and not armed; the law's put. -/
import Derived.Test.YtkoijmoendepgaaLeafL
namespace Go.Proofs.Ytkoijmoendepgaa
open Go.RowKit

/-- On, not armed, no error; its words are C. -/
structure Live (D : Dev) (n x : Nat) (C : Nat → Int) : Prop where
  n : D.n = n
  off : D.off = false
  armed : D.armed = false
  exec : D.exec ≤ x
  err : ∀ j, D.err j = 0
  cur : ∀ i, D.cur i = C i

namespace Live
variable {D : Dev} {n x : Nat} {C : Nat → Int}
theorem counted (h : Live D n x C) : D.countedB true = true := by simp [Dev.countedB, Dev.onB, Dev.cut, h.off, h.armed]
theorem ticked (h : Live D n x C) (j : Nat) : D.countedD j true = D.tick := by simp [Dev.countedD, Dev.onB, Dev.cut, h.off, h.armed]
theorem tick (h : Live D n x C) : Live D.tick n (x + 1) C := ⟨h.n, h.off, h.armed, Nat.succ_le_succ h.exec, h.err, h.cur⟩
theorem store (h : Live D n x C) (j off : Nat) (u : Int) (h8 : off % 8 = 0) (hl : off < 64 * n) : Live (D.store j off u) n (x + 1) (fun i => if i = off / 8 then u else C i) := by
  have hw : D.wordB off = true := by simp [Dev.wordB, h.n, h8, hl]
  have e : D.store j off u = D.tick.put off u := by unfold Dev.store; rw [hw, h.counted, h.ticked]; rfl
  have t := h.tick
  rw [e]
  exact ⟨t.n, t.off, t.armed, t.exec, t.err, fun i => by rw [Dev.put_cur]; split; rfl; exact t.cur i⟩
theorem flush (h : Live D n x C) (j off : Nat) (hl : off < 64 * n) : Live (D.flush j off) n (x + 1) C := by
  have hw : D.inB off = true := by simp [Dev.inB, h.n, hl]
  have e : D.flush j off = D.tick.jot j (off / 64) := by unfold Dev.flush; rw [hw, h.counted, h.ticked]; rfl
  have t := h.tick
  rw [e]
  exact ⟨t.n, t.off, t.armed, t.exec, t.err, t.cur⟩
theorem sync_cur (D : Dev) (j i : Nat) : (D.sync j).cur i = D.cur i := by
  show look ((D.hist (i / 8)).drop _) (look ((D.hist (i / 8)).take _) (D.pers i) i) i = look (D.hist (i / 8)) (D.pers i) i
  rw [← look_append, List.take_append_drop]
theorem fence (h : Live D n x C) (j : Nat) : Live (D.fence j) n (x + 1) C := by
  have e : D.fence j = D.tick.sync j := by unfold Dev.fence; rw [h.counted, h.ticked]; rfl
  have t := h.tick
  rw [e]
  exact ⟨t.n, t.off, t.armed, t.exec, t.err, fun i => by rw [sync_cur]; exact t.cur i⟩
theorem fresh (n : Nat) (f : Nat → Int) : Live (Dev.fresh n f) n 0 f := ⟨rfl, rfl, rfl, Nat.le_refl _, fun _ => rfl, fun _ => rfl⟩
theorem congr (h : Live D n x C) {C' : Nat → Int} {x' : Nat} (hx : x ≤ x') (hC : ∀ i, C i = C' i) : Live D n x' C' := ⟨h.n, h.off, h.armed, Nat.le_trans h.exec hx, h.err, fun i => by rw [h.cur, hC]⟩
end Live

/-- C, with the words l from word o on. -/
def laid (C : Nat → Int) (o : Nat) (l : List Int) (i : Nat) : Int := if o ≤ i ∧ i < o + l.length then l.getD (i - o) 0 else C i

def intsV (l : List Int) : List Value := l.map (.int .u64 ·)
/-- The device is live with the words C, and nothing but its own blocks has changed since w. -/
def LPost (v : DV) (own : Nat → Option Role) (w : World) (n x : Nat) (C : Nat → Int) (w' : World) : Prop := ∃ D', DPost v own w D' w' ∧ Live D' n x C

theorem LPost.start {v : DV} {own : Nat → Option Role} {w : World} {D : Dev} {n x : Nat} {C : Nat → Int} (h : IsDev w v own D) (hl : Live D n x C) : LPost v own w n x C w := ⟨D, DPost.refl h, hl⟩
/-- One step more, from the device as it stands. -/
theorem LPost.next {v : DV} {own own1 : Nat → Option Role} {w w1 w2 : World} {D2 : Dev} {n x2 : Nat} {C2 : Nat → Int}
    (ho : ∀ k, k < w.heap.size → own1 k = own k) (hu : Upd (fun k => own k ≠ none) w w1) (h2 : DPost v own1 w1 D2 w2) (hl : Live D2 n x2 C2) : LPost v own w n x2 C2 w2 :=
  ⟨D2, DPost.trans hu.size ho hu h2, hl⟩

section
variable {w : World} {v : DV} {own : Nat → Option Role} {D : Dev}

theorem laid_step (C : Nat → Int) (o : Nat) (l : List Int) (k : Nat) (hk : k < l.length) (off : Nat) (ho : off = 8 * o) (i : Nat) :
    (if i = (off + 8 * k) / 8 then l.getD k 0 else laid C o (l.take k) i) = laid C o (l.take (k + 1)) i := by
  subst ho
  have e : (8 * o + 8 * k) / 8 = o + k := by omega
  rw [e]
  unfold laid
  have h1 : (l.take k).length = k := by rw [List.length_take]; omega
  have h2 : (l.take (k + 1)).length = k + 1 := by rw [List.length_take]; omega
  rw [h1, h2]
  by_cases e1 : i = o + k
  · subst e1
    rw [if_pos rfl, if_pos (by omega), show o + k - o = k by omega]
    simp [List.getD, hk]
  · rw [if_neg e1]
    by_cases e2 : o ≤ i ∧ i < o + k
    · rw [if_pos e2, if_pos (by omega)]
      simp only [List.getD, List.getElem?_take]
      rw [if_pos (by omega), if_pos (by omega)]
    · rw [if_neg e2, if_neg (by omega)]

theorem put_zero {n x : Nat} {C : Nat → Int} {o : Nat} {l : List Int} (h : LPost v own w n x C w) : LPost v own w n (x + 2 * 0) (laid C o (l.take 0)) w := by
  obtain ⟨D1, p, q⟩ := h
  refine ⟨D1, p, q.congr (Nat.le_refl _) (fun i => ?_)⟩
  unfold laid; rw [if_neg (by simp)]

theorem put_step {own1 own2 : Nat → Option Role} {w1 w2 w3 : World} {D3 : Dev} {n x3 : Nat} {C3 C4 : Nat → Int}
    (o1 : ∀ k, k < w.heap.size → own1 k = own k) (u1 : Upd (fun k => own k ≠ none) w w1) (o2 : ∀ k, k < w1.heap.size → own2 k = own1 k) (u2 : Upd (fun k => own1 k ≠ none) w1 w2)
    (h : DPost v own2 w2 D3 w3) (hl : Live D3 n x3 C3) (hC : ∀ i, C3 i = C4 i) : LPost v own w n x3 C4 w3 :=
  ⟨D3, DPost.trans u1.size o1 u1 (DPost.trans u2.size o2 u2 h), hl.congr (Nat.le_refl _) hC⟩

set_option maxRecDepth 100000 in
set_option maxHeartbeats 2000000 in
theorem put_any {n x : Nat} {C : Nat → Int} (h : IsDev w v own D) (hl : Live D n x C) (off : Nat) (sv : Value) (l : List Int) (h8 : off % 8 = 0) (hb : off + 8 * l.length ≤ 64 * n) (hx : x + 2 * l.length < 4294967295)
    (hs : RdSl w 1 sv l.length (intsV l)) (hown : ∀ k, sv.ownBlock = some k → own k = none) :
    Calls Try.prog 26 #[.pointer (some ⟨v.db, 0, none⟩), .int .u64 off, sv] w fun r w' => r = .returned (.tuple #[]) ∧ LPost v own w n (x + 2 * l.length + 1) (laid C (off / 8) l) w' := by
  have hn := h.wf.le
  rw [hl.n] at hn
  have hll : l.length ≤ 32768 := by omega
  obtain ⟨_, a, c, rfl, hc, ha⟩ := hs
  have hT := thread_any h (j := 0) (by omega)
  rw [show ((0 : Nat) : Int) = 0 from rfl] at hT
  have HT := Lib.hid hT; clear hT
  have HM : Hid (LPost v own w n x C w) := Lib.hid (LPost.start h hl)
  go_enter Try.func26, Try.ntmps26
  go_wp2_with (go_at_call 14; (with_reducible refine HT.out.mono ?_); rintro e w' ⟨rfl, rfl⟩)
  have HA := Lib.hid ha; have HOWN := Lib.hid hown; clear ha hown HT
  go_loopw [13] (fun i wr => ∃ k : Nat, k ≤ l.length ∧ i = .int .i64 k ∧ LPost v own w n (x + 2 * k) (laid C (off / 8) (l.take k)) wr) (fun i _ => l.length - (intOf i).toNat)
  case atStart => exact ⟨0, Nat.zero_le _, rfl, put_zero HM.out⟩
  case round =>
    obtain ⟨k, hk, rfl, D1, ⟨own1, d1, o1, u1⟩, l1⟩ := hrel
    have U := Lib.hid (And.intro o1 u1); clear o1 u1
    by_cases hlt : k < l.length
    · obtain ⟨y, hy⟩ : ∃ y, l[k]? = some y := ⟨_, List.getElem?_eq_getElem hlt⟩
      have hyv : (intsV l)[k]? = some (.int .u64 y) := by simp [intsV, hy]
      obtain ⟨sb, so, rfl, hcl⟩ := rd_at HA.out hyv
      have e1 : wr.cell? ⟨sb, so + k, none⟩ = some (.int .u64 y) := by
        have hlt' := World.block_lt_of_cell? w _ (hcl _ _ hyv)
        exact (World.cell?_of_block (U.out.2.block sb hlt' (by simp [HOWN.out sb rfl]))).trans (hcl _ _ hyv)
      have HD := Lib.hid d1; have HL := Lib.hid l1; have HY := Lib.hid hy
      have hex := l1.exec
      have hS := store_any d1 (j := 0) (by omega) (off + 8 * k) y (by omega)
      have hcast : ((off + 8 * k : Nat) : Int) = (off : Int) + 8 * (k : Int) := by omega
      rw [hcast] at hS
      have HS := Lib.hid hS; have HC := Lib.hid hcast; clear hcast
      clear hcl hyv hy d1 l1 hS hex
      go_wp2_with fail
      (with_reducible refine HS.out.mono ?_)
      rintro e w2 ⟨rfl, own2, d2, o2, u2⟩
      have l2 := HL.out.store 0 (off + 8 * k) y (by omega) (by omega)
      have U2 := Lib.hid (And.intro o2 u2); clear o2 u2 HS
      have hex := l2.exec
      have hF := flush_any d2 (j := 0) (by omega) (off + 8 * k) (by omega) (by omega)
      rw [HC.out] at hF
      have HF := Lib.hid hF; clear hF
      have HL2 := Lib.hid l2
      clear d2 l2 hex HD
      go_wp2_with fail
      (with_reducible refine HF.out.mono ?_)
      rintro e w3 ⟨rfl, hp3⟩
      have l3 := HL2.out.flush 0 (off + 8 * k) (by omega)
      have H3 := Lib.hid (And.intro hp3 l3)
      clear hp3 l3 HF
      go_wp2_with fail
      go_roundw
      case rel =>
        refine ⟨k + 1, by omega, by go_num, ?_⟩
        refine put_step U.out.1 U.out.2 U2.out.1 U2.out.2 H3.out.1 H3.out.2 (fun i => ?_)
        have := laid_step C (off / 8) l k hlt off (by omega) i
        rw [← this]; simp only [List.getD, HY.out, Option.getD_some]
      case measure => simp [intOf]; omega
    · have hkl : k = l.length := by omega
      have hex := l1.exec
      have HF := Lib.hid (fence_any d1 (j := 0) (by omega) (by omega))
      have HL := Lib.hid l1
      clear d1 l1 hex
      go_wp2_with fail
      (with_reducible refine HF.out.mono ?_)
      rintro e w3 ⟨rfl, hp3⟩
      have l3 := HL.out.fence 0
      have H3 := Lib.hid (And.intro hp3 l3)
      clear hp3 l3 HF
      go_wp2_with fail
      go_end0
      refine ⟨rfl, ?_⟩
      have := LPost.next U.out.1 U.out.2 H3.out.1 H3.out.2
      rw [hkl, List.take_length] at this
      exact this
end
end Go.Proofs.Ytkoijmoendepgaa
