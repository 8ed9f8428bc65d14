/- Two devices and blocks besides; a program that has been planned. -/
import Derived.Test.YtbpaamnofkhonaaDoorSbPg
import Derived.Test.YtbpaamnofkhonaaDoorCpyW
import Derived.Test.YtbpaamnofkhonaaDoorSbS
import Derived.Test.YtbpaamnofkhonaaDoorSbO
namespace Go.Proofs.YtbpaamnofkhonaaDoor
open Go.RowKit Go.Maps

theorem err_other (D : Dev) (i j : Nat) (h : i ≠ j) (e : Nat × Nat × Int) : (D.step j e).err i = D.err i := by
  unfold Dev.step Dev.store Dev.flush Dev.fence Dev.countedD Dev.onD Dev.fail
  repeat' split
  all_goals simp [Dev.put, Dev.jot, Dev.sync, Dev.tick, Dev.setErr, h]
theorem errs_other (i j : Nat) (h : i ≠ j) (l : List (Nat × Nat × Int)) : ∀ D : Dev, (D.run j l).err i = D.err i := by
  induction l with
  | nil => intro D; rfl
  | cons e l ih => intro D; exact (ih (D.step j e)).trans (err_other D i j h e)
/-- Two devices that have been made since w0, a slice of a program, and blocks besides. -/
structure Tw (w0 : World) (v : DV) (own : Nat → Option Role) (D : Dev) (v2 : DV) (own2 : Nat → Option Role) (D2 : Dev) (pv : Value) (n : Nat) (xs : List Value) (K : List (Nat × Array Value × TypeId)) (wx : World) : Prop where
  x : DsX w0 v own D K wx
  d2 : IsDev wx v2 own2 D2
  ap : ∀ k, own k ≠ none → own2 k = none
  o2 : ∀ k, own2 k ≠ none → w0.heap.size ≤ k
  out : ∀ e ∈ K, own2 e.1 = none
  rd : RdSl wx 3 pv n xs
  ro : ∀ g, pv.ownBlock = some g → own g = none ∧ own2 g = none ∧ g < wx.heap.size
section
variable {w0 wx wy : World} {v v2 : DV} {own own2 : Nat → Option Role} {D D2 D' : Dev} {pv : Value} {n : Nat} {xs : List Value} {K : List (Nat × Array Value × TypeId)}
theorem Tw.next (h : Tw w0 v own D v2 own2 D2 pv n xs K wx) (hb : Below wx.heap.size wx wy) : Tw w0 v own D v2 own2 D2 pv n xs K wy :=
  ⟨h.x.next hb, h.d2.below hb, h.ap, h.o2, h.out, h.rd.below hb, fun g hg => ⟨(h.ro g hg).1, (h.ro g hg).2.1, Nat.lt_of_lt_of_le (h.ro g hg).2.2 hb.size⟩⟩
theorem Tw.add (h : Tw w0 v own D v2 own2 D2 pv n xs K wx) (c : Array Value) (t : TypeId) : Tw w0 v own D v2 own2 D2 pv n xs ((wx.heap.size, c, t) :: K) (wx.alloc (.cells c t)) :=
  ⟨h.x.add c t, h.d2.alloc _, h.ap, h.o2, fun e he => by
    rcases List.mem_cons.1 he with rfl | he
    · exact own_none h.d2 (Nat.le_refl _)
    · exact h.out e he, h.rd.alloc _, fun g hg => ⟨(h.ro g hg).1, (h.ro g hg).2.1, Nat.lt_of_lt_of_le (h.ro g hg).2.2 (by simp)⟩⟩
theorem Tw.step1 (h : Tw w0 v own D v2 own2 D2 pv n xs K wx) (hp : DPost v own wx D' wy) : ∃ own', Tw w0 v own' D' v2 own2 D2 pv n xs K wy := by
  obtain ⟨own', h1, h2, h3⟩ := hp
  refine ⟨own', ⟨⟨⟨h1, fun k hk => ?_, ?_⟩, fun e he => ?_⟩, h.d2.upd h3 (fun k hk hk2 => hk (h.ap k hk2)), fun k hk => ?_, h.o2, h.out, h.rd.upd h3 (fun k hk => by rw [(h.ro k hk).1]; simp), fun g hg => ?_⟩⟩
  · rcases Nat.lt_or_ge k wx.heap.size with hlt | hge
    · rw [h2 k hlt] at hk; exact h.x.st.ob k hk
    · exact Nat.le_trans h.x.st.bel.size hge
  · exact h.x.st.bel.trans ⟨h3.os, h3.tape, h3.output, h3.size, fun k hk => h3.block k (Nat.lt_of_lt_of_le hk h.x.st.bel.size) (fun hk2 => by have := h.x.st.ob k hk2; omega)⟩
  · obtain ⟨hb, ho⟩ := h.x.blk e he
    exact ⟨hb.upd h3 (by rw [ho]; simp), by rw [h2 _ hb.lt]; exact ho⟩
  · rcases Nat.lt_or_ge k wx.heap.size with hlt | hge
    · rw [h2 k hlt] at hk; exact h.ap k hk
    · exact own_none h.d2 hge
  · obtain ⟨a1, a2, a3⟩ := h.ro g hg
    exact ⟨by rw [h2 g a3]; exact a1, a2, Nat.lt_of_lt_of_le a3 h3.size⟩
theorem Tw.step2 (h : Tw w0 v own D v2 own2 D2 pv n xs K wx) (hp : DPost v2 own2 wx D' wy) : ∃ own', Tw w0 v own D v2 own' D' pv n xs K wy := by
  obtain ⟨own', h1, h2, h3⟩ := hp
  have hq : ∀ k, own k ≠ none → ¬ own2 k ≠ none := fun k hk hk2 => hk2 (h.ap k hk)
  refine ⟨own', ⟨⟨⟨h.x.st.dev.upd h3 hq, h.x.st.ob, ?_⟩, fun e he => ?_⟩, h1, fun k hk => ?_, fun k hk => ?_, fun e he => ?_, h.rd.upd h3 (fun k hk => by rw [(h.ro k hk).2.1]; simp), fun g hg => ?_⟩⟩
  · exact h.x.st.bel.trans ⟨h3.os, h3.tape, h3.output, h3.size, fun k hk => h3.block k (Nat.lt_of_lt_of_le hk h.x.st.bel.size) (fun hk2 => by have := h.o2 k hk2; omega)⟩
  · obtain ⟨hb, ho⟩ := h.x.blk e he
    exact ⟨hb.upd h3 (by rw [h.out e he]; simp), ho⟩
  · rw [h2 k (h.x.st.dev.lt k hk)]; exact h.ap k hk
  · rcases Nat.lt_or_ge k wx.heap.size with hlt | hge
    · rw [h2 k hlt] at hk; exact h.o2 k hk
    · exact Nat.le_trans h.x.st.bel.size hge
  · rw [h2 _ (h.x.blk e he).1.lt]; exact h.out e he
  · obtain ⟨a1, a2, a3⟩ := h.ro g hg
    exact ⟨a1, by rw [h2 g a3]; exact a2, Nat.lt_of_lt_of_le a3 h3.size⟩
/-- A copy of a device is made. -/
theorem Tw.start (h : DsX w0 v own D K wx) (hr : RdSl wx 3 pv n xs) (ho : ∀ g, pv.ownBlock = some g → own g = none ∧ g < wx.heap.size) (h1 : IsDev wy v own D) (h2 : IsDev wy v2 own2 D2) (o2 : ∀ k, own2 k ≠ none → wx.heap.size ≤ k) (hb : Below wx.heap.size wx wy) :
    Tw w0 v own D v2 own2 D2 pv n xs K wy := by
  have hz : ∀ k, k < wx.heap.size → own2 k = none := fun k hk => by
    cases e : own2 k with
    | none => rfl
    | some r => have := o2 k (by rw [e]; simp); omega
  exact ⟨h.next hb, h2, fun k hk => hz k (h.st.dev.lt k hk), fun k hk => Nat.le_trans h.st.bel.size (o2 k hk), fun e he => hz _ (h.blk e he).1.lt, hr.below hb,
    fun g hg => ⟨(ho g hg).1, hz g (ho g hg).2, Nat.lt_of_lt_of_le (ho g hg).2 hb.size⟩⟩
end
theorem threadB_any {w : World} {v : DV} {own : Nat → Option Role} {D : Dev} (h : IsDev w v own D) : Calls Tryd.prog 20 #[.pointer (some ⟨v.db, 0, none⟩), .int .i64 2] w fun r w' => r = .returned (.pointer (some ⟨v.tb 2, 0, none⟩)) ∧ w = w' := thread_any h (j := 2) (by omega)
/-- Which copy is presented, by the newest. -/
theorem pr_new (C : Nat → Int) (n : Nat) : prC (cpS C n 0) (cpS C n 1) (cpG C n 0) (cpG C n 1) = if newG C n then (newA C n : Int) else -1 := by
  unfold newG newA
  rw [newB_eq]
  unfold nwB prC
  cases cpG C n 0 <;> cases cpG C n 1 <;> simp
  by_cases h : (cpS C n 0).gen < (cpS C n 1).gen <;> simp [h]
/-- What Plan answers, in one shape. -/
def PnPost (w : World) (C : Nat → Int) (n : Nat) (s : Sup) (r : Ending) (w' : World) : Prop :=
  ∃ pa pn pc, ∃ pe : Int, r = .returned (.tuple #[.slice pa pn pc, .int .i64 pe]) ∧ Below w.heap.size w w' ∧
    ((newG C n = false ∧ pe = 10 ∧ pn = 0) ∨ (newG C n = true ∧ (newS C n).gen = 18446744073709551615 ∧ pe = 9 ∧ pn = 0) ∨
     (newG C n = true ∧ (newS C n).gen ≠ 18446744073709551615 ∧ pe = 0 ∧ pn = (sbP (s.withGen ((newS C n).gen + 1)) (1 - newA C n)).length ∧
       RdSl w' 3 (.slice pa pn pc) pn (instrC (sbP (s.withGen ((newS C n).gen + 1)) (1 - newA C n))) ∧ ∀ g, (Value.slice pa pn pc).ownBlock = some g → w.heap.size ≤ g ∧ g < w'.heap.size))
theorem PlPost.pn {w w' : World} {C : Nat → Int} {n : Nat} {s : Sup} {r : Ending} (h : PlPost w C n s r w') : PnPost w C n s r w' := by
  rcases h with ⟨h1, rfl, hb⟩ | ⟨h1, h2, rfl, hb⟩ | ⟨h1, h2, ov, rfl, ha⟩
  · exact ⟨none, 0, 0, 10, rfl, hb, .inl ⟨h1, rfl, rfl⟩⟩
  · exact ⟨none, 0, 0, 9, rfl, hb, .inr (.inl ⟨h1, h2, rfl, rfl⟩)⟩
  · obtain ⟨a, c, rfl⟩ := ha.slice
    exact ⟨a, _, c, 0, rfl, ha.bel, .inr (.inr ⟨h1, h2, rfl, rfl, ha.rd, fun g hg => ⟨ha.new g hg, ha.own.lt g hg⟩⟩)⟩
/-- The words of a device of 200 lines as a string. -/
def str13 (f : Nat → Int) : ByteArray := strOfNums ((List.range 12800).map fun i => byteAt f i)
set_option maxRecDepth 100000 in
theorem conv13 {w : World} {g : Nat} {f : Nat → Int} (h : Row w g 12800 5 (fun i => .int .u8 (byteAt f i))) : (Go.convert 77 9 (.slice (some ⟨g, 0, none⟩) 12800 12800)).run Tryd.prog w = .ok (.string (str13 f)) w := by
  refine run_convert_bytes_arg (P := Tryd.prog) w 77 5 Tryd.underlying77 Tryd.underlying5 g 0 12800 12800 ((List.range 12800).map fun i => byteAt f i) (by simp) (fun i hi => ?_) 9 Tryd.underlying9
  rw [h.cell (i := 0 + i) (by omega)]
  simp [List.getD, List.getElem?_map, List.getElem?_range hi]
section
variable {w0 wx : World} {v : DV} {own : Nat → Option Role} {D : Dev} {K : List (Nat × Array Value × TypeId)}
theorem DsX.more {g : Nat} {c : Array Value} {t : TypeId} (h : DsX w0 v own D K wx) (hb : Blk wx g c t) (ho : own g = none) : DsX w0 v own D ((g, c, t) :: K) wx := ⟨h.st, fun e he => by
  rcases List.mem_cons.1 he with rfl | he
  · exact ⟨hb, ho⟩
  · exact h.blk e he⟩
end
/-- An update of a clean device of 200 lines that has a good copy. -/
theorem at_plan {D : Dev} {C : Nat → Int} (h : SCl D 1 200 C 0) (he : D.err 2 = 0) {s : Sup} (hk : s.Ok) (hl : s.lin ≤ 200) (h0 : s.gen = 0) (hG : newG C 200 = true) (hg : (newS C 200).gen ≠ 18446744073709551615) :
    ∃ (E : Dev) (F : Nat → Int),
      (∀ (wx : World) (v : DV) (own : Nat → Option Role), Nib wx → IsDev wx v own D → Calls Tryd.prog 29 #[.iface 49 (.pointer (some ⟨v.tb 1, 0, none⟩)), .agg s.cells] wx fun r w' => r = .returned (.int .i64 0) ∧ DPost v own wx E w') ∧
      (∀ (wx : World) (v : DV) (own : Nat → Option Role) (pv : Value), IsDev wx v own D → RdSl wx 3 pv (sbP (s.withGen ((newS C 200).gen + 1)) (1 - newA C 200)).length (instrC (sbP (s.withGen ((newS C 200).gen + 1)) (1 - newA C 200))) → (∀ g, pv.ownBlock = some g → own g = none) →
        Calls Tryd.prog 37 #[pv, .iface 49 (.pointer (some ⟨v.tb 1, 0, none⟩))] wx fun r w' => r = .returned (.int .i64 0) ∧ DPost v own wx E w') ∧
      (∀ (wx : World) (v : DV) (own : Nat → Option Role), Nib wx → IsDev wx v own E → Calls Tryd.prog 19 #[.iface 49 (.pointer (some ⟨v.tb 2, 0, none⟩))] wx fun r w' => r = .returned (.tuple #[.agg (s.withGen ((newS C 200).gen + 1)).cells, .int .i64 0]) ∧ Below wx.heap.size wx w') ∧
      (∀ (wx : World) (v : DV) (own : Nat → Option Role), IsDev wx v own E → Calls Tryd.prog 38 #[.pointer (some ⟨v.db, 0, none⟩)] wx fun r w' => r = .returned (.slice (some ⟨wx.heap.size, 0, none⟩) 12800 12800) ∧ Row w' wx.heap.size 12800 5 (fun i => .int .u8 (byteAt F i)) ∧ Below wx.heap.size wx w') ∧
      (∀ (wx : World) (v : DV) (own : Nat → Option Role), IsDev wx v own E → Calls Tryd.prog 39 #[.pointer (some ⟨v.db, 0, none⟩)] wx fun r w' => r = .returned (.slice (some ⟨wx.heap.size, 0, none⟩) 12800 12800) ∧ Row w' wx.heap.size 12800 5 (fun i => .int .u8 (byteAt F i)) ∧ Below wx.heap.size wx w') := by
  have hgb : 0 ≤ (newS C 200).gen ∧ (newS C 200).gen < 18446744073709551616 := cpS_gen h.bd 200 (newA C 200)
  have hA1 := newA_le C 200
  have hk1 := hk.withGen ((newS C 200).gen + 1)
  have hft : (s.withGen ((newS C 200).gen + 1)).Fits := hk1.fits (by show 0 ≤ (newS C 200).gen + 1; omega) (by show (newS C 200).gen + 1 < _; omega)
  have hE := h.prog (s := s.withGen ((newS C 200).gen + 1)) hft (i := 1 - newA C 200) (by omega)
  obtain ⟨p1, p2⟩ := prg_cp (s.withGen ((newS C 200).gen + 1)) (1 - newA C 200) C
  have hnw := new_update (s.withGen ((newS C 200).gen + 1)) hk1 C (prgC (s.withGen ((newS C 200).gen + 1)) (1 - newA C 200) C) (n := 200) hl hG (by show _ < (newS C 200).gen + 1; omega) (by show 0 ≤ (newS C 200).gen + 1; omega) p1 (p2 _ (by omega))
  have he2 : (D.run 1 (sbP (s.withGen ((newS C 200).gen + 1)) (1 - newA C 200))).err 2 = D.err 2 := errs_other 2 1 (by omega) _ D
  have hlen := sbP_len (s.withGen ((newS C 200).gen + 1)) (1 - newA C 200)
  have hok := sbP_ok (s.withGen ((newS C 200).gen + 1)) (1 - newA C 200) (by omega)
  have hn := h.grp.on.n
  have hc := h.cur
  have hex := h.exec
  refine ⟨D.run 1 (sbP (s.withGen ((newS C 200).gen + 1)) (1 - newA C 200)), prgC (s.withGen ((newS C 200).gen + 1)) (1 - newA C 200) C, fun wx v own hx hd => ?_, fun wx v own pv hd hr ho => ?_, fun wx v own hx hd => ?_, fun wx v own hd => ?_, fun wx v own hd => ?_⟩
  · refine (sbUpdate_any hx hd (j := 1) (by omega) h.grp.on.off h.grp.on.err h.vb (by rw [hn]; omega) s hk (by rw [hn]; exact hl) (by omega) (by omega) (by omega)).mono ?_
    rintro r w' (⟨e1, _⟩ | ⟨_, e2, _⟩ | ⟨_, _, e3, e4⟩)
    · rw [hc, hn, hG] at e1; cases e1
    · rw [hc, hn] at e2; exact absurd e2 hg
    · rw [hc, hn] at e3 e4
      rw [hE.grp.on.err] at e3
      exact ⟨e3, e4⟩
  · refine (run_any hd (by omega) pv _ hr ho hok (by omega) (by omega)).mono ?_
    rintro r w' ⟨e1, e2⟩
    rw [hE.grp.on.err] at e1
    exact ⟨e1, e2⟩
  · have := sbOpen_any hx hd (j := 2) (by omega) hE.grp.on.off (he2.trans he) hE.vb (by rw [hE.grp.on.n]; omega)
    rw [hE.cur, hE.grp.on.n] at this
    unfold opS opE at this
    rw [hnw.1, hnw.2.1] at this
    exact this
  · have := current_any hd hE.vb
    unfold BytesPost at this
    rw [hE.grp.on.n, hE.cur] at this
    exact this
  · have := persisted_any hd hE.vb
    unfold BytesPost at this
    rw [hE.grp.on.n, show (D.run 1 (sbP (s.withGen ((newS C 200).gen + 1)) (1 - newA C 200))).pers = prgC (s.withGen ((newS C 200).gen + 1)) (1 - newA C 200) C from funext hE.grp.hst.pers] at this
    exact this
end Go.Proofs.YtbpaamnofkhonaaDoor
