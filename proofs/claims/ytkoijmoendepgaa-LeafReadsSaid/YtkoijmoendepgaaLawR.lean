/- LeafReads: the walk of the law. -/
import Derived.Test.YtkoijmoendepgaaLawQ
namespace Go.Proofs.Ytkoijmoendepgaa
open Go.RowKit Go.Shelf
attribute [local go_sem ↓] Go.wp_at_zero Go.wp_at_succ
attribute [local go_sem] Oper.semAt_some
section
variable {w : World} {n : NodeP} {ka sa va : Option Addr} {kc sc vc : Nat}
set_option maxRecDepth 100000 in
set_option maxHeartbeats 40000000 in
theorem leafReads_any (hn : NodeIn w n ka sa va kc sc vc) (key from' : Int) :
    Calls Try.prog 6 #[.agg (nodeAgg n ka sa va kc sc vc), .int .u64 key, .int .u64 from'] w fun r w' => r = .returned (.bool true) ∧ Below w.heap.size w w' := by
  refine (callsIn_wide (n := 5)).1 ?_
  have HMA := Lib.hid (fun wx (hx : Below w.heap.size w wx) => made_any (hn.below hx))
  have HWA := Lib.hid (fun wx (hx : Below w.heap.size w wx) => words_any (hn.below hx))
  have BA := Lib.hid (fun i => nWords_bd hn i)
  clear hn
  refine callsIn_of_wp_marks Try.func6 rfl trivial ?_ rfl
  unfold nodeAgg at *
  simp only [Try.ntmps6, List.size_toArray, List.length_cons, List.length_nil, Nat.reduceAdd, Nat.reduceSub, Array.replicate_succ, Array.replicate_zero, List.push_toArray, List.append_toArray, List.nil_append, List.cons_append]
  refine wpIn_wide.2 ?_
  go_wp2_with fail
  have hbx := Blk.new (w.alloc (.cells #[.int .u8 n.pos, .slice ka n.ks.length kc, .slice sa n.ss.length sc, .slice va n.vs.length vc, .int .u8 n.high, .bool n.bounded, .bool n.next, .int .u16 n.count] 63)) #[.bool false] 4
  have hby := (Blk.new w #[.int .u8 n.pos, .slice ka n.ks.length kc, .slice sa n.ss.length sc, .slice va n.vs.length vc, .int .u8 n.high, .bool n.bounded, .bool n.next, .int .u16 n.count] 63).alloc (.cells #[.bool false] 4)
  rw [World.size_alloc] at hbx
  have hb0 := below_twice w (.cells #[.int .u8 n.pos, .slice ka n.ks.length kc, .slice sa n.ss.length sc, .slice va n.vs.length vc, .int .u8 n.high, .bool n.bounded, .bool n.next, .int .u16 n.count] 63) (.cells #[.bool false] 4)
  have X0 := Lib.hid (And.intro hbx (And.intro hby hb0)); clear hbx hby hb0
  (with_reducible refine awake_any.mono ?_)
  rintro e w1 ⟨rfl, b1⟩
  have R1 : Hid (Blk w1 (w.heap.size + 1) #[.bool false] 4) := X0.out.1.below b1
  have N1 : Hid (Blk w1 w.heap.size #[.int .u8 n.pos, .slice ka n.ks.length kc, .slice sa n.ss.length sc, .slice va n.vs.length vc, .int .u8 n.high, .bool n.bounded, .bool n.next, .int .u16 n.count] 63) := X0.out.2.1.below b1
  have B1 : Hid (Below w.heap.size w w1) := X0.out.2.2.trans (b1.mono (by simp; omega))
  clear b1 X0
  have hz1 : w.heap.size + 1 < w1.heap.size := R1.out.lt
  have a0 := N1.out.cell (i := 0) rfl; have a1 := N1.out.cell (i := 1) rfl; have a2 := N1.out.cell (i := 2) rfl; have a3 := N1.out.cell (i := 3) rfl
  have a4 := N1.out.cell (i := 4) rfl; have a5 := N1.out.cell (i := 5) rfl; have a6 := N1.out.cell (i := 6) rfl; have a7 := N1.out.cell (i := 7) rfl
  go_wp2_with fail
  (with_reducible refine (HMA.out _ B1.out).mono ?_)
  rintro e w2 ⟨v, own, D, rfl, l2⟩
  have L2 : Hid (LiveSt w v own D 57 (withNode (fun _ => 0) (nodeOff n) n) w2) := ⟨⟨l2.dev, fun k hk => Nat.le_trans B1.out.size (l2.ob k hk), B1.out.trans (l2.bel.mono B1.out.size)⟩, l2.live⟩
  have R2 := Lib.hid (R1.out.below l2.bel); have N2 := Lib.hid (N1.out.below l2.bel)
  clear l2 a0 a1 a2 a3 a4 a5 a6 a7 hz1 R1 N1 B1
  have hz2 : w.heap.size + 1 < w2.heap.size := R2.out.lt
  have hz2' : w.heap.size < w2.heap.size := by omega
  have a0 := N2.out.cell (i := 0) rfl; have a1 := N2.out.cell (i := 1) rfl; have a2 := N2.out.cell (i := 2) rfl; have a3 := N2.out.cell (i := 3) rfl
  have a4 := N2.out.cell (i := 4) rfl; have a5 := N2.out.cell (i := 5) rfl; have a6 := N2.out.cell (i := 6) rfl; have a7 := N2.out.cell (i := 7) rfl
  go_wp2_with fail
  (with_reducible refine (HWA.out _ (L2.out.next (below_alloc w2 _)).bel).mono ?_)
  rintro e w3 ⟨g, rfl, r3, g3, bb3⟩
  have hb3 : Below w2.heap.size w2 w3 := (below_alloc w2 _).trans (bb3.mono (by simp))
  have F3 : Hid (RF w n ka sa va kc sc vc v own D g w2.heap.size w3) := ⟨L2.out.next hb3, N2.out.below hb3, R2.out.below hb3, (Blk.new w2 _ _).below bb3, r3, hz2, by simp at g3; omega⟩
  clear r3 g3 bb3 hb3 L2 R2 N2 a0 a1 a2 a3 a4 a5 a6 a7
  have hno := nodeOff_le n
  have HN := Lib.hid (fun wx (hx : RF w n ka sa va kc sc vc v own D g w2.heap.size wx) => hx.live.node 0 (nodeOff n) (by omega) (by omega) hno.2.2 (by omega) (fun i hi => by rw [withNode_at _ _ _ _ hi]; exact BA.out i))
  have IN : Hid (IsNode (nodeW D (ptrN (nodeOff n))) n) := fun i hi => by rw [(HN.out _ F3.out).2 i, withNode_at _ _ _ _ hi]
  have OK : Hid (nodeOk (nodeW D (ptrN (nodeOff n))) (D.n * 64)) := IN.out.ok _ (by rw [F3.out.live.live.n]; omega)
  have HE := Lib.hid (fun wx (hx : RF w n ka sa va kc sc vc v own D g w2.heap.size wx) => refEntries_any (IN.out.refIn hx.ws))
  go_wp2_with fail
  (with_reducible refine (HE.out _ (F3.out.next (below_alloc w3 _))).mono ?_)
  rintro e w8 ⟨ev, rfl, a8⟩
  have eW : slotsN (ordN (nSlots n) n.count) (ordN (nSlots n) n.count % 16) = slotsW (nodeW D (ptrN (nodeOff n))) := by unfold slotsW; rw [IN.out.w0, Int.toNat_natCast]
  rw [eW] at a8
  have hE12 : (slotsW (nodeW D (ptrN (nodeOff n)))).length ≤ 12 := by rw [IN.out.slots]; exact nSlots_len12 n
  obtain ⟨E, hE⟩ : ∃ E, E = entsW (nodeW D (ptrN (nodeOff n))) (slotsW (nodeW D (ptrN (nodeOff n)))) := ⟨_, rfl⟩
  have hEl : E.length = (slotsW (nodeW D (ptrN (nodeOff n)))).length := by rw [hE]; simp [entsW]
  rw [← hE, ← hEl] at a8
  have hL12 : E.length ≤ 12 := by omega
  have HL := Lib.hid hEl
  have HEE := Lib.hid hE
  have P3 := Lib.hid (Below.refl w3.heap.size w3)
  obtain ⟨ea, ec, rfl⟩ := a8.slice
  have A8 : Hid (RL w3 E (.slice ea E.length ec) (.slice none 0 0) (.slice none 0 0) [] [] w8) := by
    have hbx : Blk w8 w3.heap.size #[.slice none 0 0] 58 := (Blk.new w3 _ _).below a8.bel
    have hnew := a8.new
    have hb : Below w3.heap.size w3 w8 := (below_alloc w3 _).trans (a8.bel.mono (by simp))
    have hA := Acc.deeper a8 (below_alloc w3 (.cells #[.slice none 0 0] 58))
    refine ⟨⟨⟨Acc.nil w3 _ _ _ _ hb hb.size, Acc.nil w3 _ _ _ _ hb hb.size, fun g hg => by simp [Value.ownBlock] at hg⟩, ⟨Acc.nil w3 _ _ _ _ hb hb.size, hA, fun g hg => by simp [Value.ownBlock] at hg⟩, fun g hg => by simp [Value.ownBlock] at hg⟩, hbx, by simp [Value.ownBlock], by simp [Value.ownBlock], fun h => ?_⟩
    have := hnew _ h; rw [World.size_alloc] at this; omega
  clear a8 eW hE12 hEl hE
  obtain ⟨i0, hi0, hz0, hz1, hz2_⟩ := info_parts infoU64
  have I := Lib.hid (And.intro hi0 (And.intro hz0 (And.intro hz1 hz2_))); clear hi0 hz0 hz1 hz2_
  obtain ⟨k0, hi0, hz0, hz1, hz2_⟩ := info_parts infoEntry
  have I2 := Lib.hid (And.intro hi0 (And.intro hz0 (And.intro hz1 hz2_))); clear hi0 hz0 hz1 hz2_
  go_wp2_with fail
  go_loopw [10, 12, 13, 36] (fun kv wv hv k wr => ∃ (i : Nat) (av : Value), i ≤ E.length ∧ k = .int .i64 i ∧ wv = .int .u64 (wantR key (E.take i)).1 ∧ hv = .bool (wantR key (E.take i)).2 ∧ RL w3 E (.slice ea E.length ec) kv av ((E.take i).map (·.1)) (afterR from' (E.take i)) wr) (fun _ _ _ k _ => E.length - (intOf k).toNat)
  case atStart => exact ⟨0, _, by omega, rfl, rfl, rfl, A8.out⟩
  case round =>
    obtain ⟨i, av, hi, rfl, rfl, rfl, hT⟩ := hrel
    obtain ⟨ka', kc', rfl⟩ := hT.t.ab.a.slice
    obtain ⟨aa, ac, rfl⟩ := hT.t.ab.b.slice
    have T := Lib.hid hT; clear hT A8
    by_cases hlt : i < E.length
    · have hlt' : (i : Int) < (E.length : Int) := by omega
      obtain ⟨⟨k1, v1⟩, hx⟩ : ∃ x, E[i]? = some x := ⟨_, List.getElem?_eq_getElem hlt⟩
      have hent := entC_get _ i _ hx
      obtain ⟨_, a', c', e', _, hE⟩ := T.out.t.ac.b.rd
      cases e'
      obtain ⟨eb, eo, rfl, hE2⟩ := rd_at hE hent.1
      have c1 := hE2 _ _ hent.1; have c2 := hE2 _ _ hent.2
      rw [← Nat.add_assoc] at c2
      have HT := Lib.hid (take_snoc_at E i _ hx)
      have hml : ((E.take i).map (·.1)).length ≤ 12 := by simp; omega
      have hal : (afterR from' (E.take i)).length ≤ 12 := Nat.le_trans (afterR_len _ _) (by simp; omega)
      generalize hks : (E.take i).map (·.1) = ks at *
      generalize hal' : afterR from' (E.take i) = al at *
      have HKS := Lib.hid (And.intro hks hal'); clear hks hal' hE hE2 hent hx
      obtain ⟨wv, hv, hwv⟩ : ∃ a b, wantR key (E.take i) = (a, b) := ⟨_, _, rfl⟩
      rw [hwv]
      have HWV := Lib.hid hwv; clear hwv
      go_wp2_with (at_builtin; refine wpList_append_sl _ rfl _ _ 22 rfl 23 i0 _ 1 8 Try.underlying22 I.out.1 I.out.2.1 I.out.2.2.1 I.out.2.2.2 rfl (by decide) _ ks.length (intsU ks) rfl (by exact (T.out.t.ab.a.own.alloc _).alloc _) _ 1 _ rfl (by exact RdSl.newAt _ _ _ 1 1 _ (by simp) rfl) (one_int _ _) (by unfold maxLen; omega) (by omega) ?_)
      intro kv1 w4 o1 g1 b1 n1
      have d0 : w4.cell? ⟨wr.heap.size, 0, none⟩ = some (.int .u64 k1) := (kept_cell (wr := wr.alloc (.cells #[.int .u64 k1, .int .u64 v1] 84)) (below_alloc _ _) g1 (by simp) (fun h => by have := T.out.t.ab.a.own.lt _ h; omega) 0).trans ((Blk.new _ _ _).cell rfl)
      have d1 : w4.cell? ⟨wr.heap.size, 1, none⟩ = some (.int .u64 v1) := (kept_cell (wr := wr.alloc (.cells #[.int .u64 k1, .int .u64 v1] 84)) (below_alloc _ _) g1 (by simp) (fun h => by have := T.out.t.ab.a.own.lt _ h; omega) 1).trans ((Blk.new _ _ _).cell rfl)
      have T4 := Lib.hid (T.out.key (below_twice wr _ _) o1 g1 b1 (by omega))
      have hw4 : wr.heap.size < w4.heap.size := Nat.lt_of_lt_of_le (by rw [World.size_alloc, World.size_alloc]; omega) g1.size
      have hav : (Value.slice aa al.length ac).ownBlock ≠ some wr.heap.size := fun h => by have := T.out.t.ab.b.own.lt _ h; omega
      have hbl := T.out.box.lt
      clear o1 g1 b1 n1 T c1 c2
      have hc0 : w4.cell? ⟨w3.heap.size, 0, none⟩ = some (.slice aa al.length ac) := T4.out.box.cell rfl
      have hf0 : w4.frozen? ⟨w3.heap.size, 0, none⟩ = false := T4.out.box.frozen 0
      have hne : wr.heap.size ≠ w3.heap.size := by omega
      have hne' : w3.heap.size ≠ wr.heap.size := by omega
      have hbw : w3.heap.size < w4.heap.size := by omega
      obtain ⟨ka2, kc2, rfl⟩ := T4.out.t.ab.a.slice
      by_cases hge : from' ≤ k1
      · have HA : Hid (afterR from' (E.take (i + 1)) = al ++ [(k1, v1)]) := by show _ = _; rw [HT.out, afterR_snoc_pos _ _ _ hge, HKS.out.2]
        have HM : Hid ((E.take (i + 1)).map (·.1) = ks ++ [k1]) := by show _ = _; rw [HT.out, List.map_append, HKS.out.1]; rfl
        go_wp2_with (at_builtin; refine wpList_append_sl _ rfl _ _ 58 rfl 84 k0 _ 2 16 Try.underlying58 I2.out.1 I2.out.2.1 I2.out.2.2.1 I2.out.2.2.2 rfl (by decide) _ al.length (entC al) rfl (by exact T4.out.t.ab.b.own.alloc _) _ 1 _ rfl (by exact RdSl.newAt _ _ _ 2 1 _ rfl rfl) (by simp [Value.oneCell']) (by unfold maxLen; omega) (by omega) ?_)
        intro av1 w5 o1 g1 b1 n1
        obtain ⟨aa2, ac2, rfl⟩ := o1.slice
        have hbx5 : Blk w5 w3.heap.size #[.slice aa al.length ac] 58 := (g1.block _ (by rw [World.size_alloc]; omega) (fun e => T4.out.na e.symm)).trans (((below_alloc w4 _).block _ hbw).trans T4.out.box)
        have hc5 : w5.cell? ⟨w3.heap.size, 0, none⟩ = some (.slice aa al.length ac) := hbx5.cell rfl
        have hf5 : w5.frozen? ⟨w3.heap.size, 0, none⟩ = false := hbx5.frozen 0
        have d05 : w5.cell? ⟨wr.heap.size, 0, none⟩ = some (.int .u64 k1) := (kept_cell (below_alloc _ _) g1 hw4 hav 0).trans d0
        have d15 : w5.cell? ⟨wr.heap.size, 1, none⟩ = some (.int .u64 v1) := (kept_cell (below_alloc _ _) g1 hw4 hav 1).trans d1
        have T5 := Lib.hid (T4.out.aft (x := (k1, v1)) (below_alloc w4 _) o1 g1 b1 (by omega))
        clear hbx5 o1 g1 b1 n1 hav
        clear T4 hc0 hf0 d0 d1
        by_cases heq : k1 = key
        · have HW : Hid (wantR key (E.take (i + 1)) = (v1, true)) := by show _ = _; rw [HT.out, wantR_snoc_pos _ _ _ heq]
          have heq' : (k1 == key) = true := by simpa using heq
          go_wp2_with fail
          go_roundw
          case rel => exact ⟨i + 1, _, by omega, by go_num, by rw [HW.out], by rw [HW.out], by rw [HM.out, HA.out]; have := T5.out; rw [List.length_append] at this; exact this⟩
          case measure => simp [intOf]; omega
        · have HW : Hid (wantR key (E.take (i + 1)) = (wv, hv)) := by show _ = _; rw [HT.out, wantR_snoc_neg _ _ _ heq, HWV.out]
          have heq' : (k1 == key) = false := by simpa using heq
          go_wp2_with fail
          go_roundw
          case rel => exact ⟨i + 1, _, by omega, by go_num, by rw [HW.out], by rw [HW.out], by rw [HM.out, HA.out]; have := T5.out; rw [List.length_append] at this; exact this⟩
          case measure => simp [intOf]; omega
      · have HA : Hid (afterR from' (E.take (i + 1)) = al) := by show _ = _; rw [HT.out, afterR_snoc_neg _ _ _ hge, HKS.out.2]
        have HM : Hid ((E.take (i + 1)).map (·.1) = ks ++ [k1]) := by show _ = _; rw [HT.out, List.map_append, HKS.out.1]; rfl
        by_cases heq : k1 = key
        · have HW : Hid (wantR key (E.take (i + 1)) = (v1, true)) := by show _ = _; rw [HT.out, wantR_snoc_pos _ _ _ heq]
          have heq' : (k1 == key) = true := by simpa using heq
          go_wp2_with fail
          go_roundw
          case rel => exact ⟨i + 1, _, by omega, by go_num, by rw [HW.out], by rw [HW.out], by rw [HM.out, HA.out]; exact T4.out⟩
          case measure => simp [intOf]; omega
        · have HW : Hid (wantR key (E.take (i + 1)) = (wv, hv)) := by show _ = _; rw [HT.out, wantR_snoc_neg _ _ _ heq, HWV.out]
          have heq' : (k1 == key) = false := by simpa using heq
          go_wp2_with fail
          go_roundw
          case rel => exact ⟨i + 1, _, by omega, by go_num, by rw [HW.out], by rw [HW.out], by rw [HM.out, HA.out]; exact T4.out⟩
          case measure => simp [intOf]; omega
    · have hlt' : ¬ (i : Int) < (E.length : Int) := by omega
      obtain rfl : i = E.length := by omega
      rw [List.take_length] at T ⊢
      have F4 := Lib.hid (F3.out.next T.out.t.ab.a.bel)
      obtain ⟨wv, hv, hwv⟩ : ∃ a b, wantR key E = (a, b) := ⟨_, _, rfl⟩
      obtain ⟨er, her⟩ : ∃ er : Int, er = if hv then 0 else 5 := ⟨_, rfl⟩
      have HG : Hid (∀ wx, RF w n ka sa va kc sc vc v own D g w2.heap.size wx → Calls Try.prog 18 #[.agg #[.iface 39 (.pointer (some ⟨v.tb 0, 0, none⟩)), .int .u64 (ptrN (nodeOff n) : Nat)], .int .u64 key] wx fun r w' => r = .returned (.tuple #[.int .u64 wv, .int .i64 er]) ∧ Below wx.heap.size wx w') := fun wx hx => by
        refine (get_any (HN.out wx hx).1 key).mono ?_
        rintro r w' ⟨hb, ⟨_, rfl⟩ | ⟨hbad, _⟩⟩
        · exact ⟨by rw [getV_wantR _ _ IN.out.asc, ← HEE.out, hwv, her], hb⟩
        · exact absurd OK.out hbad
      have HER := Lib.hid her
      rw [hwv]
      clear her hwv
      have HY := Lib.hid (fun wx (hx : RF w n ka sa va kc sc vc v own D g w2.heap.size wx) => yields_ok (HN.out wx hx).1 OK.out from')
      rw [← afterR_drop _ _ _ IN.out.asc, ← HEE.out] at HY
      have hal : (afterR from' E).length ≤ 12 := Nat.le_trans (afterR_len _ _) hL12
      generalize afterR from' E = es at *
      have l0 := F4.out.leaf.cell (i := 0) rfl; have l1 := F4.out.leaf.cell (i := 1) rfl
      go_wp2_with fail
      (with_reducible refine (HG.out _ F4.out).mono ?_)
      rintro e w9 ⟨rfl, b9⟩
      have F9 := Lib.hid (F4.out.next b9); have T9 := Lib.hid (T.out.keep b9)
      clear b9 l0 l1 T F4
      have l0 := F9.out.leaf.cell (i := 0) rfl; have l1 := F9.out.leaf.cell (i := 1) rfl
      have hll := F9.out.leaf.lt
      have HA := Lib.hid (fun wx => all_any (w := wx) (.inr ⟨⟨v.tb 0, 0, none⟩, rfl⟩ : IsMem (.iface 39 (.pointer (some ⟨v.tb 0, 0, none⟩)))) (ptrN (nodeOff n)) from')
      go_wp2_with fail
      (with_reducible refine (HA.out _).mono ?_)
      rintro e w' ⟨rfl, rfl⟩
      go_wp2_with fail
      have bG : Boxed (w9.alloc (.cells #[.slice none 0 0] 58)) w9.heap.size 58 (.slice none 0 0) := Boxed.new w9 58 (.slice none 0 0)
      have bL : Blk (w9.alloc (.cells #[.slice none 0 0] 58) |>.alloc (.cells #[.iface 39 (.pointer (some ⟨v.tb 0, 0, none⟩)), .int .u64 (ptrN (nodeOff n) : Nat)] 47)) (w9.heap.size + 1) #[.iface 39 (.pointer (some ⟨v.tb 0, 0, none⟩)), .int .u64 (ptrN (nodeOff n) : Nat)] 47 := by
        have := Blk.new (w9.alloc (.cells #[.slice none 0 0] 58)) #[.iface 39 (.pointer (some ⟨v.tb 0, 0, none⟩)), .int .u64 (ptrN (nodeOff n) : Nat)] 47; rwa [World.size_alloc] at this
      have bF : Blk (w9.alloc (.cells #[.slice none 0 0] 58) |>.alloc (.cells #[.iface 39 (.pointer (some ⟨v.tb 0, 0, none⟩)), .int .u64 (ptrN (nodeOff n) : Nat)] 47) |>.alloc (.cells #[.int .u64 from'] 23)) (w9.heap.size + 1 + 1) #[.int .u64 from'] 23 := by
        have := Blk.new (w9.alloc (.cells #[.slice none 0 0] 58) |>.alloc (.cells #[.iface 39 (.pointer (some ⟨v.tb 0, 0, none⟩)), .int .u64 (ptrN (nodeOff n) : Nat)] 47)) #[.int .u64 from'] 23; rwa [World.size_alloc, World.size_alloc] at this
      have hB0 : Below w9.heap.size w9 (w9.alloc (.cells #[.slice none 0 0] 58) |>.alloc (.cells #[.iface 39 (.pointer (some ⟨v.tb 0, 0, none⟩)), .int .u64 (ptrN (nodeOff n) : Nat)] 47) |>.alloc (.cells #[.int .u64 from'] 23)) :=
        (((Below.refl _ w9).alloc (Nat.le_refl _) _).alloc (by simp) _).alloc (by simp; omega) _
      obtain ⟨j0, hj, hjz0, hjz1, hjz2⟩ := info_parts infoEntry
      refine (wpIn_wide (n := 5)).1 ?_
      refine wpIn_rangeFunc_ownG rfl (by omega) (gf := 71) (lb := #[.pointer (some ⟨w9.heap.size + 1, 0, none⟩), .pointer (some ⟨w9.heap.size + 1 + 1, 0, none⟩)]) rfl trivial (enters_of Try.func71 (by kernel_rfl) rfl)
        (all_stops (5 - 1) (by omega) (w9.heap.size + 1) (w9.heap.size + 1 + 1) (.iface 39 (.pointer (some ⟨v.tb 0, 0, none⟩))) (ptrN (nodeOff n)) from' es (.inr ⟨_, rfl⟩) (bL.alloc _) bF ((HY.out _ F9.out).below hB0)) KpT.trans kpT_b (Below.refl _ _) (fun _ => rfl)
        (fun pre W => (∃ v, Boxed W w9.heap.size 58 v ∧ W.ownsRow w9.heap.size 84 2 v pre.length (entC pre) ∧ True) ∧ Below w9.heap.size w9 W)
        (fun _ _ _ => False)
        (OwnFrom.and (Own.from (holdsRow_own w9.heap.size w9.heap.size 58 84 2 (fun pre => pre.length) (fun pre => entC pre) (fun _ _ => True)) _) (ownFrom_below (Nat.le_refl _) (by simp; omega)))
        (fun _ _ _ _ _ hs _ _ => hs)
        ⟨⟨_, (bG.alloc _).alloc _, World.ownsRow_nil _ _ _ _, trivial⟩, hB0⟩
        ?a1 ?assign ?body ?done ?stop
      case assign =>
        intro l x W K hK
        gi_wp2
        exact hK
      case body =>
        rintro l pre x W ⟨⟨v, hv, hrow, _⟩, hB⟩ hlt
        have hc := hv.cell
        gi_wp2_with (gi_at_builtin; refine wpListIn_append_own _ rfl _ _ 58 rfl w9.heap.size 84 j0 (.agg #[.int .u64 0, .int .u64 0]) 2 16 Try.underlying58 hj hjz0 hjz1 hjz2 rfl (by decide) _ _ _ rfl (hrow.alloc _) ⟨W.heap.size, 0, none⟩ 1 1 [.int .u64 x.1, .int .u64 x.2] rfl rfl (cell_two_new _ _ _ _) (by simp [Value.oneCell']) (by unfold maxLen; omega) (by omega) (by have := hB.size; simp; omega) ?_; intro v' w1 hown' hgrow _; obtain ⟨g', cap', rfl⟩ := ownsRow_succ hown'; obtain ⟨hv1, hv2, hr2, hk2, hb2⟩ := hv.appended (by decide) hrow hB.size (by omega) hown' hgrow; have hkp := kpT_append (v' := .slice (some ⟨g', 0, none⟩) (pre.length + 1) cap') hv hrow hgrow; have hc1 := hv1.cell; have hf1 := hv1.frozen)
        exact ⟨hk2.from _, hkp, ⟨_, hv2, by rw [entC_append, List.length_append]; exact hr2, trivial⟩, hB.trans hb2⟩
      case stop =>
        rintro D c pre W _ _ h _
        exact h.elim
      case done =>
        rintro D1 ys W hD1 rfl ⟨⟨gv, hgv, hgrow, _⟩, hB⟩ hK1
        have hsl : ∃ a c, gv = .slice a ys.length c := by obtain ⟨_, a, c, e, _⟩ := rd_of_row hgrow; exact ⟨a, c, e⟩
        obtain ⟨ga, gc, rfl⟩ := hsl
        have Z : Hid (RZ w n ka sa va kc sc vc v own D g w2.heap.size w3.heap.size w9.heap.size E ys (.slice ka' E.length kc') (.slice aa ys.length ac) (.slice ga ys.length gc) W) :=
          ⟨F9.out.next hB, (by have h := (T9.out.keep hB).t.ab.a.rd; rw [show (E.map (·.1)).length = E.length by simp] at h ⊢; exact h), (T9.out.keep hB).t.ab.b.rd, (T9.out.keep hB).box, rd_of_row hgrow, hgv⟩
        have hBW := Lib.hid (F9.out.live.bel.trans (hB.mono F9.out.live.bel.size))
        have K1 := Lib.hid (And.intro hD1 hK1)
        have hn9 : w.heap.size ≤ w9.heap.size := F9.out.live.bel.size
        have HO3 : Hid (w.heap.size + 1 < w3.heap.size) := F3.out.res.lt
        have HO9 : Hid (w.heap.size + 1 < w9.heap.size) := F9.out.res.lt
        have HZW : Hid (w9.heap.size ≤ W.heap.size) := hB.size
        clear hgrow hgv hB hK1 hD1 F9 T9 bG bL bF hB0 l0 l1 hll
        have l0 := Z.out.f.leaf.cell (i := 0) rfl; have l1 := Z.out.f.leaf.cell (i := 1) rfl
        have hll := Z.out.f.leaf.lt
        go_wp2_with fail
        (with_reducible refine (HA.out _).mono ?_)
        rintro e w' ⟨rfl, rfl⟩
        go_wp2_with fail
        have bL : Blk (W.alloc (.cells #[.iface 39 (.pointer (some ⟨v.tb 0, 0, none⟩)), .int .u64 (ptrN (nodeOff n) : Nat)] 47)) W.heap.size #[.iface 39 (.pointer (some ⟨v.tb 0, 0, none⟩)), .int .u64 (ptrN (nodeOff n) : Nat)] 47 := Blk.new W _ _
        have bF : Blk (W.alloc (.cells #[.iface 39 (.pointer (some ⟨v.tb 0, 0, none⟩)), .int .u64 (ptrN (nodeOff n) : Nat)] 47) |>.alloc (.cells #[.int .u64 from'] 23)) (W.heap.size + 1) #[.int .u64 from'] 23 := by
          have := Blk.new (W.alloc (.cells #[.iface 39 (.pointer (some ⟨v.tb 0, 0, none⟩)), .int .u64 (ptrN (nodeOff n) : Nat)] 47)) #[.int .u64 from'] 23; rwa [World.size_alloc] at this
        have hB0 : Below W.heap.size W (W.alloc (.cells #[.iface 39 (.pointer (some ⟨v.tb 0, 0, none⟩)), .int .u64 (ptrN (nodeOff n) : Nat)] 47) |>.alloc (.cells #[.int .u64 from'] 23)) := below_twice W _ _
        refine wp_range_break (W := W) (gf := 71) (lb := #[.pointer (some ⟨W.heap.size, 0, none⟩), .pointer (some ⟨W.heap.size + 1, 0, none⟩)]) rfl (enters_of Try.func71 (by kernel_rfl) rfl)
          (all_stops (5 - 1) (by omega) W.heap.size (W.heap.size + 1) (.iface 39 (.pointer (some ⟨v.tb 0, 0, none⟩))) (ptrN (nodeOff n)) from' ys (.inr ⟨_, rfl⟩) (bL.alloc _) bF ((HY.out _ Z.out.f).below hB0)) (fun _ => rfl) hB0
          ?a2 ?assign2 ?body2 ?rest2
        case assign2 =>
          intro l x W K hK
          gi_wp2
          exact hK
        case body2 =>
          rintro l x W2 hB2 hlt
          obtain ⟨⟨k1, v1⟩, tl, rfl⟩ : ∃ a b, ys = a :: b := by cases ys with | nil => simp at hlt | cons a b => exact ⟨a, b, rfl⟩
          have Z2 := Z.out.next hB2
          have hc0 : W2.cell? ⟨w3.heap.size, 0, none⟩ = some (.slice aa (tl.length + 1) ac) := Z2.abox.cell rfl
          obtain ⟨b, o, c, he, hcap, hcell⟩ := rd_some Z2.aft (by simp [entC])
          cases he
          have hc1 : W2.cell? ⟨b, o, none⟩ = some (.int .u64 k1) := hcell 0 _ rfl
          have hr0 : W2.cell? ⟨w.heap.size + 1, 0, none⟩ = some (.bool false) := Z2.f.res.cell rfl
          have hf0 : W2.frozen? ⟨w.heap.size + 1, 0, none⟩ = false := Z2.f.res.frozen 0
          have h0' : (0 : Int) ≤ (tl.length : Int) + 1 := by omega
          have h1' : ((tl.length : Int) + 1 == 0) = false := by simp; omega
          have HZ := Lib.hid hB2; clear Z2 hB2 hcell
          by_cases hx : x.1 = k1
          · have hx' : (x.1 != k1) = false := by simpa using hx
            gi_wp2
            exact ⟨KeepsFrom.refl _ _, .inl ⟨x, rfl, hx, rfl, HZ.out⟩⟩
          · have hx' : (x.1 != k1) = true := by simpa using hx
            gi_wp2
            exact ⟨(KeepsOthers.setCell _ _ _).from _, .inr ⟨x, rfl, hx⟩⟩
        case rest2 =>
          rintro D2 W2 hD2 hB2 hK2
          have Z2 := Lib.hid (Z.out.next hB2)
          have K2 : Hid (RK w D1 D2 W2) := by
            have h1 := lt_of_block K1.out.2
            have h2 := K1.out.1
            simp only [World.size_alloc] at h2 hD2
            have h3 := HO9.out; have h4 := HZW.out
            exact ⟨(hB2.block D1 h1).trans K1.out.2, hK2, hBW.out.trans (hB2.mono hBW.out.size), by omega, by omega, by omega⟩
          clear Z hB2 hK2 hD2 K1 hBW l0 l1 hll bL bF hB0
          have l0 := Z2.out.f.leaf.cell (i := 0) rfl; have l1 := Z2.out.f.leaf.cell (i := 1) rfl
          go_wp2_with fail
          have HH : Hid (∀ wx, RF w n ka sa va kc sc vc v own D g w2.heap.size wx → Calls Try.prog 37 #[.agg #[.iface 39 (.pointer (some ⟨v.tb 0, 0, none⟩)), .int .u64 (ptrN (nodeOff n) : Nat)]] wx fun r w' => r = .returned (.tuple #[.int .u64 (nWords n 2), .bool (nWords n 3 == 1)]) ∧ Below wx.heap.size wx w') := fun wx hx => by
            refine (high_any (HN.out wx hx).1).mono ?_
            rintro r w' ⟨hb, ⟨_, rfl⟩ | ⟨hbad, _⟩⟩
            · exact ⟨by rw [IN.out 2 (by omega), IN.out 3 (by omega)], hb⟩
            · exact absurd OK.out hbad
          have HNx : Hid (∀ wx, RF w n ka sa va kc sc vc v own D g w2.heap.size wx → Calls Try.prog 40 #[.agg #[.iface 39 (.pointer (some ⟨v.tb 0, 0, none⟩)), .int .u64 (ptrN (nodeOff n) : Nat)]] wx fun r w' => r = .returned (.int .u64 (nWords n 1)) ∧ Below wx.heap.size wx w') := fun wx hx => by
            refine (next_any (HN.out wx hx).1).mono ?_
            rintro r w' ⟨hb, ⟨_, rfl⟩ | ⟨hbad, _⟩⟩
            · exact ⟨by rw [IN.out 1 (by omega)], hb⟩
            · exact absurd OK.out hbad
          have HLn : Hid (∀ wx, RF w n ka sa va kc sc vc v own D g w2.heap.size wx → Calls Try.prog 21 #[.agg #[.iface 39 (.pointer (some ⟨v.tb 0, 0, none⟩)), .int .u64 (ptrN (nodeOff n) : Nat)]] wx fun r w' => r = .returned (.int .i64 E.length) ∧ Below wx.heap.size wx w') := fun wx hx => by
            refine (len_any (HN.out wx hx).1).mono ?_
            rintro r w' ⟨hb, ⟨_, rfl⟩ | ⟨hbad, _⟩⟩
            · exact ⟨by rw [HL.out], hb⟩
            · exact absurd OK.out hbad
          have HKy : Hid (∀ wx, RF w n ka sa va kc sc vc v own D g w2.heap.size wx → Calls Try.prog 38 #[.agg #[.iface 39 (.pointer (some ⟨v.tb 0, 0, none⟩)), .int .u64 (ptrN (nodeOff n) : Nat)]] wx fun r w' => ∃ kv, r = .returned kv ∧ Acc wx wx.heap.size w' 23 1 kv (E.map (·.1)).length (intsU (E.map (·.1)))) := fun wx hx => by
            refine (keysL_any (HN.out wx hx).1).mono ?_
            rintro r w' ⟨kv, ks, rfl, ha, ⟨_, rfl⟩ | ⟨hbad, _⟩⟩
            · rw [keysOf_ents, ← HEE.out] at ha; exact ⟨kv, rfl, ha⟩
            · exact absurd OK.out hbad
          (with_reducible refine (HH.out _ Z2.out.f).mono ?_)
          rintro e w10 ⟨rfl, b10⟩
          have Z3 := Lib.hid (Z2.out.next b10)
          have K3 := Lib.hid (K2.out.next b10)
          clear b10 Z2 K2 l0 l1
          have hkl : (E.map (·.1)).length = E.length := by simp
          go_wp2_with fail
          have hcases : (hv = true ∧ er = 0) ∨ (hv = false ∧ er = 5) := by have := HER.out; cases hv <;> simp at this <;> simp [this]
          rename_i K0 hK0
          have HO : Hid (w.heap.size + 1 < w3.heap.size ∧ w.heap.size + 1 < w9.heap.size) := ⟨HO3.out, HO9.out⟩
          clear HMA HWA BA HE P3 I I2 HG HER HA hj hjz0 hjz1 hjz2 HY HH hi hlt hlt' HN IN OK HL HEE F3 hno
          rcases hcases with ⟨rfl, rfl⟩ | ⟨rfl, rfl⟩
          · refine wp_region_noPanic ?_
            refine wp_region_held_drew (S := fun wx => wx.cell? ⟨w2.heap.size, 0, none⟩ = some (.iface 39 (.pointer (some ⟨v.tb 0, 0, none⟩))) ∧ wx.cell? ⟨w2.heap.size, 1, none⟩ = some (.int .u64 (ptrN (nodeOff n) : Nat)) ∧ wx.cell? ⟨w3.heap.size, 0, none⟩ = some (.slice aa ys.length ac) ∧ wx.cell? ⟨w9.heap.size, 0, none⟩ = some (.slice ga ys.length gc) ∧ wx.cell? ⟨g, 1, none⟩ = some (.int .u64 (nWords n 1)) ∧ wx.cell? ⟨g, 2, none⟩ = some (.int .u64 (nWords n 2)) ∧ wx.cell? ⟨g, 3, none⟩ = some (.int .u64 (nWords n 3))) (by kernel_rfl) ?_ (fun hHeld => ?_)
            · exact Z3.out.drew.cells
            refine wpAnyH_take (i := 0) (v := ?_) rfl (by kernel_rfl) (by kernel_rfl) (by kernel_rfl) (fun _ _ _ h => h) (Or.inl ⟨by kernel_rfl, ?_⟩) (by assumption) ?_
            rotate_left 1
            · intro w hSw; (try dsimp only at hSw); (go_simp <;> with_reducible rfl)
            (try simp only [Act.put]); (try simp only [List.setIfInBounds_toArray]); (try simp only [List.set_cons_succ]); (try simp only [List.set_cons_zero])
            refine wpAnyH_take (i := 1) (v := ?_) rfl (by kernel_rfl) (by kernel_rfl) (by kernel_rfl) (fun _ _ _ h => h) (Or.inl ⟨by kernel_rfl, ?_⟩) (by assumption) ?_
            rotate_left 1
            · intro w hSw; (try dsimp only at hSw); (go_simp <;> with_reducible rfl)
            (try simp only [Act.put]); (try simp only [List.setIfInBounds_toArray]); (try simp only [List.set_cons_succ]); (try simp only [List.set_cons_zero])
            refine wpAnyH_take (i := 2) (v := ?_) rfl (by kernel_rfl) (by kernel_rfl) (by kernel_rfl) (fun _ _ _ h => h) (Or.inl ⟨by kernel_rfl, ?_⟩) (by assumption) ?_
            rotate_left 1
            · intro w hSw; (try dsimp only at hSw); (go_simp <;> with_reducible rfl)
            (try simp only [Act.put]); (try simp only [List.setIfInBounds_toArray]); (try simp only [List.set_cons_succ]); (try simp only [List.set_cons_zero])
            refine wpAnyH_take (i := 3) (v := ?_) rfl (by kernel_rfl) (by kernel_rfl) (by kernel_rfl) (fun _ _ _ h => h) (Or.inl ⟨by kernel_rfl, ?_⟩) (by assumption) ?_
            rotate_left 1
            · intro w hSw; (try dsimp only at hSw); (go_simp <;> with_reducible rfl)
            (try simp only [Act.put]); (try simp only [List.setIfInBounds_toArray]); (try simp only [List.set_cons_succ]); (try simp only [List.set_cons_zero])
            refine wpAnyH_take (i := 4) (v := ?_) rfl (by kernel_rfl) (by kernel_rfl) (by kernel_rfl) (fun _ _ _ h => h) (Or.inl ⟨by kernel_rfl, ?_⟩) (by assumption) ?_
            rotate_left 1
            · intro w hSw; (try dsimp only at hSw); (go_simp <;> with_reducible rfl)
            (try simp only [Act.put]); (try simp only [List.setIfInBounds_toArray]); (try simp only [List.set_cons_succ]); (try simp only [List.set_cons_zero])
            refine wpAnyH_take (i := 5) (v := ?_) rfl (by kernel_rfl) (by kernel_rfl) (by kernel_rfl) (fun _ _ _ h => h) (Or.inl ⟨by kernel_rfl, ?_⟩) (by assumption) ?_
            rotate_left 1
            · intro w hSw; (try dsimp only at hSw); (go_simp <;> with_reducible rfl)
            (try simp only [Act.put]); (try simp only [List.setIfInBounds_toArray]); (try simp only [List.set_cons_succ]); (try simp only [List.set_cons_zero])
            refine wpAnyH_take (i := 6) (v := undef) rfl (by kernel_rfl) (by kernel_rfl) (by kernel_rfl) (fun _ _ _ h => h) (Or.inr ⟨by kernel_rfl, rfl⟩) (by assumption) ?_
            (try simp only [Act.put]); (try simp only [List.setIfInBounds_toArray]); (try simp only [List.set_cons_succ]); (try simp only [List.set_cons_zero])
            refine wpAnyH_take (i := 7) (v := undef) rfl (by kernel_rfl) (by kernel_rfl) (by kernel_rfl) (fun _ _ _ h => h) (Or.inr ⟨by kernel_rfl, rfl⟩) (by assumption) ?_
            (try simp only [Act.put]); (try simp only [List.setIfInBounds_toArray]); (try simp only [List.set_cons_succ]); (try simp only [List.set_cons_zero])
            refine wpAnyH_take (i := 8) (v := undef) rfl (by kernel_rfl) (by kernel_rfl) (by kernel_rfl) (fun _ _ _ h => h) (Or.inr ⟨by kernel_rfl, rfl⟩) (by assumption) ?_
            (try simp only [Act.put]); (try simp only [List.setIfInBounds_toArray]); (try simp only [List.set_cons_succ]); (try simp only [List.set_cons_zero])
            refine wpAnyH_take (i := 9) (v := undef) rfl (by kernel_rfl) (by kernel_rfl) (by kernel_rfl) (fun _ _ _ h => h) (Or.inr ⟨by kernel_rfl, rfl⟩) (by assumption) ?_
            (try simp only [Act.put]); (try simp only [List.setIfInBounds_toArray]); (try simp only [List.set_cons_succ]); (try simp only [List.set_cons_zero])
            refine wpAnyH_take (i := 10) (v := undef) rfl (by kernel_rfl) (by kernel_rfl) (by kernel_rfl) (fun _ _ _ h => h) (Or.inr ⟨by kernel_rfl, rfl⟩) (by assumption) ?_
            (try simp only [Act.put]); (try simp only [List.setIfInBounds_toArray]); (try simp only [List.set_cons_succ]); (try simp only [List.set_cons_zero])
            refine wpAnyH_take (i := 11) (v := undef) rfl (by kernel_rfl) (by kernel_rfl) (by kernel_rfl) (fun _ _ _ h => h) (Or.inr ⟨by kernel_rfl, rfl⟩) (by assumption) ?_
            (try simp only [Act.put]); (try simp only [List.setIfInBounds_toArray]); (try simp only [List.set_cons_succ]); (try simp only [List.set_cons_zero])
            refine wpAnyH_take (i := 12) (v := ?_) rfl (by kernel_rfl) (by kernel_rfl) (by kernel_rfl) (fun _ _ _ h => h) (Or.inl ⟨by kernel_rfl, ?_⟩) (by assumption) ?_
            rotate_left 1
            · intro w hSw; (try dsimp only at hSw); (go_simp <;> with_reducible rfl)
            (try simp only [Act.put]); (try simp only [List.setIfInBounds_toArray]); (try simp only [List.set_cons_succ]); (try simp only [List.set_cons_zero])
            refine wpAnyH_take (i := 13) (v := ?_) rfl (by kernel_rfl) (by kernel_rfl) (by kernel_rfl) (fun _ _ _ h => h) (Or.inl ⟨by kernel_rfl, ?_⟩) (by assumption) ?_
            rotate_left 1
            · intro w hSw; (try dsimp only at hSw); (go_simp <;> with_reducible rfl)
            (try simp only [Act.put]); (try simp only [List.setIfInBounds_toArray]); (try simp only [List.set_cons_succ]); (try simp only [List.set_cons_zero])
            refine wpAnyH_take (i := 14) (v := ?_) rfl (by kernel_rfl) (by kernel_rfl) (by kernel_rfl) (fun _ _ _ h => h) (Or.inl ⟨by kernel_rfl, ?_⟩) (by assumption) ?_
            rotate_left 1
            · intro w hSw; (try dsimp only at hSw); (go_simp <;> with_reducible rfl)
            (try simp only [Act.put]); (try simp only [List.setIfInBounds_toArray]); (try simp only [List.set_cons_succ]); (try simp only [List.set_cons_zero])
            refine wpAnyH_take (i := 15) (v := ?_) rfl (by kernel_rfl) (by kernel_rfl) (by kernel_rfl) (fun _ _ _ h => h) (Or.inl ⟨by kernel_rfl, ?_⟩) (by assumption) ?_
            rotate_left 1
            · intro w hSw; (try dsimp only at hSw); (go_simp <;> with_reducible rfl)
            (try simp only [Act.put]); (try simp only [List.setIfInBounds_toArray]); (try simp only [List.set_cons_succ]); (try simp only [List.set_cons_zero])
            refine wpAnyH_take (i := 16) (v := ?_) rfl (by kernel_rfl) (by kernel_rfl) (by kernel_rfl) (fun _ _ _ h => h) (Or.inl ⟨by kernel_rfl, ?_⟩) (by assumption) ?_
            rotate_left 1
            · intro w hSw; (try dsimp only at hSw); (go_simp <;> with_reducible rfl)
            (try simp only [Act.put]); (try simp only [List.setIfInBounds_toArray]); (try simp only [List.set_cons_succ]); (try simp only [List.set_cons_zero])
            refine wpAnyH_take (i := 17) (v := ?_) rfl (by kernel_rfl) (by kernel_rfl) (by kernel_rfl) (fun _ _ _ h => h) (Or.inl ⟨by kernel_rfl, ?_⟩) (by assumption) ?_
            rotate_left 1
            · intro w hSw; (try dsimp only at hSw); (go_simp <;> with_reducible rfl)
            (try simp only [Act.put]); (try simp only [List.setIfInBounds_toArray]); (try simp only [List.set_cons_succ]); (try simp only [List.set_cons_zero])
            refine wpAnyH_take (i := 18) (v := ?_) rfl (by kernel_rfl) (by kernel_rfl) (by kernel_rfl) (fun _ _ _ h => h) (Or.inl ⟨by kernel_rfl, ?_⟩) (by assumption) ?_
            rotate_left 1
            · intro w hSw; (try dsimp only at hSw); (go_simp <;> with_reducible rfl)
            (try simp only [Act.put]); (try simp only [List.setIfInBounds_toArray]); (try simp only [List.set_cons_succ]); (try simp only [List.set_cons_zero])
            refine wpAnyH_take (i := 19) (v := ?_) rfl (by kernel_rfl) (by kernel_rfl) (by kernel_rfl) (fun _ _ _ h => h) (Or.inl ⟨by kernel_rfl, ?_⟩) (by assumption) ?_
            rotate_left 1
            · intro w hSw; (try dsimp only at hSw); (go_simp <;> with_reducible rfl)
            (try simp only [Act.put]); (try simp only [List.setIfInBounds_toArray]); (try simp only [List.set_cons_succ]); (try simp only [List.set_cons_zero])
            refine wpAnyH_take (i := 21) (v := ?_) rfl (by kernel_rfl) (by kernel_rfl) (by kernel_rfl) (fun _ _ _ h => h) (Or.inl ⟨by kernel_rfl, ?_⟩) (by assumption) ?_
            rotate_left 1
            · intro w hSw; (try dsimp only at hSw); (go_simp <;> with_reducible rfl)
            (try simp only [Act.put]); (try simp only [List.setIfInBounds_toArray]); (try simp only [List.set_cons_succ]); (try simp only [List.set_cons_zero])
            refine wpAnyH_take (i := 22) (v := ?_) rfl (by kernel_rfl) (by kernel_rfl) (by kernel_rfl) (fun _ _ _ h => h) (Or.inl ⟨by kernel_rfl, ?_⟩) (by assumption) ?_
            rotate_left 1
            · intro w hSw; (try dsimp only at hSw); (go_simp <;> with_reducible rfl)
            (try simp only [Act.put]); (try simp only [List.setIfInBounds_toArray]); (try simp only [List.set_cons_succ]); (try simp only [List.set_cons_zero])
            refine wpAnyH_ready (rs := [20]) (by kernel_rfl) (by simp) ?_
            refine AllReadyH.cons rfl (fun K hK => ?_) AllReadyH.nil
            go_simp
            (with_reducible refine (HLn.out _ Z3.out.drew.f).mono ?_)
            rintro e w20 ⟨rfl, b20⟩
            have Z4 := Lib.hid (Z3.out.drew.next b20); have K4 := Lib.hid (K3.out.next (bdrew b20)); clear b20
            go_simp
            refine hK.out _ _ ?_ (fun hHeld => ?_)
            · exact Z4.out.cells
            clear hK K
            (try simp only [Act.put]); (try simp only [List.setIfInBounds_toArray]); (try simp only [List.set_cons_succ]); (try simp only [List.set_cons_zero])
            refine wpAnyH_take (i := 23) (v := ?_) rfl (by kernel_rfl) (by kernel_rfl) (by kernel_rfl) (fun _ _ _ h => h) (Or.inl ⟨by kernel_rfl, ?_⟩) (by assumption) ?_
            rotate_left 1
            · intro w hSw; (try dsimp only at hSw); (go_simp <;> with_reducible rfl)
            (try simp only [Act.put]); (try simp only [List.setIfInBounds_toArray]); (try simp only [List.set_cons_succ]); (try simp only [List.set_cons_zero])
            refine wpAnyH_take (i := 24) (v := ?_) rfl (by kernel_rfl) (by kernel_rfl) (by kernel_rfl) (fun _ _ _ h => h) (Or.inl ⟨by kernel_rfl, ?_⟩) (by assumption) ?_
            rotate_left 1
            · intro w hSw; (try dsimp only at hSw); (go_simp <;> with_reducible rfl)
            (try simp only [Act.put]); (try simp only [List.setIfInBounds_toArray]); (try simp only [List.set_cons_succ]); (try simp only [List.set_cons_zero])
            refine wpAnyH_take (i := 25) (v := ?_) rfl (by kernel_rfl) (by kernel_rfl) (by kernel_rfl) (fun _ _ _ h => h) (Or.inl ⟨by kernel_rfl, ?_⟩) (by assumption) ?_
            rotate_left 1
            · intro w hSw; (try dsimp only at hSw); (go_simp <;> with_reducible rfl)
            (try simp only [Act.put]); (try simp only [List.setIfInBounds_toArray]); (try simp only [List.set_cons_succ]); (try simp only [List.set_cons_zero])
            refine wpAnyH_take (i := 26) (v := ?_) rfl (by kernel_rfl) (by kernel_rfl) (by kernel_rfl) (fun _ _ _ h => h) (Or.inl ⟨by kernel_rfl, ?_⟩) (by assumption) ?_
            rotate_left 1
            · intro w hSw; (try dsimp only at hSw); (go_simp <;> with_reducible rfl)
            (try simp only [Act.put]); (try simp only [List.setIfInBounds_toArray]); (try simp only [List.set_cons_succ]); (try simp only [List.set_cons_zero])
            refine wpAnyH_take (i := 28) (v := ?_) rfl (by kernel_rfl) (by kernel_rfl) (by kernel_rfl) (fun _ _ _ h => h) (Or.inl ⟨by kernel_rfl, ?_⟩) (by assumption) ?_
            rotate_left 1
            · intro w hSw; (try dsimp only at hSw); (go_simp <;> with_reducible rfl)
            (try simp only [Act.put]); (try simp only [List.setIfInBounds_toArray]); (try simp only [List.set_cons_succ]); (try simp only [List.set_cons_zero])
            refine wpAnyH_ready (rs := [27]) (by kernel_rfl) (by simp) ?_
            refine AllReadyH.cons rfl (fun K hK => ?_) AllReadyH.nil
            go_simp
            (with_reducible refine (HKy.out _ Z4.out.f).mono ?_)
            rintro e w27 ⟨kv2, rfl, a27⟩
            have Z5 := Lib.hid (Z4.out.next a27.bel); have K5 := Lib.hid (K4.out.next a27.bel); have A27 := Lib.hid a27.rd; clear a27
            go_simp
            refine hK.out _ _ ?_ (fun hHeld => ?_)
            · exact Z5.out.cells
            clear hK K
            (try simp only [Act.put]); (try simp only [List.setIfInBounds_toArray]); (try simp only [List.set_cons_succ]); (try simp only [List.set_cons_zero])
            refine wpAnyH_ready (rs := [29]) (by kernel_rfl) (by simp) ?_
            refine AllReadyH.cons rfl (fun K hK => ?_) AllReadyH.nil
            go_simp
            (with_reducible refine (equalU_same _ _ _ _ rfl A27.out Z5.out.keys (by simp; omega)).mono ?_)
            rintro e w29 ⟨rfl, b29⟩
            have Z6 := Lib.hid (Z5.out.next b29); have K6 := Lib.hid (K5.out.next b29); clear b29
            go_simp
            refine hK.out _ _ ?_ (fun hHeld => ?_)
            · exact Z6.out.cells
            clear hK K
            (try simp only [Act.put]); (try simp only [List.setIfInBounds_toArray]); (try simp only [List.set_cons_succ]); (try simp only [List.set_cons_zero])
            refine wpAnyH_take (i := 30) (v := ?_) rfl (by kernel_rfl) (by kernel_rfl) (by kernel_rfl) (fun _ _ _ h => h) (Or.inl ⟨by kernel_rfl, ?_⟩) (by assumption) ?_
            rotate_left 1
            · intro w hSw; (try dsimp only at hSw); (go_simp <;> with_reducible rfl)
            (try simp only [Act.put]); (try simp only [List.setIfInBounds_toArray]); (try simp only [List.set_cons_succ]); (try simp only [List.set_cons_zero])
            refine wpAnyH_take (i := 31) (v := ?_) rfl (by kernel_rfl) (by kernel_rfl) (by kernel_rfl) (fun _ _ _ h => h) (Or.inl ⟨by kernel_rfl, ?_⟩) (by assumption) ?_
            rotate_left 1
            · intro w hSw; (try dsimp only at hSw); (go_simp <;> with_reducible rfl)
            (try simp only [Act.put]); (try simp only [List.setIfInBounds_toArray]); (try simp only [List.set_cons_succ]); (try simp only [List.set_cons_zero])
            refine wpAnyH_take (i := 32) (v := ?_) rfl (by kernel_rfl) (by kernel_rfl) (by kernel_rfl) (fun _ _ _ h => h) (Or.inl ⟨by kernel_rfl, ?_⟩) (by assumption) ?_
            rotate_left 1
            · intro w hSw; (try dsimp only at hSw); (go_simp <;> with_reducible rfl)
            (try simp only [Act.put]); (try simp only [List.setIfInBounds_toArray]); (try simp only [List.set_cons_succ]); (try simp only [List.set_cons_zero])
            refine wpAnyH_take (i := 33) (v := ?_) rfl (by kernel_rfl) (by kernel_rfl) (by kernel_rfl) (fun _ _ _ h => h) (Or.inl ⟨by kernel_rfl, ?_⟩) (by assumption) ?_
            rotate_left 1
            · intro w hSw; (try dsimp only at hSw); (go_simp <;> with_reducible rfl)
            (try simp only [Act.put]); (try simp only [List.setIfInBounds_toArray]); (try simp only [List.set_cons_succ]); (try simp only [List.set_cons_zero])
            refine wpAnyH_ready (rs := [34]) (by kernel_rfl) (by simp) ?_
            refine AllReadyH.cons rfl (fun K hK => ?_) AllReadyH.nil
            go_simp
            (with_reducible refine (refSame_same _ _ _ Z6.out.got Z6.out.aft (by omega)).mono ?_)
            rintro e w34 ⟨rfl, b34⟩
            have Z7 := Lib.hid (Z6.out.next b34); have K7 := Lib.hid (K6.out.next b34); clear b34
            go_simp
            refine hK.out _ _ ?_ (fun hHeld => ?_)
            · exact Z7.out.cells
            clear hK K
            (try simp only [Act.put]); (try simp only [List.setIfInBounds_toArray]); (try simp only [List.set_cons_succ]); (try simp only [List.set_cons_zero])
            refine wpAnyH_take (i := 35) (v := ?_) rfl (by kernel_rfl) (by kernel_rfl) (by kernel_rfl) (fun _ _ _ h => h) (Or.inl ⟨by kernel_rfl, ?_⟩) (by assumption) ?_
            rotate_left 1
            · intro w hSw; (try dsimp only at hSw); (go_simp <;> with_reducible rfl)
            (try simp only [Act.put]); (try simp only [List.setIfInBounds_toArray]); (try simp only [List.set_cons_succ]); (try simp only [List.set_cons_zero])
            refine wpAnyH_take (i := 36) (v := ?_) rfl (by kernel_rfl) (by kernel_rfl) (by kernel_rfl) (fun _ _ _ h => h) (Or.inl ⟨by kernel_rfl, ?_⟩) (by assumption) ?_
            rotate_left 1
            · intro w hSw; (try dsimp only at hSw); (go_simp <;> with_reducible rfl)
            (try simp only [Act.put]); (try simp only [List.setIfInBounds_toArray]); (try simp only [List.set_cons_succ]); (try simp only [List.set_cons_zero])
            refine wpAnyH_take (i := 37) (v := ?_) rfl (by kernel_rfl) (by kernel_rfl) (by kernel_rfl) (fun _ _ _ h => h) (Or.inl ⟨by kernel_rfl, ?_⟩) (by assumption) ?_
            rotate_left 1
            · intro w hSw; (try dsimp only at hSw); (go_simp <;> with_reducible rfl)
            (try simp only [Act.put]); (try simp only [List.setIfInBounds_toArray]); (try simp only [List.set_cons_succ]); (try simp only [List.set_cons_zero])
            refine wpAnyH_take (i := 39) (v := ?_) rfl (by kernel_rfl) (by kernel_rfl) (by kernel_rfl) (fun _ _ _ h => h) (Or.inl ⟨by kernel_rfl, ?_⟩) (by assumption) ?_
            rotate_left 1
            · intro w hSw; (try dsimp only at hSw); (go_simp <;> with_reducible rfl)
            (try simp only [Act.put]); (try simp only [List.setIfInBounds_toArray]); (try simp only [List.set_cons_succ]); (try simp only [List.set_cons_zero])
            refine wpAnyH_take (i := 40) (v := ?_) rfl (by kernel_rfl) (by kernel_rfl) (by kernel_rfl) (fun _ _ _ h => h) (Or.inl ⟨by kernel_rfl, ?_⟩) (by assumption) ?_
            rotate_left 1
            · intro w hSw; (try dsimp only at hSw); (go_simp <;> with_reducible rfl)
            (try simp only [Act.put]); (try simp only [List.setIfInBounds_toArray]); (try simp only [List.set_cons_succ]); (try simp only [List.set_cons_zero])
            refine wpAnyH_take (i := 41) (v := ?_) rfl (by kernel_rfl) (by kernel_rfl) (by kernel_rfl) (fun _ _ _ h => h) (Or.inl ⟨by kernel_rfl, ?_⟩) (by assumption) ?_
            rotate_left 1
            · intro w hSw; (try dsimp only at hSw); (go_simp <;> with_reducible rfl)
            (try simp only [Act.put]); (try simp only [List.setIfInBounds_toArray]); (try simp only [List.set_cons_succ]); (try simp only [List.set_cons_zero])
            refine wpAnyH_ready (rs := [38]) (by kernel_rfl) (by simp) ?_
            refine AllReadyH.cons rfl (fun K hK => ?_) AllReadyH.nil
            go_simp
            (with_reducible refine (HNx.out _ Z7.out.f).mono ?_)
            rintro e w38 ⟨rfl, b38⟩
            have Z8 := Lib.hid (Z7.out.next b38); have K8 := Lib.hid (K7.out.next b38); clear b38
            go_simp
            refine hK.out _ _ ?_ (fun hHeld => ?_)
            · exact Z8.out.cells
            clear hK K
            (try simp only [Act.put]); (try simp only [List.setIfInBounds_toArray]); (try simp only [List.set_cons_succ]); (try simp only [List.set_cons_zero])
            refine wpAnyH_take (i := 42) (v := ?_) rfl (by kernel_rfl) (by kernel_rfl) (by kernel_rfl) (fun _ _ _ h => h) (Or.inl ⟨by kernel_rfl, ?_⟩) (by assumption) ?_
            rotate_left 1
            · intro w hSw; (try dsimp only at hSw); (go_simp <;> with_reducible rfl)
            (try simp only [Act.put]); (try simp only [List.setIfInBounds_toArray]); (try simp only [List.set_cons_succ]); (try simp only [List.set_cons_zero])
            refine wpAnyH_take (i := 43) (v := ?_) rfl (by kernel_rfl) (by kernel_rfl) (by kernel_rfl) (fun _ _ _ h => h) (Or.inl ⟨by kernel_rfl, ?_⟩) (by assumption) ?_
            rotate_left 1
            · intro w hSw; (try dsimp only at hSw); (go_simp <;> with_reducible rfl)
            (try simp only [Act.put]); (try simp only [List.setIfInBounds_toArray]); (try simp only [List.set_cons_succ]); (try simp only [List.set_cons_zero])
            refine wpAnyH_take (i := 44) (v := ?_) rfl (by kernel_rfl) (by kernel_rfl) (by kernel_rfl) (fun _ _ _ h => h) (Or.inl ⟨by kernel_rfl, ?_⟩) (by assumption) ?_
            rotate_left 1
            · intro w hSw; (try dsimp only at hSw); (go_simp <;> with_reducible rfl)
            (try simp only [Act.put]); (try simp only [List.setIfInBounds_toArray]); (try simp only [List.set_cons_succ]); (try simp only [List.set_cons_zero])
            refine wpAnyH_take (i := 45) (v := ?_) rfl (by kernel_rfl) (by kernel_rfl) (by kernel_rfl) (fun _ _ _ h => h) (Or.inl ⟨by kernel_rfl, ?_⟩) (by assumption) ?_
            rotate_left 1
            · intro w hSw; (try dsimp only at hSw); (go_simp <;> with_reducible rfl)
            (try simp only [Act.put]); (try simp only [List.setIfInBounds_toArray]); (try simp only [List.set_cons_succ]); (try simp only [List.set_cons_zero])
            refine wpAnyH_take (i := 46) (v := ?_) rfl (by kernel_rfl) (by kernel_rfl) (by kernel_rfl) (fun _ _ _ h => h) (Or.inl ⟨by kernel_rfl, ?_⟩) (by assumption) ?_
            rotate_left 1
            · intro w hSw; (try dsimp only at hSw); (go_simp <;> with_reducible rfl)
            (try simp only [Act.put]); (try simp only [List.setIfInBounds_toArray]); (try simp only [List.set_cons_succ]); (try simp only [List.set_cons_zero])
            refine wpAnyH_take (i := 47) (v := ?_) rfl (by kernel_rfl) (by kernel_rfl) (by kernel_rfl) (fun _ _ _ h => h) (Or.inl ⟨by kernel_rfl, ?_⟩) (by assumption) ?_
            rotate_left 1
            · intro w hSw; (try dsimp only at hSw); (go_simp <;> with_reducible rfl)
            (try simp only [Act.put]); (try simp only [List.setIfInBounds_toArray]); (try simp only [List.set_cons_succ]); (try simp only [List.set_cons_zero])
            refine wpAnyH_take (i := 48) (v := ?_) rfl (by kernel_rfl) (by kernel_rfl) (by kernel_rfl) (fun _ _ _ h => h) (Or.inl ⟨by kernel_rfl, ?_⟩) (by assumption) ?_
            rotate_left 1
            · intro w hSw; (try dsimp only at hSw); (go_simp <;> with_reducible rfl)
            (try simp only [Act.put]); (try simp only [List.setIfInBounds_toArray]); (try simp only [List.set_cons_succ]); (try simp only [List.set_cons_zero])
            refine wpAnyH_take (i := 49) (v := ?_) rfl (by kernel_rfl) (by kernel_rfl) (by kernel_rfl) (fun _ _ _ h => h) (Or.inl ⟨by kernel_rfl, ?_⟩) (by assumption) ?_
            rotate_left 1
            · intro w hSw; (try dsimp only at hSw); (go_simp <;> with_reducible rfl)
            (try simp only [Act.put]); (try simp only [List.setIfInBounds_toArray]); (try simp only [List.set_cons_succ]); (try simp only [List.set_cons_zero])
            refine wpAnyH_take (i := 50) (v := ?_) rfl (by kernel_rfl) (by kernel_rfl) (by kernel_rfl) (fun _ _ _ h => h) (Or.inl ⟨by kernel_rfl, ?_⟩) (by assumption) ?_
            rotate_left 1
            · intro w hSw; (try dsimp only at hSw); (go_simp <;> with_reducible rfl)
            (try simp only [Act.put]); (try simp only [List.setIfInBounds_toArray]); (try simp only [List.set_cons_succ]); (try simp only [List.set_cons_zero])
            refine wpAnyH_take (i := 51) (v := ?_) rfl (by kernel_rfl) (by kernel_rfl) (by kernel_rfl) (fun _ _ _ h => h) (Or.inl ⟨by kernel_rfl, ?_⟩) (by assumption) ?_
            rotate_left 1
            · intro w hSw; (try dsimp only at hSw); (go_simp <;> with_reducible rfl)
            (try simp only [Act.put]); (try simp only [List.setIfInBounds_toArray]); (try simp only [List.set_cons_succ]); (try simp only [List.set_cons_zero])
            refine wpAnyH_take (i := 52) (v := ?_) rfl (by kernel_rfl) (by kernel_rfl) (by kernel_rfl) (fun _ _ _ h => h) (Or.inl ⟨by kernel_rfl, ?_⟩) (by assumption) ?_
            rotate_left 1
            · intro w hSw; (try dsimp only at hSw); (go_simp <;> with_reducible rfl)
            (try simp only [Act.put]); (try simp only [List.setIfInBounds_toArray]); (try simp only [List.set_cons_succ]); (try simp only [List.set_cons_zero])
            refine wpAnyH_take (i := 53) (v := ?_) rfl (by kernel_rfl) (by kernel_rfl) (by kernel_rfl) (fun _ _ _ h => h) (Or.inl ⟨by kernel_rfl, ?_⟩) (by assumption) ?_
            rotate_left 1
            · intro w hSw; (try dsimp only at hSw); (go_simp <;> with_reducible rfl)
            (try simp only [Act.put]); (try simp only [List.setIfInBounds_toArray]); (try simp only [List.set_cons_succ]); (try simp only [List.set_cons_zero])
            refine wpAnyH_take (i := 54) (v := ?_) rfl (by kernel_rfl) (by kernel_rfl) (by kernel_rfl) (fun _ _ _ h => h) (Or.inl ⟨by kernel_rfl, ?_⟩) (by assumption) ?_
            rotate_left 1
            · intro w hSw; (try dsimp only at hSw); (go_simp <;> with_reducible rfl)
            (try simp only [Act.put]); (try simp only [List.setIfInBounds_toArray]); (try simp only [List.set_cons_succ]); (try simp only [List.set_cons_zero])
            refine wpAnyH_take (i := 55) (v := ?_) rfl (by kernel_rfl) (by kernel_rfl) (by kernel_rfl) (fun _ _ _ h => h) (Or.inl ⟨by kernel_rfl, ?_⟩) (by assumption) ?_
            rotate_left 1
            · intro w hSw; (try dsimp only at hSw); (go_simp <;> with_reducible rfl)
            (try simp only [Act.put]); (try simp only [List.setIfInBounds_toArray]); (try simp only [List.set_cons_succ]); (try simp only [List.set_cons_zero])
            refine wpAnyH_take (i := 56) (v := ?_) rfl (by kernel_rfl) (by kernel_rfl) (by kernel_rfl) (fun _ _ _ h => h) (Or.inl ⟨by kernel_rfl, ?_⟩) (by assumption) ?_
            rotate_left 1
            · intro w hSw; (try dsimp only at hSw); (go_simp <;> with_reducible rfl)
            (try simp only [Act.put]); (try simp only [List.setIfInBounds_toArray]); (try simp only [List.set_cons_succ]); (try simp only [List.set_cons_zero])
            refine wpAnyH_take (i := 57) (v := ?_) rfl (by kernel_rfl) (by kernel_rfl) (by kernel_rfl) (fun _ _ _ h => h) (Or.inl ⟨by kernel_rfl, ?_⟩) (by assumption) ?_
            rotate_left 1
            · intro w hSw; (try dsimp only at hSw); (go_simp <;> with_reducible rfl)
            (try simp only [Act.put]); (try simp only [List.setIfInBounds_toArray]); (try simp only [List.set_cons_succ]); (try simp only [List.set_cons_zero])
            refine wpAnyH_take (i := 58) (v := ?_) rfl (by kernel_rfl) (by kernel_rfl) (by kernel_rfl) (fun _ _ _ h => h) (Or.inl ⟨by kernel_rfl, ?_⟩) (by assumption) ?_
            rotate_left 1
            · intro w hSw; (try dsimp only at hSw); (go_simp <;> with_reducible rfl)
            (try simp only [Act.put]); (try simp only [List.setIfInBounds_toArray]); (try simp only [List.set_cons_succ]); (try simp only [List.set_cons_zero])
            have r0 : w38.cell? ⟨w.heap.size + 1, 0, none⟩ = some (.bool false) := Z8.out.f.res.cell rfl
            have r1 : w38.frozen? ⟨w.heap.size + 1, 0, none⟩ = false := Z8.out.f.res.frozen 0
            refine wpAnyH_ready (rs := [59]) (by kernel_rfl) (by simp) ?_
            refine AllReadyH.cons rfl (fun K hK => ?_) AllReadyH.nil
            go_simp
            refine hK.out _ _ ?_ (fun hHeld => ?_)
            · exact Z8.out.stored HO.out
            clear hK K
            (try simp only [Act.put]); (try simp only [List.setIfInBounds_toArray]); (try simp only [List.set_cons_succ]); (try simp only [List.set_cons_zero])
            refine wpAnyH_done (by kernel_rfl) ?_ _
            refine NoPanic.normal ?_
            go_wp2_with fail
            exact reads_end K8.out Z8.out.f.res _ rfl
          · refine wp_region_noPanic ?_
            refine wp_region_held_drew (S := fun wx => wx.cell? ⟨w2.heap.size, 0, none⟩ = some (.iface 39 (.pointer (some ⟨v.tb 0, 0, none⟩))) ∧ wx.cell? ⟨w2.heap.size, 1, none⟩ = some (.int .u64 (ptrN (nodeOff n) : Nat)) ∧ wx.cell? ⟨w3.heap.size, 0, none⟩ = some (.slice aa ys.length ac) ∧ wx.cell? ⟨w9.heap.size, 0, none⟩ = some (.slice ga ys.length gc) ∧ wx.cell? ⟨g, 1, none⟩ = some (.int .u64 (nWords n 1)) ∧ wx.cell? ⟨g, 2, none⟩ = some (.int .u64 (nWords n 2)) ∧ wx.cell? ⟨g, 3, none⟩ = some (.int .u64 (nWords n 3))) (by kernel_rfl) ?_ (fun hHeld => ?_)
            · exact Z3.out.drew.cells
            refine wpAnyH_take (i := 0) (v := ?_) rfl (by kernel_rfl) (by kernel_rfl) (by kernel_rfl) (fun _ _ _ h => h) (Or.inl ⟨by kernel_rfl, ?_⟩) (by assumption) ?_
            rotate_left 1
            · intro w hSw; (try dsimp only at hSw); (go_simp <;> with_reducible rfl)
            (try simp only [Act.put]); (try simp only [List.setIfInBounds_toArray]); (try simp only [List.set_cons_succ]); (try simp only [List.set_cons_zero])
            refine wpAnyH_take (i := 1) (v := ?_) rfl (by kernel_rfl) (by kernel_rfl) (by kernel_rfl) (fun _ _ _ h => h) (Or.inl ⟨by kernel_rfl, ?_⟩) (by assumption) ?_
            rotate_left 1
            · intro w hSw; (try dsimp only at hSw); (go_simp <;> with_reducible rfl)
            (try simp only [Act.put]); (try simp only [List.setIfInBounds_toArray]); (try simp only [List.set_cons_succ]); (try simp only [List.set_cons_zero])
            refine wpAnyH_take (i := 2) (v := undef) rfl (by kernel_rfl) (by kernel_rfl) (by kernel_rfl) (fun _ _ _ h => h) (Or.inr ⟨by kernel_rfl, rfl⟩) (by assumption) ?_
            (try simp only [Act.put]); (try simp only [List.setIfInBounds_toArray]); (try simp only [List.set_cons_succ]); (try simp only [List.set_cons_zero])
            refine wpAnyH_take (i := 3) (v := undef) rfl (by kernel_rfl) (by kernel_rfl) (by kernel_rfl) (fun _ _ _ h => h) (Or.inr ⟨by kernel_rfl, rfl⟩) (by assumption) ?_
            (try simp only [Act.put]); (try simp only [List.setIfInBounds_toArray]); (try simp only [List.set_cons_succ]); (try simp only [List.set_cons_zero])
            refine wpAnyH_take (i := 4) (v := ?_) rfl (by kernel_rfl) (by kernel_rfl) (by kernel_rfl) (fun _ _ _ h => h) (Or.inl ⟨by kernel_rfl, ?_⟩) (by assumption) ?_
            rotate_left 1
            · intro w hSw; (try dsimp only at hSw); (go_simp <;> with_reducible rfl)
            (try simp only [Act.put]); (try simp only [List.setIfInBounds_toArray]); (try simp only [List.set_cons_succ]); (try simp only [List.set_cons_zero])
            refine wpAnyH_take (i := 5) (v := ?_) rfl (by kernel_rfl) (by kernel_rfl) (by kernel_rfl) (fun _ _ _ h => h) (Or.inl ⟨by kernel_rfl, ?_⟩) (by assumption) ?_
            rotate_left 1
            · intro w hSw; (try dsimp only at hSw); (go_simp <;> with_reducible rfl)
            (try simp only [Act.put]); (try simp only [List.setIfInBounds_toArray]); (try simp only [List.set_cons_succ]); (try simp only [List.set_cons_zero])
            refine wpAnyH_take (i := 6) (v := ?_) rfl (by kernel_rfl) (by kernel_rfl) (by kernel_rfl) (fun _ _ _ h => h) (Or.inl ⟨by kernel_rfl, ?_⟩) (by assumption) ?_
            rotate_left 1
            · intro w hSw; (try dsimp only at hSw); (go_simp <;> with_reducible rfl)
            (try simp only [Act.put]); (try simp only [List.setIfInBounds_toArray]); (try simp only [List.set_cons_succ]); (try simp only [List.set_cons_zero])
            refine wpAnyH_take (i := 7) (v := ?_) rfl (by kernel_rfl) (by kernel_rfl) (by kernel_rfl) (fun _ _ _ h => h) (Or.inl ⟨by kernel_rfl, ?_⟩) (by assumption) ?_
            rotate_left 1
            · intro w hSw; (try dsimp only at hSw); (go_simp <;> with_reducible rfl)
            (try simp only [Act.put]); (try simp only [List.setIfInBounds_toArray]); (try simp only [List.set_cons_succ]); (try simp only [List.set_cons_zero])
            refine wpAnyH_take (i := 8) (v := ?_) rfl (by kernel_rfl) (by kernel_rfl) (by kernel_rfl) (fun _ _ _ h => h) (Or.inl ⟨by kernel_rfl, ?_⟩) (by assumption) ?_
            rotate_left 1
            · intro w hSw; (try dsimp only at hSw); (go_simp <;> with_reducible rfl)
            (try simp only [Act.put]); (try simp only [List.setIfInBounds_toArray]); (try simp only [List.set_cons_succ]); (try simp only [List.set_cons_zero])
            refine wpAnyH_take (i := 9) (v := ?_) rfl (by kernel_rfl) (by kernel_rfl) (by kernel_rfl) (fun _ _ _ h => h) (Or.inl ⟨by kernel_rfl, ?_⟩) (by assumption) ?_
            rotate_left 1
            · intro w hSw; (try dsimp only at hSw); (go_simp <;> with_reducible rfl)
            (try simp only [Act.put]); (try simp only [List.setIfInBounds_toArray]); (try simp only [List.set_cons_succ]); (try simp only [List.set_cons_zero])
            refine wpAnyH_take (i := 10) (v := ?_) rfl (by kernel_rfl) (by kernel_rfl) (by kernel_rfl) (fun _ _ _ h => h) (Or.inl ⟨by kernel_rfl, ?_⟩) (by assumption) ?_
            rotate_left 1
            · intro w hSw; (try dsimp only at hSw); (go_simp <;> with_reducible rfl)
            (try simp only [Act.put]); (try simp only [List.setIfInBounds_toArray]); (try simp only [List.set_cons_succ]); (try simp only [List.set_cons_zero])
            refine wpAnyH_take (i := 11) (v := ?_) rfl (by kernel_rfl) (by kernel_rfl) (by kernel_rfl) (fun _ _ _ h => h) (Or.inl ⟨by kernel_rfl, ?_⟩) (by assumption) ?_
            rotate_left 1
            · intro w hSw; (try dsimp only at hSw); (go_simp <;> with_reducible rfl)
            (try simp only [Act.put]); (try simp only [List.setIfInBounds_toArray]); (try simp only [List.set_cons_succ]); (try simp only [List.set_cons_zero])
            refine wpAnyH_take (i := 12) (v := ?_) rfl (by kernel_rfl) (by kernel_rfl) (by kernel_rfl) (fun _ _ _ h => h) (Or.inl ⟨by kernel_rfl, ?_⟩) (by assumption) ?_
            rotate_left 1
            · intro w hSw; (try dsimp only at hSw); (go_simp <;> with_reducible rfl)
            (try simp only [Act.put]); (try simp only [List.setIfInBounds_toArray]); (try simp only [List.set_cons_succ]); (try simp only [List.set_cons_zero])
            refine wpAnyH_take (i := 13) (v := ?_) rfl (by kernel_rfl) (by kernel_rfl) (by kernel_rfl) (fun _ _ _ h => h) (Or.inl ⟨by kernel_rfl, ?_⟩) (by assumption) ?_
            rotate_left 1
            · intro w hSw; (try dsimp only at hSw); (go_simp <;> with_reducible rfl)
            (try simp only [Act.put]); (try simp only [List.setIfInBounds_toArray]); (try simp only [List.set_cons_succ]); (try simp only [List.set_cons_zero])
            refine wpAnyH_take (i := 14) (v := ?_) rfl (by kernel_rfl) (by kernel_rfl) (by kernel_rfl) (fun _ _ _ h => h) (Or.inl ⟨by kernel_rfl, ?_⟩) (by assumption) ?_
            rotate_left 1
            · intro w hSw; (try dsimp only at hSw); (go_simp <;> with_reducible rfl)
            (try simp only [Act.put]); (try simp only [List.setIfInBounds_toArray]); (try simp only [List.set_cons_succ]); (try simp only [List.set_cons_zero])
            refine wpAnyH_take (i := 15) (v := ?_) rfl (by kernel_rfl) (by kernel_rfl) (by kernel_rfl) (fun _ _ _ h => h) (Or.inl ⟨by kernel_rfl, ?_⟩) (by assumption) ?_
            rotate_left 1
            · intro w hSw; (try dsimp only at hSw); (go_simp <;> with_reducible rfl)
            (try simp only [Act.put]); (try simp only [List.setIfInBounds_toArray]); (try simp only [List.set_cons_succ]); (try simp only [List.set_cons_zero])
            refine wpAnyH_take (i := 16) (v := ?_) rfl (by kernel_rfl) (by kernel_rfl) (by kernel_rfl) (fun _ _ _ h => h) (Or.inl ⟨by kernel_rfl, ?_⟩) (by assumption) ?_
            rotate_left 1
            · intro w hSw; (try dsimp only at hSw); (go_simp <;> with_reducible rfl)
            (try simp only [Act.put]); (try simp only [List.setIfInBounds_toArray]); (try simp only [List.set_cons_succ]); (try simp only [List.set_cons_zero])
            refine wpAnyH_take (i := 17) (v := ?_) rfl (by kernel_rfl) (by kernel_rfl) (by kernel_rfl) (fun _ _ _ h => h) (Or.inl ⟨by kernel_rfl, ?_⟩) (by assumption) ?_
            rotate_left 1
            · intro w hSw; (try dsimp only at hSw); (go_simp <;> with_reducible rfl)
            (try simp only [Act.put]); (try simp only [List.setIfInBounds_toArray]); (try simp only [List.set_cons_succ]); (try simp only [List.set_cons_zero])
            refine wpAnyH_take (i := 18) (v := ?_) rfl (by kernel_rfl) (by kernel_rfl) (by kernel_rfl) (fun _ _ _ h => h) (Or.inl ⟨by kernel_rfl, ?_⟩) (by assumption) ?_
            rotate_left 1
            · intro w hSw; (try dsimp only at hSw); (go_simp <;> with_reducible rfl)
            (try simp only [Act.put]); (try simp only [List.setIfInBounds_toArray]); (try simp only [List.set_cons_succ]); (try simp only [List.set_cons_zero])
            refine wpAnyH_take (i := 19) (v := ?_) rfl (by kernel_rfl) (by kernel_rfl) (by kernel_rfl) (fun _ _ _ h => h) (Or.inl ⟨by kernel_rfl, ?_⟩) (by assumption) ?_
            rotate_left 1
            · intro w hSw; (try dsimp only at hSw); (go_simp <;> with_reducible rfl)
            (try simp only [Act.put]); (try simp only [List.setIfInBounds_toArray]); (try simp only [List.set_cons_succ]); (try simp only [List.set_cons_zero])
            refine wpAnyH_take (i := 21) (v := ?_) rfl (by kernel_rfl) (by kernel_rfl) (by kernel_rfl) (fun _ _ _ h => h) (Or.inl ⟨by kernel_rfl, ?_⟩) (by assumption) ?_
            rotate_left 1
            · intro w hSw; (try dsimp only at hSw); (go_simp <;> with_reducible rfl)
            (try simp only [Act.put]); (try simp only [List.setIfInBounds_toArray]); (try simp only [List.set_cons_succ]); (try simp only [List.set_cons_zero])
            refine wpAnyH_take (i := 22) (v := ?_) rfl (by kernel_rfl) (by kernel_rfl) (by kernel_rfl) (fun _ _ _ h => h) (Or.inl ⟨by kernel_rfl, ?_⟩) (by assumption) ?_
            rotate_left 1
            · intro w hSw; (try dsimp only at hSw); (go_simp <;> with_reducible rfl)
            (try simp only [Act.put]); (try simp only [List.setIfInBounds_toArray]); (try simp only [List.set_cons_succ]); (try simp only [List.set_cons_zero])
            refine wpAnyH_ready (rs := [20]) (by kernel_rfl) (by simp) ?_
            refine AllReadyH.cons rfl (fun K hK => ?_) AllReadyH.nil
            go_simp
            (with_reducible refine (HLn.out _ Z3.out.drew.f).mono ?_)
            rintro e w20 ⟨rfl, b20⟩
            have Z4 := Lib.hid (Z3.out.drew.next b20); have K4 := Lib.hid (K3.out.next (bdrew b20)); clear b20
            go_simp
            refine hK.out _ _ ?_ (fun hHeld => ?_)
            · exact Z4.out.cells
            clear hK K
            (try simp only [Act.put]); (try simp only [List.setIfInBounds_toArray]); (try simp only [List.set_cons_succ]); (try simp only [List.set_cons_zero])
            refine wpAnyH_take (i := 23) (v := ?_) rfl (by kernel_rfl) (by kernel_rfl) (by kernel_rfl) (fun _ _ _ h => h) (Or.inl ⟨by kernel_rfl, ?_⟩) (by assumption) ?_
            rotate_left 1
            · intro w hSw; (try dsimp only at hSw); (go_simp <;> with_reducible rfl)
            (try simp only [Act.put]); (try simp only [List.setIfInBounds_toArray]); (try simp only [List.set_cons_succ]); (try simp only [List.set_cons_zero])
            refine wpAnyH_take (i := 24) (v := ?_) rfl (by kernel_rfl) (by kernel_rfl) (by kernel_rfl) (fun _ _ _ h => h) (Or.inl ⟨by kernel_rfl, ?_⟩) (by assumption) ?_
            rotate_left 1
            · intro w hSw; (try dsimp only at hSw); (go_simp <;> with_reducible rfl)
            (try simp only [Act.put]); (try simp only [List.setIfInBounds_toArray]); (try simp only [List.set_cons_succ]); (try simp only [List.set_cons_zero])
            refine wpAnyH_take (i := 25) (v := ?_) rfl (by kernel_rfl) (by kernel_rfl) (by kernel_rfl) (fun _ _ _ h => h) (Or.inl ⟨by kernel_rfl, ?_⟩) (by assumption) ?_
            rotate_left 1
            · intro w hSw; (try dsimp only at hSw); (go_simp <;> with_reducible rfl)
            (try simp only [Act.put]); (try simp only [List.setIfInBounds_toArray]); (try simp only [List.set_cons_succ]); (try simp only [List.set_cons_zero])
            refine wpAnyH_take (i := 26) (v := ?_) rfl (by kernel_rfl) (by kernel_rfl) (by kernel_rfl) (fun _ _ _ h => h) (Or.inl ⟨by kernel_rfl, ?_⟩) (by assumption) ?_
            rotate_left 1
            · intro w hSw; (try dsimp only at hSw); (go_simp <;> with_reducible rfl)
            (try simp only [Act.put]); (try simp only [List.setIfInBounds_toArray]); (try simp only [List.set_cons_succ]); (try simp only [List.set_cons_zero])
            refine wpAnyH_take (i := 28) (v := ?_) rfl (by kernel_rfl) (by kernel_rfl) (by kernel_rfl) (fun _ _ _ h => h) (Or.inl ⟨by kernel_rfl, ?_⟩) (by assumption) ?_
            rotate_left 1
            · intro w hSw; (try dsimp only at hSw); (go_simp <;> with_reducible rfl)
            (try simp only [Act.put]); (try simp only [List.setIfInBounds_toArray]); (try simp only [List.set_cons_succ]); (try simp only [List.set_cons_zero])
            refine wpAnyH_ready (rs := [27]) (by kernel_rfl) (by simp) ?_
            refine AllReadyH.cons rfl (fun K hK => ?_) AllReadyH.nil
            go_simp
            (with_reducible refine (HKy.out _ Z4.out.f).mono ?_)
            rintro e w27 ⟨kv2, rfl, a27⟩
            have Z5 := Lib.hid (Z4.out.next a27.bel); have K5 := Lib.hid (K4.out.next a27.bel); have A27 := Lib.hid a27.rd; clear a27
            go_simp
            refine hK.out _ _ ?_ (fun hHeld => ?_)
            · exact Z5.out.cells
            clear hK K
            (try simp only [Act.put]); (try simp only [List.setIfInBounds_toArray]); (try simp only [List.set_cons_succ]); (try simp only [List.set_cons_zero])
            refine wpAnyH_ready (rs := [29]) (by kernel_rfl) (by simp) ?_
            refine AllReadyH.cons rfl (fun K hK => ?_) AllReadyH.nil
            go_simp
            (with_reducible refine (equalU_same _ _ _ _ rfl A27.out Z5.out.keys (by simp; omega)).mono ?_)
            rintro e w29 ⟨rfl, b29⟩
            have Z6 := Lib.hid (Z5.out.next b29); have K6 := Lib.hid (K5.out.next b29); clear b29
            go_simp
            refine hK.out _ _ ?_ (fun hHeld => ?_)
            · exact Z6.out.cells
            clear hK K
            (try simp only [Act.put]); (try simp only [List.setIfInBounds_toArray]); (try simp only [List.set_cons_succ]); (try simp only [List.set_cons_zero])
            refine wpAnyH_take (i := 30) (v := ?_) rfl (by kernel_rfl) (by kernel_rfl) (by kernel_rfl) (fun _ _ _ h => h) (Or.inl ⟨by kernel_rfl, ?_⟩) (by assumption) ?_
            rotate_left 1
            · intro w hSw; (try dsimp only at hSw); (go_simp <;> with_reducible rfl)
            (try simp only [Act.put]); (try simp only [List.setIfInBounds_toArray]); (try simp only [List.set_cons_succ]); (try simp only [List.set_cons_zero])
            refine wpAnyH_take (i := 31) (v := ?_) rfl (by kernel_rfl) (by kernel_rfl) (by kernel_rfl) (fun _ _ _ h => h) (Or.inl ⟨by kernel_rfl, ?_⟩) (by assumption) ?_
            rotate_left 1
            · intro w hSw; (try dsimp only at hSw); (go_simp <;> with_reducible rfl)
            (try simp only [Act.put]); (try simp only [List.setIfInBounds_toArray]); (try simp only [List.set_cons_succ]); (try simp only [List.set_cons_zero])
            refine wpAnyH_take (i := 32) (v := ?_) rfl (by kernel_rfl) (by kernel_rfl) (by kernel_rfl) (fun _ _ _ h => h) (Or.inl ⟨by kernel_rfl, ?_⟩) (by assumption) ?_
            rotate_left 1
            · intro w hSw; (try dsimp only at hSw); (go_simp <;> with_reducible rfl)
            (try simp only [Act.put]); (try simp only [List.setIfInBounds_toArray]); (try simp only [List.set_cons_succ]); (try simp only [List.set_cons_zero])
            refine wpAnyH_take (i := 33) (v := ?_) rfl (by kernel_rfl) (by kernel_rfl) (by kernel_rfl) (fun _ _ _ h => h) (Or.inl ⟨by kernel_rfl, ?_⟩) (by assumption) ?_
            rotate_left 1
            · intro w hSw; (try dsimp only at hSw); (go_simp <;> with_reducible rfl)
            (try simp only [Act.put]); (try simp only [List.setIfInBounds_toArray]); (try simp only [List.set_cons_succ]); (try simp only [List.set_cons_zero])
            refine wpAnyH_ready (rs := [34]) (by kernel_rfl) (by simp) ?_
            refine AllReadyH.cons rfl (fun K hK => ?_) AllReadyH.nil
            go_simp
            (with_reducible refine (refSame_same _ _ _ Z6.out.got Z6.out.aft (by omega)).mono ?_)
            rintro e w34 ⟨rfl, b34⟩
            have Z7 := Lib.hid (Z6.out.next b34); have K7 := Lib.hid (K6.out.next b34); clear b34
            go_simp
            refine hK.out _ _ ?_ (fun hHeld => ?_)
            · exact Z7.out.cells
            clear hK K
            (try simp only [Act.put]); (try simp only [List.setIfInBounds_toArray]); (try simp only [List.set_cons_succ]); (try simp only [List.set_cons_zero])
            refine wpAnyH_take (i := 35) (v := ?_) rfl (by kernel_rfl) (by kernel_rfl) (by kernel_rfl) (fun _ _ _ h => h) (Or.inl ⟨by kernel_rfl, ?_⟩) (by assumption) ?_
            rotate_left 1
            · intro w hSw; (try dsimp only at hSw); (go_simp <;> with_reducible rfl)
            (try simp only [Act.put]); (try simp only [List.setIfInBounds_toArray]); (try simp only [List.set_cons_succ]); (try simp only [List.set_cons_zero])
            refine wpAnyH_take (i := 36) (v := ?_) rfl (by kernel_rfl) (by kernel_rfl) (by kernel_rfl) (fun _ _ _ h => h) (Or.inl ⟨by kernel_rfl, ?_⟩) (by assumption) ?_
            rotate_left 1
            · intro w hSw; (try dsimp only at hSw); (go_simp <;> with_reducible rfl)
            (try simp only [Act.put]); (try simp only [List.setIfInBounds_toArray]); (try simp only [List.set_cons_succ]); (try simp only [List.set_cons_zero])
            refine wpAnyH_take (i := 37) (v := ?_) rfl (by kernel_rfl) (by kernel_rfl) (by kernel_rfl) (fun _ _ _ h => h) (Or.inl ⟨by kernel_rfl, ?_⟩) (by assumption) ?_
            rotate_left 1
            · intro w hSw; (try dsimp only at hSw); (go_simp <;> with_reducible rfl)
            (try simp only [Act.put]); (try simp only [List.setIfInBounds_toArray]); (try simp only [List.set_cons_succ]); (try simp only [List.set_cons_zero])
            refine wpAnyH_take (i := 39) (v := ?_) rfl (by kernel_rfl) (by kernel_rfl) (by kernel_rfl) (fun _ _ _ h => h) (Or.inl ⟨by kernel_rfl, ?_⟩) (by assumption) ?_
            rotate_left 1
            · intro w hSw; (try dsimp only at hSw); (go_simp <;> with_reducible rfl)
            (try simp only [Act.put]); (try simp only [List.setIfInBounds_toArray]); (try simp only [List.set_cons_succ]); (try simp only [List.set_cons_zero])
            refine wpAnyH_take (i := 40) (v := ?_) rfl (by kernel_rfl) (by kernel_rfl) (by kernel_rfl) (fun _ _ _ h => h) (Or.inl ⟨by kernel_rfl, ?_⟩) (by assumption) ?_
            rotate_left 1
            · intro w hSw; (try dsimp only at hSw); (go_simp <;> with_reducible rfl)
            (try simp only [Act.put]); (try simp only [List.setIfInBounds_toArray]); (try simp only [List.set_cons_succ]); (try simp only [List.set_cons_zero])
            refine wpAnyH_take (i := 41) (v := ?_) rfl (by kernel_rfl) (by kernel_rfl) (by kernel_rfl) (fun _ _ _ h => h) (Or.inl ⟨by kernel_rfl, ?_⟩) (by assumption) ?_
            rotate_left 1
            · intro w hSw; (try dsimp only at hSw); (go_simp <;> with_reducible rfl)
            (try simp only [Act.put]); (try simp only [List.setIfInBounds_toArray]); (try simp only [List.set_cons_succ]); (try simp only [List.set_cons_zero])
            refine wpAnyH_ready (rs := [38]) (by kernel_rfl) (by simp) ?_
            refine AllReadyH.cons rfl (fun K hK => ?_) AllReadyH.nil
            go_simp
            (with_reducible refine (HNx.out _ Z7.out.f).mono ?_)
            rintro e w38 ⟨rfl, b38⟩
            have Z8 := Lib.hid (Z7.out.next b38); have K8 := Lib.hid (K7.out.next b38); clear b38
            go_simp
            refine hK.out _ _ ?_ (fun hHeld => ?_)
            · exact Z8.out.cells
            clear hK K
            (try simp only [Act.put]); (try simp only [List.setIfInBounds_toArray]); (try simp only [List.set_cons_succ]); (try simp only [List.set_cons_zero])
            refine wpAnyH_take (i := 42) (v := ?_) rfl (by kernel_rfl) (by kernel_rfl) (by kernel_rfl) (fun _ _ _ h => h) (Or.inl ⟨by kernel_rfl, ?_⟩) (by assumption) ?_
            rotate_left 1
            · intro w hSw; (try dsimp only at hSw); (go_simp <;> with_reducible rfl)
            (try simp only [Act.put]); (try simp only [List.setIfInBounds_toArray]); (try simp only [List.set_cons_succ]); (try simp only [List.set_cons_zero])
            refine wpAnyH_take (i := 43) (v := ?_) rfl (by kernel_rfl) (by kernel_rfl) (by kernel_rfl) (fun _ _ _ h => h) (Or.inl ⟨by kernel_rfl, ?_⟩) (by assumption) ?_
            rotate_left 1
            · intro w hSw; (try dsimp only at hSw); (go_simp <;> with_reducible rfl)
            (try simp only [Act.put]); (try simp only [List.setIfInBounds_toArray]); (try simp only [List.set_cons_succ]); (try simp only [List.set_cons_zero])
            refine wpAnyH_take (i := 44) (v := ?_) rfl (by kernel_rfl) (by kernel_rfl) (by kernel_rfl) (fun _ _ _ h => h) (Or.inl ⟨by kernel_rfl, ?_⟩) (by assumption) ?_
            rotate_left 1
            · intro w hSw; (try dsimp only at hSw); (go_simp <;> with_reducible rfl)
            (try simp only [Act.put]); (try simp only [List.setIfInBounds_toArray]); (try simp only [List.set_cons_succ]); (try simp only [List.set_cons_zero])
            refine wpAnyH_take (i := 45) (v := ?_) rfl (by kernel_rfl) (by kernel_rfl) (by kernel_rfl) (fun _ _ _ h => h) (Or.inl ⟨by kernel_rfl, ?_⟩) (by assumption) ?_
            rotate_left 1
            · intro w hSw; (try dsimp only at hSw); (go_simp <;> with_reducible rfl)
            (try simp only [Act.put]); (try simp only [List.setIfInBounds_toArray]); (try simp only [List.set_cons_succ]); (try simp only [List.set_cons_zero])
            refine wpAnyH_take (i := 46) (v := ?_) rfl (by kernel_rfl) (by kernel_rfl) (by kernel_rfl) (fun _ _ _ h => h) (Or.inl ⟨by kernel_rfl, ?_⟩) (by assumption) ?_
            rotate_left 1
            · intro w hSw; (try dsimp only at hSw); (go_simp <;> with_reducible rfl)
            (try simp only [Act.put]); (try simp only [List.setIfInBounds_toArray]); (try simp only [List.set_cons_succ]); (try simp only [List.set_cons_zero])
            refine wpAnyH_take (i := 47) (v := ?_) rfl (by kernel_rfl) (by kernel_rfl) (by kernel_rfl) (fun _ _ _ h => h) (Or.inl ⟨by kernel_rfl, ?_⟩) (by assumption) ?_
            rotate_left 1
            · intro w hSw; (try dsimp only at hSw); (go_simp <;> with_reducible rfl)
            (try simp only [Act.put]); (try simp only [List.setIfInBounds_toArray]); (try simp only [List.set_cons_succ]); (try simp only [List.set_cons_zero])
            refine wpAnyH_take (i := 48) (v := ?_) rfl (by kernel_rfl) (by kernel_rfl) (by kernel_rfl) (fun _ _ _ h => h) (Or.inl ⟨by kernel_rfl, ?_⟩) (by assumption) ?_
            rotate_left 1
            · intro w hSw; (try dsimp only at hSw); (go_simp <;> with_reducible rfl)
            (try simp only [Act.put]); (try simp only [List.setIfInBounds_toArray]); (try simp only [List.set_cons_succ]); (try simp only [List.set_cons_zero])
            refine wpAnyH_take (i := 49) (v := ?_) rfl (by kernel_rfl) (by kernel_rfl) (by kernel_rfl) (fun _ _ _ h => h) (Or.inl ⟨by kernel_rfl, ?_⟩) (by assumption) ?_
            rotate_left 1
            · intro w hSw; (try dsimp only at hSw); (go_simp <;> with_reducible rfl)
            (try simp only [Act.put]); (try simp only [List.setIfInBounds_toArray]); (try simp only [List.set_cons_succ]); (try simp only [List.set_cons_zero])
            refine wpAnyH_take (i := 50) (v := ?_) rfl (by kernel_rfl) (by kernel_rfl) (by kernel_rfl) (fun _ _ _ h => h) (Or.inl ⟨by kernel_rfl, ?_⟩) (by assumption) ?_
            rotate_left 1
            · intro w hSw; (try dsimp only at hSw); (go_simp <;> with_reducible rfl)
            (try simp only [Act.put]); (try simp only [List.setIfInBounds_toArray]); (try simp only [List.set_cons_succ]); (try simp only [List.set_cons_zero])
            refine wpAnyH_take (i := 51) (v := ?_) rfl (by kernel_rfl) (by kernel_rfl) (by kernel_rfl) (fun _ _ _ h => h) (Or.inl ⟨by kernel_rfl, ?_⟩) (by assumption) ?_
            rotate_left 1
            · intro w hSw; (try dsimp only at hSw); (go_simp <;> with_reducible rfl)
            (try simp only [Act.put]); (try simp only [List.setIfInBounds_toArray]); (try simp only [List.set_cons_succ]); (try simp only [List.set_cons_zero])
            refine wpAnyH_take (i := 52) (v := ?_) rfl (by kernel_rfl) (by kernel_rfl) (by kernel_rfl) (fun _ _ _ h => h) (Or.inl ⟨by kernel_rfl, ?_⟩) (by assumption) ?_
            rotate_left 1
            · intro w hSw; (try dsimp only at hSw); (go_simp <;> with_reducible rfl)
            (try simp only [Act.put]); (try simp only [List.setIfInBounds_toArray]); (try simp only [List.set_cons_succ]); (try simp only [List.set_cons_zero])
            refine wpAnyH_take (i := 53) (v := ?_) rfl (by kernel_rfl) (by kernel_rfl) (by kernel_rfl) (fun _ _ _ h => h) (Or.inl ⟨by kernel_rfl, ?_⟩) (by assumption) ?_
            rotate_left 1
            · intro w hSw; (try dsimp only at hSw); (go_simp <;> with_reducible rfl)
            (try simp only [Act.put]); (try simp only [List.setIfInBounds_toArray]); (try simp only [List.set_cons_succ]); (try simp only [List.set_cons_zero])
            refine wpAnyH_take (i := 54) (v := ?_) rfl (by kernel_rfl) (by kernel_rfl) (by kernel_rfl) (fun _ _ _ h => h) (Or.inl ⟨by kernel_rfl, ?_⟩) (by assumption) ?_
            rotate_left 1
            · intro w hSw; (try dsimp only at hSw); (go_simp <;> with_reducible rfl)
            (try simp only [Act.put]); (try simp only [List.setIfInBounds_toArray]); (try simp only [List.set_cons_succ]); (try simp only [List.set_cons_zero])
            refine wpAnyH_take (i := 55) (v := ?_) rfl (by kernel_rfl) (by kernel_rfl) (by kernel_rfl) (fun _ _ _ h => h) (Or.inl ⟨by kernel_rfl, ?_⟩) (by assumption) ?_
            rotate_left 1
            · intro w hSw; (try dsimp only at hSw); (go_simp <;> with_reducible rfl)
            (try simp only [Act.put]); (try simp only [List.setIfInBounds_toArray]); (try simp only [List.set_cons_succ]); (try simp only [List.set_cons_zero])
            refine wpAnyH_take (i := 56) (v := ?_) rfl (by kernel_rfl) (by kernel_rfl) (by kernel_rfl) (fun _ _ _ h => h) (Or.inl ⟨by kernel_rfl, ?_⟩) (by assumption) ?_
            rotate_left 1
            · intro w hSw; (try dsimp only at hSw); (go_simp <;> with_reducible rfl)
            (try simp only [Act.put]); (try simp only [List.setIfInBounds_toArray]); (try simp only [List.set_cons_succ]); (try simp only [List.set_cons_zero])
            refine wpAnyH_take (i := 57) (v := ?_) rfl (by kernel_rfl) (by kernel_rfl) (by kernel_rfl) (fun _ _ _ h => h) (Or.inl ⟨by kernel_rfl, ?_⟩) (by assumption) ?_
            rotate_left 1
            · intro w hSw; (try dsimp only at hSw); (go_simp <;> with_reducible rfl)
            (try simp only [Act.put]); (try simp only [List.setIfInBounds_toArray]); (try simp only [List.set_cons_succ]); (try simp only [List.set_cons_zero])
            refine wpAnyH_take (i := 58) (v := ?_) rfl (by kernel_rfl) (by kernel_rfl) (by kernel_rfl) (fun _ _ _ h => h) (Or.inl ⟨by kernel_rfl, ?_⟩) (by assumption) ?_
            rotate_left 1
            · intro w hSw; (try dsimp only at hSw); (go_simp <;> with_reducible rfl)
            (try simp only [Act.put]); (try simp only [List.setIfInBounds_toArray]); (try simp only [List.set_cons_succ]); (try simp only [List.set_cons_zero])
            have r0 : w38.cell? ⟨w.heap.size + 1, 0, none⟩ = some (.bool false) := Z8.out.f.res.cell rfl
            have r1 : w38.frozen? ⟨w.heap.size + 1, 0, none⟩ = false := Z8.out.f.res.frozen 0
            refine wpAnyH_ready (rs := [59]) (by kernel_rfl) (by simp) ?_
            refine AllReadyH.cons rfl (fun K hK => ?_) AllReadyH.nil
            go_simp
            refine hK.out _ _ ?_ (fun hHeld => ?_)
            · exact Z8.out.stored HO.out
            clear hK K
            (try simp only [Act.put]); (try simp only [List.setIfInBounds_toArray]); (try simp only [List.set_cons_succ]); (try simp only [List.set_cons_zero])
            refine wpAnyH_done (by kernel_rfl) ?_ _
            refine NoPanic.normal ?_
            go_wp2_with fail
            exact reads_end K8.out Z8.out.f.res _ rfl
end
end Go.Proofs.Ytkoijmoendepgaa
