/- The reference's Unpack at a name's two words; its Find at a directory with any names. -/
import Derived.Test.YtmfchlliechikaaGreatDoorRtR
import Derived.Test.YtmfchlliechikaaGreatDoorRtT
import Derived.Test.YtmfchlliechikaaGreatDoorDevI
import Derived.Test.YtmfchlliechikaaGreatDoorRuI
import Derived.BigQuiet
import Derived.Test.YtmfchlliechikaaGreatDoorRtY
import Derived.Laws.BytesArg
import Derived.Test.YtmfchlliechikaaGreatDoorRuP
import Derived.Deep.CutBlock
import Derived.Deep.DeepCutAuto
import Derived.Laws.BitsAllLaws
import Derived.BigRegion
import Derived.Deep.RegionHeld3
import Derived.Test.YtmfchlliechikaaGreatDoorR10
import Derived.Test.YtmfchlliechikaaGreatDoorOpenR
namespace Go.Proofs.YtmfchlliechikaaGreatDoor
open Go.RowKit Go.Maps
attribute [local go_sem ↓] Go.wp_at_zero Go.wp_at_succ

/-- The first bytes of two words, as cells. -/
def bysR (x y n : Nat) : List Value := (List.range n).map fun i => .int .u8 (byteAt (pairF x y) i)
theorem bysR_snoc (x y n : Nat) : bysR x y (n + 1) = bysR x y n ++ [.int .u8 (byteAt (pairF x y) n)] := by simp [bysR, List.range_succ]
theorem bysR_len (x y n : Nat) : (bysR x y n).length = n := by simp [bysR]
section
variable {w : World}
set_option maxRecDepth 100000 in
set_option maxHeartbeats 4000000 in
theorem r01Unpack_any (sv : Value) (x y : Nat) (h : RdSl w 1 sv 2 (natsU [x, y])) (hx : x < 18446744073709551616) (hy : y < 18446744073709551616) :
    Calls Tryz.prog 51 #[sv, .int .i64 16] w fun r w' => ∃ ov, r = .returned (.tuple #[ov, .int .i64 0]) ∧ Acc w w.heap.size w' 5 1 ov 16 (bysR x y 16) := by
  obtain ⟨_, a, c, rfl, hc, h2⟩ := h
  obtain ⟨i0, hi0, hz0, hz1, hz2⟩ := info_parts infoU8
  have I := Lib.hid (And.intro hi0 (And.intro hz0 (And.intro hz1 hz2))); clear hi0 hz0 hz1 hz2
  have HR := Lib.hid h2
  have HF : Hid (∀ i, i < 2 → 0 ≤ pairF x y i ∧ pairF x y i < 18446744073709551616 ∧ (natsU [x, y])[i]? = some (.int .u64 (pairF x y i))) := fun i hi => by
    rcases i with _ | _ | i
    · exact ⟨by show 0 ≤ ((x : Nat) : Int); omega, by show ((x : Nat) : Int) < _; omega, rfl⟩
    · exact ⟨by show 0 ≤ ((y : Nat) : Int); omega, by show ((y : Nat) : Int) < _; omega, rfl⟩
    · omega
  have A0 : Hid (Acc w w.heap.size w 5 1 (.slice none 0 0) 0 (bysR x y 0)) := Acc.nil _ _ _ _ _ (Below.refl _ _) (Nat.le_refl _)
  have HSN := Lib.hid (bysR_snoc x y)
  have HBA : Hid (∀ i, byteAt (pairF x y) i = pairF x y (i / 8) / 2 ^ (i % 8 * 8) % 256) := fun _ => rfl
  generalize pairF x y = f at *
  generalize natsU [x, y] = ns at *
  clear h2 hx hy
  go_enter Tryz.func51, Tryz.ntmps51
  go_wp2_with fail
  go_loopw [6, 7, 8] (fun ov z _ wr => ∃ k : Nat, k ≤ 16 ∧ z = .int .i64 k ∧ Acc w w.heap.size wr 5 1 ov k (bysR x y k)) (fun _ z _ _ => 16 - (intOf z).toNat)
  case atStart => exact ⟨0, by omega, rfl, A0.out⟩
  case round =>
    clear A0
    obtain ⟨k, hk, rfl, hA⟩ := hrel
    have A := Lib.hid hA
    obtain ⟨oa, oc, rfl⟩ := hA.slice
    clear hA
    by_cases hlt : k < 16
    · have hlt' : (k : Int) < 16 := by omega
      obtain ⟨d, hd⟩ : ∃ d, k / 8 = d := ⟨_, rfl⟩
      obtain ⟨r, hr⟩ : ∃ r, k % 8 = r := ⟨_, rfl⟩
      have q2 : (k : Int) / 8 = d := by omega
      have q3 : (k : Int) % 8 = r := by omega
      have hdn : (d : Int) < 2 := by omega
      have hr8 : r < 8 := by omega
      obtain ⟨f1, f2, hx⟩ := HF.out d (by omega)
      obtain ⟨b, o, rfl, h3⟩ := rd_at HR.out hx
      have c1 := (A.out.bel.cell (p := ⟨b, o + d, none⟩) (World.block_lt_of_cell? _ _ (h3 d _ hx))).trans (h3 d _ hx)
      have HB2 : Hid (byteAt f k = f d / 2 ^ (r * 8) % 256) := by show _ = _; rw [HBA.out, hd, hr]
      have HVAL : Hid (f d / 2 ^ (8 * r) % 256 = byteAt f k) := by show _ = _; rw [HB2.out, Nat.mul_comm]
      clear hx h3 hd hr
      go_wp2_with (at_builtin; refine wpList_append_sl _ rfl _ _ 95 rfl 5 i0 _ 1 1 Tryz.underlying95 I.out.1 I.out.2.1 I.out.2.2.1 I.out.2.2.2 rfl (by decide) _ k (bysR x y k) rfl (by exact A.out.own.alloc _) _ 1 [.int .u8 (f d / 2 ^ (8 * r) % 256)] rfl (by exact RdSl.newAt _ _ _ 1 1 _ (by simp) rfl) (fun u hu => by rw [List.mem_singleton] at hu; subst hu; rfl) (by unfold maxLen; omega) (by omega) ?_)
      intro v1 w6 o1 g1 n1 m1
      have A4 : Hid (Acc w w.heap.size w6 5 1 v1 (k + 1) (bysR x y (k + 1))) := by
        show Acc _ _ _ _ _ _ _ _
        have := A.out.next (m := 1) (below_alloc wr _) o1 g1 n1 (by simp)
        rw [HVAL.out, ← HSN.out] at this
        exact this
      clear o1 g1 n1 m1 A
      go_wp2_with fail
      go_roundw
      case rel => exact ⟨k + 1, by omega, by go_num, A4.out⟩
      case measure => simp [intOf]; omega
    · obtain rfl : k = 16 := by omega
      go_wp2_with fail
      go_ret2
      exact ⟨_, rfl, A.out⟩
/-- What Find answers over any names. -/
def fndN (nm : Nat → ByteArray) (l : List UInt8) : Int := if firstI (fun e => !(nm e).toList.isEmpty && (nm e).toList == l) 16 < 16 then (firstI (fun e => !(nm e).toList.isEmpty && (nm e).toList == l) 16 : Int) else -1
theorem fndN_pos (nm : Nat → ByteArray) (l : List UInt8) : (0 ≤ fndN nm l) ↔ ∃ e, e < 16 ∧ (nm e).toList.isEmpty = false ∧ (nm e).toList = l := by
  unfold fndN
  obtain ⟨h1, h2⟩ := firstI_spec (fun e => !(nm e).toList.isEmpty && (nm e).toList == l) 16
  constructor
  · intro h
    split at h
    · rename_i hlt
      have := h2 hlt
      simp only [Bool.and_eq_true, Bool.not_eq_true', beq_iff_eq] at this
      exact ⟨_, hlt, this.1, this.2⟩
    · omega
  · rintro ⟨e, he, h3, h4⟩
    rcases Nat.lt_or_ge (firstI (fun e => !(nm e).toList.isEmpty && (nm e).toList == l) 16) 16 with h | h
    · rw [if_pos h]; omega
    · have := h1 e (by omega)
      rw [h3, h4] at this
      simp at this
set_option maxRecDepth 100000 in
set_option maxHeartbeats 4000000 in
theorem r14FindG_any {b a : Nat} {nm : Nat → ByteArray} {pt W : Nat → Nat} (h : Blk w b (rfA a nm pt W) 38) (s : ByteArray) : Calls Tryz.prog 33 #[.pointer (some ⟨b, 0, none⟩), .string s] w fun r w' => r = .returned (.int .i64 (fndN nm s.toList)) ∧ Below w.heap.size w w' := by
  have HRG : Hid (w.rangeAt b 1 (rfL nm pt W)) := fun j v hv => h.cell (by
    unfold rfA
    rw [Nat.add_comm]
    simpa using hv)
  have HIF : Hid ((Tryz.prog.info? 36).map (·.size) = some (rfL nm pt W).length) := by show _ = _; rw [rfL_len]; kernel_rfl
  have HIX := Lib.hid (fun (e : Nat) (he : e < 16) (wx : World) => idxR nm pt W e he wx)
  obtain ⟨p, hp⟩ : ∃ p : Nat → Bool, (fun e => !(nm e).toList.isEmpty && (nm e).toList == s.toList) = p := ⟨_, rfl⟩
  have HP : Hid (∀ e, p e = (!(nm e).toList.isEmpty && (nm e).toList == s.toList)) := fun e => (congrFun hp e).symm
  have hfn : fndN nm s.toList = if firstI p 16 < 16 then (firstI p 16 : Int) else -1 := by rw [← hp]; rfl
  have HHIT : Hid (∀ e, e < 16 → p e = true → (∀ j, j < e → p j = false) → firstI p 16 = e) := fun e he hp hn => firstI_hit he hp hn
  have HNO : Hid ((∀ e, e < 16 → p e = false) → firstI p 16 = 16) := fun h => firstI_none h
  have HRV := Lib.hid hfn
  have HA : Hid (∃ L, rfL nm pt W = L) := ⟨_, rfl⟩
  obtain ⟨L, hL⟩ := HA.out
  rw [hL] at HRG HIF HIX
  generalize fndN nm s.toList = rv at *
  generalize firstI p 16 = res at *
  clear hp hL HA h hfn
  go_enter Tryz.func33, Tryz.ntmps33
  go_wp2_with (refine wpList_load_mid rfl 36 (.tmp 9) rfl b 1 rfl L _ HRG.out Tryz.underlying36 rfl HIF.out ?_)
  go_loopw [5, 6, 11] (fun _ _ y wr => ∃ e : Nat, e ≤ 16 ∧ y = .int .i64 e ∧ Below w.heap.size w wr ∧ NoneB p e) (fun _ _ y _ => 16 - (intOf y).toNat)
  case atStart => exact ⟨0, by omega, rfl, Below.refl _ _, fun j hj => by omega⟩
  case round =>
    obtain ⟨e, he, rfl, hx, hno⟩ := hrel
    have X := Lib.hid hx; have NO := Lib.hid hno
    clear hx hno
    by_cases hlt : e < 16
    · have he' : (e : Int) < 16 := by omega
      have hix := fun wx => HIX.out e hlt wx
      have hpe := HP.out e
      have HHE := Lib.hid (HHIT.out e hlt)
      unfold rfE at hix
      generalize nm e = es at *
      generalize pt e = pe at *
      obtain ⟨x0, hx0⟩ : ∃ x, W (4 * e) = x := ⟨_, rfl⟩
      obtain ⟨x1, hx1⟩ : ∃ x, W (4 * e + 1) = x := ⟨_, rfl⟩
      obtain ⟨x2, hx2⟩ : ∃ x, W (4 * e + 2) = x := ⟨_, rfl⟩
      obtain ⟨x3, hx3⟩ : ∃ x, W (4 * e + 3) = x := ⟨_, rfl⟩
      rw [hx0, hx1, hx2, hx3] at hix
      have X1 := Lib.hid (X.out.trans ((below_alloc wr (.cells #[.string es, .int .u64 pe, .int .u64 x0, .int .u64 x1, .int .u64 x2, .int .u64 x3] 35)).mono X.out.size))
      clear hx0 hx1 hx2 hx3
      cases hq0 : es.toList.isEmpty
      · rw [hq0] at hpe
        cases hcmp : (es.toList == s.toList)
        · have NO2 : Hid (NoneB p (e + 1)) := fun j hj => by
            by_cases ej : j = e
            · subst ej; rw [hpe, hcmp]; rfl
            · exact NO.out j (by omega)
          clear hpe
          go_wp2_with fail
          go_roundw
          case rel => exact ⟨e + 1, by omega, by go_num, X1.out, NO2.out⟩
          case measure => simp [intOf]; omega
        · have HR : Hid (rv = e) := by show _ = _; rw [HRV.out, HHE.out (by rw [hpe, hcmp]; rfl) NO.out, if_pos hlt]
          clear hpe
          go_wp2_with fail
          go_ret
          exact ⟨(by rw [HR.out]; first | done | rfl), X1.out⟩
      · rw [hq0] at hpe
        have NO2 : Hid (NoneB p (e + 1)) := fun j hj => by
          by_cases ej : j = e
          · subst ej; rw [hpe]; rfl
          · exact NO.out j (by omega)
        clear hpe
        go_wp2_with fail
        go_roundw
        case rel => exact ⟨e + 1, by omega, by go_num, X1.out, NO2.out⟩
        case measure => simp [intOf]; omega
    · obtain rfl : e = 16 := by omega
      have HR : Hid (rv = -1) := by show _ = _; rw [HRV.out, HNO.out NO.out, if_neg (by omega)]
      go_wp2_with fail
      go_ret
      exact ⟨(by rw [HR.out]; first | done | rfl), X.out⟩
end
end Go.Proofs.YtmfchlliechikaaGreatDoor

/- Plain: what the reference's Read makes of a directory's words. -/
namespace Go.Proofs.YtmfchlliechikaaGreatDoor
open Go.RowKit Go.Maps

/-- An entry that Read takes. -/
def gdE (V : Nat → Nat) (e : Nat) : Bool := usedE V e && !badE V e
def nmP (V : Nat → Nat) (i e : Nat) : ByteArray := if e < i ∧ gdE V e = true then nmS (V (4 * e)) (V (4 * e + 1)) else { data := #[] }
def ptP (V : Nat → Nat) (i e : Nat) : Nat := if e < i ∧ gdE V e = true then V (4 * e + 2) else 0
def wdP (V : Nat → Nat) (i j : Nat) : Nat := if j < 4 * i then V j else 0
theorem wdP_step (V : Nat → Nat) (i : Nat) : (fun j => if j = 4 * i + 3 then V (4 * i + 3) else if j = 4 * i + 2 then V (4 * i + 2) else if j = 4 * i + 1 then V (4 * i + 1) else if j = 4 * i then V (4 * i) else wdP V i j) = wdP V (i + 1) := by
  funext j
  unfold wdP
  by_cases h3 : j = 4 * i + 3
  · rw [if_pos h3, if_pos (by omega), h3]
  · rw [if_neg h3]
    by_cases h2 : j = 4 * i + 2
    · rw [if_pos h2, if_pos (by omega), h2]
    · rw [if_neg h2]
      by_cases h1 : j = 4 * i + 1
      · rw [if_pos h1, if_pos (by omega), h1]
      · rw [if_neg h1]
        by_cases h0 : j = 4 * i
        · rw [if_pos h0, if_pos (by omega), h0]
        · rw [if_neg h0]
          by_cases h : j < 4 * i
          · rw [if_pos h, if_pos (by omega)]
          · rw [if_neg h, if_neg (by omega)]
theorem rfA_seg (a : Nat) (nm : Nat → ByteArray) (pt W : Nat → Nat) (e : Nat) (he : e < 16) (x0 x1 x2 x3 : Nat) :
    ((rfA a nm pt W).toList.take (1 + e * 6 + 2) ++ [Value.int .u64 x0, Value.int .u64 x1, Value.int .u64 x2, Value.int .u64 x3] ++ (rfA a nm pt W).toList.drop (1 + e * 6 + 2 + 4)).toArray = rfA a nm pt (fun j => if j = 4 * e + 3 then x3 else if j = 4 * e + 2 then x2 else if j = 4 * e + 1 then x1 else if j = 4 * e then x0 else W j) := by
  obtain rfl | rfl | rfl | rfl | rfl | rfl | rfl | rfl | rfl | rfl | rfl | rfl | rfl | rfl | rfl | rfl : e = 0 ∨ e = 1 ∨ e = 2 ∨ e = 3 ∨ e = 4 ∨ e = 5 ∨ e = 6 ∨ e = 7 ∨ e = 8 ∨ e = 9 ∨ e = 10 ∨ e = 11 ∨ e = 12 ∨ e = 13 ∨ e = 14 ∨ e = 15 := by omega
  all_goals kernel_rfl
theorem nmP_good {V : Nat → Nat} {i : Nat} (h : gdE V i = true) : (fun e => if e = i then nmS (V (4 * i)) (V (4 * i + 1)) else nmP V i e) = nmP V (i + 1) ∧ (fun e => if e = i then V (4 * i + 2) else ptP V i e) = ptP V (i + 1) := by
  constructor
  · funext e
    unfold nmP
    by_cases he : e = i
    · subst he; rw [if_pos rfl, if_pos ⟨by omega, h⟩]
    · rw [if_neg he]
      by_cases hc : e < i ∧ gdE V e = true
      · rw [if_pos hc, if_pos ⟨by omega, hc.2⟩]
      · rw [if_neg hc, if_neg (fun k => hc ⟨by omega, k.2⟩)]
  · funext e
    unfold ptP
    by_cases he : e = i
    · subst he; rw [if_pos rfl, if_pos ⟨by omega, h⟩]
    · rw [if_neg he]
      by_cases hc : e < i ∧ gdE V e = true
      · rw [if_pos hc, if_pos ⟨by omega, hc.2⟩]
      · rw [if_neg hc, if_neg (fun k => hc ⟨by omega, k.2⟩)]
theorem nmP_skip {V : Nat → Nat} {i : Nat} (h : gdE V i = false) : nmP V i = nmP V (i + 1) ∧ ptP V i = ptP V (i + 1) := by
  have hne : ∀ e, (e < i ∧ gdE V e = true) ↔ (e < i + 1 ∧ gdE V e = true) := fun e => by
    constructor
    · exact fun k => ⟨by omega, k.2⟩
    · intro k
      refine ⟨?_, k.2⟩
      rcases Nat.lt_or_ge e i with h1 | h1
      · exact h1
      · obtain rfl : e = i := by omega
        rw [h] at k; cases k.2
  constructor
  · funext e
    unfold nmP
    by_cases hc : e < i ∧ gdE V e = true
    · rw [if_pos hc, if_pos ((hne e).1 hc)]
    · rw [if_neg hc, if_neg (fun k => hc ((hne e).2 k))]
  · funext e
    unfold ptP
    by_cases hc : e < i ∧ gdE V e = true
    · rw [if_pos hc, if_pos ((hne e).1 hc)]
    · rw [if_neg hc, if_neg (fun k => hc ((hne e).2 k))]
theorem zeroB : rfA 192 (fun _ => { data := #[] }) (fun _ => 0) (fun _ => 0) = Tryz.zeroCells38.setIfInBounds 0 (.int .u64 192) := by kernel_rfl
theorem rd_zero (V : Nat → Nat) : rfA 192 (nmP V 0) (ptP V 0) (wdP V 0) = Tryz.zeroCells38.setIfInBounds 0 (.int .u64 192) := by
  have e1 : nmP V 0 = fun _ => { data := #[] } := funext fun e => if_neg (by omega)
  have e2 : ptP V 0 = fun _ => 0 := funext fun e => if_neg (by omega)
  have e3 : wdP V 0 = fun _ => 0 := funext fun e => if_neg (by omega)
  rw [e1, e2, e3]
  exact zeroB
theorem rfA_congr {a : Nat} {nm nm' : Nat → ByteArray} {pt pt' W W' : Nat → Nat} (h1 : ∀ e, e < 16 → nm e = nm' e) (h2 : ∀ e, e < 16 → pt e = pt' e) (h3 : ∀ j, j < 64 → W j = W' j) : rfA a nm pt W = rfA a nm' pt' W' := by
  have : rfL nm pt W = rfL nm' pt' W' := by
    unfold rfL
    rw [List.flatMap_def, List.flatMap_def]
    congr 1
    refine List.map_congr_left fun e he => ?_
    have he := List.mem_range.1 he
    unfold rfE
    rw [h1 e he, h2 e he, h3 (4 * e) (by omega), h3 (4 * e + 1) (by omega), h3 (4 * e + 2) (by omega), h3 (4 * e + 3) (by omega)]
  unfold rfA
  rw [this]
theorem bad_none {V : Nat → Nat} {n : Nat} (h : (List.range n).any (badE V) = false) (e : Nat) (he : e < n) : badE V e = false := by
  rw [List.any_eq_false] at h
  have := h e (List.mem_range.2 he)
  simpa using this
/-- Behind the last entry, if none is wrong. -/
theorem rd_fin {V : Nat → Nat} (a : Nat) (h : (List.range 16).any (badE V) = false) : rfA a (nmP V 16) (ptP V 16) (wdP V 16) = rfA a (nmR V) (ptR V) V := by
  refine rfA_congr (fun e he => ?_) (fun e he => ?_) (fun j hj => if_pos (by omega))
  · have hb := bad_none h e he
    unfold nmP nmR gdE
    rw [hb]
    by_cases h3 : V (4 * e + 3) = 0
    · rw [if_pos h3, if_neg (by simp [usedE, h3])]
    · rw [if_neg h3, if_pos ⟨he, by simp [usedE, h3]⟩]
  · have hb := bad_none h e he
    unfold ptP ptR gdE
    rw [hb]
    by_cases h3 : V (4 * e + 3) = 0
    · rw [if_pos h3, if_neg (by simp [usedE, h3])]
    · rw [if_neg h3, if_pos ⟨he, by simp [usedE, h3]⟩]
/-- Whether a name stands ahead, if no entry ahead is wrong. -/
theorem rd_find {V : Nat → Nat} {i : Nat} (hi : i ≤ 16) (h : (List.range i).any (badE V) = false) (hu : usedE V i = true) (hn : nameB (nameE V i) = true) : (0 ≤ fndN (nmP V i) (nameE V i)) ↔ dupE V i = true := by
  have hpos := (nameB_ok hn).pos
  rw [fndN_pos]
  unfold dupE
  rw [hu, Bool.true_and, decide_eq_true_eq]
  unfold keysE
  rw [List.mem_map]
  constructor
  · rintro ⟨e, he, h1, h2⟩
    unfold nmP at h1 h2
    by_cases hc : e < i ∧ gdE V e = true
    · rw [if_pos hc] at h2
      refine ⟨e, ?_, ?_⟩
      · rw [List.mem_filter, List.mem_range]
        have := hc.2
        unfold gdE at this
        simp only [Bool.and_eq_true] at this
        exact ⟨hc.1, this.1⟩
      · rw [← h2, nmS_list]; rfl
    · rw [if_neg hc, show ({ data := #[] } : ByteArray).toList.isEmpty = true by kernel_rfl] at h1
      cases h1
  · rintro ⟨e, he, h2⟩
    rw [List.mem_filter, List.mem_range] at he
    have hb := bad_none h e he.1
    have hc : e < i ∧ gdE V e = true := ⟨he.1, by unfold gdE; rw [he.2, hb]; rfl⟩
    have hl : (nmP V i e).toList = nameE V i := by
      unfold nmP
      rw [if_pos hc, nmS_list, ← h2]; rfl
    refine ⟨e, by omega, ?_, hl⟩
    rw [hl]
    cases hq : nameE V i with
    | nil => rw [hq] at hpos; simp at hpos
    | cons a l => rfl
/-- What a directory that opens is. -/
theorem opn_inv {V : Nat → Nat} (h : opnE V = 0) : InvW V ∧ InvD V := by
  have h1 : (List.range 16).any (badE V) = false := by
    cases hb : (List.range 16).any (badE V)
    · rfl
    · unfold opnE at h; rw [hb] at h; simp at h
  have h2 : twE V 16 = false := by
    cases hb : twE V 16
    · rfl
    · unfold opnE at h; rw [h1, hb] at h; simp at h
  have hd : ∀ f, f < 16 → dupE V f = false := fun f hf => by
    unfold twE at h2
    rw [List.any_eq_false] at h2
    have := h2 f (List.mem_range.2 hf)
    simpa using this
  have key : ∀ e f, e < f → f < 16 → V (4 * e + 3) ≠ 0 → V (4 * f + 3) ≠ 0 → nameE V e = nameE V f → False := fun e f hef hf he3 hf3 hn => by
    have := hd f hf
    unfold dupE at this
    have hm : nameE V f ∈ keysE V f := by
      unfold keysE
      rw [List.mem_map]
      refine ⟨e, ?_, hn⟩
      rw [List.mem_filter, List.mem_range]
      exact ⟨hef, by simp [usedE, he3]⟩
    simp [usedE, hf3, hm] at this
  refine ⟨fun e he h3 => ?_, fun e f he hf he3 hf3 hn => ?_⟩
  · have := bad_none h1 e he
    unfold badE at this
    simp [usedE, h3] at this
    exact this.2
  · rcases Nat.lt_trichotomy e f with h | h | h
    · exact (key e f h hf he3 hf3 hn).elim
    · exact h
    · exact (key f e h he hf3 he3 hn.symm).elim
theorem any_succ (p : Nat → Bool) (i : Nat) : (List.range (i + 1)).any p = ((List.range i).any p || p i) := by
  rw [List.range_succ, List.any_append]; simp
end Go.Proofs.YtmfchlliechikaaGreatDoor

/- The walk of the reference's Read. -/
namespace Go.Proofs.YtmfchlliechikaaGreatDoor
open Go.RowKit Go.Maps
attribute [local go_sem ↓] Go.wp_at_zero Go.wp_at_succ

section
variable {w wr : World} {V : Nat → Nat}
/-- Where Read stands. -/
structure RdSt (w : World) (V : Nat → Nat) (i : Nat) (sm tw : Bool) (wr : World) : Prop where
  blk : Blk wr w.heap.size (rfA 192 (nmP V i) (ptP V i) (wdP V i)) 38
  bel : Below w.heap.size w wr
  hsm : sm = (List.range i).any (badE V)
  htw : sm = false → tw = twE V i
theorem read_copy {wx : World} {b g q c d e : Nat} (V : Nat → Nat) (he : e < 16) (hd : 4 * e = d) {nm : Nat → ByteArray} {pt : Nat → Nat} (hk : Blk wx b (rfA 192 nm pt (wdP V e)) 38) (hs : ∀ j u, (natsU ((List.range 64).map V))[j]? = some u → wx.cell? ⟨g, q + j, none⟩ = some u) :
    ∃ wy, (∀ ty, (Builtin.copy_ #[44, 44] ty #[.slice (some ⟨b, 1 + e * 6 + 2, none⟩) 4 4, .slice (some ⟨g, q + d, none⟩) 4 c]).run Tryz.prog wx = .ok (goInt 4) wy) ∧
      Blk wy b (rfA 192 nm pt (wdP V (e + 1))) 38 ∧ (∀ k, k ≠ b → wy.heap[k]? = wx.heap[k]?) ∧ (∀ B w0, B ≤ b → Below B w0 wx → Below B w0 wy) := by
  have hr2 := fun ty => run_copy_row (P := Tryz.prog) wx 44 44 ty 32 b (1 + e * 6 + 2) 4 4 ⟨g, q + d, none⟩ 4 c (rfA 192 nm pt (wdP V e)) 38 [.int .u64 (V (4 * e) : Nat), .int .u64 (V (4 * e + 1) : Nat), .int .u64 (V (4 * e + 2) : Nat), .int .u64 (V (4 * e + 3) : Nat)] Tryz.underlying44 sizeU64p hk rfl
    (fun j u hj => by
      rw [Addr.add_lit, Nat.add_assoc]
      refine hs (d + j) u ?_
      have hj4 : j < 4 := (List.getElem?_eq_some_iff.1 hj).1
      unfold natsU
      rw [List.getElem?_map, List.getElem?_map, List.getElem?_range (by omega), ← hd]
      obtain rfl | rfl | rfl | rfl : j = 0 ∨ j = 1 ∨ j = 2 ∨ j = 3 := by omega
      all_goals (cases hj; rfl))
    (by rw [rfA_size]; show 1 + e * 6 + 2 + 4 ≤ 97; omega) (fun u hu => by simp at hu; rcases hu with rfl | rfl | rfl | rfl <;> rfl)
  refine ⟨_, fun ty => hr2 ty, ?_, fun k hk => setRow_other _ _ _ _ hk, fun B w0 hB hb => below_setRow hb hB _⟩
  have hsg := rfA_seg 192 nm pt (wdP V e) e he (V (4 * e)) (V (4 * e + 1)) (V (4 * e + 2)) (V (4 * e + 3))
  rw [wdP_step V e] at hsg
  have := setRow_heap wx b (rfA 192 nm pt (wdP V e)) ((rfA 192 nm pt (wdP V e)).toList.take (1 + e * 6 + 2) ++ [Value.int .u64 (V (4 * e) : Nat), Value.int .u64 (V (4 * e + 1) : Nat), Value.int .u64 (V (4 * e + 2) : Nat), Value.int .u64 (V (4 * e + 3) : Nat)] ++ (rfA 192 nm pt (wdP V e)).toList.drop (1 + e * 6 + 2 + 4)).toArray 38 (0, 0) hk
  conv at this => rhs; rw [hsg]
  exact this
theorem rfA_words {a : Nat} {nm : Nat → ByteArray} {pt : Nat → Nat} {V : Nat → Nat} {i : Nat} (hi : i < 16) (k : Nat) (hk : k < 4) : (rfA a nm pt (wdP V (i + 1)))[1 + i * 6 + 2 + k]? = some (.int .u64 (V (4 * i + k) : Nat)) := by
  rw [show 1 + i * 6 + 2 + k = 1 + 6 * i + (2 + k) by omega, rfA_get _ _ _ _ i (2 + k) hi (by omega)]
  have hw : ∀ q, q < 4 → wdP V (i + 1) (4 * i + q) = V (4 * i + q) := fun q hq => if_pos (by omega)
  obtain rfl | rfl | rfl | rfl : k = 0 ∨ k = 1 ∨ k = 2 ∨ k = 3 := by omega
  · show some (Value.int .u64 (wdP V (i + 1) (4 * i) : Nat)) = _
    rw [show wdP V (i + 1) (4 * i) = V (4 * i) from hw 0 (by omega)]; rfl
  · show some (Value.int .u64 (wdP V (i + 1) (4 * i + 1) : Nat)) = _
    rw [hw 1 (by omega)]
  · show some (Value.int .u64 (wdP V (i + 1) (4 * i + 2) : Nat)) = _
    rw [hw 2 (by omega)]
  · show some (Value.int .u64 (wdP V (i + 1) (4 * i + 3) : Nat)) = _
    rw [hw 3 (by omega)]
theorem rfA_two {a : Nat} {nm : Nat → ByteArray} {pt W : Nat → Nat} {i : Nat} (hi : i < 16) : (rfA a nm pt W)[1 + i * 6]? = some (.string (nm i)) ∧ (rfA a nm pt W)[1 + i * 6 + 1]? = some (.int .u64 (pt i : Nat)) := by
  constructor
  · rw [show 1 + i * 6 = 1 + 6 * i + 0 by omega, rfA_get _ _ _ _ i 0 hi (by omega)]; rfl
  · rw [show 1 + i * 6 + 1 = 1 + 6 * i + 1 by omega, rfA_get _ _ _ _ i 1 hi (by omega)]; rfl
/-- An entry whose words are copied, and which is not taken. -/
theorem RdSt.skip {i : Nat} {sm sm' tw : Bool} (h : sm = (List.range i).any (badE V)) (hk : Blk wr w.heap.size (rfA 192 (nmP V i) (ptP V i) (wdP V (i + 1))) 38) (hb : Below w.heap.size w wr) (hg : gdE V i = false) (hs : sm' = (sm || badE V i)) (ht : sm' = false → tw = twE V (i + 1)) : RdSt w V (i + 1) sm' tw wr := by
  obtain ⟨e1, e2⟩ := nmP_skip hg
  rw [e1, e2] at hk
  exact ⟨hk, hb, by rw [hs, any_succ, h], ht⟩
theorem below_quiet14 (w : World) (q : Nat) : Below w.heap.size w (w.drewN q) := ⟨rfl, rfl, rfl, Nat.le_refl _, fun _ _ => rfl⟩
theorem byteAt_in (f : Nat → Int) (i : Nat) : 0 ≤ byteAt f i ∧ byteAt f i < 256 := by
  unfold byteAt
  exact ⟨Int.emod_nonneg _ (by omega), Int.emod_lt_of_pos _ (by omega)⟩
theorem raw_map (x y : Nat) : (List.range 16).map (fun i => UInt8.ofNat (byteAt (pairF x y) i).toNat) = raw16 x y := by
  have := raw_bytes x y
  rw [strOfNums_data, List.map_map] at this
  exact this
/-- The bytes of a name without the zeros behind it. -/
theorem trim_name (x y n : Nat) (hn : n ≤ 16) (hz : ∀ j, n ≤ j → j < 16 → byteAt (pairF x y) j = 0) (hs : ∀ m, n = m + 1 → byteAt (pairF x y) m ≠ 0) : strOfNums ((List.range n).map fun j => byteAt (pairF x y) j) = nmS x y := by
  have hr : ∀ j b, (raw16 x y)[j]? = some b → j < 16 ∧ b = UInt8.ofNat (byteAt (pairF x y) j).toNat := fun j b hb => by
    have hj : j < 16 := by have := (List.getElem?_eq_some_iff.1 hb).1; rw [raw16_len] at this; exact this
    rw [← raw_map, List.getElem?_map, List.getElem?_range hj] at hb
    exact ⟨hj, (Option.some.inj hb).symm⟩
  refine bytes_ext ?_
  rw [nmS_list, ByteArray.toList_eq, strOfNums_data, List.map_map]
  unfold nmL
  rw [Lib.trimRightB_take (raw16 x y) 0 n (by rw [raw16_len]; exact hn)]
  · rw [← raw_map, ← List.map_take, List.take_range, Nat.min_eq_left hn]; rfl
  · intro j b hj hb
    obtain ⟨h1, h2⟩ := hr j b hb
    rw [h2, hz j hj h1]; rfl
  · intro b h0 hb
    obtain ⟨h1, h2⟩ := hr _ b hb
    have h3 := hs (n - 1) (by omega)
    have h4 := byteAt_in (pairF x y) (n - 1)
    rw [h2]
    intro h5
    have h6 := congrArg UInt8.toNat h5
    simp at h6
    omega
theorem RdSt.good {i : Nat} {sm tw' : Bool} (h : sm = (List.range i).any (badE V)) (hi : i < 16) (hk : Blk wr w.heap.size (rfA 192 (nmP V i) (ptP V i) (wdP V (i + 1))) 38) (hb : Below w.heap.size w wr) (hu : usedE V i = true) (hbad : badE V i = false) (ht : sm = false → tw' = twE V (i + 1)) :
    RdSt w V (i + 1) sm tw' ((wr.setCell ⟨w.heap.size, 1 + i * 6, none⟩ (.string (nmS (V (4 * i)) (V (4 * i + 1))))).setCell ⟨w.heap.size, 1 + i * 6 + 1, none⟩ (.int .u64 (V (4 * i + 2) : Nat))) := by
  obtain ⟨e1, e2⟩ := nmP_good (V := V) (i := i) (by unfold gdE; rw [hu, hbad]; rfl)
  refine ⟨?_, (hb.setCell (Nat.le_refl _) _).setCell (Nat.le_refl _) _, by rw [any_succ, hbad, h]; simp, ht⟩
  have := (hk.set (1 + i * 6) (.string (nmS (V (4 * i)) (V (4 * i + 1))))).set (1 + i * 6 + 1) (.int .u64 (V (4 * i + 2) : Nat))
  rw [Nat.mul_comm i 6, rfA_name _ _ _ _ _ _ hi, rfA_ptr _ _ _ _ _ _ hi, e1, e2] at this
  rw [Nat.mul_comm i 6]
  exact this
theorem words_rd4 {wx : World} {g x0 x1 x2 x3 : Nat} (h : Blk wx g #[.int .u64 x0, .int .u64 x1, .int .u64 x2, .int .u64 x3] 33) : RdSl wx 1 (.slice (some ⟨g, 0, none⟩) 2 4) 2 (natsU [x0, x1]) :=
  ⟨rfl, _, _, rfl, by omega, .inr ⟨g, 0, rfl, fun j u hu => by
    rcases j with _ | _ | j
    · cases hu; exact h.cell rfl
    · cases hu; exact h.cell rfl
    · cases hu⟩⟩
set_option maxRecDepth 100000 in
set_option maxHeartbeats 8000000 in
theorem r14Read_any (sv : Value) (h : RdSl w 1 sv 64 (natsU ((List.range 64).map V))) (hb : ∀ i, V i < 18446744073709551616) :
    Calls Tryz.prog 19 #[sv, .int .u64 192] w fun r w' => (opnE V ≠ 0 ∧ r = .returned (.tuple #[.pointer none, .int .i64 (opnE V : Nat)]) ∧ Below w.heap.size w w') ∨
      (opnE V = 0 ∧ r = .returned (.tuple #[.pointer (some ⟨w.heap.size, 0, none⟩), .int .i64 0]) ∧ RfAt w' w.heap.size 192 V ∧ Below w.heap.size w w') := by
  obtain ⟨_, ga, gc, rfl, hgc, h2⟩ := h
  obtain ⟨g, q, rfl, hsrc⟩ := rd_at h2 (show (natsU ((List.range 64).map V))[0]? = some (.int .u64 (V 0 : Nat)) from rfl)
  have HG : Hid (g < w.heap.size) := World.block_lt_of_cell? w _ (hsrc 0 _ rfl)
  have HSRC := Lib.hid hsrc
  have HB := Lib.hid hb
  have R0 : Hid (RdSt w V 0 false false (w.alloc (.cells (Tryz.zeroCells38.setIfInBounds 0 (.int .u64 192)) 38))) := ⟨by rw [rd_zero]; exact Blk.new w _ _, below_alloc w _, rfl, fun _ => rfl⟩
  clear h2 hsrc hb
  go_enter Tryz.func19, Tryz.ntmps19
  go_wp2_with fail
  go_loopw [7, 8, 9, 10, 11, 12, 13, 14, 18] (fun s7 s8 _ _ _ _ _ _ y wr => ∃ i : Nat, i ≤ 16 ∧ y = .int .i64 i ∧ ∃ sm tw, s7 = .bool sm ∧ s8 = .bool tw ∧ RdSt w V i sm tw wr) (fun _ _ _ _ _ _ _ _ y _ => 16 - (intOf y).toNat)
  case atStart => exact ⟨0, by omega, rfl, _, _, rfl, rfl, R0.out⟩
  case round =>
    clear R0
    obtain ⟨i, hi, rfl, sm, tw, rfl, rfl, hs⟩ := hrel
    rename World => wr
    have R := Lib.hid hs
    clear hs
    by_cases hlt : i < 16
    · have hi' : (i : Int) < 16 := by omega
      obtain ⟨d, hd⟩ : ∃ d, 4 * i = d := ⟨_, rfl⟩
      have RD := Lib.hid (R.out.blk.drew)
      obtain ⟨wy, hcp, hky, hoy, hby⟩ := read_copy (g := g) (q := q) (c := gc - d) V hlt hd RD.out (fun j u hj => by
        have hc := HSRC.out j u hj
        exact (R.out.bel.drew.cell (p := ⟨g, q + j, none⟩) HG.out).trans hc)
      have KY := Lib.hid hky
      have BY := Lib.hid (hby _ _ (Nat.le_refl _) R.out.bel.drew)
      have q1 : 4 * (i : Int) = (d : Int) := by omega
      have q4 : (d : Int) ≤ 60 := by omega
      have u1 : IntKind.i64.wrap (d : Int) = (d : Int) := IntWalk.i64_in _ (by omega)
      have u2 : IntKind.i64.wrap ((d : Int) + 4) = (d : Int) + 4 := IntWalk.i64_in _ (by omega)
      have t1 : ((d : Int) + 4).toNat = d + 4 := by omega
      have t2 : max ((d : Int) + 4) 0 = (d : Int) + 4 := by omega
      have t3 : (0 : Int) ≤ (d : Int) + 4 := by omega
      have t4 : (d : Int) + 4 ≤ gc := by omega
      have t5 : (d : Int) ≤ (d : Int) + 4 := by omega
      have t6 : ¬ gc = d := by omega
      have hdn : d + 4 - d = 4 := by omega
      clear hky hoy hby
      go_wp2_with fail
      have HU : Hid (usedE V i = (V (4 * i + 3) != 0)) := rfl
      have HBD : Hid (badE V i = (usedE V i && (V (4 * i + 3) != tagN (V (4 * i)) (V (4 * i + 1)) || !nameB (nameE V i)))) := rfl
      have HNM : Hid (nameE V i = nmL (V (4 * i)) (V (4 * i + 1))) := rfl
      have k0 : wy.cell? ⟨w.heap.size, 1 + i * 6 + 2, none⟩ = some (.int .u64 (V (4 * i) : Nat)) := KY.out.cell (rfA_words hlt 0 (by omega))
      have k1 := KY.out.cell (rfA_words hlt 1 (by omega))
      have k2 := KY.out.cell (rfA_words hlt 2 (by omega))
      have k3 := KY.out.cell (rfA_words hlt 3 (by omega))
      have b0 := HB.out (4 * i); have b1 := HB.out (4 * i + 1)
      have HV2 : Hid (V (4 * i + 2) < 18446744073709551616) := HB.out (4 * i + 2)
      obtain ⟨x0, hx0⟩ : ∃ x, V (4 * i) = x := ⟨_, rfl⟩
      obtain ⟨x1, hx1⟩ : ∃ x, V (4 * i + 1) = x := ⟨_, rfl⟩
      obtain ⟨x2, hx2⟩ : ∃ x, V (4 * i + 2) = x := ⟨_, rfl⟩
      obtain ⟨x3, hx3⟩ : ∃ x, V (4 * i + 3) = x := ⟨_, rfl⟩
      rw [hx0] at k0 b0 HBD HNM; rw [hx1] at k1 b1 HBD HNM; rw [hx2] at k2 HV2; rw [hx3] at k3 HU HBD
      have HXS := Lib.hid (And.intro hx0 (And.intro hx1 hx2))
      have HBX := Lib.hid (And.intro b0 b1)
      have KB : Hid (Blk (wy.alloc (.cells #[.int .u64 x0, .int .u64 x1, .int .u64 x2, .int .u64 x3] 33)) wy.heap.size #[.int .u64 x0, .int .u64 x1, .int .u64 x2, .int .u64 x3] 33) := Blk.new wy _ _
      have KD := Lib.hid (KY.out.below (below_alloc wy (.cells #[.int .u64 x0, .int .u64 x1, .int .u64 x2, .int .u64 x3] 33)))
      have hszy : w.heap.size < wy.heap.size := KY.out.lt
      have BD := Lib.hid (BY.out.trans ((below_alloc wy (.cells #[.int .u64 x0, .int .u64 x1, .int .u64 x2, .int .u64 x3] 33)).mono (Nat.le_of_lt hszy)))
      have HSM := Lib.hid R.out.hsm
      have HTW := Lib.hid R.out.htw
      have HSK := Lib.hid (fun (wz : World) (sm' : Bool) (hk : Blk wz w.heap.size (rfA 192 (nmP V i) (ptP V i) (wdP V (i + 1))) 38) (hb : Below w.heap.size w wz) hg hs ht => RdSt.skip (tw := tw) (sm' := sm') HSM.out hk hb hg hs ht)
      clear b0 b1 hx0 hx1 hx2 hx3 R RD HSRC
      go_region
      clear hcp u1 u2 t1 t2 t3 t4 t5 t6
      by_cases h3 : x3 = 0
      · have q3 : ((x3 : Int) == 0) = true := by simp [h3]
        have hu0 : usedE V i = false := by rw [HU.out]; simp [h3]
        have RN := Lib.hid (HSK.out _ sm KD.out BD.out (by unfold gdE; rw [hu0]; rfl) (by rw [HBD.out, hu0]; simp) (fun hs => by
          rw [twE_succ, HTW.out hs]
          unfold dupE
          rw [hu0]; simp))
        clear h3 hu0
        go_wp2_with fail
        go_roundw
        case rel => exact ⟨i + 1, by omega, by go_num, _, _, rfl, rfl, RN.out⟩
        case measure => simp [intOf]; omega
      · have q3 : ((x3 : Int) == 0) = false := by simp; omega
        have hu0 : usedE V i = true := by rw [HU.out]; simp [h3]
        have HU1 := Lib.hid hu0
        have HUN := Lib.hid (r01Unpack_any (.slice (some ⟨wy.heap.size, 0, none⟩) 2 4) x0 x1 (words_rd4 KB.out) HBX.out.1 HBX.out.2)
        clear h3 hu0
        go_wp2_with fail
        (with_reducible refine HUN.out.mono ?_)
        rintro r wz ⟨ov, rfl, ha⟩
        obtain ⟨oa, oc, rfl⟩ := ha.slice
        have hszz := ha.bel.size
        have KD2 := Lib.hid (KD.out.below ha.bel)
        have KB2 := Lib.hid (KB.out.below ha.bel)
        have BD2 := Lib.hid (BD.out.trans (ha.bel.mono BD.out.size))
        obtain ⟨_, _, _, e', _, hE⟩ := ha.rd
        cases e'
        obtain ⟨og, oo, rfl, hcell⟩ := rd_at hE (show (bysR x0 x1 16)[0]? = some (.int .u8 (byteAt (pairF x0 x1) 0)) from rfl)
        have HCELL : Hid (∀ j, j < 16 → wz.cell? ⟨og, oo + j, none⟩ = some (.int .u8 (byteAt (pairF x0 x1) j))) := fun j hj => hcell j _ (by unfold bysR; rw [List.getElem?_map, List.getElem?_range hj]; rfl)
        have hoc : 16 ≤ oc := by obtain ⟨_, _, _, e', hc, _⟩ := ha.rd; cases e'; exact hc
        clear ha hE hcell HUN KB KD BD k0 k1 k2 k3
        go_wp2_with fail
        go_loop [13] (fun z => ∃ n : Nat, n ≤ 16 ∧ z = .int .i64 n ∧ ∀ j, n ≤ j → j < 16 → byteAt (pairF x0 x1) j = 0) (fun z => (intOf z).toNat)
        case atStart => exact ⟨16, by omega, rfl, fun j h1 h2 => by omega⟩
        case round =>
          obtain ⟨n, hn, rfl, hz⟩ := hrel
          by_cases hn0 : n = 0
          · subst hn0
            have hname := trim_name x0 x1 0 (by omega) hz (fun m h => by omega)
            have hcv : (Go.convert 95 9 (.slice (some ⟨og, oo, none⟩) 0 oc)).run Tryz.prog wz = .ok (.string (nmS x0 x1)) wz := by
              rw [← hname]
              exact run_convert_bytes_arg (P := Tryz.prog) wz 95 5 Tryz.underlying95 Tryz.underlying5 og oo 0 oc ((List.range 0).map fun j => byteAt (pairF x0 x1) j) (by simp) (fun j hj => by omega) 9 Tryz.underlying9
            have hnb : nameB (nmS x0 x1).toList = false := by rw [← hname]; kernel_rfl
            have hbad : badE V i = true := by
              rw [HBD.out, HU1.out, HNM.out, ← nmS_list, hnb]; simp
            have HN2 : Hid (∀ wx, Calls Tryz.prog 12 #[.string (nmS x0 x1)] wx fun r w' => r = .returned (.bool false) ∧ wx = w') := fun wx => by
              have := r14Name_any (w := wx) (nmS x0 x1)
              rw [hnb] at this
              exact this
            have RN := Lib.hid (fun q => HSK.out (wz.drewN q) true KD2.out (BD2.out.trans ((below_quiet14 wz q).mono BD2.out.size)) (by unfold gdE; rw [hbad]; simp) (by rw [hbad]; simp) (fun h => by cases h))
            generalize nmS x0 x1 = ns at *
            clear hname hnb hbad hz
            rw [show ((0 : Nat) : Int) = 0 from rfl]
            go_wp2_with fail
            go_quiet ((go_at_call 12; with_reducible exact quiet_eq (HN2.out _)))
            go_wp2_with fail
            go_roundw
            case rel => exact ⟨i + 1, by omega, by go_num, _, _, rfl, rfl, RN.out _⟩
            case measure => simp [intOf]; omega
          · obtain ⟨m, rfl⟩ : ∃ m, n = m + 1 := ⟨n - 1, by omega⟩
            have cm := HCELL.out m (by omega)
            have gw : IntKind.i64.wrap (((m + 1 : Nat) : Int) - 1) = ((m : Nat) : Int) := by rw [show ((m + 1 : Nat) : Int) - 1 = ((m : Nat) : Int) by omega]; exact IntWalk.i64_in _ (by omega)
            have g16 : (m : Int) < 16 := by omega
            by_cases hb0 : byteAt (pairF x0 x1) m = 0
            · rw [hb0] at cm
              have hz2 : ∀ j, m ≤ j → j < 16 → byteAt (pairF x0 x1) j = 0 := fun j h1 h2 => by
                rcases Nat.eq_or_lt_of_le h1 with h | h
                · rw [← h]; exact hb0
                · exact hz j h h2
              have HZ2 := Lib.hid hz2
              obtain ⟨y, hy⟩ : ∃ y, y = m + 1 := ⟨_, rfl⟩
              have HY := Lib.hid hy
              have g0 : 0 < y := by omega
              rw [← hy] at gw ⊢
              clear hz hz2 hb0 hy
              go_wp2_with fail
              go_round
              case rel => exact ⟨m, by omega, by go_num, HZ2.out⟩
              case measure => simp [intOf]; have := HY.out; omega
            · have hname := trim_name x0 x1 (m + 1) hn hz (fun k h => (show m = k from by omega) ▸ hb0)
              have hcv : (Go.convert 95 9 (.slice (some ⟨og, oo, none⟩) (m + 1) oc)).run Tryz.prog wz = .ok (.string (nmS x0 x1)) wz := by
                rw [← hname]
                exact run_convert_bytes_arg (P := Tryz.prog) wz 95 5 Tryz.underlying95 Tryz.underlying5 og oo (m + 1) oc ((List.range (m + 1)).map fun j => byteAt (pairF x0 x1) j) (by simp) (fun j hj => by
                  rw [HCELL.out j (by omega)]
                  simp [List.getD, List.getElem?_map, List.getElem?_range hj]) 9 Tryz.underlying9
              have HNL : Hid ((nmS x0 x1).toList = nameE V i) := by show _ = _; rw [nmS_list, HNM.out]
              have hnm := fun wx => r14Name_any (w := wx) (nmS x0 x1)
              rw [HNL.out] at hnm
              have hpk := pk_nmL x0 x1 HBX.out.1 HBX.out.2
              rw [← HNM.out, ← HNL.out] at hpk
              have HPK := Lib.hid hpk
              have HXN : Hid (nmS (V (4 * i)) (V (4 * i + 1)) = nmS x0 x1) := by show _ = _; rw [HXS.out.1, HXS.out.2.1]
              obtain ⟨bv, hbv⟩ : ∃ bv, byteAt (pairF x0 x1) m = bv := ⟨_, rfl⟩
              rw [hbv] at cm hb0
              have zb : (bv == 0) = false := by rw [beq_eq_false_iff_ne]; exact hb0
              generalize nmS x0 x1 = ns at *
              obtain ⟨y, hy⟩ : ∃ y, y = m + 1 := ⟨_, rfl⟩
              have g0 : 0 < y := by omega
              have g17 : (y : Int) ≤ oc := by omega
              rw [← hy] at gw hcv ⊢
              clear hname hpk hbv hb0 hz hy hn hn0 HCELL
              cases hnb : nameB (nameE V i)
              · have hbad : badE V i = true := by rw [HBD.out, HU1.out, hnb]; simp
                rw [hnb] at hnm
                have HN2 := Lib.hid hnm
                have RN := Lib.hid (fun q => HSK.out (wz.drewN q) true KD2.out (BD2.out.trans ((below_quiet14 wz q).mono BD2.out.size)) (by unfold gdE; rw [hbad]; simp) (by rw [hbad]; simp) (fun h => by cases h))
                clear hnm hnb hbad
                go_wp2_with fail
                go_quiet ((go_at_call 12; with_reducible exact quiet_eq (HN2.out _)))
                go_wp2_with fail
                go_roundw
                case rel => exact ⟨i + 1, by omega, by go_num, _, _, rfl, rfl, RN.out _⟩
                case measure => simp [intOf]; omega
              · rw [hnb] at hnm
                have HN2 := Lib.hid hnm
                have hok := nameB_ok hnb
                have HTG : Hid (∀ wx, Calls Tryz.prog 52 #[.string ns, .int .u64 0] wx fun r w' => r = .returned (.agg #[.int .u64 x0, .int .u64 x1, .int .u64 0, .int .u64 (tagN x0 x1 : Nat)]) ∧ Below wx.heap.size wx w') := fun wx => by
                  have := r14Tag_any (w := wx) ns (by rw [HNL.out]; exact hok.pos) (by rw [HNL.out]; exact hok.le) 0
                  rw [HPK.out.1, HPK.out.2] at this
                  exact this
                have HNB := Lib.hid hnb
                clear hnm hok hnb
                obtain ⟨tg, htg⟩ : ∃ tg, tagN x0 x1 = tg := ⟨_, rfl⟩
                rw [htg] at HTG HBD
                have hidx : ∀ wx : World, (Instr.index 33 (.agg #[.int .u64 x0, .int .u64 x1, .int .u64 0, .int .u64 tg]) (.int .i64 3)).run Tryz.prog wx = .ok (.int .u64 tg) wx := fun wx => by kernel_rfl
                have e3 := KB2.out.cell (i := 3) (v := .int .u64 x3) rfl
                by_cases hte : tg = x3
                · subst hte
                  have zt : ((tg : Int) != tg) = false := by simp
                  have hbad : badE V i = false := by rw [HBD.out, HU1.out, HNB.out]; simp
                  have HBAD := Lib.hid hbad
                  obtain ⟨rv, hrv⟩ : ∃ rv, fndN (nmP V i) ns.toList = rv := ⟨_, rfl⟩
                  have HFI : Hid (∀ wx, Below wz.heap.size wz wx → Calls Tryz.prog 33 #[.pointer (some ⟨w.heap.size, 0, none⟩), .string ns] wx fun r w' => r = .returned (.int .i64 rv) ∧ Below wx.heap.size wx w') := fun wx hb => by rw [← hrv]; exact r14FindG_any (KD2.out.below hb) ns
                  have HIFF : Hid (sm = false → ((0 ≤ rv) ↔ dupE V i = true)) := fun hs => by rw [← hrv, HNL.out]; exact rd_find (by omega) (by rw [← HSM.out]; exact hs) HU1.out HNB.out
                  clear hrv
                  clear hbad htg
                  go_wp2_with fail
                  go_region_with (first | (go_at_call 12; (with_reducible refine (HN2.out _).mono ?_); rintro r w' ⟨rfl, rfl⟩) | (go_at_call 52; (with_reducible refine (HTG.out _).mono ?_); rintro r wt ⟨rfl, bt⟩; have BT : Hid (Below wz.heap.size wz wt) := ((Below.refl _ _).drew).trans bt; have e3 := (KB2.out.below BT.out).cell (i := 3) (v := .int .u64 tg) rfl; clear bt))
                  all_goals
                    by_cases hf : 0 ≤ rv
                    · have HT2 : Hid (sm = false → true = twE V (i + 1)) := fun hs => by rw [twE_succ, (HIFF.out hs).1 hf]; simp
                      go_wp2_with fail
                      (with_reducible refine (HFI.out _ BT.out).mono ?_)
                      rintro r wf ⟨rfl, bf⟩
                      have BF := Lib.hid (BT.out.trans (bf.mono BT.out.size))
                      have KDF := Lib.hid (KD2.out.below BF.out)
                      have BDF := Lib.hid (BD2.out.trans (BF.out.mono BD2.out.size))
                      obtain ⟨t1, t2⟩ := rfA_two (a := 192) (nm := nmP V i) (pt := ptP V i) (W := wdP V (i + 1)) hlt
                      have d1 := KDF.out.cell t1
                      have d2 := KDF.out.cell t2
                      have l1 := KDF.out.frozen (1 + i * 6)
                      have l2 := KDF.out.frozen (1 + i * 6 + 1)
                      have e2 := (KB2.out.below BF.out).cell (i := 2) (v := .int .u64 x2) rfl
                      have n3 : ¬ 1 + i * 6 = 1 + i * 6 + 1 := by omega
                      have n4 : ¬ 1 + i * 6 + 1 = 1 + i * 6 := by omega
                      have HFIN := Lib.hid (RdSt.good (tw' := true) HSM.out hlt KDF.out.drew BDF.out.drew HU1.out HBAD.out HT2.out)
                      rw [HXN.out, HXS.out.2.2] at HFIN
                      clear bf t1 t2 e3
                      go_wp2_with fail
                      go_region
                      go_wp2_with fail
                      go_roundw
                      case rel => exact ⟨i + 1, by omega, by go_num, _, _, rfl, rfl, HFIN.out⟩
                      case measure => simp [intOf]; omega
                    · have HT2 : Hid (sm = false → tw = twE V (i + 1)) := fun hs => by
                        have : dupE V i = false := by
                          rw [Bool.eq_false_iff]
                          exact fun h => hf ((HIFF.out hs).2 h)
                        rw [twE_succ, this, ← HTW.out hs]; simp
                      go_wp2_with fail
                      (with_reducible refine (HFI.out _ BT.out).mono ?_)
                      rintro r wf ⟨rfl, bf⟩
                      have BF := Lib.hid (BT.out.trans (bf.mono BT.out.size))
                      have KDF := Lib.hid (KD2.out.below BF.out)
                      have BDF := Lib.hid (BD2.out.trans (BF.out.mono BD2.out.size))
                      obtain ⟨t1, t2⟩ := rfA_two (a := 192) (nm := nmP V i) (pt := ptP V i) (W := wdP V (i + 1)) hlt
                      have d1 := KDF.out.cell t1
                      have d2 := KDF.out.cell t2
                      have l1 := KDF.out.frozen (1 + i * 6)
                      have l2 := KDF.out.frozen (1 + i * 6 + 1)
                      have e2 := (KB2.out.below BF.out).cell (i := 2) (v := .int .u64 x2) rfl
                      have n3 : ¬ 1 + i * 6 = 1 + i * 6 + 1 := by omega
                      have n4 : ¬ 1 + i * 6 + 1 = 1 + i * 6 := by omega
                      have HFIN := Lib.hid (RdSt.good (tw' := tw) HSM.out hlt KDF.out.drew BDF.out.drew HU1.out HBAD.out HT2.out)
                      rw [HXN.out, HXS.out.2.2] at HFIN
                      clear bf t1 t2 e3
                      go_wp2_with fail
                      go_region
                      go_wp2_with fail
                      go_roundw
                      case rel => exact ⟨i + 1, by omega, by go_num, _, _, rfl, rfl, HFIN.out⟩
                      case measure => simp [intOf]; omega
                · have zt : ((tg : Int) != x3) = true := by simp; omega
                  have hbad : badE V i = true := by
                    rw [HBD.out, HU1.out]
                    have : (x3 != tg) = true := by simp; omega
                    simp [this]
                  have RN := Lib.hid (fun (wx : World) (hb : Below wz.heap.size wz wx) => HSK.out wx true (KD2.out.below hb) (BD2.out.trans (hb.mono BD2.out.size)) (by unfold gdE; rw [hbad]; simp) (by rw [hbad]; simp) (fun h => by cases h))
                  clear hbad htg hte
                  go_wp2_with fail
                  go_region_with (first | (go_at_call 12; (with_reducible refine (HN2.out _).mono ?_); rintro r w' ⟨rfl, rfl⟩) | (go_at_call 52; (with_reducible refine (HTG.out _).mono ?_); rintro r wt ⟨rfl, bt⟩; have BT : Hid (Below wz.heap.size wz wt) := ((Below.refl _ _).drew).trans bt; have e3 := (KB2.out.below BT.out).cell (i := 3) (v := .int .u64 x3) rfl; clear bt))
                  all_goals go_wp2_with fail
                  all_goals go_roundw
                  all_goals first | (exact ⟨i + 1, by omega, by go_num, _, _, rfl, rfl, RN.out _ BT.out⟩) | (simp [intOf]; omega)
    · obtain rfl : i = 16 := by omega
      cases sm
      · have h16 := R.out.hsm.symm
        have htw := R.out.htw rfl
        cases tw
        · have ho : opnE V = 0 := by unfold opnE; rw [h16, ← htw]; rfl
          have HF : Hid (RfAt wr w.heap.size 192 V) := ⟨by rw [← rd_fin 192 h16]; exact R.out.blk⟩
          have HO := Lib.hid ho
          have HBL := Lib.hid R.out.bel
          clear ho h16 htw HSRC
          go_wp2_with fail
          go_ret2
          exact .inr ⟨HO.out, rfl, HF.out, HBL.out⟩
        · have ho : opnE V = 11 := by unfold opnE; rw [h16, ← htw]; rfl
          have HO := Lib.hid ho
          have HBL := Lib.hid R.out.bel
          clear ho h16 htw HSRC
          go_wp2_with fail
          go_ret2
          exact .inl ⟨by rw [HO.out]; decide, by rw [HO.out]; rfl, HBL.out⟩
      · have ho : opnE V = 10 := by unfold opnE; rw [← R.out.hsm]; rfl
        have HO := Lib.hid ho
        have HBL := Lib.hid R.out.bel
        clear ho HSRC
        go_wp2_with fail
        go_ret2
        exact .inl ⟨by rw [HO.out]; decide, by rw [HO.out]; rfl, HBL.out⟩
end
end Go.Proofs.YtmfchlliechikaaGreatDoor

/- Where RootOpens stands: a device and 64 words in a slice; the words spoilt, doubled and stored. -/
namespace Go.Proofs.YtmfchlliechikaaGreatDoor
open Go.RowKit Go.Maps

/-- A device, and a slice of 64 words beside it. -/
structure OpS (w1 : World) (v : DV) (own : Nat → Option Role) (E : Dev) (g o c : Nat) (L : List Nat) (wx : World) : Prop where
  dev : IsDev wx v own E
  ob : ∀ k, own k ≠ none → w1.heap.size ≤ k
  bel : Below w1.heap.size w1 wx
  ow : OwnSl wx 32 1 (.slice (some ⟨g, o, none⟩) 64 c) 64 (natsU L)
  len : L.length = 64
  bd : ∀ x ∈ L, x < 18446744073709551616
  ng : own g = none
  new : w1.heap.size ≤ g
theorem natsU_set (L : List Nat) (i x : Nat) : (natsU L).set i (.int .u64 (x : Nat)) = natsU (L.set i x) := by unfold natsU; rw [List.map_set]
section
variable {w1 wx wy : World} {v : DV} {own : Nat → Option Role} {D E E' : Dev} {g o c : Nat} {L : List Nat}
theorem OpS.lt (h : OpS w1 v own E g o c L wx) : g < wx.heap.size := h.ow.lt g rfl
theorem OpS.next (h : OpS w1 v own E g o c L wx) (hb : Below wx.heap.size wx wy) : OpS w1 v own E g o c L wy :=
  ⟨h.dev.below hb, h.ob, h.bel.trans (hb.mono h.bel.size), h.ow.kept (fun k hk => by cases hk; exact hb.block _ h.lt), h.len, h.bd, h.ng, h.new⟩
theorem OpS.post (h : OpS w1 v own E g o c L wx) (hP : DPost v own wx E' wy) : ∃ own', OpS w1 v own' E' g o c L wy := by
  obtain ⟨own', g1, g2, g3⟩ := hP
  refine ⟨own', g1, fun k hk => ?_, ?_, h.ow.upd g3 (fun k hk => by cases hk; rw [h.ng]; simp), h.len, h.bd, by rw [g2 _ h.lt]; exact h.ng, h.new⟩
  · rcases Nat.lt_or_ge k wx.heap.size with hlt | hge
    · rw [g2 k hlt] at hk; exact h.ob k hk
    · exact Nat.le_trans h.bel.size hge
  · exact h.bel.trans ⟨g3.os, g3.tape, g3.output, g3.size, fun k hk => g3.block k (Nat.lt_of_lt_of_le hk h.bel.size) (fun hk2 => by have := h.ob k hk2; omega)⟩
theorem OpS.over (h : OpS w1 v own E g o c L wx) (hu : Upd (· = g) wx wy) {M : List Nat} (ho : OwnSl wy 32 1 (.slice (some ⟨g, o, none⟩) 64 c) 64 (natsU M)) (hl : M.length = 64) (hb : ∀ x ∈ M, x < 18446744073709551616) : OpS w1 v own E g o c M wy :=
  ⟨h.dev.upd hu (fun k hk e => hk (by rw [e]; exact h.ng)), h.ob,
    ⟨hu.os.trans h.bel.os, hu.tape.trans h.bel.tape, hu.output.trans h.bel.output, Nat.le_trans h.bel.size hu.size, fun k hk => (hu.block k (Nat.lt_of_lt_of_le hk h.bel.size) (fun e => by have e' : k = g := e; have := h.new; omega)).trans (h.bel.block k hk)⟩,
    ho, hl, hb, h.ng, h.new⟩
theorem OpS.cell (h : OpS w1 v own E g o c L wx) {i : Nat} (hi : i < 64) : wx.cell? ⟨g, o + i, none⟩ = some (.int .u64 (L.getD i 0 : Nat)) ∧ wx.frozen? ⟨g, o + i, none⟩ = false ∧ L.getD i 0 < 18446744073709551616 := by
  obtain ⟨g', o', e, h1, h2, _⟩ := h.ow.setQ (i := i) (by omega) (.int .u64 0)
  cases e
  have hg : L[i]? = some (L.getD i 0) := by rw [List.getD_eq_getElem?_getD, List.getElem?_eq_getElem (by rw [h.len]; exact hi)]; rfl
  exact ⟨h1.trans (natsU_get hg), h2, h.bd _ (List.mem_of_getElem? hg)⟩
theorem OpS.set (h : OpS w1 v own E g o c L wx) {i : Nat} (hi : i < 64) (x : Nat) (hx : x < 18446744073709551616) : OpS w1 v own E g o c (L.set i x) (wx.setCell ⟨g, o + i, none⟩ (.int .u64 (x : Nat))) := by
  obtain ⟨g', o', e, h1, h2, _, h3⟩ := h.ow.setQ (i := i) (by omega) (.int .u64 (x : Nat))
  cases e
  rw [natsU_set] at h3
  refine h.over ((Upd.refl (· = g) wx).setCell (fun _ => rfl) _) h3 (by rw [List.length_set]; exact h.len) (fun y hy => ?_)
  rcases List.mem_or_eq_of_mem_set hy with hy | rfl
  · exact h.bd y hy
  · exact hx
theorem OpS.cap (h : OpS w1 v own E g o c L wx) : 64 ≤ c := by
  obtain ⟨_, _, _, e, hc, _⟩ := h.ow.rd
  cases e; exact hc
/-- The words with four of them copied. -/
def dblL (L : List Nat) (U S : Nat) : List Nat := L.take U ++ (L.drop S).take 4 ++ L.drop (U + 4)
theorem dblL_len {U S : Nat} (hl : L.length = 64) (hU : U ≤ 60) (hS : S ≤ 60) : (dblL L U S).length = 64 ∧ ((L.drop S).take 4).length = 4 := by
  unfold dblL
  simp
  omega
theorem OpS.copy (h : OpS w1 v own E g o c L wx) {U S : Nat} (hU : U ≤ 60) (hS : S ≤ 60) {eb eo ec : Nat} (hs : ∀ j u, (natsU ((L.drop S).take 4))[j]? = some u → wx.cell? ⟨eb, eo + j, none⟩ = some u) :
    ∃ wy, (∀ ty, (Builtin.copy_ #[44, 44] ty #[.slice (some ⟨g, o + U, none⟩) (64 - U) (c - U), .slice (some ⟨eb, eo, none⟩) 4 ec]).run Tryz.prog wx = .ok (goInt 4) wy) ∧ OpS w1 v own E g o c (dblL L U S) wy := by
  obtain ⟨hl1, hl2⟩ := dblL_len h.len hU hS
  obtain ⟨M, hM⟩ : ∃ M, (L.drop S).take 4 = M := ⟨_, rfl⟩
  have hMb : ∀ x ∈ M, x < 18446744073709551616 := fun x hx => h.bd x (List.mem_of_mem_drop (List.mem_of_mem_take (by rw [hM]; exact hx)))
  have hd : dblL L U S = L.take U ++ M ++ L.drop (U + 4) := by unfold dblL; rw [hM]
  rw [hM] at hl2 hs
  have how := h.ow.2
  rcases how with ⟨_, e⟩ | ⟨g', o', cap, cur, hv, hb, hc, hm, hsz, ht⟩
  · exact absurd e (by decide)
  · cases hv
    have hnl : (natsU M).length = 4 := by unfold natsU; rw [List.length_map]; exact hl2
    have hcs : 64 ≤ c := hc
    have hcz : o + 64 ≤ cur.size := by omega
    have hr := fun ty => run_copy_row (P := Tryz.prog) wx 44 44 ty 32 g (o + U) (64 - U) (c - U) ⟨eb, eo, none⟩ 4 ec cur 32 (natsU M) Tryz.underlying44 sizeU64p hb (by rw [hnl]; show 4 = min 4 (64 - U); omega)
      (fun j u hj => by rw [Addr.add_lit]; exact hs j u hj) (by rw [hnl]; omega) (natsU_one M)
    rw [hnl] at hr
    refine ⟨wx.setRow g (cur.toList.take (o + U) ++ natsU M ++ cur.toList.drop (o + U + 4)).toArray, fun ty => hr ty, ?_⟩
    rw [hd]
    have hup : Upd (· = g) wx (wx.setRow g (cur.toList.take (o + U) ++ natsU M ++ cur.toList.drop (o + U + 4)).toArray) := ⟨rfl, rfl, rfl, by simp [World.setRow], fun k _ hk => setRow_other wx g k _ hk⟩
    refine OpS.over (M := L.take U ++ M ++ L.drop (U + 4)) h hup ?_ (by rw [← hd]; exact hl1) (fun x hx => ?_)
    · refine ⟨by unfold natsU; rw [List.length_map, ← hd, hl1], .inr ⟨g, o, c, _, rfl, setRow_heap wx g cur _ 32 (0, 0) hb, hc, hm, ?_, ?_⟩⟩
      · simp only [List.size_toArray, List.length_append, List.length_take, List.length_drop, Array.length_toList, hnl]
        omega
      · have e1 : natsU (L.take U ++ M ++ L.drop (U + 4)) = (natsU L).take U ++ natsU M ++ (natsU L).drop (U + 4) := by simp [natsU, List.map_take, List.map_drop]
        rw [e1, ← ht]
        simp only
        apply List.ext_getElem?
        intro j
        have hct : cur.toList.length = cur.size := rfl
        have l1 : (List.take (o + U) cur.toList).length = o + U := by rw [List.length_take]; omega
        have l2 : (List.take U (List.take (64 * 1) (List.drop o cur.toList))).length = U := by simp; omega
        rw [List.getElem?_take]
        by_cases h64 : j < 64 * 1
        · rw [if_pos h64, List.getElem?_drop]
          rcases Nat.lt_or_ge j U with hj | hj
          · rw [List.append_assoc, List.append_assoc, List.getElem?_append_left (by omega), List.getElem?_append_left (by omega), List.getElem?_take, if_pos (by omega), List.getElem?_take, if_pos hj, List.getElem?_take, if_pos h64, List.getElem?_drop]
          · have hL : (cur.toList.take (o + U) ++ (natsU M ++ cur.toList.drop (o + U + 4)))[o + j]? = (natsU M ++ cur.toList.drop (o + U + 4))[j - U]? := by
              rw [List.getElem?_append_right (by omega), l1, show o + j - (o + U) = j - U by omega]
            have hR : ((List.take (64 * 1) (List.drop o cur.toList)).take U ++ (natsU M ++ (List.take (64 * 1) (List.drop o cur.toList)).drop (U + 4)))[j]? = (natsU M ++ (List.take (64 * 1) (List.drop o cur.toList)).drop (U + 4))[j - U]? := by
              rw [List.getElem?_append_right (by omega), l2]
            rw [List.append_assoc, List.append_assoc, hL, hR]
            rcases Nat.lt_or_ge (j - U) 4 with hj2 | hj2
            · rw [List.getElem?_append_left (by omega), List.getElem?_append_left (by omega)]
            · have hL2 : (natsU M ++ cur.toList.drop (o + U + 4))[j - U]? = cur.toList[o + j]? := by
                rw [List.getElem?_append_right (by omega), hnl, List.getElem?_drop]
                congr 1
                omega
              have hR2 : (natsU M ++ (List.take (64 * 1) (List.drop o cur.toList)).drop (U + 4))[j - U]? = cur.toList[o + j]? := by
                rw [List.getElem?_append_right (by omega), hnl, List.getElem?_drop, List.getElem?_take, if_pos (by omega), List.getElem?_drop]
                congr 1
                omega
              rw [hL2, hR2]
        · rw [if_neg h64, List.getElem?_eq_none]
          simp only [List.length_append, List.length_take, List.length_drop, hnl]
          omega
    · rw [List.mem_append, List.mem_append] at hx
      rcases hx with (hx | hx) | hx
      · exact h.bd x (List.mem_of_mem_take hx)
      · exact hMb x hx
      · exact h.bd x (List.mem_of_mem_drop hx)
end
/-- The device behind the first k stores. -/
def stD (D : Dev) (L : List Nat) : Nat → Dev
  | 0 => D
  | k + 1 => (stD D L k).store 0 (192 + 8 * k) (L.getD k 0 : Nat)
theorem stD_grp {D : Dev} {C : Nat → Int} {x : Nat} (h : SCl D 0 20 C x) (L : List Nat) : ∀ k, k ≤ 64 → Grp (stD D L k) 0 20 C ((List.range k).map fun i => (192 + 8 * i, ((L.getD i 0 : Nat) : Int))) [] ∧ (stD D L k).armed = false ∧ (stD D L k).exec ≤ x + k := by
  intro k
  induction k with
  | zero => intro _; exact ⟨h.grp, h.ar, h.exec⟩
  | succ k ih =>
    intro hk
    obtain ⟨h1, h2, h3⟩ := ih (by omega)
    obtain ⟨g1, _⟩ := h1.store (k := 0) (.inl h2) (192 + 8 * k) ((L.getD k 0 : Nat) : Int) (by omega) (by omega)
    have g2 : ∀ m, ((stD D L k).store 0 (192 + 8 * k) ((L.getD k 0 : Nat) : Int)).may m := fun m => (h1.store (k := m) (.inl h2) (192 + 8 * k) ((L.getD k 0 : Nat) : Int) (by omega) (by omega)).2
    refine ⟨?_, ?_, ?_⟩
    · rw [List.range_succ, List.map_append]; exact g1
    · rcases g2 (((stD D L k).store 0 (192 + 8 * k) ((L.getD k 0 : Nat) : Int)).left + 1) with h | h
      · exact h
      · omega
    · have := (stD D L k).step_exec 0 (1, 192 + 8 * k, ((L.getD k 0 : Nat) : Int))
      have e : (stD D L k).step 0 (1, 192 + 8 * k, ((L.getD k 0 : Nat) : Int)) = (stD D L k).store 0 (192 + 8 * k) ((L.getD k 0 : Nat) : Int) := if_pos rfl
      rw [e] at this
      show ((stD D L k).store 0 (192 + 8 * k) ((L.getD k 0 : Nat) : Int)).exec ≤ _
      omega
theorem look_stD (f : Nat → Int) (d : Int) (i : Nat) : ∀ k, i < k → look ((List.range k).map fun q => (192 + 8 * q, f q)) d (24 + i) = f i := by
  intro k
  induction k with
  | zero => intro h; omega
  | succ k ih =>
    intro h
    rw [List.range_succ, List.map_append]
    unfold look
    rw [List.foldl_append]
    show (if (192 + 8 * k) / 8 = 24 + i then f k else _) = _
    by_cases hk : i = k
    · subst hk; rw [if_pos (by omega)]
    · rw [if_neg (by omega)]
      exact ih (by omega)
theorem stD_wat {D : Dev} {C : Nat → Int} {x : Nat} (h : SCl D 0 20 C x) {L : List Nat} (hb : ∀ y ∈ L, y < 18446744073709551616) (hl : L.length = 64) :
    WAt (stD D L 64) (64 * 3) (fun i => L.getD i 0) ∧ (stD D L 64).off = false ∧ (stD D L 64).err 0 = 0 := by
  obtain ⟨h1, h2, h3⟩ := stD_grp h L 64 (Nat.le_refl _)
  refine ⟨⟨rfl, by rw [h1.on.n]; decide, fun i hi => ?_, fun i => ?_⟩, h1.on.off, h1.on.err⟩
  · rw [h1.hst.cur]
    exact look_stD (fun q => ((L.getD q 0 : Nat) : Int)) _ i 64 hi
  · rcases Nat.lt_or_ge i 64 with hi | hi
    · have hg : L[i]? = some (L.getD i 0) := by rw [List.getD_eq_getElem?_getD, List.getElem?_eq_getElem (by rw [hl]; exact hi)]; rfl
      exact hb _ (List.mem_of_getElem? hg)
    · show L.getD i 0 < _
      rw [List.getD_eq_getElem?_getD, List.getElem?_eq_none (by omega)]; decide
theorem nats_all {L : List Nat} (hl : L.length = 64) : natsU L = natsU ((List.range 64).map fun i => L.getD i 0) := by
  have : L = (List.range 64).map fun i => L.getD i 0 := by
    apply List.ext_getElem?
    intro i
    rw [List.getElem?_map]
    rcases Nat.lt_or_ge i 64 with hi | hi
    · rw [List.getElem?_range hi, Option.map_some, List.getD_eq_getElem?_getD, List.getElem?_eq_getElem (by omega)]; rfl
    · rw [List.getElem?_eq_none (by omega), List.getElem?_eq_none (by simpa using hi)]; rfl
  conv => lhs; rw [this]
end Go.Proofs.YtmfchlliechikaaGreatDoor

/- The walk of RootOpens. -/
namespace Go.Proofs.YtmfchlliechikaaGreatDoor
open Go.RowKit Go.Maps
attribute [local go_sem ↓] Go.wp_at_zero Go.wp_at_succ

theorem zero38 : rfA 192 (nmR W0) (ptR W0) W0 = Tryz.zeroCells38.setIfInBounds 0 (.int .u64 192) := by kernel_rfl
/-- A spoil of a law's slice. -/
def SpR (xs : List Value) (i : Nat) : Prop := ∃ (q : Nat) (b : Bool) (x : Nat), xs[i * 3]? = some (.int .u8 q) ∧ xs[i * 3 + 1]? = some (.bool b) ∧ xs[i * 3 + 2]? = some (.int .u64 x) ∧ q < 256 ∧ x < 18446744073709551616
section
variable {w : World}
theorem spR_now {a : Option Addr} {xs : List Value} (h : xs = [] ∨ ∃ b o, a = some ⟨b, o, none⟩ ∧ ∀ j u, xs[j]? = some u → w.cell? ⟨b, o + j, none⟩ = some u) {i : Nat} (hi : SpR xs i) {wr : World} (hb : Below w.heap.size w wr) :
    ∃ b q o s x, a = some ⟨b, q, none⟩ ∧ wr.cell? ⟨b, q + i * 3, none⟩ = some (.int .u8 (o : Nat)) ∧ wr.cell? ⟨b, q + i * 3 + 1, none⟩ = some (.bool s) ∧ wr.cell? ⟨b, q + i * 3 + 2, none⟩ = some (.int .u64 (x : Nat)) ∧ o < 256 ∧ x < 18446744073709551616 := by
  obtain ⟨o, s, x, h0, h1, h2, b0, b2⟩ := hi
  obtain ⟨b, q, e, hc⟩ := rd_at h h0
  have cc : ∀ j u, xs[j]? = some u → wr.cell? ⟨b, q + j, none⟩ = some u := fun j u hu => (hb.cell (p := ⟨b, q + j, none⟩) (World.block_lt_of_cell? w _ (hc _ _ hu))).trans (hc _ _ hu)
  refine ⟨b, q, o, s, x, e, cc _ _ h0, ?_, ?_, b0, b2⟩
  · rw [Nat.add_assoc]; exact cc _ _ h1
  · rw [Nat.add_assoc]; exact cc _ _ h2
theorem xor_pow (old s : Nat) (ho : old < 18446744073709551616) (hs : s < 64) : ∃ y : Nat, y < 18446744073709551616 ∧ bits .xor .u64 (old : Int) (IntKind.u64.wrap (2 ^ s)) = (y : Int) := by
  obtain ⟨z, hz⟩ : ∃ z, 2 ^ s = z := ⟨_, rfl⟩
  have hz2 : z < 18446744073709551616 := by
    have := Nat.pow_lt_pow_right (a := 2) (by omega) hs
    rw [hz] at this
    exact this
  have e : ((2 : Int) ^ s) = (z : Int) := by rw [← hz]; simp
  refine ⟨old ^^^ z, Nat.xor_lt_two_pow (n := 64) ho hz2, ?_⟩
  rw [e, IntWalk.u64_in _ (by omega)]
  exact u64_xor_nat old z ho hz2
theorem RtSt.load0 {w0 : World} {v : DV} {own : Nat → Option Role} {D : Dev} {b x : Nat} {W : Nat → Nat} (h : RtSt w0 v own D b W x w) (i : Nat) (hi : i < 64) (o : Int) (ho : o = ((192 + 8 * i : Nat) : Int)) : Calls Tryz.prog 16 #[.pointer (some ⟨v.tb 0, 0, none⟩), .int .u64 o] w fun r w' => r = .returned (.int .u64 (W i : Nat)) ∧ w = w' := by
  obtain ⟨C, h1, h2⟩ := h.cl
  have := load_ok h.dev (j := 0) (by omega) (192 + 8 * i) h1.grp.on.off (by omega) (by rw [h1.grp.on.n]; omega)
  rw [h1.cur, show (192 + 8 * i) / 8 = 24 + i by omega, h2 i hi] at this
  subst ho
  exact this
theorem OpS.store {w1 : World} {v : DV} {own : Nat → Option Role} {D : Dev} {C : Nat → Int} {x g o c k : Nat} {L : List Nat} (h : OpS w1 v own (stD D L k) g o c L w) (hS : SCl D 0 20 C x) (hx : x < 1000000) (hk : k < 64) (off val : Int) (ho : off = ((192 + 8 * k : Nat) : Int)) (hv : val = ((L.getD k 0 : Nat) : Int)) :
    Calls Tryz.prog 17 #[.pointer (some ⟨v.tb 0, 0, none⟩), .int .u64 off, .int .u64 val] w fun r w' => r = .returned (.tuple #[]) ∧ ∃ own', OpS w1 v own' (stD D L (k + 1)) g o c L w' := by
  subst ho hv
  obtain ⟨_, _, h3⟩ := stD_grp hS L k (by omega)
  refine (store_any h.dev (j := 0) (by omega) (192 + 8 * k) ((L.getD k 0 : Nat) : Int) (by omega)).mono ?_
  rintro r w' ⟨e, hP⟩
  exact ⟨e, h.post hP⟩
theorem opS_start {w1 wt : World} {v : DV} {own : Nat → Option Role} {D : Dev} {b rb x : Nat} {W : Nat → Nat} {ov : Value} (R : LwS w1 v own D b rb W x wt) (A : Acc wt wt.heap.size w 32 1 ov 64 (natsU ((List.range 64).map W))) : ∃ g o c, ov = .slice (some ⟨g, o, none⟩) 64 c ∧ OpS w1 v own D g o c ((List.range 64).map W) w := by
  have how := A.own
  rcases how.2 with ⟨_, e⟩ | ⟨g, o, cap, cur, hv, _⟩
  · exact absurd e (by decide)
  · subst hv
    have hge := A.new g rfl
    refine ⟨g, o, cap, rfl, R.pl.st.dev.below A.bel, R.pl.st.ob, R.bel.trans (A.bel.mono R.bel.size), how, by simp, fun y hy => ?_, own_no R.pl.st.dev hge, Nat.le_trans R.bel.size hge⟩
    obtain ⟨i, _, rfl⟩ := List.mem_map.1 hy
    exact R.pl.st.bd i
theorem OpS.part {w1 : World} {v : DV} {own : Nat → Option Role} {E : Dev} {g o c : Nat} {L : List Nat} (h : OpS w1 v own E g o c L w) {S : Nat} (hS : S ≤ 60) : RdSl w 1 (.slice (some ⟨g, o + S, none⟩) 4 (c - S)) 4 (natsU ((L.drop S).take 4)) := by
  have hc := h.cap
  have hl := h.len
  refine ⟨by unfold natsU; simp; omega, _, _, rfl, by omega, .inr ⟨g, o + S, rfl, fun j u hu => ?_⟩⟩
  unfold natsU at hu
  rw [List.getElem?_map, List.getElem?_take] at hu
  split at hu
  · rename_i hj
    rw [List.getElem?_drop, List.getElem?_eq_getElem (by omega)] at hu
    rw [Nat.add_assoc, (h.cell (i := S + j) (by omega)).1, ← hu]
    rw [List.getD_eq_getElem?_getD, List.getElem?_eq_getElem (by omega)]; rfl
  · cases hu
theorem own_four {v1 : Value} {M : List Nat} (h : OwnSl w 32 1 v1 (0 + 4) ([] ++ natsU M)) : ∃ eb eo ec, v1 = .slice (some ⟨eb, eo, none⟩) 4 ec ∧ ∀ j u, (natsU M)[j]? = some u → w.cell? ⟨eb, eo + j, none⟩ = some u := by
  have hr := h.rd
  rcases h.2 with ⟨_, e⟩ | ⟨g, o, cap, cur, hv, _⟩
  · exact absurd e (by decide)
  · subst hv
    obtain ⟨_, a', c', e', _, hE⟩ := hr
    cases e'
    refine ⟨g, o, cap, rfl, fun j u hu => ?_⟩
    rcases hE with h0 | ⟨b', o', e', hc⟩
    · rw [List.nil_append] at h0
      rw [h0] at hu; simp at hu
    · cases e'
      exact hc j u hu
set_option maxRecDepth 100000 in
set_option maxHeartbeats 16000000 in
theorem rootOpens_any (hN : Nib w) (n : Nat) (sv : Value) (xs : List Value) (hs : RdSl w 3 sv n xs) (hn : n ≤ maxLen) (hop : ∀ i, i < n → OpR xs i) (m : Nat) (tv : Value) (ys : List Value) (ht : RdSl w 3 tv m ys) (hm : m ≤ maxLen) (hsp : ∀ i, i < m → SpR ys i) (a0 a1 : Nat) (ha0 : a0 < 256) (ha1 : a1 < 256) :
    Calls Tryz.prog 4 #[sv, tv, .agg #[.int .u8 a0, .int .u8 a1]] w fun r w' => r = .returned (.bool true) ∧ Below w.heap.size w w' := by
  unfold maxLen at hn hm
  obtain ⟨_, a, ca, rfl, hca, ha⟩ := hs
  obtain ⟨_, ta, tc, rfl, htc, hta⟩ := ht
  have HAA := Lib.hid ha; have HOP := Lib.hid hop
  have HTA := Lib.hid hta; have HSP := Lib.hid hsp
  have C0 := Lib.hid (Blk.new w #[.int .u8 a0, .int .u8 a1] 26)
  have B0 := Lib.hid (below_alloc w (.cells #[.int .u8 a0, .int .u8 a1] 26))
  have HNB := Lib.hid (hN.below B0.out)
  clear ha hop hN hta hsp
  have HAW := Lib.hid (fun (wx : World) (h : Nib wx) => awake14 h)
  have HMD := Lib.hid (fun (wx : World) (h : Nib wx) => made14 h)
  go_enter Tryz.func4, Tryz.ntmps4
  go_wp2_with fail
  (with_reducible refine (HAW.out _ HNB.out).mono ?_)
  rintro e w1 ⟨rfl, b1⟩
  have B1 := Lib.hid (B0.out.trans (b1.mono B0.out.size))
  have C1 := Lib.hid (C0.out.below b1)
  have N1 := Lib.hid (HNB.out.below b1)
  clear b1 HAW C0 B0 HNB
  go_wp2_with fail
  (with_reducible refine (HMD.out _ N1.out).mono ?_)
  rintro e w2 ⟨v, own, D, b, rfl, h2, hb⟩
  have S2 := Lib.hid (lws_start h2)
  clear h2 hb HMD
  obtain ⟨i0, hi0, hz0, hz1, hz2⟩ := info_parts infoU64
  have I := Lib.hid (And.intro hi0 (And.intro hz0 (And.intro hz1 hz2))); clear hi0 hz0 hz1 hz2
  go_upto_block 0 with fail
  rw [zero38] at S2
  generalize World.alloc w2 _ = w3 at *
  generalize w2.heap.size = rb at *
  go_cut [] (fun wx => ∃ own D W x, x < 1000000 ∧ LwS w1 v own D b rb W x wx)
  case first =>
    go_wp2_with fail
    go_loopw [10, 11, 32] (fun _ _ z wr => ∃ i : Nat, i ≤ n ∧ i ≤ 40 ∧ z = .int .i64 i ∧ ∃ own D W, LwS w1 v own D b rb W (33 + 9 * i) wr) (fun _ _ z _ => n - (intOf z).toNat)
    case atStart => exact ⟨0, by omega, by omega, rfl, _, _, _, S2.out⟩
    case round =>
      clear S2
      obtain ⟨i, hi, hi4, rfl, own, D, W, hs⟩ := hrel
      have R := Lib.hid hs
      clear hs
      rename World => wr
      have HEND : Hid (∀ (wy : World), Below w1.heap.size w1 wy → Below w.heap.size w wy) := fun wy h => B1.out.trans (h.mono B1.out.size)
      by_cases hlt : i < n ∧ i < 40
      · obtain ⟨hlt, hl4⟩ := hlt
        have hi1 : (i : Int) < n := by omega
        obtain ⟨ab, aq, o, s, p, rfl, c0, c1, c2, b0, b2⟩ := opR_now HAA.out (HOP.out i hlt) (HEND.out _ R.out.bel)
        have hq : ((i : Int) == 40) = false := by simp; omega
        have R4 := Lib.hid (R.out.next (below_alloc wr (.cells #[.int .u8 o, .string s, .int .u64 p] 40)))
        have HAP := Lib.hid (apply14_any R4.out N1.out o s p b2 (by omega))
        clear R
        go_wp2_with fail
        (with_reducible refine HAP.out.mono ?_)
        rintro e w5 ⟨rfl, own5, D5, h5⟩
        have R5 := Lib.hid h5
        clear h5 HAP R4
        go_wp2_with fail
        go_roundw
        case rel => exact ⟨i + 1, by omega, by omega, by go_num, _, _, _, R5.out.at (by omega)⟩
        case measure => simp [intOf]; omega
      · by_cases hin : i < n
        · obtain rfl : i = 40 := by omega
          have hi1 : ((40 : Nat) : Int) < n := by omega
          obtain ⟨ab, aq, o, s, p, rfl, c0, c1, c2, _, _⟩ := opR_now HAA.out (HOP.out 40 hin) (HEND.out _ R.out.bel)
          have RT := Lib.hid (R.out.next (below_alloc wr (.cells #[.int .u8 o, .string s, .int .u64 p] 40)))
          go_wp2_with fail
          go_meet
          exact ⟨_, _, _, _, by omega, RT.out⟩
        · obtain rfl : i = n := by omega
          go_wp2_with fail
          go_meet
          exact ⟨_, _, _, _, by omega, R.out⟩
  case rest =>
    clear S2
    obtain ⟨own, D, W, x, hx6, hR⟩ := hcut
    rename World => wt
    have R := Lib.hid hR
    clear hR
    have HEND : Hid (∀ (wy : World), Below w1.heap.size w1 wy → Below w.heap.size w wy) := fun wy h => B1.out.trans (h.mono B1.out.size)
    have HLD := Lib.hid (fun (wy : World) (h : LwS w1 v own D b rb W x wy) (i : Nat) (hi : i < 64) (o : Int) (ho : o = ((192 + 8 * i : Nat) : Int)) => h.pl.st.load0 i hi o ho)
    have HSC : Hid (∃ C, SCl D 0 20 C x) := let ⟨C, h, _⟩ := R.out.pl.st.cl; ⟨C, h⟩
    have HRS := Lib.hid (fun k => show natsU ((List.range (k + 1)).map W) = natsU ((List.range k).map W) ++ natsU [W k] from by rw [List.range_succ, List.map_append]; simp [natsU])
    have A0 : Hid (Acc wt wt.heap.size wt 32 1 (.slice none 0 0) 0 (natsU ((List.range 0).map W))) := Acc.nil _ _ _ _ _ (Below.refl _ _) (Nat.le_refl _)
    go_wp2_with fail
    (with_reducible refine (thread0_any R.out.pl.st.dev).mono ?_)
    rintro r w' ⟨rfl, rfl⟩
    go_wp2_with fail
    go_loopw [13, 14, 48] (fun ov _ z wr => ∃ k : Nat, k ≤ 64 ∧ z = .int .u64 k ∧ Acc wt wt.heap.size wr 32 1 ov k (natsU ((List.range k).map W))) (fun _ _ z _ => 64 - (intOf z).toNat)
    case atStart => exact ⟨0, by omega, rfl, A0.out⟩
    case round =>
      clear A0
      obtain ⟨k, hk, rfl, hA⟩ := hrel
      rename World => wr
      obtain ⟨oa, oc, rfl⟩ := hA.slice
      have A := Lib.hid hA
      clear hA
      by_cases hlt : k < 64
      · have hlt' : (k : Int) < 64 := by omega
        have ga1 : IntKind.u64.wrap (8 * (k : Int)) = 8 * (k : Int) := IntWalk.u64_in _ (by omega)
        have ga2 : IntKind.u64.wrap (192 + 8 * (k : Int)) = 192 + 8 * (k : Int) := IntWalk.u64_in _ (by omega)
        have ga3 : IntKind.u64.wrap ((k : Int) + 1) = ((k + 1 : Nat) : Int) := by rw [show ((k : Int) + 1) = ((k + 1 : Nat) : Int) by omega]; exact IntWalk.u64_in _ (by omega)
        have HL := Lib.hid (HLD.out wr (R.out.next A.out.bel) k hlt)
        have HRK := Lib.hid (HRS.out k)
        obtain ⟨y, hy⟩ : ∃ y, W k = y := ⟨_, rfl⟩
        rw [hy] at HL HRK
        clear hy
        go_wp2_with fail
        (with_reducible refine (HL.out _ (by omega)).mono ?_)
        rintro r w' ⟨rfl, rfl⟩
        go_wp2_with (at_builtin; refine wpList_append_sl _ rfl _ _ 44 rfl 32 i0 _ 1 8 Tryz.underlying44 I.out.1 I.out.2.1 I.out.2.2.1 I.out.2.2.2 rfl (by decide) _ k (natsU ((List.range k).map W)) rfl (by exact A.out.own.alloc _) _ 1 (natsU [y]) rfl (by exact RdSl.newAt _ _ _ 1 1 _ (by simp) rfl) (natsU_one _) (by unfold maxLen; omega) (by omega) ?_)
        intro v1 w6 o1 g1 n1 m1
        have A4 : Hid (Acc wt wt.heap.size w6 32 1 v1 (k + 1) (natsU ((List.range (k + 1)).map W))) := by
          show Acc _ _ _ _ _ _ _ _
          have := A.out.next (m := 1) (below_alloc wr _) o1 g1 n1 (by simp)
          rw [HRK.out]
          exact this
        clear o1 g1 n1 m1 A
        go_wp2_with fail
        go_roundw
        case rel => exact ⟨k + 1, by omega, by first | rfl | go_num, A4.out⟩
        case measure => simp [intOf]; omega
      · obtain rfl : k = 64 := by omega
        rw [show ((64 : Nat) : Int) = 64 from rfl]
        obtain ⟨g, o, c, e', h0⟩ := opS_start R.out A.out
        cases e'
        have P0 := Lib.hid h0
        clear h0 A HLD HRS
        obtain ⟨L0, hL0⟩ : ∃ L0, (List.range 64).map W = L0 := ⟨_, rfl⟩
        rw [hL0] at P0
        clear hL0 R
        go_upto_block 4 with fail
        go_cut [] (fun wx => ∃ L, OpS w1 v own D g o oc L wx)
        case first =>
          go_wp2_with fail
          go_loopw [15, 16, 62] (fun _ _ z wr => ∃ i : Nat, i ≤ m ∧ i ≤ 3 ∧ z = .int .i64 i ∧ ∃ L, OpS w1 v own D g o oc L wr) (fun _ _ z _ => m - (intOf z).toNat)
          case atStart => exact ⟨0, by omega, by omega, rfl, _, P0.out⟩
          case round =>
            clear P0
            obtain ⟨i, hi, hi3, rfl, L, hs⟩ := hrel
            have P := Lib.hid hs
            clear hs
            rename World => wr
            by_cases hlt : i < m
            · have hi1 : (i : Int) < m := by omega
              obtain ⟨ab, aq, q, sb, x, rfl, c0, c1, c2, b0, b2⟩ := spR_now HTA.out (HSP.out i hlt) (HEND.out _ P.out.bel)
              have P4 := Lib.hid (P.out.next (below_alloc wr (.cells #[.int .u8 q, .bool sb, .int .u64 x] 47)))
              by_cases h3 : i = 3
              · have hq : ((i : Int) == 3) = true := by simp; omega
                clear h3
                go_wp2_with fail
                go_meet
                exact ⟨_, P4.out⟩
              · have hq : ((i : Int) == 3) = false := by simp; omega
                obtain ⟨k, hk⟩ : ∃ k : Nat, (q : Int) % 64 = (k : Int) := ⟨q % 64, by omega⟩
                have hk64 : k < 64 := by omega
                have hk64' : (k : Int) < 64 := by omega
                obtain ⟨d1, d2, d3⟩ := P.out.cell hk64
                have hgl := P.out.lt
                have hcap := P.out.cap
                cases sb
                · obtain ⟨s, hs⟩ : ∃ s : Nat, (x : Int) % 64 = (s : Int) := ⟨x % 64, by omega⟩
                  have hs64 : s < 64 := by omega
                  have P5 := Lib.hid (fun (y : Nat) (hy : y < 18446744073709551616) (ob : Obj) => (P.out.set hk64 y hy).next (below_alloc _ ob))
                  generalize L.getD k 0 = old at *
                  clear P
                  go_wp2_with fail
                  obtain ⟨y, hy, hval⟩ := xor_pow old s d3 hs64
                  have P6 := Lib.hid (fun (ob : Obj) => (P5.out y hy ob).next ((Below.refl _ _).drew))
                  have HVAL := Lib.hid hval
                  clear hval hy hs64
                  go_region
                  go_wp2_with fail
                  go_roundw
                  case rel => exact ⟨i + 1, by omega, by omega, by go_num, _, by rw [HVAL.out]; exact P6.out _⟩
                  case measure => simp [intOf]; omega
                · have P5 := Lib.hid (fun (ob : Obj) => (P.out.set hk64 x b2).next (below_alloc _ ob))
                  clear P
                  go_wp2_with fail
                  go_roundw
                  case rel => exact ⟨i + 1, by omega, by omega, by go_num, _, P5.out _⟩
                  case measure => simp [intOf]; omega
            · obtain rfl : i = m := by omega
              go_wp2_with fail
              go_meet
              exact ⟨_, P.out⟩
        case rest =>
          clear P0
          obtain ⟨L, hP⟩ := hcut
          rename World => wq
          have P := Lib.hid hP
          clear hP
          have e0 := (C1.out.below P.out.bel).cell (i := 0) (v := .int .u8 a0) rfl
          have e1 := (C1.out.below P.out.bel).cell (i := 1) (v := .int .u8 a1) rfl
          go_upto_if 94 with fail
          go_cut [] (fun wx => ∃ L, OpS w1 v own D g o oc L wx)
          case first =>
            by_cases h4 : a0 % 4 = 0
            · have q4 : ((a0 : Int) % 4 == 0) = true := by simp; omega
              obtain ⟨U, hU⟩ : ∃ U : Nat, 4 * (a1 % 16) = U := ⟨_, rfl⟩
              obtain ⟨S, hS⟩ : ∃ S : Nat, 4 * (a1 / 16) = S := ⟨_, rfl⟩
              have hU60 : U ≤ 60 := by omega
              have hS60 : S ≤ 60 := by omega
              have gb1 : 4 * ((a1 : Int) % 16) = (U : Int) := by omega
              have gb2 : 4 * ((a1 : Int) / 16) = (S : Int) := by omega
              have gb6 : 4 * (a1 : Int).tmod 16 = (U : Int) := by rw [Int.tmod_eq_emod_of_nonneg (by omega)]; exact gb1
              have gb7 : 4 * (a1 : Int).tdiv 16 = (S : Int) := by rw [Int.tdiv_eq_ediv_of_nonneg (by omega)]; exact gb2
              have gb9 : IntKind.u8.wrap ((a1 : Int) / 16) = (a1 : Int) / 16 := by unfold IntKind.wrap; simp [IntKind.signed, IntKind.bits]; omega
              have gb8 : IntKind.u8.wrap ((a1 : Int).tdiv 16) = (a1 : Int).tdiv 16 := by rw [Int.tdiv_eq_ediv_of_nonneg (by omega)]; exact gb9
              have gb3 : IntKind.u8.wrap (U : Int) = (U : Int) := by unfold IntKind.wrap; simp [IntKind.signed, IntKind.bits]; omega
              have gb4 : IntKind.u8.wrap (S : Int) = (S : Int) := by unfold IntKind.wrap; simp [IntKind.signed, IntKind.bits]; omega
              have gb5 : IntKind.u8.wrap ((S : Int) + 4) = (S : Int) + 4 := by unfold IntKind.wrap; simp [IntKind.signed, IntKind.bits]; omega
              have hcap := P.out.cap
              have gt1 : ((S : Int) + 4).toNat = S + 4 := by omega
              have gt2 : max ((S : Int) + 4) 0 = (S : Int) + 4 := by omega
              have gt3 : (0 : Int) ≤ (S : Int) + 4 := by omega
              have gt4 : (S : Int) + 4 ≤ oc := by omega
              have gt5 : (S : Int) ≤ (S : Int) + 4 := by omega
              have gt6 : ¬ oc = S := by omega
              have gt7 : ¬ oc = U := by omega
              have gt8 : (U : Int) ≤ 64 := by omega
              have gt9 : (U : Int) ≤ oc := by omega
              have gt10 : (64 : Int) ≤ (oc : Int) := by omega
              have gt11 : (S : Int) ≤ oc := by omega
              have gt12 : (S : Int) ≤ 64 := by omega
              have gt13 : (S : Int) + 4 ≤ 64 := by omega
              have PT := Lib.hid (P.out.part hS60)
              have HU60 := Lib.hid hU60; have HS60 := Lib.hid hS60
              have EC := Lib.hid (fun (wx : World) (hb : Below w1.heap.size w1 wx) => (C1.out.below hb).cell (i := 1) (v := .int .u8 a1) rfl)
              have E0 : Hid (wq.drew.cell? ⟨w.heap.size, 1, none⟩ = some (.int .u8 a1)) := EC.out _ P.out.bel.drew
              have EA : Hid ((wq.alloc (.cells #[] 32)).drew.cell? ⟨w.heap.size, 1, none⟩ = some (.int .u8 a1)) := EC.out _ (P.out.next (below_alloc wq (.cells #[] 32))).bel.drew
              clear h4 hU hS e0 e1
              go_wp2_with fail
              go_region_held3 (fun wx => wx.cell? ⟨w.heap.size, 1, none⟩ = some (.int .u8 a1)) (first | (with_reducible exact E2.out) | (with_reducible exact E1.out) | (with_reducible exact EA.out) | (with_reducible exact E0.out)) (first | (refine step_append_sl (w := (wq.alloc (.cells #[] 32)).drew) rfl (.tmp 101) (.tmp 112) 44 rfl 32 i0 _ 1 8 Tryz.underlying44 I.out.1 I.out.2.1 I.out.2.2.1 I.out.2.2.2 rfl (by decide) (.slice (some ⟨wq.heap.size, 0, none⟩) 0 0) 0 [] rfl (by exact (OwnSl.new wq #[] 32 1 0 0 rfl (Nat.le_refl _) (Nat.zero_le _)).drew) _ 4 (natsU ((L.drop S).take 4)) rfl (by exact (PT.out.alloc _).drew) (natsU_one _) (by unfold maxLen; omega) (by omega) ?_; intro v1 w8 o8 g8 b8; have hb8 := own_chain (v1 := .slice (some ⟨wq.heap.size, 0, none⟩) 0 0) ⟨below_alloc wq (.cells #[] 32), fun g hg => by cases hg; exact Nat.le_refl _⟩ ((Below.refl _ _).drew) g8 b8 (sz1 wq _); have P8 := Lib.hid (P.out.next hb8.1); obtain ⟨eb, eo, ec, rfl, hs8⟩ := own_four o8; obtain ⟨w9, hcp, h9⟩ := P8.out.copy (ec := ec) HU60.out HS60.out hs8; have P9 := Lib.hid h9; have E1 := Lib.hid (EC.out _ P8.out.bel); have E2 := Lib.hid (EC.out _ P9.out.bel); clear o8 g8 b8 hb8 hs8 h9))
              all_goals go_wp2_with fail
              all_goals go_meet
              all_goals exact ⟨_, P9.out⟩
            · have q4 : ((a0 : Int) % 4 == 0) = false := by simp; omega
              clear h4
              go_wp2_with fail
              go_meet
              exact ⟨_, P.out⟩
          case rest =>
            clear e0 e1 P
            obtain ⟨L, hP⟩ := hcut
            rename World => wa
            have P := Lib.hid hP
            clear hP
            obtain ⟨C, hC⟩ := HSC.out
            have HST := Lib.hid (fun (k : Nat) (hk : k < 64) (own' : Nat → Option Role) (wy : World) (h : OpS w1 v own' (stD D L k) g o oc L wy) (off val : Int) (ho : off = ((192 + 8 * k : Nat) : Int)) (hv : val = ((L.getD k 0 : Nat) : Int)) => h.store hC hx6 hk off val ho hv)
            have HWT := Lib.hid (stD_wat hC P.out.bd P.out.len)
            clear hC C
            go_wp2_with fail
            go_loopw [17, 115] (fun _ z wr => ∃ k : Nat, k ≤ 64 ∧ z = .int .u64 k ∧ ∃ own', OpS w1 v own' (stD D L k) g o oc L wr) (fun _ z _ => 64 - (intOf z).toNat)
            case atStart => exact ⟨0, by omega, rfl, _, P.out⟩
            case round =>
              clear P
              obtain ⟨k, hk, rfl, own5, h5⟩ := hrel
              rename World => wr
              have P5 := Lib.hid h5
              clear h5
              by_cases hlt : k < 64
              · have hlt' : (k : Int) < 64 := by omega
                have ga1 : IntKind.u64.wrap (8 * (k : Int)) = 8 * (k : Int) := IntWalk.u64_in _ (by omega)
                have ga2 : IntKind.u64.wrap (192 + 8 * (k : Int)) = 192 + 8 * (k : Int) := IntWalk.u64_in _ (by omega)
                have ga3 : IntKind.u64.wrap ((k : Int) + 1) = ((k + 1 : Nat) : Int) := by rw [show ((k : Int) + 1) = ((k + 1 : Nat) : Int) by omega]; exact IntWalk.u64_in _ (by omega)
                obtain ⟨d1, _, _⟩ := P5.out.cell hlt
                have hs2 := HST.out k hlt own5 wr P5.out
                obtain ⟨y, hy⟩ : ∃ y, L.getD k 0 = y := ⟨_, rfl⟩
                rw [hy] at d1 hs2
                have HS2 := Lib.hid (hs2 (192 + 8 * (k : Int)) (y : Int) (by omega) rfl)
                clear P5 hs2 hy
                go_wp2_with fail
                (with_reducible refine HS2.out.mono ?_)
                rintro r w6 ⟨rfl, own6, h6⟩
                have P6 := Lib.hid h6
                clear h6 d1 HS2
                go_wp2_with fail
                go_roundw
                case rel => exact ⟨k + 1, by omega, by first | rfl | go_num, _, P6.out⟩
                case measure => simp [intOf]; omega
              · obtain rfl : k = 64 := by omega
                have NB := Lib.hid (N1.out.below P5.out.bel)
                have hop := rtOpen_any P5.out.dev NB.out (j := 0) (by omega) 3 HWT.out.2.1 HWT.out.2.2 HWT.out.1
                rw [show ((3 : Nat) : Int) = 3 from rfl] at hop
                have HOPN := Lib.hid hop
                have HRD := Lib.hid (fun (wy : World) (h : OpS w1 v own5 (stD D L 64) g o oc L wy) => r14Read_any (w := wy) (V := fun i => L.getD i 0) (.slice (some ⟨g, o, none⟩) 64 oc) (by rw [← nats_all h.len]; exact h.ow.rd) HWT.out.1.bd)
                have HDON := Lib.hid (fun (wy : World) (sb : Nat) (hd : IsDev wy v own5 (stD D L 64)) (dir : DirAt wy sb (64 * 3) (.iface 42 (.pointer (some ⟨v.tb 0, 0, none⟩)))) => (show DOn wy v own5 (stD D L 64) 0 sb 192 (fun i => L.getD i 0) from ⟨hd, by omega, dir, HWT.out.2.1, HWT.out.2.2, HWT.out.1⟩))
                clear hop HST
                have hoi := fun h => opn_inv (V := fun i => L.getD i 0) h
                obtain ⟨V, hV⟩ : ∃ V : Nat → Nat, (fun i => L.getD i 0) = V := ⟨_, rfl⟩
                rw [hV] at HOPN HRD HDON hoi
                have HOI := Lib.hid hoi
                clear HWT hoi hV
                go_wp2_with fail
                (with_reducible refine HOPN.out.mono ?_)
                rintro r w6 (⟨he, rfl, b6⟩ | ⟨he, rfl, dir, b6⟩)
                · have P6 := Lib.hid (P5.out.next b6)
                  have HE := Lib.hid he
                  clear he b6 P5 HOPN
                  go_wp2_with fail
                  (with_reducible refine (HRD.out _ P6.out).mono ?_)
                  rintro r w7 (⟨_, rfl, b7⟩ | ⟨he2, _⟩)
                  · have P7 := Lib.hid (P6.out.next b7)
                    have hne := HE.out
                    obtain ⟨er, her⟩ : ∃ er, opnE V = er := ⟨_, rfl⟩
                    rw [her] at hne ⊢
                    have z1 : ((er : Int) != er) = false := by simp
                    have z2 : ((er : Int) != 0) = true := by simp; omega
                    clear hne her b7 P6 HE
                    go_wp2_with fail
                    go_ret
                    exact ⟨rfl, HEND.out _ P7.out.bel⟩
                  · exact absurd he2 HE.out
                · have P6 := Lib.hid (P5.out.next b6)
                  have DN6 := Lib.hid (HDON.out _ _ P6.out.dev dir)
                  have HE := Lib.hid he
                  generalize wr.heap.size = sb at *
                  clear he b6 P5 HOPN dir
                  go_wp2_with fail
                  (with_reducible refine (HRD.out _ P6.out).mono ?_)
                  rintro r w7 (⟨he2, _⟩ | ⟨_, rfl, hrf, b7⟩)
                  · exact absurd HE.out he2
                  · have P7 := Lib.hid (P6.out.next b7)
                    have DN7 := Lib.hid (DN6.out.next b7)
                    have HRF := Lib.hid hrf
                    obtain ⟨hi1, hi2⟩ := HOI.out HE.out
                    have HLS := Lib.hid (listed_any DN7.out HRF.out hi1)
                    have HEQ := Lib.hid (lstL_eq hi2).1
                    clear hrf b7 P6 DN6 HRD hi1 hi2
                    go_wp2_with fail
                    (with_reducible refine HLS.out.mono ?_)
                    rintro r w8 ⟨bb, rfl, hbb, b8⟩
                    obtain rfl : bb = true := hbb HEQ.out
                    have P8 := Lib.hid (P7.out.next b8)
                    clear b8 P7 DN7 HLS hbb
                    go_wp2_with fail
                    go_ret
                    exact ⟨rfl, HEND.out _ P8.out.bel⟩
end
end Go.Proofs.YtmfchlliechikaaGreatDoor

/- Arguments opened: spoils of a directory. For layer 14. -/
namespace Go.Proofs.YtmfchlliechikaaGreatDoor
open Go.ChangeShapes Go.WideShapes Go.ChangeAt Go.RowKit Go.Joins Go.Deep

section
variable {H : Type} {enc : TypeId × Value → H}
set_option maxRecDepth 100000 in
theorem open_spsR {W : World} {base b : Nat} {sp : Nat → Bool} {hd : Bool} {v : Value} {d : DataW H} {p : List MemPlace} (hv : Value.okWide Tryz.prog W .any b 25 v) (h : DataW.Trod enc Tryz.prog W base sp hd 25 v d p) :
    ∃ (n : Nat) (xs : List Value), RdSl W 3 v n xs ∧ n ≤ maxLen ∧ ∀ i, i < n → SpR xs i := by
  obtain ⟨a0, len, cap, rfl⟩ := okWide_slice Tryz.underlying25 hv
  obtain ⟨fuel, hf⟩ := h
  obtain ⟨a, n, c, xs, hv', hrd, hn, hfl⟩ := open_structs Tryz.underlying25 Tryz.underlying47 (by kernel_rfl) (by kernel_rfl) (by decide) hf
  obtain ⟨rfl, rfl, rfl⟩ : a0 = a ∧ len = n ∧ cap = c := by simpa using hv'
  refine ⟨len, xs, hrd, hn, fun i hi => ?_⟩
  obtain ⟨q, hq⟩ := hfl i hi
  obtain ⟨u0, y0, e0, t0⟩ := hq 0 _ rfl
  obtain ⟨u1, y1, e1, t1⟩ := hq 1 _ rfl
  obtain ⟨u2, y2, e2, t2⟩ := hq 2 _ rfl
  obtain ⟨x0, h0, _, w0⟩ := DataW.trod_int Tryz.underlying5 t0
  obtain ⟨x1, h1, _⟩ := DataW.trod_bool Tryz.underlying4 t1
  obtain ⟨x2, h2, _, w2⟩ := DataW.trod_int Tryz.underlying32 t2
  simp only [List.cons.injEq, and_true] at h0 h1 h2
  subst h0 h1 h2
  obtain ⟨m0, rfl, b0⟩ := u8_nat w0
  obtain ⟨m2, rfl, b2⟩ := u64_nat w2
  exact ⟨m0, x1, m2, e0, e1, e2, b0, b2⟩
end
end Go.Proofs.YtmfchlliechikaaGreatDoor
