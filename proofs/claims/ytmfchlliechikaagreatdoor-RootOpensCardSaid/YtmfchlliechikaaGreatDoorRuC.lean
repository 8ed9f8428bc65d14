/- Plain: what a change makes of a directory of the reference. -/
import Derived.Test.YtmfchlliechikaaGreatDoorRtT
import Derived.Test.YtmfchlliechikaaGreatDoorRtI
namespace Go.Proofs.YtmfchlliechikaaGreatDoor
open Go.RowKit Go.Maps

theorem rfA_word (a : Nat) (nm : Nat → ByteArray) (pt W : Nat → Nat) (e k v : Nat) (he : e < 16) (hk : k < 4) :
    (rfA a nm pt W).setIfInBounds (1 + 6 * e + 2 + k) (.int .u64 v) = rfA a nm pt (fun i => if i = 4 * e + k then v else W i) := by
  obtain rfl | rfl | rfl | rfl : k = 0 ∨ k = 1 ∨ k = 2 ∨ k = 3 := by omega
  all_goals
    obtain rfl | rfl | rfl | rfl | rfl | rfl | rfl | rfl | rfl | rfl | rfl | rfl | rfl | rfl | rfl | rfl : e = 0 ∨ e = 1 ∨ e = 2 ∨ e = 3 ∨ e = 4 ∨ e = 5 ∨ e = 6 ∨ e = 7 ∨ e = 8 ∨ e = 9 ∨ e = 10 ∨ e = 11 ∨ e = 12 ∨ e = 13 ∨ e = 14 ∨ e = 15 := by omega
    all_goals kernel_rfl
theorem rfA_name (a : Nat) (nm : Nat → ByteArray) (pt W : Nat → Nat) (e : Nat) (s : ByteArray) (he : e < 16) :
    (rfA a nm pt W).setIfInBounds (1 + 6 * e) (.string s) = rfA a (fun i => if i = e then s else nm i) pt W := by
  obtain rfl | rfl | rfl | rfl | rfl | rfl | rfl | rfl | rfl | rfl | rfl | rfl | rfl | rfl | rfl | rfl : e = 0 ∨ e = 1 ∨ e = 2 ∨ e = 3 ∨ e = 4 ∨ e = 5 ∨ e = 6 ∨ e = 7 ∨ e = 8 ∨ e = 9 ∨ e = 10 ∨ e = 11 ∨ e = 12 ∨ e = 13 ∨ e = 14 ∨ e = 15 := by omega
  all_goals kernel_rfl
theorem rfA_ptr (a : Nat) (nm : Nat → ByteArray) (pt W : Nat → Nat) (e p : Nat) (he : e < 16) :
    (rfA a nm pt W).setIfInBounds (1 + 6 * e + 1) (.int .u64 p) = rfA a nm (fun i => if i = e then p else pt i) W := by
  obtain rfl | rfl | rfl | rfl | rfl | rfl | rfl | rfl | rfl | rfl | rfl | rfl | rfl | rfl | rfl | rfl : e = 0 ∨ e = 1 ∨ e = 2 ∨ e = 3 ∨ e = 4 ∨ e = 5 ∨ e = 6 ∨ e = 7 ∨ e = 8 ∨ e = 9 ∨ e = 10 ∨ e = 11 ∨ e = 12 ∨ e = 13 ∨ e = 14 ∨ e = 15 := by omega
  all_goals kernel_rfl
/-- A value for the entries that are written, another function for the rest. -/
def onK {α : Type} (s : α) (ws : List (Nat × Nat)) (nm : Nat → α) : Nat → α := fun i => if ws.any (fun e => e.1 / 4 == i) then s else nm i
theorem onK_snoc {α : Type} (s : α) (ws : List (Nat × Nat)) (x : Nat × Nat) (nm : Nat → α) : onK s (ws ++ [x]) nm = fun i => if i = x.1 / 4 then s else onK s ws nm i := by
  funext i
  unfold onK
  rw [List.any_append]
  by_cases h : i = x.1 / 4
  · rw [if_pos h]; subst h; simp
  · rw [if_neg h]
    have : (x.1 / 4 == i) = false := by simp; omega
    rw [show ([x].any fun e => e.1 / 4 == i) = false by show ((x.1 / 4 == i) || false) = false; rw [this]; rfl, Bool.or_false]
theorem setWs_snoc (ws : List (Nat × Nat)) (x : Nat × Nat) (W : Nat → Nat) : setWs (ws ++ [x]) W = fun i => if i = x.1 then x.2 else setWs ws W i := by
  unfold setWs
  rw [List.foldl_append]; rfl
/-- The reference's cells behind some writes. -/
def rfK (a : Nat) (s : ByteArray) (p : Nat) (ws : List (Nat × Nat)) (W : Nat → Nat) : Array Value := rfA a (onK s ws (nmR W)) (onK p ws (ptR W)) (setWs ws W)
theorem rfK_nil (a : Nat) (s : ByteArray) (p : Nat) (W : Nat → Nat) : rfK a s p [] W = rfA a (nmR W) (ptR W) W := rfl
theorem rfK_snoc (a : Nat) (s : ByteArray) (p : Nat) (ws : List (Nat × Nat)) (e k v : Nat) (W : Nat → Nat) (he : e < 16) (hk : k < 4) :
    (((rfK a s p ws W).setIfInBounds (1 + 6 * e + 2 + k) (.int .u64 v)).setIfInBounds (1 + 6 * e) (.string s)).setIfInBounds (1 + 6 * e + 1) (.int .u64 p) = rfK a s p (ws ++ [(4 * e + k, v)]) W := by
  unfold rfK
  rw [rfA_word _ _ _ _ _ _ _ he hk, rfA_name _ _ _ _ _ _ he, rfA_ptr _ _ _ _ _ _ he, onK_snoc, onK_snoc, setWs_snoc]
  rw [show (4 * e + k, v).1 / 4 = e by show (4 * e + k) / 4 = e; omega]
theorem bytes_ext {s t : ByteArray} (h : s.toList = t.toList) : s = t := by
  rw [ByteArray.toList_eq, ByteArray.toList_eq] at h
  cases s; cases t
  simpa using h
theorem findE_hit {W : Nat → Nat} {l : List UInt8} (h : findE W l < 16) : W (4 * findE W l + 3) ≠ 0 ∧ nameE W (findE W l) = l := by
  have := (firstI_spec (fun e => usedE W e && nameE W e == l) 16).2 h
  simp only [Bool.and_eq_true, beq_iff_eq] at this
  refine ⟨?_, this.2⟩
  have hu : usedE W (findE W l) = true := this.1
  unfold usedE at hu
  simpa using hu
/-- Behind a change the reference's directory is that of the new words. -/
theorem rfK_done (a : Nat) (s : ByteArray) (p : Nat) (W : Nat → Nat) (h : errE W s.toList p 1280 = 0) :
    rfK a (if p = 0 then { data := #[] } else s) (if p = 0 then 0 else p) (wrE W s.toList p) W = rfA a (nmR (setWs (wrE W s.toList p) W)) (ptR (setWs (wrE W s.toList p) W)) (setWs (wrE W s.toList p) W) := by
  have hnb : nameB s.toList = true := by
    unfold errE at h
    split at h
    · omega
    · rename_i hx; simpa using hx
  have key : ∀ f, f < 16 → (∀ x ∈ wrE W s.toList p, x.1 / 4 = f) → wrE W s.toList p ≠ [] →
      nmR (setWs (wrE W s.toList p) W) f = (if p = 0 then { data := #[] } else s) → ptR (setWs (wrE W s.toList p) W) f = (if p = 0 then 0 else p) →
      rfK a (if p = 0 then { data := #[] } else s) (if p = 0 then 0 else p) (wrE W s.toList p) W = rfA a (nmR (setWs (wrE W s.toList p) W)) (ptR (setWs (wrE W s.toList p) W)) (setWs (wrE W s.toList p) W) := by
    intro f hf hall hne h1 h2
    have hoth : ∀ i j, i ≠ f → j / 4 = i → setWs (wrE W s.toList p) W j = W j := by
      intro i j hi hj
      generalize wrE W s.toList p = ws at *
      clear hne h1 h2
      have : ∀ (ws : List (Nat × Nat)) (W : Nat → Nat), (∀ x ∈ ws, x.1 / 4 = f) → setWs ws W j = W j := by
        intro ws
        induction ws with
        | nil => intro W _; rfl
        | cons x ws ih =>
          intro W hx
          show setWs ws (fun i => if i = x.1 then x.2 else W i) j = W j
          rw [ih _ fun y hy => hx y (List.mem_cons_of_mem _ hy)]
          have := hx x (List.mem_cons_self ..)
          exact if_neg (by omega)
      exact this ws W hall
    have hany : ∀ i, (wrE W s.toList p).any (fun e => e.1 / 4 == i) = decide (i = f) := by
      intro i
      generalize wrE W s.toList p = ws at *
      rw [Bool.eq_iff_iff, List.any_eq_true]
      simp only [beq_iff_eq, decide_eq_true_eq]
      constructor
      · rintro ⟨x, hx, hi⟩; rw [← hi]; exact hall x hx
      · rintro rfl
        cases ws with
        | nil => exact absurd rfl hne
        | cons x ws => exact ⟨x, List.mem_cons_self .., hall x (List.mem_cons_self ..)⟩
    unfold rfK
    congr 1
    · funext i
      unfold onK
      rw [hany]
      by_cases hi : i = f
      · subst hi; rw [if_pos (by simp), h1]
      · rw [if_neg (by simpa using hi)]
        unfold nmR
        rw [hoth i _ hi (by omega), hoth i _ hi (by omega), hoth i _ hi (by omega)]
    · funext i
      unfold onK
      rw [hany]
      by_cases hi : i = f
      · subst hi; rw [if_pos (by simp), h2]
      · rw [if_neg (by simpa using hi)]
        unfold ptR
        rw [hoth i _ hi (by omega), hoth i _ hi (by omega)]
  by_cases h0 : p = 0
  · have hf : findE W s.toList < 16 := by
      unfold errE at h
      rw [if_neg (by rw [hnb]; simp), if_neg (by simp [h0]), if_pos h0] at h
      split at h
      · assumption
      · omega
    have hw : wrE W s.toList p = [(4 * findE W s.toList + 3, 0)] := by unfold wrE; rw [if_pos h0]
    refine key (findE W s.toList) hf ?_ ?_ ?_ ?_
    · rw [hw]; intro x hx; rw [List.mem_singleton] at hx; subst hx; show (4 * findE W s.toList + 3) / 4 = _; omega
    · rw [hw]; simp
    · rw [hw, if_pos h0]
      unfold nmR
      exact if_pos (if_pos rfl)
    · rw [hw, if_pos h0]
      unfold ptR
      exact if_pos (if_pos rfl)
  · by_cases hf : findE W s.toList < 16
    · obtain ⟨hu, hn⟩ := findE_hit hf
      have hw : wrE W s.toList p = [(4 * findE W s.toList + 2, p)] := by unfold wrE; rw [if_neg h0, if_pos hf]
      have e3 : setWs (wrE W s.toList p) W (4 * findE W s.toList + 3) = W (4 * findE W s.toList + 3) := by rw [hw]; exact if_neg (by omega)
      have e2 : setWs (wrE W s.toList p) W (4 * findE W s.toList + 2) = p := by rw [hw]; exact if_pos rfl
      have e1 : setWs (wrE W s.toList p) W (4 * findE W s.toList + 1) = W (4 * findE W s.toList + 1) := by rw [hw]; exact if_neg (by omega)
      have e0 : setWs (wrE W s.toList p) W (4 * findE W s.toList) = W (4 * findE W s.toList) := by rw [hw]; exact if_neg (by omega)
      refine key (findE W s.toList) hf ?_ ?_ ?_ ?_
      · rw [hw]; intro x hx; rw [List.mem_singleton] at hx; subst hx; show (4 * findE W s.toList + 2) / 4 = _; omega
      · rw [hw]; simp
      · unfold nmR
        rw [e3, if_neg hu, e0, e1, if_neg h0]
        exact bytes_ext ((nmS_list _ _).trans hn)
      · unfold ptR
        rw [e3, if_neg hu, e2, if_neg h0]
    · have hfr : freeE W < 16 := by
        rcases Nat.lt_or_ge (freeE W) 16 with hx | hx
        · exact hx
        · exfalso
          by_cases hpb : ptrB p 1280 = false <;> simp [errE, hnb, h0, hf, Nat.not_lt.2 hx, hpb] at h
      have hw : wrE W s.toList p = newW (freeE W) s.toList p := by unfold wrE; rw [if_neg h0, if_neg hf]
      generalize freeE W = f at *
      have e3 : setWs (wrE W s.toList p) W (4 * f + 3) = tagN (pk0 s.toList) (pk1 s.toList) := by rw [hw]; exact if_pos rfl
      have e2 : setWs (wrE W s.toList p) W (4 * f + 2) = p := by
        rw [hw]
        show (if 4 * f + 2 = 4 * f + 3 then _ else if 4 * f + 2 = 4 * f + 2 then p else _) = p
        rw [if_neg (by omega), if_pos rfl]
      have e1 : setWs (wrE W s.toList p) W (4 * f + 1) = pk1 s.toList := by
        rw [hw]
        show (if 4 * f + 1 = 4 * f + 3 then _ else if 4 * f + 1 = 4 * f + 2 then _ else if 4 * f + 1 = 4 * f + 1 then pk1 s.toList else _) = _
        rw [if_neg (by omega), if_neg (by omega), if_pos rfl]
      have e0 : setWs (wrE W s.toList p) W (4 * f) = pk0 s.toList := by
        rw [hw]
        show (if 4 * f = 4 * f + 3 then _ else if 4 * f = 4 * f + 2 then _ else if 4 * f = 4 * f + 1 then _ else if 4 * f = 4 * f then pk0 s.toList else _) = _
        rw [if_neg (by omega), if_neg (by omega), if_neg (by omega), if_pos rfl]
      refine key f hfr ?_ ?_ ?_ ?_
      · rw [hw]
        intro x hx
        simp only [newW, List.mem_cons, List.not_mem_nil, or_false] at hx
        rcases hx with rfl | rfl | rfl | rfl
        · show 4 * f / 4 = f; omega
        · show (4 * f + 1) / 4 = f; omega
        · show (4 * f + 2) / 4 = f; omega
        · show (4 * f + 3) / 4 = f; omega
      · rw [hw]; simp [newW]
      · unfold nmR
        rw [e3, if_neg (tagN_pos _ _), e0, e1, if_neg h0]
        exact bytes_ext ((nmS_list _ _).trans (nmL_pk hnb))
      · unfold ptR
        rw [e3, if_neg (tagN_pos _ _), e2, if_neg h0]
end Go.Proofs.YtmfchlliechikaaGreatDoor

/- The walk of the reference's Change. -/
namespace Go.Proofs.YtmfchlliechikaaGreatDoor
open Go.RowKit Go.Maps
attribute [local go_sem ↓] Go.wp_at_zero Go.wp_at_succ

section
variable {w : World} {b off : Nat} {W : Nat → Nat}
theorem upd_of_below {w w' : World} {S : Nat → Prop} (h : Below w.heap.size w w') : Upd S w w' := ⟨h.os, h.tape, h.output, h.size, fun k hk _ => h.block k hk⟩
theorem wrO_get (off : Nat) (ws : List (Nat × Nat)) (m : Nat) (x : Nat × Nat) (h : ws[m]? = some x) : (flat (wrO off ws))[m * 2]? = some (.int .u64 ((off + 8 * x.1 : Nat) : Int)) ∧ (flat (wrO off ws))[m * 2 + 1]? = some (.int .u64 (x.2 : Nat)) := by
  induction ws generalizing m with
  | nil => simp at h
  | cons y ws ih =>
    cases m with
    | zero => cases h; exact ⟨rfl, rfl⟩
    | succ m =>
      have := ih m (by simpa using h)
      rw [show (m + 1) * 2 = m * 2 + 1 + 1 by omega]
      exact this
theorem rfK_cells (a : Nat) (s : ByteArray) (p : Nat) (ws : List (Nat × Nat)) (W : Nat → Nat) (e k : Nat) (he : e < 16) (hk : k < 4) :
    (∃ u : Nat, (rfK a s p ws W)[1 + e * 6 + 2 + k]? = some (.int .u64 u)) ∧ (∃ u, (rfK a s p ws W)[1 + e * 6]? = some (.string u)) ∧ ∃ u : Nat, (rfK a s p ws W)[1 + e * 6 + 1]? = some (.int .u64 u) := by
  unfold rfK
  refine ⟨⟨setWs ws W (4 * e + k), ?_⟩, ⟨onK s ws (nmR W) e, ?_⟩, ⟨onK p ws (ptR W) e, ?_⟩⟩
  · rw [show 1 + e * 6 + 2 + k = 1 + 6 * e + (2 + k) by omega, rfA_get _ _ _ _ e (2 + k) he (by omega)]
    obtain rfl | rfl | rfl | rfl : k = 0 ∨ k = 1 ∨ k = 2 ∨ k = 3 := by omega
    all_goals rfl
  · rw [show 1 + e * 6 = 1 + 6 * e + 0 by omega, rfA_get _ _ _ _ e 0 he (by omega)]; rfl
  · rw [show 1 + e * 6 + 1 = 1 + 6 * e + 1 by omega, rfA_get _ _ _ _ e 1 he (by omega)]; rfl
/-- A round's state. -/
structure ChSt (b off n : Nat) (s : ByteArray) (p : Nat) (ws : List (Nat × Nat)) (W : Nat → Nat) (w2 : World) (m : Nat) (wx : World) : Prop where
  blk : Blk wx b (rfK off s p (ws.take m) W) 38
  upd : Upd (· = b) w2 wx
theorem ChSt.step {n m e k v : Nat} {s : ByteArray} {p : Nat} {ws : List (Nat × Nat)} {w2 wx : World} (h : ChSt b off n s p ws W w2 m wx) (he : e < 16) (hk : k < 4) (hx : ws.take (m + 1) = ws.take m ++ [(4 * e + k, v)]) (o : Obj) :
    ChSt b off n s p ws W w2 (m + 1) ((((wx.setCell ⟨b, 1 + e * 6 + 2 + k, none⟩ (.int .u64 (v : Nat))).setCell ⟨b, 1 + e * 6, none⟩ (.string s)).setCell ⟨b, 1 + e * 6 + 1, none⟩ (.int .u64 (p : Nat))).alloc o).drew.drew.drew := by
  refine ⟨?_, ((((h.upd.setCell (fun _ => rfl) _).setCell (fun _ => rfl) _).setCell (fun _ => rfl) _).alloc o).drew.drew.drew⟩
  have hb := ((((h.blk.set (1 + e * 6 + 2 + k) (.int .u64 (v : Nat))).set (1 + e * 6) (.string s)).set (1 + e * 6 + 1) (.int .u64 (p : Nat))).alloc o).drew.drew.drew
  have hs := rfK_snoc off s p (ws.take m) e k v W he hk
  rw [Nat.mul_comm 6 e] at hs
  rw [hs, ← hx] at hb
  exact hb
set_option maxRecDepth 100000 in
set_option maxHeartbeats 8000000 in
theorem r14Change_any (h : RfAt w b off W) (hI : InvW W) (ho : off ≤ 262144) (s : ByteArray) (p : Nat) (hp : p < 18446744073709551616) :
    Calls Tryz.prog 37 #[.pointer (some ⟨b, 0, none⟩), .string s, .int .u64 p, .int .u64 1280] w fun r w' => r = .returned (.int .i64 (errE W s.toList p 1280 : Nat)) ∧ RfAt w' b off (chgE W s.toList p 1280) ∧ Upd (· = b) w w' := by
  have HAC := Lib.hid (r14Actions_any h hI ho s p hp)
  have H := Lib.hid h
  have HIN := Lib.hid (fun he => wrE_in W s.toList p 1280 he hp)
  have HDN := Lib.hid (fun he => rfK_done off s p W he)
  have hbs : b < w.heap.size := h.blk.lt
  obtain ⟨er, her⟩ : ∃ er, errE W s.toList p 1280 = er := ⟨_, rfl⟩
  unfold AcPR at HAC
  unfold chgE
  rw [her] at HAC HIN HDN ⊢
  obtain ⟨ws, hws⟩ : ∃ ws, wrE W s.toList p = ws := ⟨_, rfl⟩
  rw [hws] at HAC HIN HDN ⊢
  have HL4 : Hid (ws.length ≤ 4) := by rw [← hws]; exact wrE_len W s.toList p
  clear h hI her hws
  go_enter Tryz.func37, Tryz.ntmps37
  go_wp2_with fail
  (with_reducible refine HAC.out.mono ?_)
  rintro r w2 (⟨he, rfl, b2⟩ | ⟨he, ov, rfl, ha⟩)
  · have hq : ((er : Int) != 0) = true := by simp; omega
    have B2 := Lib.hid b2
    have HE := Lib.hid he
    clear b2 he HAC
    go_wp2_with fail
    go_ret
    exact ⟨rfl, H.out.next B2.out, upd_of_below B2.out⟩
  · obtain rfl := he
    obtain ⟨oa, oc, rfl⟩ := ha.slice
    obtain ⟨S, hS⟩ : ∃ S : ByteArray, (if p = 0 then { data := #[] } else s) = S := ⟨_, rfl⟩
    obtain ⟨P, hP⟩ : ∃ P : Nat, (if p = 0 then 0 else p) = P := ⟨_, rfl⟩
    have HSP := Lib.hid (And.intro hS hP)
    have hdn := HDN.out rfl
    rw [hS, hP] at hdn
    have HD := Lib.hid hdn
    have HIN2 := Lib.hid (HIN.out rfl)
    have hln : (wrO off ws).length = ws.length := by simp [wrO]
    rw [hln] at ha ⊢
    obtain ⟨n, hn⟩ : ∃ n, ws.length = n := ⟨_, rfl⟩
    rw [hn] at ha ⊢
    have HN := Lib.hid hn
    have RD := Lib.hid ha.rd
    have HNEW := Lib.hid ha.new
    have C0 : Hid (ChSt b off n S P ws W w2 0 w2) := ⟨(H.out.next ha.bel).blk, upd_of_below (Below.refl _ _)⟩
    have B2 := Lib.hid ha.bel
    have hn4 : n ≤ 4 := by rw [← hn]; exact HL4.out
    clear ha hS hP hdn hln hn HAC HDN HIN
    go_wp2_with fail
    go_loopw [12, 13, 27, 72] (fun _ _ y _ wr => ∃ m : Nat, m ≤ n ∧ y = .int .i64 m ∧ ChSt b off n S P ws W w2 m wr) (fun _ _ y _ _ => n - (intOf y).toNat)
    case atStart => exact ⟨0, by omega, rfl, C0.out⟩
    case round =>
      clear C0
      obtain ⟨m, hm, rfl, hc⟩ := hrel
      have C := Lib.hid hc
      clear hc
      by_cases hlt : m < n
      · have hlt' : (m : Int) < n := by omega
        obtain ⟨x, hx⟩ : ∃ x, ws[m]? = some x := ⟨_, List.getElem?_eq_getElem (by rw [HN.out]; exact hlt)⟩
        obtain ⟨hg1, hg2⟩ := wrO_get off ws m x hx
        obtain ⟨_, _, _, e', _, hE⟩ := (show RdSl wr 2 (.slice oa n oc) n (flat (wrO off ws)) from RD.out.upd C.out.upd fun k hk e => by
          have := HNEW.out k hk; omega)
        cases e'
        obtain ⟨g, o, rfl, hE2⟩ := rd_at hE hg1
        have c1 := hE2 _ _ hg1
        have c2 := hE2 _ _ hg2
        rw [← Nat.add_assoc] at c2
        obtain ⟨hx1, hx2⟩ := HIN2.out x (List.mem_of_getElem? hx)
        obtain ⟨j, v⟩ := x
        simp only at c1 c2 hx1 hx2
        obtain ⟨e, he⟩ : ∃ e, j / 4 = e := ⟨_, rfl⟩
        obtain ⟨k, hk⟩ : ∃ k, j % 4 = k := ⟨_, rfl⟩
        have hj : j = 4 * e + k := by omega
        have he16 : e < 16 := by omega
        have hk4 : k < 4 := by omega
        have HX : Hid (ws.take (m + 1) = ws.take m ++ [(4 * e + k, v)]) := by show _ = _; rw [List.take_add_one, hx, hj]; rfl
        obtain ⟨q, hq⟩ : ∃ q, 8 * j = q := ⟨_, rfl⟩
        rw [hq] at c1
        have w1 : IntKind.u64.wrap (((off + q : Nat) : Int) - (off : Int)) = (q : Int) := by rw [show ((off + q : Nat) : Int) - (off : Int) = (q : Int) by omega]; exact IntWalk.u64_in _ (by omega)
        have q1 : (q : Int) / 32 = (e : Int) := by omega
        have q2 : (q : Int) % 32 / 8 = (k : Int) := by omega
        obtain ⟨Q, hQ⟩ : ∃ Q : Nat, off + q = Q := ⟨_, rfl⟩
        rw [hQ] at c1 w1
        have hb1 : b < wr.heap.size := C.out.blk.lt
        have c0 : wr.cell? ⟨b, 0, none⟩ = some (.int .u64 (off : Nat)) := C.out.blk.cell (by unfold rfK rfA; rfl)
        obtain ⟨⟨u1, hu1⟩, ⟨u2, hu2⟩, ⟨u3, hu3⟩⟩ := rfK_cells off S P (ws.take m) W e k he16 hk4
        have d1 := C.out.blk.cell hu1
        have d2 := C.out.blk.cell hu2
        have d3 := C.out.blk.cell hu3
        have f1 := C.out.blk.frozen (1 + e * 6 + 2 + k)
        have f2 := C.out.blk.frozen (1 + e * 6)
        have f3 := C.out.blk.frozen (1 + e * 6 + 1)
        have i1 : (e : Int) < 16 := by omega
        have i2 : (k : Int) < 4 := by omega
        clear hg1 hg2 hE hE2 hx hj he hk hq hQ hx1 hu1 hu2 hu3
        go_wp2_with fail
        go_region
        have n1 : ¬ 1 + e * 6 = 1 + e * 6 + 2 + k := by omega
        have n2 : ¬ 1 + e * 6 + 1 = 1 + e * 6 + 2 + k := by omega
        have n3 : ¬ 1 + e * 6 = 1 + e * 6 + 1 := by omega
        have n4 : ¬ 1 + e * 6 + 1 = 1 + e * 6 := by omega
        by_cases h0 : p = 0
        · have q0 : ((p : Int) == 0) = true := by simp [h0]
          have HS1 := HSP.out
          rw [if_pos h0, if_pos h0] at HS1
          have HS := Lib.hid HS1
          clear h0 HS1 HSP
          go_wp2_with fail
          go_region
          go_wp2_with fail
          go_region
          go_wp2_with fail
          go_roundw
          case rel =>
            refine ⟨m + 1, by omega, by go_num, ?_⟩
            obtain ⟨rfl, rfl⟩ := HS.out
            exact C.out.step he16 hk4 HX.out _
          case measure => simp [intOf]; omega
        · have q0 : ((p : Int) == 0) = false := by simp; omega
          have HS1 := HSP.out
          rw [if_neg h0, if_neg h0] at HS1
          have HS := Lib.hid HS1
          clear h0 HS1 HSP
          go_wp2_with fail
          go_region
          go_wp2_with fail
          go_region
          go_wp2_with fail
          go_roundw
          case rel =>
            refine ⟨m + 1, by omega, by go_num, ?_⟩
            obtain ⟨rfl, rfl⟩ := HS.out
            exact C.out.step he16 hk4 HX.out _
          case measure => simp [intOf]; omega
      · obtain rfl : m = n := by omega
        go_wp2_with fail
        go_ret
        refine ⟨rfl, ?_, ?_⟩
        · have := C.out.blk
          rw [List.take_of_length_le (by rw [HN.out]; exact Nat.le_refl _), HD.out] at this
          exact ⟨this⟩
        · exact (upd_of_below (S := (· = b)) B2.out).trans C.out.upd fun _ _ h => h
end
end Go.Proofs.YtmfchlliechikaaGreatDoor

/- Plain: a change keeps the invariant of a directory's words. -/
namespace Go.Proofs.YtmfchlliechikaaGreatDoor

theorem setWs_other {f j : Nat} (hj : j / 4 ≠ f) : ∀ (ws : List (Nat × Nat)) (W : Nat → Nat), (∀ x ∈ ws, x.1 / 4 = f) → setWs ws W j = W j := by
  intro ws
  induction ws with
  | nil => intro W _; rfl
  | cons x ws ih =>
    intro W hx
    show setWs ws (fun i => if i = x.1 then x.2 else W i) j = W j
    rw [ih _ fun y hy => hx y (List.mem_cons_of_mem _ hy)]
    have := hx x (List.mem_cons_self ..)
    exact if_neg (by rintro rfl; exact hj this)
theorem invW_of {W W' : Nat → Nat} (h : InvW W) (f : Nat) (ho : ∀ j, j / 4 ≠ f → W' j = W j) (hf : W' (4 * f + 3) ≠ 0 → nameB (nameE W' f) = true) : InvW W' := by
  intro e he h3
  by_cases hef : e = f
  · subst hef; exact hf h3
  · have e0 := ho (4 * e) (by omega); have e1 := ho (4 * e + 1) (by omega); have e3 := ho (4 * e + 3) (by omega)
    rw [e3] at h3
    have := h e he h3
    unfold nameE at *
    rw [e0, e1]; exact this
theorem invW_zero : InvW (fun _ => 0) := fun _ _ h => absurd rfl h
theorem invW_chg {W : Nat → Nat} {l : List UInt8} {p sz : Nat} (h : InvW W) : InvW (chgE W l p sz) := by
  unfold chgE
  split
  · rename_i he
    have hnb : nameB l = true := by
      unfold errE at he
      split at he
      · omega
      · rename_i hx; simpa using hx
    by_cases h0 : p = 0
    · have hw : wrE W l p = [(4 * findE W l + 3, 0)] := by unfold wrE; rw [if_pos h0]
      rw [hw]
      refine invW_of h (findE W l) (fun j hj => setWs_other hj _ _ fun x hx => ?_) (fun h3 => absurd (if_pos rfl) h3)
      rw [List.mem_singleton] at hx; subst hx; show (4 * findE W l + 3) / 4 = _; omega
    · by_cases hf : findE W l < 16
      · have hw : wrE W l p = [(4 * findE W l + 2, p)] := by unfold wrE; rw [if_neg h0, if_pos hf]
        obtain ⟨hu, hn⟩ := findE_hit hf
        rw [hw]
        refine invW_of h (findE W l) (fun j hj => setWs_other hj _ _ fun x hx => ?_) (fun _ => ?_)
        · rw [List.mem_singleton] at hx; subst hx; show (4 * findE W l + 2) / 4 = _; omega
        · have e1 : setWs [(4 * findE W l + 2, p)] W (4 * findE W l + 1) = W (4 * findE W l + 1) := if_neg (by omega)
          have e0 : setWs [(4 * findE W l + 2, p)] W (4 * findE W l) = W (4 * findE W l) := if_neg (by omega)
          have : nameE (setWs [(4 * findE W l + 2, p)] W) (findE W l) = nameE W (findE W l) := by
            show nmL _ _ = nmL _ _
            rw [e0, e1]
          rw [this, hn]; exact hnb
      · have hw : wrE W l p = newW (freeE W) l p := by unfold wrE; rw [if_neg h0, if_neg hf]
        rw [hw]
        generalize freeE W = f
        refine invW_of h f (fun j hj => setWs_other hj _ _ fun x hx => ?_) (fun _ => ?_)
        · simp only [newW, List.mem_cons, List.not_mem_nil, or_false] at hx
          rcases hx with rfl | rfl | rfl | rfl
          · show 4 * f / 4 = f; omega
          · show (4 * f + 1) / 4 = f; omega
          · show (4 * f + 2) / 4 = f; omega
          · show (4 * f + 3) / 4 = f; omega
        · have e1 : setWs (newW f l p) W (4 * f + 1) = pk1 l := by
            show (if 4 * f + 1 = 4 * f + 3 then _ else if 4 * f + 1 = 4 * f + 2 then _ else if 4 * f + 1 = 4 * f + 1 then pk1 l else _) = _
            rw [if_neg (by omega), if_neg (by omega), if_pos rfl]
          have e0 : setWs (newW f l p) W (4 * f) = pk0 l := by
            show (if 4 * f = 4 * f + 3 then _ else if 4 * f = 4 * f + 2 then _ else if 4 * f = 4 * f + 1 then _ else if 4 * f = 4 * f then pk0 l else _) = _
            rw [if_neg (by omega), if_neg (by omega), if_neg (by omega), if_pos rfl]
          have : nameE (setWs (newW f l p) W) f = l := by
            show nmL _ _ = l
            rw [e0, e1]; exact nmL_pk hnb
          rw [this]; exact hnb
  · exact h
end Go.Proofs.YtmfchlliechikaaGreatDoor
