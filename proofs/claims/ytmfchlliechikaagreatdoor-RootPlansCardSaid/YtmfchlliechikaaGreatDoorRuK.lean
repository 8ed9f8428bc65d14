/- The law's calls on both directories: apply, whatever the call is; the invariants; where a law starts. -/
import Derived.Test.YtmfchlliechikaaGreatDoorRuJ
namespace Go.Proofs.YtmfchlliechikaaGreatDoor
open Go.RowKit Go.Maps

/-- The words behind a call. -/
def appW (W : Nat → Nat) (d : Nat) (l : List UInt8) (p : Nat) : Nat → Nat := if d % 3 = 0 then chgS W l p else if d % 3 = 1 then chgE W l 0 1280 else chgE W l p 1280
/-- The tags of the entries in use are right. -/
def InvT (W : Nat → Nat) : Prop := ∀ e, e < 16 → W (4 * e + 3) ≠ 0 → W (4 * e + 3) = tagN (W (4 * e)) (W (4 * e + 1))
theorem invT_of {W W' : Nat → Nat} (h : InvT W) (f : Nat) (ho : ∀ j, j / 4 ≠ f → W' j = W j) (hf : W' (4 * f + 3) ≠ 0 → W' (4 * f + 3) = tagN (W' (4 * f)) (W' (4 * f + 1))) : InvT W' := by
  intro e he h3
  by_cases hef : e = f
  · subst hef; exact hf h3
  · have e0 := ho (4 * e) (by omega); have e1 := ho (4 * e + 1) (by omega); have e3 := ho (4 * e + 3) (by omega)
    rw [e3] at h3 ⊢
    rw [e0, e1]
    exact h e he h3
theorem invT_chg {W : Nat → Nat} {l : List UInt8} {p sz : Nat} (h : InvT W) : InvT (chgE W l p sz) := by
  unfold chgE
  split
  · by_cases h0 : p = 0
    · have hw : wrE W l p = [(4 * findE W l + 3, 0)] := by unfold wrE; rw [if_pos h0]
      rw [hw]
      refine invT_of h (findE W l) (fun j hj => setWs_other hj _ _ fun x hx => ?_) (fun h3 => absurd (if_pos rfl) h3)
      rw [List.mem_singleton] at hx; subst hx; show (4 * findE W l + 3) / 4 = _; omega
    · by_cases hf : findE W l < 16
      · have hw : wrE W l p = [(4 * findE W l + 2, p)] := by unfold wrE; rw [if_neg h0, if_pos hf]
        obtain ⟨hu, _⟩ := findE_hit hf
        rw [hw]
        refine invT_of h (findE W l) (fun j hj => setWs_other hj _ _ fun x hx => ?_) (fun _ => ?_)
        · rw [List.mem_singleton] at hx; subst hx; show (4 * findE W l + 2) / 4 = _; omega
        · have e1 : setWs [(4 * findE W l + 2, p)] W (4 * findE W l + 1) = W (4 * findE W l + 1) := if_neg (by omega)
          have e0 : setWs [(4 * findE W l + 2, p)] W (4 * findE W l) = W (4 * findE W l) := if_neg (by omega)
          have e3 : setWs [(4 * findE W l + 2, p)] W (4 * findE W l + 3) = W (4 * findE W l + 3) := if_neg (by omega)
          rw [e0, e1, e3]
          exact h _ hf hu
      · have hw : wrE W l p = newW (freeE W) l p := by unfold wrE; rw [if_neg h0, if_neg hf]
        rw [hw]
        generalize freeE W = f
        refine invT_of h f (fun j hj => setWs_other hj _ _ fun x hx => ?_) (fun _ => ?_)
        · simp only [newW, List.mem_cons, List.not_mem_nil, or_false] at hx
          rcases hx with rfl | rfl | rfl | rfl
          · show 4 * f / 4 = f; omega
          · show (4 * f + 1) / 4 = f; omega
          · show (4 * f + 2) / 4 = f; omega
          · show (4 * f + 3) / 4 = f; omega
        · have e1 : setWs (newW f l p) W (4 * f + 1) = pk1 l := by
            show (if 4 * f + 1 = 4 * f + 3 then _ else if 4 * f + 1 = 4 * f + 2 then _ else if 4 * f + 1 = 4 * f + 1 then pk1 l else _) = _
            rw [if_neg (by omega), if_neg (by omega), if_pos rfl]
          have e0 : setWs (newW f l p) W (4 * f) = pk0 l := by
            show (if 4 * f = 4 * f + 3 then _ else if 4 * f = 4 * f + 2 then _ else if 4 * f = 4 * f + 1 then _ else if 4 * f = 4 * f then pk0 l else _) = _
            rw [if_neg (by omega), if_neg (by omega), if_neg (by omega), if_pos rfl]
          rw [e0, e1]
          exact if_pos rfl
  · exact h
theorem chgS_or (W : Nat → Nat) (l : List UInt8) (p : Nat) : chgS W l p = W ∨ chgS W l p = chgE W l p 1280 := by
  cases hn : nameB l
  · exact .inl (chgS_name hn).2
  · by_cases h0 : p = 0
    · exact .inl (chgS_zero hn h0).2
    · exact .inr (chgS_eq hn h0).2
theorem app_or (W : Nat → Nat) (d : Nat) (l : List UInt8) (p : Nat) : appW W d l p = W ∨ ∃ q, appW W d l p = chgE W l q 1280 := by
  unfold appW
  split
  · exact (chgS_or W l p).imp id fun h => ⟨p, h⟩
  · split
    · exact .inr ⟨0, rfl⟩
    · exact .inr ⟨p, rfl⟩
theorem invD_app {W : Nat → Nat} (h : InvD W) (d : Nat) (l : List UInt8) (p : Nat) : InvD (appW W d l p) := by
  rcases app_or W d l p with e | ⟨q, e⟩
  · rw [e]; exact h
  · rw [e]; exact invD_chg h
theorem invT_app {W : Nat → Nat} (h : InvT W) (d : Nat) (l : List UInt8) (p : Nat) : InvT (appW W d l p) := by
  rcases app_or W d l p with e | ⟨q, e⟩
  · rw [e]; exact h
  · rw [e]; exact invT_chg h
section
variable {w0 w wx : World} {v : DV} {own : Nat → Option Role} {D : Dev} {b rb x : Nat} {W : Nat → Nat}
/-- Where a law stands between two calls. -/
structure LwS (w0 : World) (v : DV) (own : Nat → Option Role) (D : Dev) (b rb : Nat) (W : Nat → Nat) (x : Nat) (w : World) : Prop where
  pl : PlR w0 v own D b rb W x w
  d : InvD W
  t : InvT W
theorem LwS.next (h : LwS w0 v own D b rb W x w) (hb : Below w.heap.size w wx) : LwS w0 v own D b rb W x wx := ⟨h.pl.next hb, h.d, h.t⟩
theorem LwS.bel (h : LwS w0 v own D b rb W x w) : Below w0.heap.size w0 w := h.pl.st.bel
theorem LwS.at (h : LwS w0 v own D b rb W x w) {y : Nat} (e : x = y) : LwS w0 v own D b rb W y w := by subst e; exact h
theorem apply14_any (h : LwS w0 v own D b rb W x w) (hN0 : Nib w0) (d : Nat) (s : ByteArray) (p : Nat) (hp : p < 18446744073709551616) (hx : x < 1000000) :
    Calls Tryz.prog 14 #[.pointer (some ⟨v.db, 0, none⟩), .pointer (some ⟨b, 0, none⟩), .pointer (some ⟨rb, 0, none⟩), .agg #[.int .u8 d, .string s, .int .u64 p]] w fun r w' => r = .returned (.bool true) ∧ ∃ own' D', LwS w0 v own' D' b rb (appW W d s.toList p) (x + 9) w' := by
  have hd := invD_app h.d d s.toList p
  have ht := invT_app h.t d s.toList p
  by_cases h0 : d % 3 = 0
  · have e : appW W d s.toList p = chgS W s.toList p := if_pos h0
    rw [e] at hd ht ⊢
    refine (apply_set h.pl hN0 d h0 s p hp hx).mono ?_
    rintro r w' ⟨rfl, own', D', h'⟩
    exact ⟨rfl, own', D', h', hd, ht⟩
  · by_cases h1 : d % 3 = 1
    · have e : appW W d s.toList p = chgE W s.toList 0 1280 := by unfold appW; rw [if_neg h0, if_pos h1]
      rw [e] at hd ht ⊢
      refine (apply_remove h.pl hN0 d h1 s p hx).mono ?_
      rintro r w' ⟨rfl, own', D', h'⟩
      exact ⟨rfl, own', D', h', hd, ht⟩
    · have e : appW W d s.toList p = chgE W s.toList p 1280 := by unfold appW; rw [if_neg h0, if_neg h1]
      rw [e] at hd ht ⊢
      refine (apply_acts h.pl hN0 d (by omega) s p hp hx).mono ?_
      rintro r w' ⟨rfl, own', D', h'⟩
      exact ⟨rfl, own', D', h', hd, ht⟩
theorem lws_start (h : RtSt w0 v own D b W0 33 w) : LwS w0 v own D b w.heap.size W0 33 (w.alloc (.cells (rfA 192 (nmR W0) (ptR W0) W0) 38)) :=
  ⟨⟨h.next (below_alloc w _), rf_zero w, invW0, own_no h.dev (Nat.le_refl _), fun e => by have := h.dir.blk.lt; omega, h.bel.size⟩, invD_zero, fun _ _ h => absurd rfl h⟩
/-- A call of a law's slice. -/
def OpR (xs : List Value) (i : Nat) : Prop := ∃ (o : Nat) (s : ByteArray) (x : Nat), xs[i * 3]? = some (.int .u8 o) ∧ xs[i * 3 + 1]? = some (.string s) ∧ xs[i * 3 + 2]? = some (.int .u64 x) ∧ o < 256 ∧ x < 18446744073709551616
theorem opR_now {a : Option Addr} {xs : List Value} (h : xs = [] ∨ ∃ b o, a = some ⟨b, o, none⟩ ∧ ∀ j u, xs[j]? = some u → w.cell? ⟨b, o + j, none⟩ = some u) {i : Nat} (hi : OpR xs i) {wr : World} (hb : Below w.heap.size w wr) :
    ∃ b q o s x, a = some ⟨b, q, none⟩ ∧ wr.cell? ⟨b, q + i * 3, none⟩ = some (.int .u8 (o : Nat)) ∧ wr.cell? ⟨b, q + i * 3 + 1, none⟩ = some (.string s) ∧ wr.cell? ⟨b, q + i * 3 + 2, none⟩ = some (.int .u64 (x : Nat)) ∧ o < 256 ∧ x < 18446744073709551616 := by
  obtain ⟨o, s, x, h0, h1, h2, b0, b2⟩ := hi
  obtain ⟨b, q, e, hc⟩ := rd_at h h0
  have cc : ∀ j u, xs[j]? = some u → wr.cell? ⟨b, q + j, none⟩ = some u := fun j u hu => (hb.cell (p := ⟨b, q + j, none⟩) (World.block_lt_of_cell? w _ (hc _ _ hu))).trans (hc _ _ hu)
  refine ⟨b, q, o, s, x, e, cc _ _ h0, ?_, ?_, b0, b2⟩
  · rw [Nat.add_assoc]; exact cc _ _ h1
  · rw [Nat.add_assoc]; exact cc _ _ h2
end
end Go.Proofs.YtmfchlliechikaaGreatDoor
