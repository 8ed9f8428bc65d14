/- The node that the law draws: its slots. -/
import Derived.Test.YtkoijmoendepgaaNodeB
namespace Go.Proofs.Ytkoijmoendepgaa
open Go.RowKit

def addSlot (c : Nat) (out : List Nat) (s : Nat) : List Nat := if out.length < c ∧ s % 12 ∉ out then out ++ [s % 12] else out
def rawSlots (c : Nat) (l : List Nat) : List Nat := l.foldl (addSlot c) []
theorem rawSlots_snoc (c : Nat) (l : List Nat) (s : Nat) : rawSlots c (l ++ [s]) = addSlot c (rawSlots c l) s := by simp [rawSlots]
/-- Distinct slots, at most c of them. -/
def GoodSlots (c : Nat) (l : List Nat) : Prop := l.length ≤ c ∧ l.Nodup ∧ ∀ s ∈ l, s < 12
theorem good_add (c : Nat) (out : List Nat) (s : Nat) (hs : s < 12) (h : GoodSlots c out) (hl : out.length < c) (hn : s ∉ out) : GoodSlots c (out ++ [s]) := by
  refine ⟨by simp; omega, ?_, fun x hx => ?_⟩
  · rw [List.nodup_append]; exact ⟨h.2.1, by simp, fun a ha b hb => by simp at hb; subst hb; exact fun e => hn (e ▸ ha)⟩
  · rcases List.mem_append.1 hx with hx | hx
    · exact h.2.2 x hx
    · simp at hx; omega
theorem good_raw (c : Nat) (l : List Nat) : GoodSlots c (rawSlots c l) := by
  have : ∀ (l : List Nat) (out : List Nat), GoodSlots c out → GoodSlots c (l.foldl (addSlot c) out) := by
    intro l
    induction l with
    | nil => intro out h; exact h
    | cons s l ih =>
      intro out h
      refine ih _ ?_
      unfold addSlot; split
      · rename_i hc; exact good_add c out (s % 12) (by omega) h hc.1 hc.2
      · exact h
  exact this l [] ⟨by simp, by simp, fun _ h => by simp at h⟩
def fillS : Nat → Nat → List Nat → Nat → List Nat
  | 0, _, out, _ => out
  | f + 1, c, out, s => if out.length < c then fillS f c (if s ∈ out then out else out ++ [s]) (s + 1) else out
/-- The slots of a node with c entries. -/
def nodeSlots (c : Nat) (l : List Nat) : List Nat := fillS 13 c (rawSlots c l) 0
theorem fill_end (f c : Nat) (out : List Nat) (s : Nat) (h : c ≤ out.length) : fillS f c out s = out := by
  cases f with
  | zero => rfl
  | succ f => unfold fillS; rw [if_neg (by omega)]
theorem fill_good : ∀ (f c : Nat) (out : List Nat) (s : Nat), c ≤ 12 → GoodSlots c out → (∀ t, t < s → t ∈ out) → s + f = 13 → GoodSlots c (fillS f c out s) ∧ (fillS f c out s).length = c := by
  intro f
  induction f with
  | zero => intro c out s hc h hs hf; have := pigeon s out hs; have := h.1; omega
  | succ f ih =>
    intro c out s hc h hs hf
    by_cases hl : out.length < c
    · have hs12 : s < 12 := by have := pigeon s out hs; omega
      unfold fillS
      rw [if_pos hl]
      by_cases hm : s ∈ out
      · rw [if_pos hm]
        exact ih c out (s + 1) hc h (fun t ht => by rcases Nat.lt_succ_iff_lt_or_eq.1 ht with h' | h'; exact hs t h'; exact h' ▸ hm) (by omega)
      · rw [if_neg hm]
        exact ih c (out ++ [s]) (s + 1) hc (good_add c out s hs12 h hl hm) (fun t ht => by rcases Nat.lt_succ_iff_lt_or_eq.1 ht with h' | h'; exact List.mem_append_left _ (hs t h'); simp [h']) (by omega)
    · rw [fill_end _ _ _ _ (by omega)]; exact ⟨h, by have := h.1; omega⟩
theorem nodeSlots_good (c : Nat) (l : List Nat) (hc : c ≤ 12) : GoodSlots c (nodeSlots c l) ∧ (nodeSlots c l).length = c := fill_good 13 c _ 0 hc (good_raw c l) (fun t ht => by omega) rfl

theorem natsI_ints (l : List Nat) : natsI l = intsK .i64 (l.map fun (s : Nat) => (s : Int)) := by simp [natsI, intsK]
theorem mem_cast (l : List Nat) (s : Nat) : ((s : Int) ∈ l.map fun (s : Nat) => (s : Int)) ↔ s ∈ l := by
  rw [List.mem_map]
  exact ⟨fun ⟨a, h, e⟩ => by have : a = s := by omega
                             exact this ▸ h, fun h => ⟨s, h, rfl⟩⟩

section
variable {w : World}
theorem containsI (sv : Value) (l : List Nat) (s : Nat) (b : Bool) (hb : decide (s ∈ l) = b) (h : RdSl w 1 sv l.length (natsI l)) (hl : l.length ≤ 4611686018) :
    Calls Try.prog 88 #[sv, .int .i64 s] w fun r w' => r = .returned (.bool b) ∧ w = w' := by
  have h' : RdSl w 1 sv (l.map fun (s : Nat) => (s : Int)).length (intsK .i64 (l.map fun (s : Nat) => (s : Int))) := by rw [← natsI_ints, List.length_map]; exact h
  have := contains2 sv _ (s : Int) h' (by rw [List.length_map]; exact hl)
  rw [show decide ((s : Int) ∈ l.map fun (s : Nat) => (s : Int)) = b by rw [← hb, decide_eq_decide]; exact mem_cast l s] at this
  exact this

set_option maxRecDepth 100000 in
set_option maxHeartbeats 4000000 in
theorem slots_any {n : NodeP} {ka sa va : Option Addr} {kc sc vc : Nat} (h : NodeIn w n ka sa va kc sc vc) (c : Nat) (hc : c ≤ 12) :
    Calls Try.prog 62 #[.agg (nodeAgg n ka sa va kc sc vc), .int .i64 c] w fun r w' => ∃ sv, r = .returned sv ∧ Acc w w.heap.size w' 3 1 sv (nodeSlots c n.ss).length (natsI (nodeSlots c n.ss)) := by
  unfold nodeAgg
  have hl := h.sl
  unfold maxLen at hl
  obtain ⟨_, _, _, e, _, ha⟩ := h.ss
  cases e
  have HA := Lib.hid ha; have H8 := Lib.hid h.s8
  clear h ha
  obtain ⟨i0, hi, hz0, hz1, hz2⟩ := info_parts infoInt
  have I := Lib.hid (And.intro hi (And.intro hz0 (And.intro hz1 hz2))); clear hi hz0 hz1 hz2
  generalize hn : n.ss.length = m at *
  have HN := Lib.hid hn; clear hn
  go_enter Try.func62, Try.ntmps62
  go_wp2_with fail
  go_loopw [5, 12] (fun ov i wr => ∃ k : Nat, k ≤ m ∧ i = .int .i64 k ∧ Acc w w.heap.size wr 3 1 ov (rawSlots c (n.ss.take k)).length (natsI (rawSlots c (n.ss.take k)))) (fun _ i _ => m - (intOf i).toNat)
  case atStart => exact ⟨0, by omega, rfl, Acc.nil w _ _ _ _ (below_alloc _ _) (by simp)⟩
  case round =>
    obtain ⟨k, hk, rfl, hacc⟩ := hrel
    obtain ⟨oa, oc, rfl⟩ := hacc.slice
    have A := Lib.hid hacc; clear hacc
    have hgood := good_raw c (n.ss.take k)
    have hr12 := hgood.1
    by_cases hlt : k < m
    · clear hgood
      obtain ⟨y, hy⟩ : ∃ y, n.ss[k]? = some y := ⟨_, List.getElem?_eq_getElem (by rw [HN.out]; exact hlt)⟩
      have hsn := rawSlots_snoc c (n.ss.take k) y
      rw [← take_snoc_get n.ss k y hy] at hsn
      have HSN := Lib.hid hsn
      have hy8 := H8.out y (List.mem_of_getElem? hy)
      obtain ⟨b, o, rfl, hcl⟩ := rd_at HA.out (natsK_get .u8 n.ss k y hy)
      have c1 := (A.out.bel.cell (p := ⟨b, o + k, none⟩) (World.block_lt_of_cell? w _ (hcl k _ (natsK_get .u8 n.ss k y hy)))).trans (hcl k _ (natsK_get .u8 n.ss k y hy))
      have hC := fun b hb => containsI (w := wr) _ (rawSlots c (n.ss.take k)) (y % 12) b hb A.out.rd (by omega)
      rw [show ((y % 12 : Nat) : Int) = (y : Int) % 12 by omega] at hC
      have HC := Lib.hid hC
      clear hsn hy hcl hC
      generalize hrw : rawSlots c (n.ss.take k) = raw at *
      have HRW := Lib.hid hrw; clear hrw
      generalize hrl : raw.length = rl at *
      have HRL := Lib.hid hrl; clear hrl
      by_cases h12 : rl < c
      · have h12' : (rl : Int) < c := by omega
        by_cases hm : y % 12 ∈ raw
        · have HD := Lib.hid hm
          have HC' := Lib.hid (HC.out true (by simpa using hm)); clear hm HC
          go_wp2_with fail
          (with_reducible refine HC'.out.mono ?_)
          rintro e w' ⟨rfl, rfl⟩
          go_wp2_with fail
          go_roundw
          case rel =>
            refine ⟨k + 1, by omega, by go_num, ?_⟩
            have e : addSlot c raw y = raw := by unfold addSlot; rw [if_neg (fun h => h.2 HD.out)]
            rw [HSN.out, e, HRL.out]; exact A.out
          case measure => simp [intOf]; omega
        · have HD := Lib.hid hm
          have HC' := Lib.hid (HC.out false (by simpa using hm)); clear hm HC
          go_wp2_with fail
          (with_reducible refine HC'.out.mono ?_)
          rintro e w' ⟨rfl, rfl⟩
          go_wp2_with (at_builtin; refine wpList_append_sl _ rfl _ _ 105 rfl 3 i0 _ 1 8 Try.underlying105 I.out.1 I.out.2.1 I.out.2.2.1 I.out.2.2.2 rfl (by decide) _ rl (natsI raw) rfl (by exact A.out.own.alloc _) _ 1 _ rfl (by exact RdSl.newAt _ _ _ 1 1 _ rfl rfl) (one_int _ _) (by unfold maxLen; omega) (by omega) ?_)
          intro v1 w1 o1 g1 b1 n1
          have A1 := Lib.hid (A.out.next (below_alloc _ _) o1 g1 b1 (by simp)); clear o1 g1 b1 n1
          go_wp2_with fail
          go_roundw
          case rel =>
            refine ⟨k + 1, by omega, by go_num, ?_⟩
            have e : addSlot c raw y = raw ++ [y % 12] := by unfold addSlot; rw [if_pos ⟨by rw [HRL.out]; exact h12, HD.out⟩]
            rw [HSN.out, e]
            exact A1.out.congr (by simp [HRL.out]) (by simp [natsI])
          case measure => simp [intOf]; omega
      · have h12' : ¬ (rl : Int) < c := by omega
        go_wp2_with fail
        go_roundw
        case rel =>
          refine ⟨k + 1, by omega, by go_num, ?_⟩
          have e : addSlot c raw y = raw := by unfold addSlot; rw [if_neg (fun h => h12 (by rw [← HRL.out]; exact h.1))]
          rw [HSN.out, e, HRL.out]; exact A.out
        case measure => simp [intOf]; omega
    · have hfull : n.ss.take k = n.ss := List.take_of_length_le (by rw [HN.out]; omega)
      rw [hfull] at A hr12 hgood ⊢
      have HG := Lib.hid hgood
      clear hfull hgood
      obtain ⟨wo, hwo⟩ : ∃ wo : World, wo = wr := ⟨_, rfl⟩
      subst hwo
      go_wp2_with fail
      go_loopw [5, 8] (fun ov x wr => ∃ (s f : Nat) (out : List Nat), s + f = 13 ∧ x = .int .i64 s ∧ GoodSlots c out ∧ (∀ t, t < s → t ∈ out) ∧ fillS f c out s = nodeSlots c n.ss ∧ Acc w w.heap.size wr 3 1 ov out.length (natsI out)) (fun _ x _ => 13 - (intOf x).toNat)
      case atStart => exact ⟨0, 13, rawSlots c n.ss, rfl, rfl, HG.out, fun t ht => by omega, rfl, A.out⟩
      case round =>
        obtain ⟨s, f, out, hsf, rfl, hg, hall, hfill, hacc⟩ := hrel
        obtain ⟨oa2, oc2, rfl⟩ := hacc.slice
        have A2 := Lib.hid hacc; have HG2 := Lib.hid hg; have HALL := Lib.hid hall; have HF := Lib.hid hfill
        have hol := hg.1
        have hpig := pigeon s out hall
        clear hacc hg hall hfill A HG
        have hC := fun b hb => containsI (w := wr) _ out s b hb A2.out.rd (by omega)
        have HC := Lib.hid hC; clear hC
        generalize hrl : out.length = rl at *
        have HRL := Lib.hid hrl; clear hrl
        by_cases h12 : rl < c
        · have h12' : (rl : Int) < c := by omega
          obtain ⟨f, rfl⟩ : ∃ f', f = f' + 1 := ⟨f - 1, by omega⟩
          by_cases hm : s ∈ out
          · have HD := Lib.hid hm
            have HC' := Lib.hid (HC.out true (by simpa using hm)); clear hm HC
            go_wp2_with fail
            (with_reducible refine HC'.out.mono ?_)
            rintro e w' ⟨rfl, rfl⟩
            go_wp2_with fail
            go_roundw
            case rel => exact ⟨s + 1, f, out, by omega, by go_num, HG2.out, fun t ht => (by rcases Nat.lt_succ_iff_lt_or_eq.1 ht with h' | h'; exact HALL.out t h'; exact h' ▸ HD.out), (by rw [← HF.out]; unfold fillS; rw [if_pos (by rw [HRL.out]; exact h12), if_pos HD.out]; cases f <;> rfl), by rw [HRL.out]; exact A2.out⟩
            case measure => simp [intOf]; omega
          · have HD := Lib.hid hm
            have HC' := Lib.hid (HC.out false (by simpa using hm)); clear hm HC
            go_wp2_with fail
            (with_reducible refine HC'.out.mono ?_)
            rintro e w' ⟨rfl, rfl⟩
            go_wp2_with (at_builtin; refine wpList_append_sl _ rfl _ _ 105 rfl 3 i0 _ 1 8 Try.underlying105 I.out.1 I.out.2.1 I.out.2.2.1 I.out.2.2.2 rfl (by decide) _ rl (natsI out) rfl (by exact A2.out.own.alloc _) _ 1 _ rfl (by exact RdSl.newAt _ _ _ 1 1 _ rfl rfl) (one_int _ _) (by unfold maxLen; omega) (by omega) ?_)
            intro v1 w1 o1 g1 b1 n1
            have A3 := Lib.hid (A2.out.next (below_alloc _ _) o1 g1 b1 (by simp)); clear o1 g1 b1 n1
            go_wp2_with fail
            go_roundw
            case rel => exact ⟨s + 1, f, out ++ [s], by omega, by go_num, good_add c out s (by omega) HG2.out (by rw [HRL.out]; exact h12) HD.out, fun t ht => (by rcases Nat.lt_succ_iff_lt_or_eq.1 ht with h' | h'; exact List.mem_append_left _ (HALL.out t h'); simp [h']), (by rw [← HF.out]; conv => rhs; unfold fillS; rw [if_pos (by rw [HRL.out]; exact h12), if_neg HD.out]), A3.out.congr (by simp [HRL.out]) (by simp [natsI])⟩
            case measure => simp [intOf]; omega
        · have h12' : ¬ (rl : Int) < c := by omega
          go_wp2_with fail
          go_ret
          have e : nodeSlots c n.ss = out := by rw [← HF.out]; exact fill_end _ _ _ _ (by rw [HRL.out]; omega)
          exact ⟨_, rfl, by rw [e, HRL.out]; exact A2.out⟩
end
end Go.Proofs.Ytkoijmoendepgaa
