/- The node that the law draws: its keys. -/
import Derived.Test.YtkoijmoendepgaaNodeA
import Derived.Test.YtkoijmoendepgaaAcc
import Derived.Test.YtkoijmoendepgaaLeafJ
namespace Go.Proofs.Ytkoijmoendepgaa
open Go.RowKit

structure NodeP where
  pos : Nat
  ks : List Nat
  ss : List Nat
  vs : List Int
  high : Nat
  bounded : Bool
  next : Bool
  count : Nat

def natsK (k : IntKind) (l : List Nat) : List Value := l.map fun (s : Nat) => Value.int k s
theorem natsK_get (k : IntKind) (l : List Nat) (i x : Nat) (h : l[i]? = some x) : (natsK k l)[i]? = some (.int k x) := by simp [natsK, h]

/-- The node's value, and where its three slices lie. -/
structure NodeIn (w : World) (n : NodeP) (ka sa va : Option Addr) (kc sc vc : Nat) : Prop where
  ks : RdSl w 1 (.slice ka n.ks.length kc) n.ks.length (natsK .u8 n.ks)
  ss : RdSl w 1 (.slice sa n.ss.length sc) n.ss.length (natsK .u8 n.ss)
  vs : RdSl w 1 (.slice va n.vs.length vc) n.vs.length (intsK .u64 n.vs)
  kl : n.ks.length ≤ maxLen
  sl : n.ss.length ≤ maxLen
  vl : n.vs.length ≤ maxLen
  k8 : ∀ k ∈ n.ks, k < 256
  s8 : ∀ s ∈ n.ss, s < 256
  v64 : ∀ x ∈ n.vs, 0 ≤ x ∧ x < 18446744073709551616
  p8 : n.pos < 256
  h8 : n.high < 256
  c16 : n.count < 65536
theorem NodeIn.below {w w' : World} {n : NodeP} {ka sa va : Option Addr} {kc sc vc : Nat} (h : NodeIn w n ka sa va kc sc vc) (hb : Below w.heap.size w w') : NodeIn w' n ka sa va kc sc vc :=
  { h with ks := h.ks.below hb, ss := h.ss.below hb, vs := h.vs.below hb }

def addKey (out : List Int) (k : Nat) : List Int := if out.length < 12 ∧ (2 * (k : Int)) ∉ out then out ++ [2 * (k : Int)] else out
def rawKeys (l : List Nat) : List Int := l.foldl addKey []
theorem rawKeys_snoc (l : List Nat) (k : Nat) : rawKeys (l ++ [k]) = addKey (rawKeys l) k := by simp [rawKeys]
theorem addKey_len (out : List Int) (k : Nat) (h : out.length ≤ 12) : (addKey out k).length ≤ 12 := by
  unfold addKey; split
  · simp; omega
  · exact h
theorem rawKeys_inv (l : List Nat) : (rawKeys l).length ≤ 12 ∧ (rawKeys l).Nodup ∧ ∀ x ∈ rawKeys l, ∃ k ∈ l, x = 2 * (k : Int) := by
  have : ∀ (l pre : List Nat) (out : List Int), (out.length ≤ 12 ∧ out.Nodup ∧ ∀ x ∈ out, ∃ k ∈ pre, x = 2 * (k : Int)) → ((l.foldl addKey out).length ≤ 12 ∧ (l.foldl addKey out).Nodup ∧ ∀ x ∈ l.foldl addKey out, ∃ k ∈ pre ++ l, x = 2 * (k : Int)) := by
    intro l
    induction l with
    | nil => intro pre out h; simpa using h
    | cons k l ih =>
      intro pre out h
      have := ih (pre ++ [k]) (addKey out k) ?_
      · simpa using this
      · refine ⟨addKey_len out k h.1, ?_, fun x hx => ?_⟩
        · unfold addKey; split
          · rename_i hc; rw [List.nodup_append]; exact ⟨h.2.1, by simp, fun a ha b hb => by simp at hb; subst hb; exact fun e => hc.2 (e ▸ ha)⟩
          · exact h.2.1
        · unfold addKey at hx; split at hx
          · rcases List.mem_append.1 hx with hx | hx
            · obtain ⟨k', hk', e⟩ := h.2.2 x hx; exact ⟨k', by simp [hk'], e⟩
            · simp at hx; exact ⟨k, by simp, hx⟩
          · obtain ⟨k', hk', e⟩ := h.2.2 x hx; exact ⟨k', by simp [hk'], e⟩
  have := this l [] [] (by simp)
  simpa [rawKeys] using this
def sortI (l : List Int) : List Int := l.mergeSort (fun a b => decide (a ≤ b))
theorem take_snoc_get {α : Type} (l : List α) (k : Nat) (x : α) (h : l[k]? = some x) : l.take (k + 1) = l.take k ++ [x] := by rw [List.take_add_one, h]; rfl
theorem ascOn_pairwise (l : List Int) (h : ascOn l 0 l.length) : l.Pairwise (· ≤ ·) := by
  rw [List.pairwise_iff_getElem]
  intro i j hi hj hij
  have := h i j (by omega) hij hj
  simpa [at0, List.getD, hi, hj] using this
theorem sortI_unique {ys l : List Int} (hp : ys.Perm l) (ha : ys.Pairwise (· ≤ ·)) : ys = sortI l := by
  have h1 : (sortI l).Perm l := List.mergeSort_perm _ _
  have h2 : (sortI l).Pairwise (fun a b => decide (a ≤ b) = true) := List.pairwise_mergeSort (fun a b c h1 h2 => by simp at *; omega) (fun a b => by simp; omega) l
  refine List.Perm.eq_of_pairwise (le := (· ≤ ·)) (fun a b _ _ h1 h2 => Int.le_antisymm h1 h2) ha (h2.imp (by simp)) (hp.trans h1.symm)
/-- The node's keys. -/
def keysN (l : List Nat) : List Int := sortI (rawKeys l)
theorem keysN_perm (l : List Nat) : (keysN l).Perm (rawKeys l) := List.mergeSort_perm _ _
theorem keysN_len (l : List Nat) : (keysN l).length ≤ 12 := by rw [(keysN_perm l).length_eq]; exact (rawKeys_inv l).1
theorem keysN_asc (l : List Nat) : (keysN l).Pairwise (· < ·) := by
  have h2 : (keysN l).Pairwise (fun a b => decide (a ≤ b) = true) := List.pairwise_mergeSort (fun a b c h1 h2 => by simp at *; omega) (fun a b => by simp; omega) _
  have h3 : (keysN l).Nodup := (keysN_perm l).nodup_iff.2 (rawKeys_inv l).2.1
  refine (h2.and h3).imp ?_
  rintro a b ⟨h1, h2⟩
  simp at h1; omega
theorem keysN_mem (l : List Nat) (h : ∀ k ∈ l, k < 256) : ∀ x ∈ keysN l, 0 ≤ x ∧ x ≤ 510 := by
  intro x hx
  obtain ⟨k, hk, e⟩ := (rawKeys_inv l).2.2 x ((keysN_perm l).mem_iff.1 hx)
  have := h k hk; omega

section
variable {w : World}
abbrev nodeAgg (n : NodeP) (ka sa va : Option Addr) (kc sc vc : Nat) : Array Value :=
  #[.int .u8 n.pos, .slice ka n.ks.length kc, .slice sa n.ss.length sc, .slice va n.vs.length vc, .int .u8 n.high, .bool n.bounded, .bool n.next, .int .u16 n.count]

theorem keys_end {wr w1 : World} {sv : Value} {l : List Nat} {ys : List Int} (h : Acc w w.heap.size wr 23 1 sv (rawKeys l).length (intsU (rawKeys l))) (hm : Mixed (rawKeys l) ys 0 (rawKeys l).length) (ha : ascOn ys 0 (rawKeys l).length)
    (ho : OwnSl w1 23 1 sv (rawKeys l).length (intsU ys)) (hu : Upd (fun k => sv.ownBlock = some k) wr w1) : Acc w w.heap.size w1 23 1 sv (keysN l).length (intsU (keysN l)) := by
  have e : ys = keysN l := sortI_unique hm.perm (ascOn_pairwise ys (by rw [hm.len]; exact ha))
  refine ⟨by rw [← e, hm.len]; exact ho, h.new, ?_, Nat.le_trans h.lt hu.size⟩
  exact ⟨hu.os.trans h.bel.os, hu.tape.trans h.bel.tape, hu.output.trans h.bel.output, Nat.le_trans h.bel.size hu.size, fun k hk => (hu.block k (Nat.lt_of_lt_of_le hk h.lt) (fun hk2 => by have := h.new k hk2; omega)).trans (h.bel.block k hk)⟩

set_option maxRecDepth 100000 in
set_option maxHeartbeats 2000000 in
theorem keys_any {n : NodeP} {ka sa va : Option Addr} {kc sc vc : Nat} (h : NodeIn w n ka sa va kc sc vc) :
    Calls Try.prog 61 #[.agg (nodeAgg n ka sa va kc sc vc)] w fun r w' => ∃ sv, r = .returned sv ∧ Acc w w.heap.size w' 23 1 sv (keysN n.ks).length (intsU (keysN n.ks)) := by
  unfold nodeAgg
  have hl := h.kl
  unfold maxLen at hl
  obtain ⟨_, _, _, e, _, ha⟩ := h.ks
  cases e
  have HA := Lib.hid ha; have H8 := Lib.hid h.k8
  clear h ha
  obtain ⟨i0, hi, hz0, hz1, hz2⟩ := info_parts infoU64
  have I := Lib.hid (And.intro hi (And.intro hz0 (And.intro hz1 hz2))); clear hi hz0 hz1 hz2
  generalize hn : n.ks.length = m at *
  have HN := Lib.hid hn; clear hn
  go_enter Try.func61, Try.ntmps61
  go_wp2_with fail
  go_loopw [3, 9] (fun ov i wr => ∃ k : Nat, k ≤ m ∧ i = .int .i64 k ∧ Acc w w.heap.size wr 23 1 ov (rawKeys (n.ks.take k)).length (intsU (rawKeys (n.ks.take k)))) (fun _ i _ => m - (intOf i).toNat)
  case atStart => exact ⟨0, by omega, rfl, Acc.nil w _ _ _ _ (below_alloc _ _) (by simp)⟩
  case round =>
    obtain ⟨k, hk, rfl, hacc⟩ := hrel
    obtain ⟨oa, oc, rfl⟩ := hacc.slice
    have A := Lib.hid hacc; clear hacc
    have hr12 := (rawKeys_inv (n.ks.take k)).1
    by_cases hlt : k < m
    · obtain ⟨y, hy⟩ : ∃ y, n.ks[k]? = some y := ⟨_, List.getElem?_eq_getElem (by rw [HN.out]; exact hlt)⟩
      have hsn := rawKeys_snoc (n.ks.take k) y
      rw [← take_snoc_get n.ks k y hy] at hsn
      have HSN := Lib.hid hsn
      have hy8 := H8.out y (List.mem_of_getElem? hy)
      obtain ⟨b, o, rfl, hcl⟩ := rd_at HA.out (natsK_get .u8 n.ks k y hy)
      have c1 := (A.out.bel.cell (p := ⟨b, o + k, none⟩) (World.block_lt_of_cell? w _ (hcl k _ (natsK_get .u8 n.ks k y hy)))).trans (hcl k _ (natsK_get .u8 n.ks k y hy))
      have HC := Lib.hid (contains1 _ _ (2 * (y : Int)) (show RdSl wr 1 _ _ (intsK .u64 (rawKeys (n.ks.take k))) from A.out.rd) (by omega))
      clear hsn hy hcl
      generalize hrw : rawKeys (n.ks.take k) = raw at *
      have HRW := Lib.hid hrw; clear hrw
      generalize hrl : raw.length = rl at *
      have HRL := Lib.hid hrl; clear hrl
      by_cases h12 : rl < 12
      · have h12' : (rl : Int) < 12 := by omega
        have hc : decide (2 * (y : Int) ∈ raw) = true ∨ decide (2 * (y : Int) ∈ raw) = false := by cases decide (2 * (y : Int) ∈ raw) <;> simp
        rcases hc with hc | hc
        · have HD := Lib.hid hc
          rw [hc] at HC; clear hc
          go_wp2_with fail
          (with_reducible refine HC.out.mono ?_)
          rintro e w' ⟨rfl, rfl⟩
          go_wp2_with fail
          go_roundw
          case rel =>
            refine ⟨k + 1, by omega, by go_num, ?_⟩
            have e : addKey raw y = raw := by unfold addKey; rw [if_neg (fun h => h.2 (by simpa using HD.out))]
            rw [HSN.out, e, HRL.out]; exact A.out
          case measure => simp [intOf]; omega
        · have HD := Lib.hid hc
          rw [hc] at HC; clear hc
          go_wp2_with fail
          (with_reducible refine HC.out.mono ?_)
          rintro e w' ⟨rfl, rfl⟩
          go_wp2_with (at_builtin; refine wpList_append_sl _ rfl _ _ 22 rfl 23 i0 _ 1 8 Try.underlying22 I.out.1 I.out.2.1 I.out.2.2.1 I.out.2.2.2 rfl (by decide) _ rl (intsU raw) rfl (by exact A.out.own.alloc _) _ 1 _ rfl (by exact RdSl.newAt _ _ _ 1 1 _ rfl rfl) (one_int _ _) (by unfold maxLen; omega) (by omega) ?_)
          intro v1 w1 o1 g1 b1 n1
          have A1 := Lib.hid (A.out.next (below_alloc _ _) o1 g1 b1 (by simp)); clear o1 g1 b1 n1
          go_wp2_with fail
          go_roundw
          case rel =>
            refine ⟨k + 1, by omega, by go_num, ?_⟩
            have e : addKey raw y = raw ++ [2 * (y : Int)] := by unfold addKey; rw [if_pos ⟨by rw [HRL.out]; exact h12, by simpa using HD.out⟩]
            rw [HSN.out, e]
            exact A1.out.congr (by simp [HRL.out]) (by simp [intsU])
          case measure => simp [intOf]; omega
      · have h12' : ¬ (rl : Int) < 12 := by omega
        go_wp2_with fail
        go_roundw
        case rel =>
          refine ⟨k + 1, by omega, by go_num, ?_⟩
          have e : addKey raw y = raw := by unfold addKey; rw [if_neg (fun h => h12 (by rw [← HRL.out]; exact h.1))]
          rw [HSN.out, e, HRL.out]; exact A.out
        case measure => simp [intOf]; omega
    · have hfull : n.ks.take k = n.ks := List.take_of_length_le (by rw [HN.out]; omega)
      rw [hfull] at A hr12 ⊢
      clear hfull
      have HS := Lib.hid (sort_own _ _ A.out.own hr12)
      go_wp2_with fail
      (with_reducible refine HS.out.mono ?_)
      rintro e w1 ⟨rfl, ys, m1, a1, o1, u1⟩
      have A1 := Lib.hid (keys_end A.out m1 a1 o1 u1)
      clear m1 a1 o1 u1 HS
      go_wp2_with fail
      go_ret
      exact ⟨_, rfl, A1.out⟩
end
end Go.Proofs.Ytkoijmoendepgaa
