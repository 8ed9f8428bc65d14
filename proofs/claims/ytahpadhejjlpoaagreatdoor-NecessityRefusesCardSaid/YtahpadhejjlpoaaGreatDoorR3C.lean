/- The walks of the reference's device: Words, persist. -/
import Derived.Test.YtahpadhejjlpoaaGreatDoorR3B
import Derived.RegionTactic
import Derived.Deep.MidRow
import Derived.BigRegion
namespace Go.Proofs.YtahpadhejjlpoaaGreatDoor
open Go.RowKit
attribute [local go_sem ↓] Go.wp_at_zero Go.wp_at_succ

/-- Eight words as cells. -/
def w8 (F : Nat → Int) : Array Value := #[.int .u64 (F 0), .int .u64 (F 1), .int .u64 (F 2), .int .u64 (F 3), .int .u64 (F 4), .int .u64 (F 5), .int .u64 (F 6), .int .u64 (F 7)]
/-- The words of a line behind its first k stores. -/
def wdsF (l : Nat) (hs : List (Nat × Int)) (F : Nat → Int) (k j : Nat) : Int := look (hs.take k) (F j) (8 * l + j)
theorem row_w8 (w : World) (t : TypeId) (F : Nat → Int) : Row (w.alloc (.cells (w8 F) t)) w.heap.size 8 t (fun j => .int .u64 (F j)) :=
  Row.new w _ t 8 _ (fun i hi => by
    obtain rfl | rfl | rfl | rfl | rfl | rfl | rfl | rfl : i = 0 ∨ i = 1 ∨ i = 2 ∨ i = 3 ∨ i = 4 ∨ i = 5 ∨ i = 6 ∨ i = 7 := by omega
    all_goals rfl)
theorem wdsF_step {l : Nat} {hs : List (Nat × Int)} {F : Nat → Int} {k j : Nat} {e : Nat × Int} (he : hs[k]? = some e) (h1 : e.1 / 64 = l) (h8 : e.1 % 8 = 0) (_hj : j < 8) :
    (if j = e.1 % 64 / 8 then e.2 else wdsF l hs F k j) = wdsF l hs F (k + 1) j := by
  unfold wdsF
  rw [List.take_add_one, he]
  show _ = look (hs.take k ++ [e]) _ _
  rw [look_snoc]
  by_cases hh : j = e.1 % 64 / 8
  · rw [if_pos hh, if_pos (by omega)]
  · rw [if_neg hh, if_neg (by omega)]
theorem below8 {w wx : World} {b B : Nat} (h : Below B w wx) (hb : B ≤ b) (o : Nat) (v0 v1 v2 v3 v4 v5 v6 v7 : Value) :
    Below B w ((((((((wx.setCell ⟨b, o, none⟩ v0).setCell ⟨b, o + 1, none⟩ v1).setCell ⟨b, o + 2, none⟩ v2).setCell ⟨b, o + 3, none⟩ v3).setCell ⟨b, o + 4, none⟩ v4).setCell ⟨b, o + 5, none⟩ v5).setCell ⟨b, o + 6, none⟩ v6).setCell ⟨b, o + 7, none⟩ v7) :=
  (((((((h.setCell hb _).setCell hb _).setCell hb _).setCell hb _).setCell hb _).setCell hb _).setCell hb _).setCell hb _
section
variable {w : World}
end
section
variable {w : World} {D : Dev} {rb lb : Nat} {hv : Nat → Value} {nv : Value} {ns : List (Nat × Nat)}
theorem upd_cells {S : Nat → Prop} {w : World} {b : Nat} (hb : S b) : ∀ (vs : List Value) (o : Nat) {wx : World}, Upd S w wx → Upd S w (wx.setCells b o vs)
  | [], _, _, h => h
  | v :: r, o, _, h => upd_cells hb r (o + 1) (h.setCell (p := ⟨b, o, none⟩) (fun _ => hb) v)
theorem row_cells {b n : Nat} {t : TypeId} : ∀ (vs : List Value) (o : Nat) {wx : World} {f : Nat → Value}, Row wx b n t f → Row (wx.setCells b o vs) b n t (fun i => if o ≤ i ∧ i < o + vs.length then vs.getD (i - o) undef else f i)
  | [], o, _, f, h => h.congr (fun i _ => by rw [if_neg (by simp only [List.length_nil]; omega)])
  | v :: r, o, _, f, h => (row_cells r (o + 1) (h.set o v)).congr (fun i _ => by
      simp only [List.length_cons]
      by_cases e : i = o
      · subst e
        rw [if_neg (by omega), if_pos rfl, if_pos (by omega), Nat.sub_self]
        rfl
      · by_cases e2 : o + 1 ≤ i ∧ i < o + 1 + r.length
        · rw [if_pos e2, if_pos (by omega)]
          obtain ⟨j, rfl⟩ : ∃ j, i = o + 1 + j := ⟨i - (o + 1), by omega⟩
          rw [show o + 1 + j - (o + 1) = j by omega, show o + 1 + j - o = j + 1 by omega]
          rfl
        · rw [if_neg e2, if_neg e, if_neg (by omega)])
theorem w8_one (F : Nat → Int) : (w8 F).all (·.oneCell') = true :=
  all_oneCell_toArray (cs := [.int .u64 (F 0), .int .u64 (F 1), .int .u64 (F 2), .int .u64 (F 3), .int .u64 (F 4), .int .u64 (F 5), .int .u64 (F 6), .int .u64 (F 7)]) (by
    intro v hv
    simp only [List.mem_cons, List.not_mem_nil, or_false] at hv
    rcases hv with rfl | rfl | rfl | rfl | rfl | rfl | rfl | rfl <;> rfl)
theorem blk_cellsX {b g : Nat} {c : Array Value} {t : TypeId} (hg : b ≠ g) : ∀ (vs : List Value) (o : Nat) {wx : World}, Blk wx b c t → Blk (wx.setCells g o vs) b c t
  | [], _, _, h => h
  | v :: r, o, _, h => blk_cellsX hg r (o + 1) (Blk.other h (a := ⟨g, o, none⟩) hg v)
theorem wdsF_pers {l k : Nat} {F : Nat → Int} (hF : ∀ j, D.pers (8 * l + j) = F j) (j : Nat) (hj : j < 8) : wdsF l (D.hist l) F k j = (D.persist l k).pers (8 * l + j) := by
  unfold wdsF Dev.persist
  simp only
  rw [if_pos (by omega), hF]
theorem RdSl.dropW {w : World} {b o n c : Nat} {xs : List (Nat × Int)} (h : RdSl w 2 (.slice (some ⟨b, o, none⟩) n c) n (flat xs)) (k : Nat) (hk : k ≤ n) : RdSl w 2 (.slice (some ⟨b, o + k * 2, none⟩) (n - k) (c - k)) (n - k) (flat (xs.drop k)) := by
  obtain ⟨h1, a', c', e, hc, h2⟩ := h
  cases e
  rw [← flat_drop]
  refine ⟨by rw [List.length_drop, h1]; omega, _, _, rfl, by omega, ?_⟩
  rcases h2 with h2 | ⟨b, o, e, h3⟩
  · left; rw [h2]; simp
  · cases e
    right
    refine ⟨b, o + k * 2, rfl, fun j u hu => ?_⟩
    rw [List.getElem?_drop] at hu
    rw [Nat.add_assoc]
    exact h3 _ u hu
theorem RdSl.none0 (w : World) (a : Option Addr) (c : Nat) : RdSl w 2 (.slice a 0 c) 0 [] := ⟨rfl, a, c, rfl, Nat.zero_le _, .inl rfl⟩
end
end Go.Proofs.YtahpadhejjlpoaaGreatDoor
