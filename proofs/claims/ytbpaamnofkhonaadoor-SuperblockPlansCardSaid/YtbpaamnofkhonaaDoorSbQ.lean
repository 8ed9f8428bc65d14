/- The walk of the superblock's Check on a live device. -/
import Derived.Test.YtbpaamnofkhonaaDoorSbT
import Derived.Test.YtbpaamnofkhonaaDoorSbY
namespace Go.Proofs.YtbpaamnofkhonaaDoor
open Go.RowKit Go.Maps
attribute [local go_sem ↓] Go.wp_at_zero Go.wp_at_succ

/-- What Check answers of a copy. -/
def ckE (C : Nat → Int) (n i : Nat) : Int := if cpG C n i then 0 else 10
/-- Words behind an erasure that is cut: each copy is as it was, or spoilt. -/
theorem ers_words {C F : Nat → Int} (h : ∀ x, F x = C x ∨ ((x = 7 ∨ x = 15) ∧ F x = 0)) (i : Nat) (hi : i ≤ 1) : cpW F i = cpW C i ∨ (cpW F i).getD 7 0 = 0 := by
  rcases h (8 * i + 7) with e | ⟨_, e⟩
  · refine .inl (cpW_congr fun x h1 h2 => ?_)
    rcases h x with e' | ⟨hx, _⟩
    · exact e'
    · obtain rfl : x = 8 * i + 7 := by omega
      exact e
  · refine .inr ?_
    show (F (8 * i + 7)).toNat = 0
    rw [e]; rfl
section
variable {w : World} {v : DV} {own : Nat → Option Role} {D : Dev} {j : Nat}
set_option maxRecDepth 100000 in
theorem check1_any (b : Bool) : Calls Tryd.prog 49 #[.bool b] w fun r w' => r = .returned (.int .i64 (if b then 0 else 10)) ∧ w = w' := by
  cases b
  · go_enter Tryd.func49, Tryd.ntmps49
    go_wp2_with fail
    go_ret
    exact ⟨rfl, rfl⟩
  · go_enter Tryd.func49, Tryd.ntmps49
    go_wp2_with fail
    go_ret
    exact ⟨rfl, rfl⟩
set_option maxRecDepth 100000 in
set_option maxHeartbeats 8000000 in
theorem sbCheck_any (hN : Nib w) (h : IsDev w v own D) (hj : j < 8) (hof : D.off = false) (he : D.err j = 0) (hvb : D.VB) (hn : 2 ≤ D.n) :
    Calls Tryd.prog 22 #[.iface 49 (.pointer (some ⟨v.tb j, 0, none⟩))] w fun r w' => r = .returned (.tuple #[.int .i64 (ckE D.cur D.n 0), .int .i64 (ckE D.cur D.n 1)]) ∧ Below w.heap.size w w' := by
  have H := Lib.hid h; have HNB := Lib.hid hN
  have hus := fun wx (hx : IsDev wx v own D) => usable_any hx hj hn
  rw [he] at hus
  have HU := Lib.hid hus
  have hld := fun wx (hx : IsDev wx v own D) (hnx : Nib wx) => sbload_any hnx hx hj hof hvb hn
  rw [he] at hld
  have HLD := Lib.hid hld
  have HCA := Lib.hid (ldA_cpA D.cur D.n)
  have HAA : Hid (ldA D.cur D.n 2 = cpsA (cpS D.cur D.n 0) (cpS D.cur D.n 1) (cpG D.cur D.n 0) (cpG D.cur D.n 1)) := rfl
  have HC1 := Lib.hid (fun (wx : World) (b : Bool) => check1_any (w := wx) b)
  have HE : Hid (ckE D.cur D.n 0 = (if cpG D.cur D.n 0 then 0 else 10) ∧ ckE D.cur D.n 1 = (if cpG D.cur D.n 1 then 0 else 10)) := ⟨rfl, rfl⟩
  rw [HE.out.1, HE.out.2]
  generalize cpG D.cur D.n 0 = g0 at *
  generalize cpG D.cur D.n 1 = g1 at *
  generalize ldA D.cur D.n 2 = A at *
  clear h hN hvb hus hld HE
  go_enter Tryd.func22, Tryd.ntmps22
  go_wp2_with fail
  (with_reducible refine (HU.out _ H.out).mono ?_)
  rintro e w' ⟨rfl, rfl⟩
  go_wp2_with fail
  (with_reducible refine (HLD.out _ H.out HNB.out).mono ?_)
  rintro e w1 ⟨rfl, b1⟩
  have B1 := Lib.hid b1
  clear b1 HU HLD
  obtain ⟨w2, hw2, k2, b2⟩ := cpA_alloc (A := A) B1.out B1.out.size
  have K2 := Lib.hid k2
  have B3 := Lib.hid (B1.out.trans (b2.mono B1.out.size))
  clear k2 b2
  have K4 := K2.out
  rw [HAA.out] at K4
  have c16 : w2.cell? ⟨w1.heap.size, 16, none⟩ = some (.bool g0) := K4.cell rfl
  have c17 : w2.cell? ⟨w1.heap.size, 17, none⟩ = some (.bool g1) := K4.cell rfl
  have c16d : w2.drew.cell? ⟨w1.heap.size, 16, none⟩ = some (.bool g0) := K4.drew.cell rfl
  have c17d : w2.drew.cell? ⟨w1.heap.size, 17, none⟩ = some (.bool g1) := K4.drew.cell rfl
  clear K4
  go_wp2_with (first | (refine wpList_store_row rfl 99 (.tmp 5) (.tmp 17) rfl w1.heap.size A rfl rfl 99 #[.int .i64 0, .int .i64 0, .int .i64 0, .int .i64 0, .int .i64 0, .int .i64 0, .int .i64 0, .int .u64 0, .int .i64 0, .int .i64 0, .int .i64 0, .int .i64 0, .int .i64 0, .int .i64 0, .int .i64 0, .int .u64 0, .bool false, .bool false] (Blk.new w1 _ _) HCA.out.info HCA.out.sz HCA.out.one ?_; rw [hw2]))
  go_quiet (first | (go_at_call 49; with_reducible exact quiet_eq (HC1.out _ _)))
  go_wp2_with fail
  all_goals go_ret2
  all_goals exact ⟨rfl, B3.out.trans ((show Below w2.heap.size w2 (w2.drewN _) from ⟨rfl, rfl, rfl, Nat.le_refl _, fun _ _ => rfl⟩).mono B3.out.size)⟩
end
end Go.Proofs.YtbpaamnofkhonaaDoor

/- A format wherever the power fails (plain). -/
namespace Go.Proofs.YtbpaamnofkhonaaDoor
open Go.RowKit

/-- What an image of a format that was cut holds. -/
def FmtCut (C F : Nat → Int) (s : Sup) : Prop :=
  (∀ i, i ≤ 1 → cpW F i = cpW C i ∨ (cpW F i).getD 7 0 = 0) ∨ ((cpW F 1).getD 7 0 = 0 ∧ ((cpW F 0).getD 7 0 = 0 ∨ cpW F 0 = s.words))
theorem fmt_cut {D : Dev} {C : Nat → Int} {n : Nat} (h : Grp D 0 n C [] []) (s : Sup) (hn : 2 ≤ n) (E : Dev) (hE : E = D.run 0 (eraseP ++ sbP s 0)) :
    E.n = n ∧ ((Grp E 0 n (prgC s 0 (ersC C)) [] [] ∧ ∀ ks, E.img ks = prgC s 0 (ersC C)) ∨ (E.err 0 = 3 ∧ ∀ ks, FmtCut C (E.img ks) s)) := by
  have hw1 : ∀ e ∈ [((56 : Nat), (0 : Int)), (120, 0)], e.1 % 8 = 0 ∧ e.1 < 64 * n := fun e he => by
    simp at he
    rcases he with rfl | rfl
    · exact ⟨rfl, by show 56 < 64 * n; omega⟩
    · exact ⟨rfl, by show 120 < 64 * n; omega⟩
  have hok := storesGs_ok hw1
  have hE2 : E = (D.run 0 (storesL [(56, 0), (120, 0)])).run 0 (storesL (sbWs s 0)) := by rw [hE, Dev.run_append]; rfl
  have hgs : storesGs [((56 : Nat), (0 : Int)), (120, 0)] = [([(56, 0), (120, 0)], lineOffs [56, 120])] := rfl
  rcases run_came h hok with ⟨h1, h2, _⟩ | ⟨h1, h2, h3, a, vs, le, ⟨t, ht⟩, hst, h4, _⟩
  · rw [← stores_groups] at h1 h2
    have e1 : laidG C (storesGs [((56 : Nat), (0 : Int)), (120, 0)]) = ersC C := funext fun i => by rw [laidG_flat, storesGs_flat]; rfl
    rw [e1] at h1
    rcases run_line h1 (fun e he => sbWs_line s 0 n (by omega) e he) (by rw [sbWs_eq]; simp) with ⟨hd, _⟩ | ⟨_, g2, g3, g4, g5⟩
    · rw [← hE2] at hd
      exact ⟨hd.on.n, .inl ⟨hd, fun ks => funext fun i => hd.hst.clean ks i⟩⟩
    · rw [← hE2] at g2 g3 g4 g5
      refine ⟨g4, .inr ⟨g3, fun ks => .inr ?_⟩⟩
      obtain ⟨q, hq, hF⟩ := g5 ks
      have hlen : (sbWs s 0).length = 9 := by rw [sbWs_eq]; rfl
      obtain ⟨p1, p2, _⟩ := cp_part s 0 q (ersC C) (E.img ks) (by omega) hF
      have e2 := ers_cp C
      refine ⟨by rw [p1 1 (by omega)]; exact e2.2, ?_⟩
      rcases p2 with p | p | p
      · exact .inl (by rw [p]; exact e2.1)
      · exact .inl p
      · exact .inr p
  · rw [← stores_groups] at h1 h2 h3 hst
    have hokp : okP n (storesL (sbWs s 0)) := by
      rw [stores_groups]
      exact okP_groups (storesGs_ok (fun e he => ⟨(sbWs_line s 0 n (by omega) e he).1, (sbWs_line s 0 n (by omega) e he).2.1⟩))
    have hEo : E = D.run 0 (storesL [(56, 0), (120, 0)]) := by rw [hE2]; exact run_off _ h1 (by rw [h2]; decide) h3 hokp
    rw [← hEo] at h1 h2 h3 hst
    refine ⟨h3, .inr ⟨h2, fun ks => .inl (ers_words (fun x => ?_))⟩⟩
    rw [hgs] at le ht hst
    have ha : a = 0 ∨ a = 1 := by simp at le; omega
    rcases ha with rfl | rfl
    · have ht' : [((56 : Nat), (0 : Int)), (120, 0)] = vs ++ t := by simpa using ht
      have hst' : Hst E C vs := hst
      rcases hst'.img ks x with e | ⟨e, he, hx, hv⟩
      · exact .inl e
      · have hm : e ∈ [((56 : Nat), (0 : Int)), (120, 0)] := by rw [ht']; exact List.mem_append_left _ he
        simp at hm
        rcases hm with rfl | rfl
        · exact .inr ⟨.inl (by simpa using hx.symm), hv⟩
        · exact .inr ⟨.inr (by simpa using hx.symm), hv⟩
    · have hv : vs = [] := (show vs = [] ∧ t = [] by simpa using ht).1
      subst hv
      have e1 : laidG C (List.take 1 [([((56 : Nat), (0 : Int)), (120, 0)], lineOffs [56, 120])]) = ersC C := rfl
      rw [hst.clean ks x, e1]
      by_cases h7 : x = 7
      · subst h7; exact .inr ⟨.inl rfl, rfl⟩
      · by_cases h15 : x = 15
        · subst h15; exact .inr ⟨.inr rfl, rfl⟩
        · refine .inl (look_other _ _ _ (fun e he => ?_))
          simp at he
          rcases he with rfl | rfl
          · show 56 / 8 ≠ x; omega
          · show 120 / 8 ≠ x; omega
end Go.Proofs.YtbpaamnofkhonaaDoor
