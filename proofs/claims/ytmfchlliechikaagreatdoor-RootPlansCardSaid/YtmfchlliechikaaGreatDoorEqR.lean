/- The reference's Same. -/
import Derived.Test.YtmfchlliechikaaGreatDoorGen
import Derived.Test.YtmfchlliechikaaGreatDoorMemA
namespace Go.Proofs.YtmfchlliechikaaGreatDoor
open Go.RowKit
attribute [local go_sem ↓] Go.wp_at_zero Go.wp_at_succ
section
variable {w : World}
set_option maxRecDepth 100000 in
set_option maxHeartbeats 2000000 in
/-- Same of two programs that are equal. -/
theorem r10Same_same (u v : Value) (l : List (Nat × Nat × Int)) (hx : RdSl w 3 u l.length (instrC l)) (hy : RdSl w 3 v l.length (instrC l)) (hl : l.length ≤ 100000) :
    Calls Tryz.prog 35 #[u, v] w fun r w' => r = .returned (.bool true) ∧ Below w.heap.size w w' := by
  obtain ⟨_, a, ca, rfl, hca, ha⟩ := hx
  obtain ⟨_, b, cb, rfl, hcb, hb⟩ := hy
  have HA := Lib.hid ha; have HB := Lib.hid hb; clear ha hb
  generalize hn1 : l.length = n at *
  have HN := Lib.hid hn1
  clear hn1
  have hbn : ((n : Int) != (n : Int)) = false := by simp
  go_enter Tryz.func35, Tryz.ntmps35
  go_wp2_with fail
  go_loopw [13] (fun i wr => ∃ k : Nat, k ≤ n ∧ i = .int .i64 k ∧ Qt w wr) (fun i _ => n - (intOf i).toNat)
  case atStart => exact ⟨0, by omega, rfl, Qt.refl w⟩
  case round =>
    obtain ⟨k, hk, rfl, q⟩ := hrel
    obtain ⟨nq, rfl⟩ := q
    by_cases hlt : k < n
    · obtain ⟨e, he⟩ : ∃ e, l[k]? = some e := ⟨_, List.getElem?_eq_getElem (by rw [HN.out]; exact hlt)⟩
      have hg := instrC_get l k e he
      obtain ⟨g1, o1, rfl, hc1⟩ := rd_at HA.out hg.1
      obtain ⟨g2, o2, rfl, hc2⟩ := rd_at HB.out hg.1
      have c1 := hc1 _ _ hg.1; have c2 := hc1 _ _ hg.2.1; have c3 := hc1 _ _ hg.2.2
      have d1 := hc2 _ _ hg.1; have d2 := hc2 _ _ hg.2.1; have d3 := hc2 _ _ hg.2.2
      rw [← Nat.add_assoc] at c2 d2 c3 d3
      have hk' : (k : Int) < n := by omega
      clear hc1 hc2 he hg
      obtain ⟨e1, e2, e3⟩ := e
      simp only at c1 c2 c3 d1 d2 d3
      have q1 : ((e1 : Int) == (e1 : Int)) = true := by simp
      have q2 : ((e2 : Int) == (e2 : Int)) = true := by simp
      have q3 : (e3 == e3) = true := by simp
      go_wp2_with fail
      go_quiet (fail)
      go_wp2_with fail
      go_roundw
      case rel => exact ⟨k + 1, by omega, by go_num, ⟨_, rfl⟩⟩
      case measure => simp [intOf]; omega
    · go_wp2_with fail
      go_ret
      exact ⟨rfl, (Qt.drewN w nq).below⟩
end
end Go.Proofs.YtmfchlliechikaaGreatDoor
