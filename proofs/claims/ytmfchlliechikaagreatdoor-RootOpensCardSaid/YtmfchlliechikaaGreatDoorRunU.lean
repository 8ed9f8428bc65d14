/- Programs that a call has made run on a device: what every seat needs of it. -/
import Derived.Test.YtmfchlliechikaaGreatDoorMemA
import Derived.Test.YtmfchlliechikaaGreatDoorStoU
namespace Go.Proofs.YtmfchlliechikaaGreatDoor
open Go.RowKit Go.Maps

theorem flushL_ok (offs : List Nat) (h : ∀ o ∈ offs, o < 18446744073709551616) : instrOk (flushL offs) := by
  intro e he
  unfold flushL at he
  split at he
  · simp at he
  · rcases List.mem_append.1 he with h1 | h1
    · obtain ⟨l, hl, rfl⟩ := List.mem_map.1 h1
      have := linesL_bd offs 288230376151711744 (fun o ho => by have := h o ho; omega) l hl
      exact ⟨by simp, by simp, by simp only; omega⟩
    · simp at h1; subst h1; exact ⟨by simp, by simp, by simp⟩
theorem storesL_ok (ws : List (Nat × Int)) (h : ∀ e ∈ ws, e.1 < 18446744073709551616) : instrOk (storesL ws) := by
  intro e he
  unfold storesL at he
  rcases List.mem_append.1 he with h1 | h1
  · obtain ⟨x, hx, rfl⟩ := List.mem_map.1 h1
    exact ⟨by simp, by simp, h x hx⟩
  · exact flushL_ok _ (fun o ho => by obtain ⟨x, hx, rfl⟩ := List.mem_map.1 ho; exact h x hx) e h1
theorem instrOk_append {a b : List (Nat × Nat × Int)} (ha : instrOk a) (hb : instrOk b) : instrOk (a ++ b) := fun e he => by
  rcases List.mem_append.1 he with h | h
  · exact ha e h
  · exact hb e h
theorem storesL_len (ws : List (Nat × Int)) : (storesL ws).length ≤ 2 * ws.length + 1 := by
  have := flushL_len (ws.map (·.1))
  unfold storesL
  rw [List.length_append, List.length_map]
  rw [List.length_map] at this
  omega
section
variable {w : World} {v : DV} {own : Nat → Option Role} {D : Dev} {j : Nat}
theorem DPost.past {w1 w2 : World} {D' : Dev} (hb : Below w.heap.size w w1) (h : DPost v own w1 D' w2) : DPost v own w D' w2 := DPost.next (fun _ _ => rfl) (Upd.of_below hb) h
/-- A program that a call has made runs on the device. -/
theorem run_acc (h : IsDev w v own D) (hj : j < 8) {w1 : World} {pv : Value} {P : List (Nat × Nat × Int)} (ha : Acc w w.heap.size w1 87 3 pv P.length (instrC P)) (hi : instrOk P) (hl : P.length ≤ 100000) (hx : D.exec + 100000 < 4294967296) :
    Calls Tryz.prog 42 #[pv, .iface 42 (.pointer (some ⟨v.tb j, 0, none⟩))] w1 fun r w' => r = .returned (.int .i64 ((D.run j P).err j)) ∧ DPost v own w (D.run j P) w' :=
  (run_any (h.below ha.bel) hj pv P ha.rd (fun k hk => by
    have := ha.new k hk
    cases ho : own k with
    | none => rfl
    | some r => have := h.lt k (by rw [ho]; simp); omega) hi hl (by omega)).mono fun r w' hp => ⟨hp.1, hp.2.past ha.bel⟩
end
end Go.Proofs.YtmfchlliechikaaGreatDoor
