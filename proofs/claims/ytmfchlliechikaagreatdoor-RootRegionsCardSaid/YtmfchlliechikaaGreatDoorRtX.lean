/- The law's awake of layer 14. -/
import Derived.Test.YtmfchlliechikaaGreatDoorRtW
namespace Go.Proofs.YtmfchlliechikaaGreatDoor
open Go.RowKit Go.Maps
attribute [local go_sem ↓] Go.wp_at_zero Go.wp_at_succ

def p14 : Nat := 19703252664713224
def q14 : Nat := 19703252664713225
def W14a : Nat → Nat := chgS W0 [98] p14
def W14b : Nat → Nat := chgS W14a [97] q14
def W14c : Nat → Nat := chgS W14b [98] q14
def W14d : Nat → Nat := chgE W14c [98] 0 1280
theorem e14a : errS W0 [98] p14 1280 = 0 := by decide +kernel
theorem e14b : errS W14a [97] q14 1280 = 0 := by decide +kernel
theorem e14c : errS W14b [98] q14 1280 = 0 := by decide +kernel
theorem e14d : errE W14c [98] 0 1280 = 0 := by decide +kernel
theorem l14c : eC (srtR (entL W14c 16)) = [.string { data := #[97] }, .int .u64 19703252664713225, .string { data := #[98] }, .int .u64 19703252664713225] := by kernel_rfl
theorem n14c : (entL W14c 16).length = 2 := by decide +kernel
theorem n14d : (entL W14d 16).length = 1 := by decide +kernel
section
variable {w : World}
theorem make64 : Calls Tryz.prog 39 #[.int .u64 64, .int .u16 1, .int .u8 70] w fun r w' => r = .returned (.tuple #[.int .u64 19703252664713224, .int .i64 0]) ∧ w = w' := by
  have h1 : Go.bits .or .u64 (Go.bits .or .u64 8 4294967296) 19703248369745920 = 19703252664713224 := by decide +kernel
  go_enter Tryz.func39, Tryz.ntmps39
  go_wp2_with fail
  go_ret2
  exact ⟨rfl, rfl⟩
theorem make72 : Calls Tryz.prog 39 #[.int .u64 72, .int .u16 1, .int .u8 70] w fun r w' => r = .returned (.tuple #[.int .u64 19703252664713225, .int .i64 0]) ∧ w = w' := by
  have h1 : Go.bits .or .u64 (Go.bits .or .u64 9 4294967296) 19703248369745920 = 19703252664713225 := by decide +kernel
  go_enter Tryz.func39, Tryz.ntmps39
  go_wp2_with fail
  go_ret2
  exact ⟨rfl, rfl⟩
theorem sl98 : ({ data := #[98] } : ByteArray).toList = [98] := by kernel_rfl
theorem sl97 : ({ data := #[97] } : ByteArray).toList = [97] := by kernel_rfl
set_option maxRecDepth 100000 in
set_option maxHeartbeats 8000000 in
theorem awake14 (hN : Nib w) : Calls Tryz.prog 10 #[] w fun r w' => r = .returned (.bool true) ∧ Below w.heap.size w w' := by
  have HNB := Lib.hid hN; clear hN
  have HM1 := Lib.hid (fun wx : World => make64 (w := wx))
  have HM2 := Lib.hid (fun wx : World => make72 (w := wx))
  have HMD := Lib.hid (fun (wx : World) (h : Nib wx) => made14 h)
  have HS1 : Hid (∀ (w0 wx : World) (v : DV) (own : Nat → Option Role) (D : Dev) (b : Nat), Nib wx → RtSt w0 v own D b W0 33 wx → Calls Tryz.prog 30 #[.pointer (some ⟨b, 0, none⟩), .string { data := #[98] }, .int .u64 19703252664713224] wx fun r w' => r = .returned (.int .i64 0) ∧ ∃ own' D', RtSt w0 v own' D' b W14a 42 w' ∧ Kb wx own w' own') := fun w0 wx v own D b hx h => by
    have := h.set hx { data := #[98] } p14 (by decide) (by omega)
    rw [sl98, e14a] at this
    exact this
  have HS2 : Hid (∀ (w0 wx : World) (v : DV) (own : Nat → Option Role) (D : Dev) (b : Nat), Nib wx → RtSt w0 v own D b W14a 42 wx → Calls Tryz.prog 30 #[.pointer (some ⟨b, 0, none⟩), .string { data := #[97] }, .int .u64 19703252664713225] wx fun r w' => r = .returned (.int .i64 0) ∧ ∃ own' D', RtSt w0 v own' D' b W14b 51 w' ∧ Kb wx own w' own') := fun w0 wx v own D b hx h => by
    have := h.set hx { data := #[97] } q14 (by decide) (by omega)
    rw [sl97, e14b] at this
    exact this
  have HS3 : Hid (∀ (w0 wx : World) (v : DV) (own : Nat → Option Role) (D : Dev) (b : Nat), Nib wx → RtSt w0 v own D b W14b 51 wx → Calls Tryz.prog 30 #[.pointer (some ⟨b, 0, none⟩), .string { data := #[98] }, .int .u64 19703252664713225] wx fun r w' => r = .returned (.int .i64 0) ∧ ∃ own' D', RtSt w0 v own' D' b W14c 60 w' ∧ Kb wx own w' own') := fun w0 wx v own D b hx h => by
    have := h.set hx { data := #[98] } q14 (by decide) (by omega)
    rw [sl98, e14c] at this
    exact this
  have HS4 : Hid (∀ (w0 wx : World) (v : DV) (own : Nat → Option Role) (D : Dev) (b : Nat), Nib wx → RtSt w0 v own D b W14c 60 wx → Calls Tryz.prog 31 #[.pointer (some ⟨b, 0, none⟩), .string { data := #[98] }] wx fun r w' => r = .returned (.int .i64 0) ∧ ∃ own' D', RtSt w0 v own' D' b W14d 69 w' ∧ Kb wx own w' own') := fun w0 wx v own D b hx h => by
    have := h.remove hx { data := #[98] } (by omega)
    rw [sl98, e14d] at this
    exact this
  have HL1 : Hid (∀ (w0 wx : World) (v : DV) (own : Nat → Option Role) (D : Dev) (b : Nat), RtSt w0 v own D b W14c 60 wx → Calls Tryz.prog 29 #[.pointer (some ⟨b, 0, none⟩)] wx fun r w' => ∃ g o c, r = .returned (.slice (some ⟨g, o, none⟩) 2 c) ∧ Below wx.heap.size wx w' ∧ w'.cell? ⟨g, o, none⟩ = some (.string { data := #[97] }) ∧ w'.cell? ⟨g, o + 2, none⟩ = some (.string { data := #[98] }) ∧ w'.cell? ⟨g, o + 3, none⟩ = some (.int .u64 19703252664713225)) := fun w0 wx v own D b h => by
    refine (rtList_any h.don).mono ?_
    rintro r w' ⟨ov, rfl, ha⟩
    rw [l14c, n14c] at ha
    obtain ⟨a, c, rfl⟩ := ha.slice
    obtain ⟨_, a', c', e', _, hE⟩ := ha.rd
    cases e'
    obtain ⟨eb, eo, rfl, hE2⟩ := rd_at (k := 0) (u := .string { data := #[97] }) hE rfl
    exact ⟨eb, eo, c, rfl, ha.bel, hE2 0 _ rfl, hE2 2 _ rfl, hE2 3 _ rfl⟩
  have HL2 : Hid (∀ (w0 wx : World) (v : DV) (own : Nat → Option Role) (D : Dev) (b : Nat), RtSt w0 v own D b W14d 69 wx → Calls Tryz.prog 29 #[.pointer (some ⟨b, 0, none⟩)] wx fun r w' => ∃ a c, r = .returned (.slice a 1 c) ∧ Below wx.heap.size wx w') := fun w0 wx v own D b h => by
    refine (rtList_any h.don).mono ?_
    rintro r w' ⟨ov, rfl, ha⟩
    rw [n14d] at ha
    obtain ⟨a, c, rfl⟩ := ha.slice
    exact ⟨a, c, rfl, ha.bel⟩
  go_enter Tryz.func10, Tryz.ntmps10
  go_wp2_with fail
  (with_reducible refine (HM1.out _).mono ?_)
  rintro r w' ⟨rfl, rfl⟩
  go_wp2_with fail
  (with_reducible refine (HM2.out _).mono ?_)
  rintro r w' ⟨rfl, rfl⟩
  go_wp2_with fail
  (with_reducible refine (HMD.out _ HNB.out).mono ?_)
  rintro r w1 ⟨v, own, D, b, rfl, h1, hb⟩
  have S1 := Lib.hid h1
  have NB1 := Lib.hid (HNB.out.below h1.bel)
  clear h1 hb HM1 HM2 HMD
  go_wp2_with fail
  (with_reducible refine (HS1.out _ _ _ _ _ _ NB1.out S1.out).mono ?_)
  rintro r w2 ⟨rfl, own2, D2, h2, _⟩
  have S2 := Lib.hid h2
  have NB2 := Lib.hid (HNB.out.below h2.bel)
  clear h2 S1 NB1 HS1
  go_wp2_with fail
  (with_reducible refine (HS2.out _ _ _ _ _ _ NB2.out S2.out).mono ?_)
  rintro r w3 ⟨rfl, own3, D3, h3, _⟩
  have S3 := Lib.hid h3
  have NB3 := Lib.hid (HNB.out.below h3.bel)
  clear h3 S2 NB2 HS2
  go_wp2_with fail
  (with_reducible refine (HS3.out _ _ _ _ _ _ NB3.out S3.out).mono ?_)
  rintro r w4 ⟨rfl, own4, D4, h4, _⟩
  have S4 := Lib.hid h4
  have NB4 := Lib.hid (HNB.out.below h4.bel)
  clear h4 S3 NB3 HS3
  go_wp2_with fail
  (with_reducible refine (HL1.out _ _ _ _ _ _ S4.out).mono ?_)
  rintro r w5 ⟨g, o, c, rfl, b5, c0, c2, c3⟩
  have S5 := Lib.hid (S4.out.next b5)
  have NB5 := Lib.hid (NB4.out.below b5)
  clear b5 S4 NB4 HL1
  go_wp2_with fail
  (with_reducible refine (HS4.out _ _ _ _ _ _ NB5.out S5.out).mono ?_)
  rintro r w6 ⟨rfl, own6, D6, h6, _⟩
  have S6 := Lib.hid h6
  clear h6 S5 NB5 HS4 c0 c2 c3
  go_wp2_with fail
  (with_reducible refine (HL2.out _ _ _ _ _ _ S6.out).mono ?_)
  rintro r w7 ⟨a7, c7, rfl, b7⟩
  have S7 := Lib.hid (S6.out.next b7)
  clear b7 S6 HL2
  go_wp2_with fail
  go_ret
  exact ⟨rfl, S7.out.bel⟩
end
end Go.Proofs.YtmfchlliechikaaGreatDoor
