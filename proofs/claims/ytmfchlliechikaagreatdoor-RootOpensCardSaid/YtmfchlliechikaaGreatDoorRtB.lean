/- The walks of a name's test, of a pointer's test and of cmp.Compare at strings. -/
import Derived.Test.YtmfchlliechikaaGreatDoorBase
import Derived.Test.YtmfchlliechikaaGreatDoorRtM
import Derived.Test.YtmfchlliechikaaGreatDoorRows
import Derived.StillTailTactics
import Derived.Deep.QuietTactic
import Derived.BigQuiet
import Derived.Test.YtmfchlliechikaaGreatDoorDevI
import Derived.Test.YtmfchlliechikaaGreatDoorCrcW
import Derived.Test.YtmfchlliechikaaGreatDoorShelf
import Derived.Test.YtmfchlliechikaaGreatDoorHeldM
import Derived.Laws.BytesArg
import Derived.Laws.CopyRow
import Derived.Laws.CopyOwn
import Derived.Lib.ConvBytes
namespace Go.Proofs.YtmfchlliechikaaGreatDoor
open Go.RowKit

theorem retB {a b : Bool} (h : a = b) : Ending.returned (.bool a) = .returned (.bool b) := by rw [h]
theorem str_get (s : ByteArray) (k : Nat) (h : k < s.size) : (s[k]'h).toNat = (s.toList.getD k 0).toNat := by
  rw [ByteArray.toList_eq, List.getD_eq_getElem?_getD, List.getElem?_eq_getElem (by rw [← Lib.size_eq]; exact h)]
  rfl
theorem str_len (s : ByteArray) : s.toList.length = s.size := by rw [ByteArray.toList_eq, ← Lib.size_eq]
section
variable {w : World}
set_option maxRecDepth 100000 in
set_option maxHeartbeats 1000000 in
theorem rtletter_any (b : Nat) : Calls Tryz.prog 40 #[.int .u8 b] w fun r w' => r = .returned (.bool (letB b)) ∧ w = w' := by
  have hl : letB b = (((decide ((65 : Int) ≤ b)) && (decide ((b : Int) ≤ 90))) || ((decide ((97 : Int) ≤ b)) && (decide ((b : Int) ≤ 122)))) := by
    unfold letB
    rw [Bool.eq_iff_iff]
    simp
    omega
  rw [hl]
  clear hl
  by_cases h1 : (65 : Int) ≤ b
  · by_cases h2 : (b : Int) ≤ 90
    · go_enter Tryz.func40, Tryz.ntmps40
      go_wp2_with fail
      go_ret
      exact ⟨retB (by simp [h1, h2]), rfl⟩
    · by_cases h3 : (97 : Int) ≤ b
      · by_cases h4 : (b : Int) ≤ 122
        · go_enter Tryz.func40, Tryz.ntmps40
          go_wp2_with fail
          go_ret
          exact ⟨retB (by simp), rfl⟩
        · go_enter Tryz.func40, Tryz.ntmps40
          go_wp2_with fail
          go_ret
          exact ⟨retB (by simp [h2, h4]), rfl⟩
      · go_enter Tryz.func40, Tryz.ntmps40
        go_wp2_with fail
        go_ret
        exact ⟨retB (by simp [h2]; omega), rfl⟩
  · have h3 : ¬ (97 : Int) ≤ b := by omega
    go_enter Tryz.func40, Tryz.ntmps40
    go_wp2_with fail
    go_ret
    exact ⟨retB (by simp; omega), rfl⟩
set_option maxRecDepth 100000 in
set_option maxHeartbeats 1000000 in
theorem PtrNil_any (p : Nat) : Calls Tryz.prog 59 #[.int .u64 p] w fun r w' => r = .returned (.bool (p == 0)) ∧ w = w' := by
  have hl : (p == 0) = ((p : Int) == 0) := by rw [Bool.eq_iff_iff]; simp
  rw [hl]
  clear hl
  go_enter Tryz.func59, Tryz.ntmps59
  go_wp2_with fail
  go_ret
  exact ⟨rfl, rfl⟩
set_option maxRecDepth 100000 in
set_option maxHeartbeats 1000000 in
theorem isNaNS_any (s : ByteArray) : Calls Tryz.prog 91 #[.string s] w fun r w' => r = .returned (.bool false) ∧ w = w' := by
  have h : (s.toList == s.toList) = true := beq_self_eq_true _
  go_enter Tryz.func91, Tryz.ntmps91
  go_wp2_with fail
  go_ret
  exact ⟨rfl, rfl⟩
def NmOk (l : List UInt8) (k : Nat) : Prop := ∀ j, j < k → restB (l.getD j 0).toNat = true
/-- The answer of cmp.Compare at strings. -/
def cmpS (a b : List UInt8) : Int := if Op.bytesLess a b then -1 else if a == b then 0 else 1
set_option maxRecDepth 100000 in
set_option maxHeartbeats 1000000 in
theorem cmpS_any (s t : ByteArray) : Calls Tryz.prog 65 #[.string s, .string t] w fun r w' => r = .returned (.int .i64 (cmpS s.toList t.toList)) ∧ w = w' := by
  have HN := Lib.hid (fun (wx : World) x => isNaNS_any (w := wx) x)
  unfold cmpS
  cases h1 : Op.bytesLess s.toList t.toList
  · cases h2 : s.toList == t.toList
    · go_enter Tryz.func65, Tryz.ntmps65
      go_wp2_with (go_at_call 91; (with_reducible refine (HN.out _ _).mono ?_); rintro e w' ⟨rfl, rfl⟩)
      go_ret
      exact ⟨rfl, rfl⟩
    · go_enter Tryz.func65, Tryz.ntmps65
      go_wp2_with (go_at_call 91; (with_reducible refine (HN.out _ _).mono ?_); rintro e w' ⟨rfl, rfl⟩)
      go_ret
      exact ⟨rfl, rfl⟩
  · go_enter Tryz.func65, Tryz.ntmps65
    go_wp2_with (go_at_call 91; (with_reducible refine (HN.out _ _).mono ?_); rintro e w' ⟨rfl, rfl⟩)
    go_ret
    exact ⟨rfl, rfl⟩
theorem rest_not (l : List UInt8) (j : Nat) (hj : j < l.length) (h : restB (l.getD j 0).toNat = false) : (l.all fun b => restB b.toNat) = false := by
  rw [List.all_eq_false]
  refine ⟨l[j], List.getElem_mem hj, ?_⟩
  rw [List.getD_eq_getElem?_getD, List.getElem?_eq_getElem hj] at h
  simpa using h
set_option maxRecDepth 100000 in
set_option maxHeartbeats 2000000 in
theorem rtName_any (s : ByteArray) : Calls Tryz.prog 11 #[.string s] w fun r w' => r = .returned (.bool (nameB s.toList)) ∧ w = w' := by
  have HL := Lib.hid (fun (wx : World) b => rtletter_any (w := wx) b)
  have hlen := str_len s
  by_cases h0 : s.size = 0
  · have hn : s.toList = [] := List.eq_nil_of_length_eq_zero (by omega)
    have hq : s.toList.isEmpty = true := by rw [hn]; rfl
    rw [show nameB s.toList = false by rw [hn]; rfl]
    clear hlen h0 hn
    go_enter Tryz.func11, Tryz.ntmps11
    go_wp2_with fail
    go_ret
    exact ⟨rfl, rfl⟩
  · have hq : s.toList.isEmpty = false := by
      rw [Bool.eq_false_iff]
      intro h
      rw [List.isEmpty_iff] at h
      rw [h] at hlen
      simp at hlen
      omega
    by_cases h16 : s.size ≤ 16
    · have h16' : ¬ (16 : Int) < s.size := by omega
      have p0 : 0 < s.size := by omega
      have hg := fun k h => str_get s k h
      have HG := Lib.hid hg
      cases hb0 : letB (s[0]'p0).toNat
      · rw [show nameB s.toList = false by unfold nameB; rw [← hg 0 p0, hb0]; simp]
        clear hlen h16 hg
        go_enter Tryz.func11, Tryz.ntmps11
        go_wp2_with fail
        (with_reducible refine (HL.out _ _).mono ?_)
        rintro e w' ⟨rfl, rfl⟩
        go_wp2_with fail
        go_ret
        exact ⟨rfl, rfl⟩
      · have KEY : Hid (∀ b : Bool, (b = true ↔ NmOk s.toList s.size) → b = nameB s.toList) := fun b hb => by
          unfold nameB
          rw [← hg 0 p0, hb0, Bool.eq_iff_iff, hb]
          simp only [Bool.and_true, Bool.and_eq_true, decide_eq_true_eq, List.all_eq_true]
          constructor
          · intro h
            refine ⟨by omega, fun x hx => ?_⟩
            obtain ⟨j, hj, rfl⟩ := List.getElem_of_mem hx
            have := h j (by omega)
            rw [List.getD_eq_getElem?_getD, List.getElem?_eq_getElem hj] at this
            exact this
          · intro h j hj
            rw [List.getD_eq_getElem?_getD, List.getElem?_eq_getElem (by omega)]
            exact h.2 _ (List.getElem_mem _)
        clear hlen hg
        go_enter Tryz.func11, Tryz.ntmps11
        go_wp2_with fail
        (with_reducible refine (HL.out _ _).mono ?_)
        rintro e w' ⟨rfl, rfl⟩
        go_wp2_with fail
        go_loopw [19] (fun y wr => ∃ k : Nat, k ≤ s.size ∧ y = .int .i64 k ∧ w = wr ∧ NmOk s.toList k) (fun y _ => s.size - (intOf y).toNat)
        case atStart => exact ⟨0, by omega, rfl, rfl, fun j hj => by omega⟩
        case round =>
          obtain ⟨k, hk, rfl, rfl, ho⟩ := hrel
          have HO := Lib.hid ho
          clear ho
          by_cases hlt : k < s.size
          · have hk' : (k : Int) < s.size := by omega
            obtain ⟨c, hc⟩ : ∃ c : Nat, (s[k]'hlt).toNat = c := ⟨_, rfl⟩
            have hcl : (s.toList.getD k 0).toNat = c := by rw [← HG.out k hlt]; exact hc
            have HR : Hid (restB c = true → NmOk s.toList (k + 1)) := fun h j hj => by
              by_cases e : j = k
              · subst e; rw [hcl]; exact h
              · exact HO.out j (by omega)
            have HF : Hid (restB c = false → nameB s.toList = false) := fun h => by
              symm
              refine KEY.out false ⟨fun h2 => by simp at h2, fun h2 => ?_⟩
              have := h2 k hlt
              rw [hcl, h] at this
              exact this
            unfold restB at HR HF
            clear hcl
            cases hlc : letB c
            · by_cases h95 : (c : Int) = 95
              · have q95 : ((c : Int) != 95) = false := by simpa using h95
                have HR2 : Hid (NmOk s.toList (k + 1)) := HR.out (by rw [hlc, show c = 95 by omega]; rfl)
                clear h95 HR HF
                go_wp2_with fail
                (with_reducible refine (HL.out _ _).mono ?_)
                rintro e w' ⟨rfl, rfl⟩
                go_wp2_with fail
                go_roundw
                case rel => exact ⟨k + 1, by omega, by go_num, trivial, HR2.out⟩
                case measure => simp [intOf]; omega
              · have q95 : ((c : Int) != 95) = true := by simpa using h95
                by_cases h48 : (c : Int) < 48
                · have HF2 : Hid (nameB s.toList = false) := HF.out (by rw [hlc]; simp; omega)
                  clear h95 HR HF
                  go_wp2_with fail
                  (with_reducible refine (HL.out _ _).mono ?_)
                  rintro e w' ⟨rfl, rfl⟩
                  go_wp2_with fail
                  go_ret
                  exact ⟨retB HF2.out.symm, rfl⟩
                · by_cases h57 : (57 : Int) < (c : Int)
                  · have HF2 : Hid (nameB s.toList = false) := HF.out (by rw [hlc]; simp; omega)
                    clear h95 HR HF
                    go_wp2_with fail
                    (with_reducible refine (HL.out _ _).mono ?_)
                    rintro e w' ⟨rfl, rfl⟩
                    go_wp2_with fail
                    go_ret
                    exact ⟨retB HF2.out.symm, rfl⟩
                  · have HR2 : Hid (NmOk s.toList (k + 1)) := HR.out (by rw [hlc]; simp; omega)
                    clear h95 HR HF
                    go_wp2_with fail
                    (with_reducible refine (HL.out _ _).mono ?_)
                    rintro e w' ⟨rfl, rfl⟩
                    go_wp2_with fail
                    go_roundw
                    case rel => exact ⟨k + 1, by omega, by go_num, trivial, HR2.out⟩
                    case measure => simp [intOf]; omega
            · have HR2 : Hid (NmOk s.toList (k + 1)) := HR.out (by rw [hlc]; rfl)
              clear HR HF
              go_wp2_with fail
              (with_reducible refine (HL.out _ _).mono ?_)
              rintro e w' ⟨rfl, rfl⟩
              go_wp2_with fail
              go_roundw
              case rel => exact ⟨k + 1, by omega, by go_num, trivial, HR2.out⟩
              case measure => simp [intOf]; omega
          · have hke : k = s.size := by omega
            have hnk : ¬ (k : Int) < s.size := by omega
            have HT : Hid (true = nameB s.toList) := KEY.out true ⟨fun _ => by rw [← hke]; exact HO.out, fun _ => rfl⟩
            clear hke hlt
            go_wp2_with fail
            go_ret
            exact ⟨retB HT.out, rfl⟩
    · have h16' : (16 : Int) < s.size := by omega
      rw [show nameB s.toList = false by unfold nameB; simp [hlen]; omega]
      clear hlen h0 h16
      go_enter Tryz.func11, Tryz.ntmps11
      go_wp2_with fail
      go_ret
      exact ⟨rfl, rfl⟩
end
end Go.Proofs.YtmfchlliechikaaGreatDoor

/- The walks of word.Pack and word.Unpack at names, of pack, tag and name of package root. -/
namespace Go.Proofs.YtmfchlliechikaaGreatDoor
open Go.RowKit Go.Maps
attribute [local go_sem ↓] Go.wp_at_zero Go.wp_at_succ

/-- The bytes of a name as integers. -/
def bI (l : List UInt8) (j : Nat) : Int := ((l.getD j 0).toNat : Nat)
theorem bI_bd (l : List UInt8) (j : Nat) : 0 ≤ bI l j ∧ bI l j < 256 := by
  unfold bI
  have := (l.getD j 0).toNat_lt
  omega
theorem wv_pk (l : List UInt8) (d : Nat) : ∀ r, 8 * d + r ≤ l.length → wv (bI l) d r = (pkN ((l.drop (8 * d)).take r) : Nat) := by
  intro r
  induction r with
  | zero => intro _; simp [wv, pkN]
  | succ r ih =>
    intro h
    have e : (l.drop (8 * d)).take (r + 1) = (l.drop (8 * d)).take r ++ [l.getD (8 * d + r) 0] := by
      rw [List.take_add_one, List.getElem?_drop, List.getElem?_eq_getElem (by omega), List.getD_eq_getElem?_getD, List.getElem?_eq_getElem (by omega)]
      rfl
    rw [e, pkN_snoc]
    simp only [wv]
    rw [ih (by omega)]
    have hl : ((l.drop (8 * d)).take r).length = r := by simp; omega
    rw [hl, Int.natCast_add, Int.natCast_mul]
    unfold bI
    congr 2
    rw [show (256 : Nat) = 2 ^ 8 from rfl, ← Nat.pow_mul, Nat.mul_comm 8 r]
    simp
theorem words_pk (l : List UInt8) (d : Nat) : wordsOf (bI l) l.length d = (pkN ((l.drop (8 * d)).take 8) : Nat) := by
  unfold wordsOf
  by_cases h : 8 * d ≤ l.length
  · rw [wv_pk l d _ (by omega)]
    by_cases h8 : 8 ≤ l.length - 8 * d
    · rw [Nat.min_eq_left h8]
    · rw [Nat.min_eq_right (by omega), List.take_of_length_le (by simp), List.take_of_length_le (by simp; omega)]
  · rw [show min 8 (l.length - 8 * d) = 0 by omega, List.drop_eq_nil_of_le (by omega)]
    rfl
section
variable {w : World}
set_option maxRecDepth 100000 in
set_option maxHeartbeats 1000000 in
theorem wordsOf_walk (n : Nat) (hn : n ≤ 1000) : Calls Tryz.prog 98 #[.int .i64 n] w fun r w' => r = .returned (.int .i64 (((n + 7) / 8 : Nat) : Int)) ∧ w = w' := by
  by_cases h : n % 8 = 0
  · have h1 : ((n : Int) % 8 != 0) = false := by simp; omega
    have h2 : (n : Int) / 8 = ((n + 7) / 8 : Nat) := by omega
    clear h
    generalize (n + 7) / 8 = m at *
    go_enter Tryz.func98, Tryz.ntmps98
    go_wp2_with fail
    go_ret
    exact ⟨rfl, rfl⟩
  · have h1 : ((n : Int) % 8 != 0) = true := by simp; omega
    have h2 : (n : Int) / 8 = ((n / 8 : Nat) : Int) := by omega
    have h3 : ((n / 8 : Nat) : Int) + 1 = (((n + 7) / 8 : Nat) : Int) := by omega
    have h4 : n / 8 ≤ 1000 := by omega
    clear h
    generalize (n + 7) / 8 = m at *
    generalize n / 8 = q at *
    go_enter Tryz.func98, Tryz.ntmps98
    go_wp2_with fail
    go_ret
    exact ⟨rfl, rfl⟩
set_option maxRecDepth 100000 in
set_option maxHeartbeats 2000000 in
theorem wPack_any (sv : Value) (l : List UInt8) (h : RdSl w 1 sv l.length ((List.range l.length).map fun i => .int .u8 (bI l i))) (hl : l.length ≤ 16) :
    Calls Tryz.prog 106 #[sv] w fun r w' => r = .returned (.slice (some ⟨w.heap.size, 0, none⟩) ((l.length + 7) / 8) ((l.length + 7) / 8)) ∧ Row w' w.heap.size ((l.length + 7) / 8) 32 (fun i => .int .u64 (wordsOf (bI l) l.length i)) ∧ Below w.heap.size w w' := by
  obtain ⟨_, sa, sc, rfl, hsc, h2⟩ := h
  have HW := Lib.hid (fun (wx : World) => wordsOf_walk (w := wx) l.length (by omega))
  have HB := Lib.hid (bI_bd l)
  generalize bI l = b at *
  generalize l.length = N at *
  have HR := Lib.hid h2; clear h2
  obtain ⟨m, hm⟩ : ∃ m, (N + 7) / 8 = m := ⟨_, rfl⟩
  rw [hm] at HW ⊢
  have hmk := fun (wx : World) => mkWords wx m (by omega)
  have hNb : N ≤ 16 := hl
  have HM := Lib.hid hm; clear hm hl
  have M0 := Lib.hid (FrMid.start (w := w) b m)
  go_enter Tryz.func106, Tryz.ntmps106
  go_wp2_with fail
  (with_reducible refine (HW.out _).mono ?_)
  rintro e w' ⟨rfl, rfl⟩
  go_wp2_with fail
  go_loopw [4, 5, 12] (fun _ _ y wr => ∃ k : Nat, k ≤ N ∧ y = .int .i64 k ∧ FrMid w b m k wr) (fun _ _ y _ => N - (intOf y).toNat)
  case atStart => exact ⟨0, by omega, rfl, M0.out⟩
  case round =>
    obtain ⟨k, hk, rfl, hM⟩ := hrel
    have M := Lib.hid hM
    clear M0
    by_cases hlt : k < N
    · have hlt' : (k : Int) < N := by omega
      have hsz : w.heap.size < wr.heap.size := hM.row.lt
      obtain ⟨d, hd⟩ : ∃ d, k / 8 = d := ⟨_, rfl⟩
      obtain ⟨r, hr⟩ : ∃ r, k % 8 = r := ⟨_, rfl⟩
      have hf1 := hM.row.frozen d
      have q6 : (k : Int) / 8 = d := by omega
      have q7 : (k : Int) % 8 = r := by omega
      have hdn : (d : Int) < m := by have := HM.out; omega
      have hr8 : r < 8 := by omega
      have hcell := hM.row.cell (i := d) (by omega)
      have hx : ((List.range N).map fun i => Value.int .u8 (b i))[k]? = some (.int .u8 (b k)) := by rw [List.getElem?_map, List.getElem?_range hlt]; rfl
      obtain ⟨bb, o, rfl, h3⟩ := rd_at HR.out hx
      have c1 := (hM.bel.cell (p := ⟨bb, o + k, none⟩) (World.block_lt_of_cell? _ _ (h3 k _ hx))).trans (h3 k _ hx)
      obtain ⟨hb1, hb2⟩ := HB.out k
      have hor : bits BinOp.or IntKind.u64 (wordsOf b k d) (IntKind.u64.wrap (b k * 2 ^ (r * 8))) = wordsOf b k d + b k * 2 ^ (r * 8) := by
        have e1 : wordsOf b k d = wv b d r := by unfold wordsOf; rw [show min 8 (k - 8 * d) = r by omega]
        have e2 := wv_lt b d r (fun j hj => HB.out _)
        rw [e1]
        obtain ⟨a, ha⟩ : ∃ a : Nat, wv b d r = a := ⟨_, (Int.toNat_of_nonneg e2.1).symm⟩
        obtain ⟨x, hx⟩ : ∃ x : Nat, b k = x := ⟨_, (Int.toNat_of_nonneg hb1).symm⟩
        rw [ha, hx]
        refine or_byte a x r ?_ (by omega) hr8
        have e3 : ((2 : Int) ^ (r * 8)) = ((2 ^ (r * 8) : Nat) : Int) := by simp
        rw [ha, e3] at e2
        omega
      have HO := Lib.hid hor
      have E := Lib.hid (And.intro hd hr)
      clear hM hx h3 hd hr
      go_wp2_with fail
      exact ⟨⟨k + 1, by omega, by go_num, by rw [← E.out.1, ← E.out.2]; exact M.out.step⟩, by simp [intOf]; omega⟩
    · obtain rfl : k = N := by omega
      go_wp2_with fail
      go_ret
      exact ⟨rfl, M.out.row, M.out.bel⟩
end
theorem below_bytes (w : World) (e : TypeId) (s : ByteArray) : Below w.heap.size w (Lib.bytesWorld w e s) :=
  ⟨rfl, rfl, rfl, by rw [Lib.bytesWorld_size]; omega, fun k hk => Lib.bytesWorld_at_old w e s k hk⟩
theorem bytes_rd (w : World) (e : TypeId) (s : ByteArray) : RdSl (Lib.bytesWorld w e s) 1 (.slice (some ⟨w.heap.size, 0, none⟩) s.toList.length (grownCap w s.size 0 e)) s.toList.length ((List.range s.toList.length).map fun i => .int .u8 (bI s.toList i)) := by
  refine ⟨by simp, _, _, rfl, by rw [str_len]; exact grownCap_ge _ _ _ _, .inr ⟨_, _, rfl, fun j u hu => ?_⟩⟩
  rw [List.getElem?_map] at hu
  have hj : j < s.toList.length := by
    rcases Nat.lt_or_ge j s.toList.length with h | h
    · exact h
    · rw [List.getElem?_eq_none (by simpa using h)] at hu; cases hu
  rw [List.getElem?_range hj] at hu
  cases hu
  rw [Nat.zero_add, Lib.bytesWorld_cell w e s j (by rw [← str_len]; exact hj), ← ByteArray.toList_eq]
  rfl
/-- pack's boxes. -/
structure PkSt (w : World) (wx : World) : Prop where
  a : Blk wx w.heap.size #[.int .u64 0, .int .u64 0] 104
  b : Blk wx (w.heap.size + 1) #[.int .u64 0, .int .u64 0] 104
  bel : Below w.heap.size w wx
theorem PkSt.next {w wx wy : World} (h : PkSt w wx) (hb : Below wx.heap.size wx wy) : PkSt w wy := ⟨h.a.below hb, h.b.below hb, h.bel.trans (hb.mono h.bel.size)⟩
theorem PkSt.start (w : World) : PkSt w ((w.alloc (.cells #[.int .u64 0, .int .u64 0] 104)).alloc (.cells #[.int .u64 0, .int .u64 0] 104)) := by
  have h2 := Blk.new (w.alloc (.cells #[.int .u64 0, .int .u64 0] 104)) #[.int .u64 0, .int .u64 0] 104
  simp only [World.size_alloc] at h2
  exact ⟨(Blk.new w _ _).alloc _, h2, below_twice w _ _⟩
theorem sizeU64p : (Tryz.prog.info? 32).map (·.size) = some 1 := by kernel_rfl
/-- The words of a name are copied. -/
theorem pack_copy {wx : World} {g gp m : Nat} (l : List UInt8) (h1 : 1 ≤ l.length) (hl : l.length ≤ 16) (hm : (l.length + 7) / 8 = m) (hg : Blk wx g #[.int .u64 0, .int .u64 0] 104) (hr : Row wx gp m 32 (fun i => .int .u64 (wordsOf (bI l) l.length i))) :
    ∃ wy, (∀ ty, (Builtin.copy_ #[44, 44] ty #[.slice (some ⟨g, 0, none⟩) 2 2, .slice (some ⟨gp, 0, none⟩) m m]).run Tryz.prog wx = .ok (goInt (m : Nat)) wy) ∧
      Blk wy g #[.int .u64 (pk0 l : Nat), .int .u64 (pk1 l : Nat)] 104 ∧ (∀ k, k ≠ g → wy.heap[k]? = wx.heap[k]?) ∧ (∀ B w0, B ≤ g → Below B w0 wx → Below B w0 wy) := by
  have e0 : wordsOf (bI l) l.length 0 = (pk0 l : Nat) := words_pk l 0
  have e1 : wordsOf (bI l) l.length 1 = (pk1 l : Nat) := words_pk l 1
  have key : ∀ cs : List Value, cs.length = m → (∀ (j : Nat) (v : Value), cs[j]? = some v → v = Value.int .u64 (wordsOf (bI l) l.length j)) → (cs ++ ([Value.int .u64 0, .int .u64 0] : List Value).drop (0 + cs.length)) = [Value.int .u64 (pk0 l : Nat), Value.int .u64 (pk1 l : Nat)] →
      ∃ wy, (∀ ty, (Builtin.copy_ #[44, 44] ty #[.slice (some ⟨g, 0, none⟩) 2 2, .slice (some ⟨gp, 0, none⟩) m m]).run Tryz.prog wx = .ok (goInt (m : Nat)) wy) ∧
      Blk wy g #[.int .u64 (pk0 l : Nat), .int .u64 (pk1 l : Nat)] 104 ∧ (∀ k, k ≠ g → wy.heap[k]? = wx.heap[k]?) ∧ (∀ B w0, B ≤ g → Below B w0 wx → Below B w0 wy) := by
    intro cs hc hv he
    have hr2 := fun ty => run_copy_row (P := Tryz.prog) wx 44 44 ty 32 g 0 2 2 ⟨gp, 0, none⟩ m m #[.int .u64 0, .int .u64 0] 104 cs Tryz.underlying44 sizeU64p hg (by rw [hc]; show m = min m 2; omega)
      (fun j u hj => by
        have hj2 : j < m := by rw [← hc]; exact (List.getElem?_eq_some_iff.1 hj).1
        rw [Addr.add_lit, hv j u hj]
        simpa using hr.cell hj2) (by rw [hc]; simp; omega) (fun u hu => by
        obtain ⟨j, hj, rfl⟩ := List.getElem_of_mem hu
        rw [hv j _ (List.getElem?_eq_getElem hj)]
        rfl)
    refine ⟨_, fun ty => by rw [hr2 ty, hc], ?_, fun k hk => setRow_other _ _ _ _ hk, fun B w0 hB hb => below_setRow hb hB _⟩
    have := setRow_heap wx g #[.int .u64 0, .int .u64 0] (([Value.int .u64 0, .int .u64 0] : List Value).take 0 ++ cs ++ ([Value.int .u64 0, .int .u64 0] : List Value).drop (0 + cs.length)).toArray 104 (0, 0) hg
    rw [hc] at he this
    rw [List.take_zero, List.nil_append] at this
    conv at this => rhs; rw [he]
    exact this
  by_cases h8 : l.length ≤ 8
  · have hz : pk1 l = 0 := by unfold pk1; rw [List.drop_eq_nil_of_le (by omega)]; rfl
    refine key [.int .u64 (pk0 l : Nat)] (by simp; omega) (fun j v hj => ?_) (by rw [hz]; rfl)
    cases j with
    | zero => cases hj; rw [e0]
    | succ j => cases hj
  · refine key [.int .u64 (pk0 l : Nat), .int .u64 (pk1 l : Nat)] (by simp; omega) (fun j v hj => ?_) rfl
    rcases j with _ | _ | j
    · cases hj; rw [e0]
    · cases hj; rw [e1]
    · cases hj
section
variable {w : World}
set_option maxRecDepth 100000 in
set_option maxHeartbeats 2000000 in
theorem rtpack_any (s : ByteArray) (h1 : 1 ≤ s.toList.length) (h2 : s.toList.length ≤ 16) : Calls Tryz.prog 89 #[.string s] w fun r w' => r = .returned (.agg #[.int .u64 (pk0 s.toList : Nat), .int .u64 (pk1 s.toList : Nat)]) ∧ Below w.heap.size w w' := by
  have S0 := Lib.hid (PkSt.start w)
  have HPK := Lib.hid (fun (wx : World) sv h => wPack_any (w := wx) sv s.toList h h2)
  have HRD := Lib.hid (fun wx => bytes_rd wx 5 s)
  have hcv := fun (wx : World) => Lib.run_convert_string_bytes (P := Tryz.prog) wx 9 95 5 s Tryz.underlying9 Tryz.underlying95 Tryz.underlying5
  have HCV := Lib.hid hcv
  have HCP := Lib.hid (fun (wx : World) (g gp m : Nat) (hm : (s.toList.length + 7) / 8 = m) (hg : Blk wx g #[.int .u64 0, .int .u64 0] 104) hr => pack_copy (wx := wx) (g := g) (gp := gp) (m := m) s.toList h1 h2 hm hg hr)
  rw [← str_len] at HCV HRD
  clear hcv
  obtain ⟨m, hm⟩ : ∃ m, (s.toList.length + 7) / 8 = m := ⟨_, rfl⟩
  rw [hm] at HPK
  have HM := Lib.hid hm
  clear hm h1 h2
  go_enter Tryz.func89, Tryz.ntmps89
  go_wp2_with fail
  have S1 := Lib.hid (S0.out.next ((Below.refl _ _).drew))
  clear S0
  refine wp_region_held (S := (fun wx => Below w.heap.size w wx)) (by kernel_rfl) ?_
  change wpAnyH _ _ _ _ _ _ _ _ (World.drew _)
  refine wpAnyH_take (i := 0) (v := .slice (some ⟨w.heap.size + 1, 0, none⟩) 2 2) rfl (by kernel_rfl) (by kernel_rfl) (by kernel_rfl) (fun _ _ _ h => h) (Or.inl ⟨by kernel_rfl, fun w _ => by go_simp⟩) S1.out.bel ?_
  refine wpAnyH_take (i := 1) (v := .string s) rfl (by kernel_rfl) (by kernel_rfl) (by kernel_rfl) (fun _ _ _ h => h) (Or.inl ⟨by kernel_rfl, fun w _ => by go_simp⟩) S1.out.bel ?_
  have hcv := HCV.out (World.drew ((w.alloc (.cells #[.int .u64 0, .int .u64 0] 104)).alloc (.cells #[.int .u64 0, .int .u64 0] 104)))
  have S2 := Lib.hid (S1.out.next (below_bytes _ 5 s))
  have R2 := Lib.hid (HRD.out (World.drew ((w.alloc (.cells #[.int .u64 0, .int .u64 0] 104)).alloc (.cells #[.int .u64 0, .int .u64 0] 104))))
  generalize hw1 : World.drew _ = w1 at S1 S2 R2 hcv ⊢
  generalize hw2 : Lib.bytesWorld w1 5 s = w2 at S2 R2 hcv
  clear hw1 hw2
  refine wpAnyH_one (i := 2) (by kernel_rfl) rfl rfl (fun K hK => ?_)
  go_simp
  refine hK _ _ ⟨S2.out.bel, ?_⟩
  clear hK K
  clear hcv
  refine wpAnyH_one (i := 3) (by kernel_rfl) rfl rfl (fun K hK => ?_)
  go_simp
  (with_reducible refine (HPK.out _ _ R2.out).mono ?_)
  rintro e w3 ⟨rfl, r3, b3⟩
  have S3 := Lib.hid (S2.out.next b3)
  have R3 := Lib.hid r3
  clear r3 b3
  go_simp
  refine hK _ _ ⟨S3.out.bel, ?_⟩
  clear hK K
  obtain ⟨w4, hcp, k4, o4, l4⟩ := HCP.out w3 (w.heap.size + 1) w2.heap.size m HM.out S3.out.b R3.out
  have K4 := Lib.hid k4
  have A4 : Hid (Blk w4 w.heap.size #[.int .u64 0, .int .u64 0] 104) := (o4 _ (by omega)).trans S3.out.a
  have B4 := Lib.hid (l4 _ _ (by omega) S3.out.bel)
  clear k4 o4 l4
  refine wpAnyH_one (i := 4) (by kernel_rfl) rfl rfl (fun K hK => ?_)
  go_simp
  refine hK _ _ ⟨B4.out, ?_⟩
  clear hK K
  refine wpAnyH_done (by kernel_rfl) ?_ _
  clear hcp S1 S2 S3 R2 R3
  have c0 := K4.out.cell (i := 0) rfl
  have c1 := K4.out.cell (i := 1) rfl
  have z0 := A4.out.cell (i := 0) rfl
  have z1 := A4.out.cell (i := 1) rfl
  have f0 := A4.out.frozen 0
  have f1 := A4.out.frozen 1
  go_wp2_with fail
  have K5 := ((A4.out.set 0 (.int .u64 (pk0 s.toList : Nat))).set 1 (.int .u64 (pk1 s.toList : Nat)))
  have r0 := K5.cell (i := 0) (v := .int .u64 (pk0 s.toList : Nat)) rfl
  have r1 := K5.cell (i := 1) (v := .int .u64 (pk1 s.toList : Nat)) rfl
  refine bodyPost_ret (v := .agg #[.int .u64 (pk0 s.toList : Nat), .int .u64 (pk1 s.toList : Nat)]) (by simp [results, Tryz.results89, go_sem, r0, r1]) rfl ⟨rfl, ?_⟩
  exact (B4.out.setCell (Nat.le_refl _) _).setCell (Nat.le_refl _) _
/-- The words of an entry, in a box. -/
theorem words_rd {wx : World} {g : Nat} {x y p t : Nat} (h : Blk wx g #[.int .u64 x, .int .u64 y, .int .u64 p, .int .u64 t] 121) : RdSl wx 1 (.slice (some ⟨g, 0, none⟩) 2 4) 2 (natsU [x, y]) :=
  ⟨rfl, _, _, rfl, by omega, .inr ⟨g, 0, rfl, fun j u hu => by
    rcases j with _ | _ | j
    · cases hu; exact h.cell rfl
    · cases hu; exact h.cell rfl
    · cases hu⟩⟩
set_option maxRecDepth 100000 in
set_option maxHeartbeats 2000000 in
theorem rttag_any (h : Nib w) (x y p t : Nat) (hx : x < 18446744073709551616) (hy : y < 18446744073709551616) : Calls Tryz.prog 50 #[.agg #[.int .u64 x, .int .u64 y, .int .u64 p, .int .u64 t]] w fun r w' => r = .returned (.int .u64 (tagN x y : Nat)) ∧ Below w.heap.size w w' := by
  have B0 := Lib.hid (below_alloc w (.cells #[.int .u64 x, .int .u64 y, .int .u64 p, .int .u64 t] 121))
  have HC := Lib.hid (crcWords_any (h.below B0.out) (.slice (some ⟨w.heap.size, 0, none⟩) 2 4) [x, y] (words_rd (Blk.new w _ _)) (by simp) (by simp; omega))
  have hb := crcN_lt [x, y]
  have ht : (tagN x y : Nat) = 4294967296 + crcN [x, y] := rfl
  have hq : (4294967296 : Int) + (crcN [x, y] : Nat) = (tagN x y : Nat) := by omega
  have htl := tagN_lt x y
  generalize crcN [x, y] = c at *
  generalize tagN x y = tg at *
  clear ht h
  go_enter Tryz.func50, Tryz.ntmps50
  go_wp2_with fail
  (with_reducible refine HC.out.mono ?_)
  rintro e w' ⟨rfl, rfl⟩
  go_wp2_with fail
  go_ret
  exact ⟨rfl, B0.out⟩
/-- The words a name is read from. -/
def pairF (x y : Nat) (i : Nat) : Int := if i = 0 then (x : Nat) else (y : Nat)
theorem raw_bytes (x y : Nat) : (strOfNums ((List.range 16).map fun i => byteAt (pairF x y) i)).data.toList = raw16 x y := by
  rw [strOfNums_data]
  apply List.ext_getElem?
  intro j
  rw [List.getElem?_map, List.getElem?_map]
  rcases Nat.lt_or_ge j 16 with hj | hj
  · rw [List.getElem?_range hj, raw_get _ _ _ hj]
    simp only [Option.map_some]
    congr 1
    apply UInt8.toNat_inj.1
    unfold byteAt pairF
    split
    · rename_i h8
      rw [if_pos (by omega), byteN_toNat, show j % 8 * 8 = 8 * j by omega]
      have e : ((x : Nat) : Int) / 2 ^ (8 * j) % 256 = ((x / 256 ^ j % 256 : Nat) : Int) := by
        rw [show (256 : Nat) = 2 ^ 8 from rfl, ← Nat.pow_mul]; simp
      rw [e, Int.toNat_natCast]
      simp
    · rename_i h8
      rw [if_neg (by omega), byteN_toNat, show j % 8 * 8 = 8 * (j - 8) by omega]
      have e : ((y : Nat) : Int) / 2 ^ (8 * (j - 8)) % 256 = ((y / 256 ^ (j - 8) % 256 : Nat) : Int) := by
        rw [show (256 : Nat) = 2 ^ 8 from rfl, ← Nat.pow_mul]; simp
      rw [e, Int.toNat_natCast]
      simp
  · rw [List.getElem?_eq_none (by simpa using hj), List.getElem?_eq_none (by rw [raw16_len]; exact hj)]
    rfl
set_option maxRecDepth 100000 in
set_option maxHeartbeats 2000000 in
theorem wUnpack_any (sv : Value) (x y : Nat) (h : RdSl w 1 sv 2 (natsU [x, y])) (hx : x < 18446744073709551616) (hy : y < 18446744073709551616) :
    Calls Tryz.prog 80 #[sv, .int .i64 16] w fun r w' => r = .returned (.tuple #[.slice (some ⟨w.heap.size, 0, none⟩) 16 16, .int .i64 0]) ∧ Row w' w.heap.size 16 5 (fun i => .int .u8 (byteAt (pairF x y) i)) ∧ Below w.heap.size w w' := by
  obtain ⟨_, a, c, rfl, hc, h2⟩ := h
  have hw := fun (wx : World) => wordsOf_walk (w := wx) 16 (by omega)
  rw [show ((16 : Nat) : Int) = 16 from rfl, show (((16 + 7) / 8 : Nat) : Int) = 2 from rfl] at hw
  have HW := Lib.hid hw
  have HR := Lib.hid h2; clear h2 hw
  have HF : Hid (∀ i, i < 2 → 0 ≤ pairF x y i ∧ pairF x y i < 18446744073709551616 ∧ (natsU [x, y])[i]? = some (.int .u64 (pairF x y i))) := fun i hi => by
    rcases i with _ | _ | i
    · exact ⟨by show 0 ≤ ((x : Nat) : Int); omega, by show ((x : Nat) : Int) < _; omega, rfl⟩
    · exact ⟨by show 0 ≤ ((y : Nat) : Int); omega, by show ((y : Nat) : Int) < _; omega, rfl⟩
    · omega
  generalize pairF x y = f at *
  generalize natsU [x, y] = ns at *
  have hmk := fun (wx : World) => mkBytes wx 16 (by omega)
  rw [show ((16 : Nat) : Int) = 16 from rfl] at hmk
  have M0 := Lib.hid (ByMid.start (w := w) f 16)
  clear hx hy
  go_enter Tryz.func80, Tryz.ntmps80
  go_wp2_with fail
  (with_reducible refine (HW.out _).mono ?_)
  rintro e w' ⟨rfl, rfl⟩
  go_wp2_with fail
  go_loopw [7, 36] (fun _ y wr => ∃ k : Nat, k ≤ 16 ∧ y = .int .i64 k ∧ ByMid w f 16 k wr) (fun _ y _ => 16 - (intOf y).toNat)
  case atStart => exact ⟨0, by omega, rfl, M0.out⟩
  case round =>
    obtain ⟨k, hk, rfl, hM⟩ := hrel
    have M := Lib.hid hM
    clear M0
    by_cases hlt : k < 16
    · have hlt' : (k : Int) < 16 := by omega
      have hf1 := hM.row.frozen k
      have hsz : w.heap.size < wr.heap.size := hM.row.lt
      have hcell := hM.row.cell hlt
      obtain ⟨u0, hu0⟩ : ∃ u, wr.cell? ⟨w.heap.size, k, none⟩ = some u := ⟨_, hcell⟩
      obtain ⟨d, hd⟩ : ∃ d, k / 8 = d := ⟨_, rfl⟩
      obtain ⟨r, hr⟩ : ∃ r, k % 8 = r := ⟨_, rfl⟩
      have q2 : (k : Int) / 8 = d := by omega
      have q3 : (k : Int) % 8 = r := by omega
      have hdn : (d : Int) < 2 := by omega
      have hr8 : r < 8 := by omega
      have hx := (HF.out d (by omega)).2.2
      obtain ⟨b, o, rfl, h3⟩ := rd_at HR.out hx
      have c1 := (hM.bel.cell (p := ⟨b, o + d, none⟩) (World.block_lt_of_cell? _ _ (h3 d _ hx))).trans (h3 d _ hx)
      have E := Lib.hid (And.intro hd hr)
      clear hM hcell hx h3 hd hr
      go_wp2_with fail
      exact ⟨⟨k + 1, by omega, by go_num, by rw [← E.out.1, ← E.out.2]; exact M.out.step⟩, by simp [intOf]; omega⟩
    · obtain rfl : k = 16 := by omega
      go_wp2_with fail
      go_ret2
      exact ⟨rfl, M.out.row.congr (fun i hi => by rw [if_pos hi]), M.out.bel⟩
end
end Go.Proofs.YtmfchlliechikaaGreatDoor

/- The walks of an entry's name, of none, at, load and find of package root. -/
namespace Go.Proofs.YtmfchlliechikaaGreatDoor
open Go.RowKit Go.Maps
attribute [local go_sem ↓] Go.wp_at_zero Go.wp_at_succ

/-- A name of two words as a string. -/
def nmS (x y : Nat) : ByteArray := ⟨(nmL x y).toArray⟩
theorem nmS_list (x y : Nat) : (nmS x y).toList = nmL x y := ByteArray.toList_mk _
/-- The string of an entry, empty for a free one. -/
def enS (x y t : Nat) : ByteArray := if t = 0 then ⟨#[]⟩ else nmS x y
section
variable {w : World}
set_option maxRecDepth 100000 in
set_option maxHeartbeats 2000000 in
theorem rtname_any (x y p t : Nat) (hx : x < 18446744073709551616) (hy : y < 18446744073709551616) : Calls Tryz.prog 49 #[.agg #[.int .u64 x, .int .u64 y, .int .u64 p, .int .u64 t]] w fun r w' => r = .returned (.tuple #[.string (enS x y t), .bool (t != 0)]) ∧ Below w.heap.size w w' := by
  have B0 := Lib.hid (below_alloc w (.cells #[.int .u64 x, .int .u64 y, .int .u64 p, .int .u64 t] 121))
  have HU := Lib.hid (wUnpack_any (.slice (some ⟨w.heap.size, 0, none⟩) 2 4) x y (words_rd (Blk.new w #[.int .u64 x, .int .u64 y, .int .u64 p, .int .u64 t] 121)) hx hy)
  have K0 := Lib.hid (Blk.new w #[.int .u64 x, .int .u64 y, .int .u64 p, .int .u64 t] 121)
  have hcv := fun (wx : World) (g : Nat) (h : Row wx g 16 5 (fun i => .int .u8 (byteAt (pairF x y) i))) => run_convert_bytes_arg (P := Tryz.prog) wx 95 5 Tryz.underlying95 Tryz.underlying5 g 0 16 16 ((List.range 16).map fun i => byteAt (pairF x y) i) (by simp) (fun i hi => by
    rw [h.cell (i := 0 + i) (by omega)]
    simp [List.getD, List.getElem?_map, List.getElem?_range hi]) 9 Tryz.underlying9
  have htr := fun (wx : World) => Tryz.strings_TrimRight_one (strOfNums ((List.range 16).map fun i => byteAt (pairF x y) i)) 0 (by decide) wx (by rw [strOfNums_size]; simp)
  rw [raw_bytes] at htr
  generalize strOfNums ((List.range 16).map fun i => byteAt (pairF x y) i) = rs at hcv htr
  have HTR : Hid (∀ wx : World, Calls Tryz.prog 81 #[.string rs, .string ⟨#[0]⟩] wx fun e w' => e = .returned (.string (nmS x y)) ∧ w' = wx) := htr
  have HCV := Lib.hid hcv
  have HEN : Hid (enS x y t = if t = 0 then ⟨#[]⟩ else nmS x y) := rfl
  generalize enS x y t = es at *
  generalize nmS x y = ns at *
  have hb : ((t : Int) != 0) = (t != 0) := by rw [Bool.eq_iff_iff]; simp
  have hb2 : ((t : Int) == 0) = !(t != 0) := by rw [Bool.eq_iff_iff]; simp
  rw [← hb]
  clear hcv htr hx hy
  by_cases h0 : t = 0
  · obtain rfl : es = ⟨#[]⟩ := by have := HEN.out; rw [if_pos h0] at this; exact this
    have hz : ((t : Int) == 0) = true := by simp; omega
    have hz2 : ((t : Int) != 0) = false := by simp; omega
    clear h0 hb hb2 HEN
    rw [hz2]
    go_enter Tryz.func49, Tryz.ntmps49
    go_wp2_with fail
    (with_reducible refine HU.out.mono ?_)
    rintro e w1 ⟨rfl, r1, b1⟩
    have B1 := Lib.hid (B0.out.trans (b1.mono B0.out.size))
    have c3 := (K0.out.below b1).cell (i := 3) rfl
    clear r1 b1 K0 B0
    go_wp2_with fail
    go_ret2
    exact ⟨rfl, B1.out⟩
  · obtain rfl : es = ns := by have := HEN.out; rw [if_neg h0] at this; exact this
    have hz : ((t : Int) == 0) = false := by simp; omega
    have hz2 : ((t : Int) != 0) = true := by simp; omega
    clear h0 hb hb2 HEN
    rw [hz2]
    go_enter Tryz.func49, Tryz.ntmps49
    go_wp2_with fail
    (with_reducible refine HU.out.mono ?_)
    rintro e w1 ⟨rfl, r1, b1⟩
    have B1 := Lib.hid (B0.out.trans (b1.mono B0.out.size))
    have c3 := (K0.out.below b1).cell (i := 3) rfl
    have hcv1 := HCV.out _ _ r1
    simp only [World.size_alloc] at hcv1
    clear r1 b1 K0 B0 HCV
    go_wp2_with fail
    (with_reducible refine (HTR.out _).mono ?_)
    rintro e w2 ⟨rfl, rfl⟩
    go_wp2_with fail
    go_ret2
    exact ⟨rfl, B1.out⟩
/-- A handle of a directory on thread j of a device. -/
structure DirAt (w : World) (b off : Nat) (m : Value) : Prop where
  blk : Blk w b #[m, .int .u64 off] 120
theorem DirAt.next {wx : World} {b off : Nat} {m : Value} (h : DirAt w b off m) (hb : Below w.heap.size w wx) : DirAt wx b off m := ⟨h.blk.below hb⟩
set_option maxRecDepth 100000 in
set_option maxHeartbeats 1000000 in
theorem rtnone_nil : Calls Tryz.prog 58 #[.pointer none] w fun r w' => r = .returned (.bool true) ∧ w = w' := by
  go_enter Tryz.func58, Tryz.ntmps58
  go_wp2_with fail
  go_ret
  exact ⟨rfl, rfl⟩
set_option maxRecDepth 100000 in
set_option maxHeartbeats 1000000 in
theorem rtnone_any {b off : Nat} {a : Addr} (h : DirAt w b off (.iface 42 (.pointer (some a)))) : Calls Tryz.prog 58 #[.pointer (some ⟨b, 0, none⟩)] w fun r w' => r = .returned (.bool false) ∧ w = w' := by
  have c0 := h.blk.cell (i := 0) rfl
  go_enter Tryz.func58, Tryz.ntmps58
  go_wp2_with fail
  go_ret
  exact ⟨rfl, rfl⟩
set_option maxRecDepth 100000 in
set_option maxHeartbeats 1000000 in
theorem rtat_any {b off : Nat} {m : Value} (h : DirAt w b off m) (e k : Nat) (he : e < 16) (hk : k < 4) (ho : off ≤ 262144) : Calls Tryz.prog 54 #[.pointer (some ⟨b, 0, none⟩), .int .i64 e, .int .i64 k] w fun r w' => r = .returned (.int .u64 ((off + 32 * e + 8 * k : Nat) : Int)) ∧ w = w' := by
  have c1 := h.blk.cell (i := 1) rfl
  obtain ⟨q, hq⟩ : ∃ q, off + 32 * e + 8 * k = q := ⟨_, rfl⟩
  have hq2 : (off : Int) + ((e : Int) * 4 + (k : Int)) * 8 = (q : Int) := by omega
  rw [hq]
  go_enter Tryz.func54, Tryz.ntmps54
  go_wp2_with fail
  go_ret
  first | exact ⟨rfl, rfl⟩ | exact ⟨ret_int (by omega), rfl⟩
end
end Go.Proofs.YtmfchlliechikaaGreatDoor
