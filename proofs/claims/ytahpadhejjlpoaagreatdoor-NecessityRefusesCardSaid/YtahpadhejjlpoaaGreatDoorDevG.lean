/- The walks of slices.Clone, of and New: a new device. -/
import Derived.Test.YtahpadhejjlpoaaGreatDoorDevA
import Derived.Deep.RegionWith
import Derived.Deep.DeepCutAuto
namespace Go.Proofs.YtahpadhejjlpoaaGreatDoor
open Go.RowKit Go.Maps

theorem infoU64 : (Tryz.prog.info? 39).map (fun i => (i.zero, i.size, i.bytes)) = some (some (.int .u64 0), 1, 8) := by kernel_rfl
theorem infoLine : (Tryz.prog.info? 100).map (fun i => (i.zero, i.size, i.bytes)) = some (some (.agg #[.int .u64 0, .slice none 0 0]), 2, 32) := by kernel_rfl

section
variable {w : World}

set_option maxRecDepth 100000 in
set_option maxHeartbeats 1000000 in
theorem cloneU_any (a : Addr) (n c : Nat) (xs : List Value) (h : RdSl w 1 (.slice (some a) n c) n xs) (h1 : ∀ u ∈ xs, u.oneCell' = true) (hn : n ≤ 4611686018) :
    Calls Tryz.prog 33 #[.slice (some a) n c] w fun r w' => ∃ g cap, r = .returned (.slice (some ⟨g, 0, none⟩) n cap) ∧ OwnSl w' 39 1 (.slice (some ⟨g, 0, none⟩) n cap) n xs ∧ w.heap.size ≤ g ∧ Below w.heap.size w w' := by
  obtain ⟨i0, hi, hz0, hz1, hz2⟩ := info_parts infoU64
  have I := Lib.hid (And.intro hi (And.intro hz0 (And.intro hz1 hz2))); clear hi hz0 hz1 hz2
  have H := Lib.hid h; have H1 := Lib.hid h1; clear h h1
  have hq := fun wx => Lib.run_eql_slice_nil (P := Tryz.prog) wx 90 39 (some a) n c 0 0 Tryz.underlying90
  go_enter Tryz.func33, Tryz.ntmps33
  go_wp2_with (at_builtin; refine wpList_append_sl _ rfl _ _ 90 rfl 39 i0 _ 1 8 Tryz.underlying90 I.out.1 I.out.2.1 I.out.2.2.1 I.out.2.2.2 rfl (by decide) _ 0 [] rfl ?h0 _ n xs rfl ?h1 ?h2 ?h3 ?h4 ?_)
  case h0 => exact OwnSl.new _ _ _ 1 0 0 rfl (Nat.le_refl _) (Nat.zero_le _)
  case h1 => exact H.out.alloc _
  case h2 => exact H1.out
  case h3 => unfold maxLen; omega
  case h4 => omega
  intro v' w1 o1 g1 b1 n1
  have O1 := Lib.hid o1; have G1 := Lib.hid g1; have B1 := Lib.hid b1; clear o1 g1 b1 n1
  go_wp2
  go_ret
  have hb : Below w.heap.size w w1 := ((Below.refl _ _).alloc (Nat.le_refl _) _).grown G1.out (by simp) (fun k hk => by cases hk; exact Nat.le_refl _)
  obtain ⟨a', c', hv⟩ := O1.out.slice
  have O2 := O1.out
  have B2 := B1.out
  rw [hv] at O2 B2
  rcases B2 with h | h
  · simp only [slAddr] at h
    subst h
    exact ⟨w.heap.size, c', by rw [← hv]; rfl, O2, Nat.le_refl _, hb⟩
  · simp only [slAddr] at h
    subst h
    exact ⟨w.heap.size + 1, c', by rw [← hv]; rfl, O2, Nat.le_succ _, hb⟩

def Dev.fresh (n : Nat) (f : Nat → Int) : Dev :=
  { n := n, pers := f, hist := fun _ => [], done := fun _ => 0, err := fun _ => 0, note := fun _ _ => none, off := false, armed := false, left := 0, exec := 0 }

/-- A new device over the words of block pb. -/
def NewDev (w : World) (pb pc n : Nat) (f : Nat → Int) (r : Ending) (w' : World) : Prop :=
  ∃ v own, r = .returned (.pointer (some ⟨v.db, 0, none⟩)) ∧ v.pb = pb ∧ v.pc = pc ∧ IsDev w' v own (Dev.fresh n f) ∧ (∀ k, own k ≠ none → k = pb ∨ w.heap.size ≤ k) ∧ Below w.heap.size w w'

def halfCells (pb pc n cb cc lb : Nat) (t : Nat → Option Addr) : Array Value :=
  #[.slice (some ⟨pb, 0, none⟩) (8 * n) pc, .slice (some ⟨cb, 0, none⟩) (8 * n) cc, .slice (some ⟨lb, 0, none⟩) n n, .pointer (t 0), .pointer (t 1), .pointer (t 2), .pointer (t 3), .pointer (t 4), .pointer (t 5), .pointer (t 6), .pointer (t 7),
    .bool false, .bool false, .int .i64 0, .int .u64 0]

/-- The device's struct is made; its threads are not yet. -/
def OfMid (w : World) (pb pc n : Nat) (f : Nat → Int) (s : Value) (w2 : World) : Prop :=
  ∃ db cb cc lb, s = .pointer (some ⟨db, 0, none⟩) ∧ Blk w2 db (halfCells pb pc n cb cc lb (fun _ => none)) 94 ∧ Row w2 cb (8 * n) 39 (fun i => .int .u64 (f i)) ∧
    Row w2 lb (2 * n) 100 (fun j => if j % 2 = 0 then .int .u64 0 else .slice none 0 0) ∧ 8 * n ≤ cc ∧ db ≠ cb ∧ db ≠ lb ∧ cb ≠ lb ∧ w.heap.size ≤ db ∧ w.heap.size ≤ cb ∧ w.heap.size ≤ lb ∧ Below w.heap.size w w2

theorem OwnSl.row {e : TypeId} {g n cap : Nat} {F : Nat → Value} (h : OwnSl w e 1 (.slice (some ⟨g, 0, none⟩) n cap) n ((List.range n).map F)) : Row w g n e F ∧ n ≤ cap := by
  rcases h.2 with ⟨h1, _⟩ | ⟨g', o, cap', cur, h1, hb, hc, _, _, ht⟩
  · cases h1
  · cases h1
    refine ⟨⟨cur, hb, fun i hi => ?_⟩, hc⟩
    have := congrArg (fun l => l[i]?) ht
    simp only [List.drop_zero, Nat.mul_one, List.getElem?_take, hi, if_true, List.getElem?_map, List.getElem?_range hi, Option.map_some] at this
    simpa using this
theorem row_madeLines (w : World) (t : TypeId) (n : Nat) : Row (w.alloc (.cells (madeCells #[.int .u64 0, .slice none 0 0] (n * 2)) t)) w.heap.size (2 * n) t (fun j => if j % 2 = 0 then .int .u64 0 else .slice none 0 0) := by
  refine Row.new w _ t _ _ (fun i hi => ?_)
  have hi' : i < n * 2 := by omega
  simp only [madeCells, Array.getElem?_map, Array.getElem?_range, hi', if_true, Option.map_some]
  rcases Nat.mod_two_eq_zero_or_one i with h | h <;> simp [h]

theorem of_mid1 {pb pc n cb cc : Nat} {f : Nat → Int} {w1 : World} (co : OwnSl w1 39 1 (.slice (some ⟨cb, 0, none⟩) (8 * n) cc) (8 * n) ((List.range (8 * n)).map fun i => .int .u64 (f i)))
    (cg : w.heap.size ≤ cb) (cw : Below w.heap.size w w1) :
    OfMid w pb pc n f (.pointer (some ⟨w1.heap.size + 1, 0, none⟩)) ((w1.alloc (.cells (madeCells #[.int .u64 0, .slice none 0 0] (n * 2)) 100)).alloc (.cells (halfCells pb pc n cb cc w1.heap.size (fun _ => none)) 94)) := by
  have hr := co.row
  have hlt := hr.1.lt
  have hs := cw.size
  have e : w1.heap.size + 1 = (w1.alloc (.cells (madeCells #[.int .u64 0, .slice none 0 0] (n * 2)) 100)).heap.size := by simp
  refine ⟨w1.heap.size + 1, cb, cc, w1.heap.size, rfl, ?_, (hr.1.alloc _).alloc _, (row_madeLines w1 100 n).alloc _, hr.2, by omega, by omega, by omega, by omega, by omega, by omega, (cw.alloc hs _).alloc (by simp; omega) _⟩
  rw [e]; exact Blk.new _ _ _
theorem of_mid2 {pb pc n cb cc : Nat} {f : Nat → Int} {w1 w0 : World} (h0 : w0 = (w.alloc (.cells (madeCells #[.int .u64 0, .slice none 0 0] (n * 2)) 100)).drew) (co : OwnSl w1 39 1 (.slice (some ⟨cb, 0, none⟩) (8 * n) cc) (8 * n) ((List.range (8 * n)).map fun i => .int .u64 (f i)))
    (cg : w0.heap.size ≤ cb) (cw : Below w0.heap.size w0 w1) :
    OfMid w pb pc n f (.pointer (some ⟨w1.heap.size, 0, none⟩)) (w1.alloc (.cells (halfCells pb pc n cb cc w.heap.size (fun _ => none)) 94)) := by
  have hr := co.row
  have hlt := hr.1.lt
  have hs := cw.size
  have e : w0.heap.size = w.heap.size + 1 := by rw [h0]; simp [World.drew]
  have hb : Below w.heap.size w w1 := by
    refine Below.trans (b := w0) ?_ (cw.mono (by omega))
    rw [h0]; exact ((Below.refl _ _).alloc (Nat.le_refl _) _).drew
  have hl : Row w1 w.heap.size (2 * n) 100 (fun j => if j % 2 = 0 then .int .u64 0 else .slice none 0 0) := by
    obtain ⟨c, h1, h2⟩ := row_madeLines w 100 n
    refine ⟨c, (cw.block _ (by omega)).trans ?_, h2⟩
    rw [h0]; exact h1
  exact ⟨w1.heap.size, cb, cc, w.heap.size, rfl, Blk.new _ _ _, hr.1.alloc _, hl.alloc _, hr.2, by omega, by omega, by omega, by omega, by omega, by omega, hb.alloc (by omega) _⟩

/-- k of the eight threads are made. -/
def OfLoop (wc : World) (db pb pc n cb cc lb k : Nat) (wr : World) : Prop :=
  Blk wr db (halfCells pb pc n cb cc lb (fun j => if j < k then some ⟨wc.heap.size + 2 * j + 1, 0, none⟩ else none)) 94 ∧ wr.heap.size = wc.heap.size + 2 * k ∧
  (∀ j, j < k → Blk wr (wc.heap.size + 2 * j + 1) #[.pointer (some ⟨db, 0, none⟩), .int .i64 j, .int .i64 0, .map (some (wc.heap.size + 2 * j))] 188 ∧ wr.ownsMap Tryz.prog 3 (plainElem Tryz.prog 39) (wc.heap.size + 2 * j) 0 (.map [] : DataW Unit)) ∧
  Upd (fun b => b = db) wc wr

theorem halfCells_at (pb pc n cb cc lb : Nat) (t : Nat → Option Addr) (j : Nat) (h : j < 8) : (halfCells pb pc n cb cc lb t)[3 + j]? = some (.pointer (t j)) := by
  obtain rfl | rfl | rfl | rfl | rfl | rfl | rfl | rfl : j = 0 ∨ j = 1 ∨ j = 2 ∨ j = 3 ∨ j = 4 ∨ j = 5 ∨ j = 6 ∨ j = 7 := by omega
  all_goals rfl
theorem halfCells_set (pb pc n cb cc lb : Nat) (t : Nat → Option Addr) (j : Nat) (a : Option Addr) (h : j < 8) : (halfCells pb pc n cb cc lb t).setIfInBounds (3 + j) (.pointer a) = halfCells pb pc n cb cc lb (fun i => if i = j then a else t i) := by
  obtain rfl | rfl | rfl | rfl | rfl | rfl | rfl | rfl : j = 0 ∨ j = 1 ∨ j = 2 ∨ j = 3 ∨ j = 4 ∨ j = 5 ∨ j = 6 ∨ j = 7 := by omega
  all_goals simp [halfCells]

theorem of_round {wc wr : World} {db pb pc n cb cc lb k : Nat} (hdb : db < wc.heap.size) (h : OfLoop wc db pb pc n cb cc lb k wr) (hk : k < 8) :
    OfLoop wc db pb pc n cb cc lb (k + 1) (((wr.setCell ⟨db, 3 + k, none⟩ (.pointer (some ⟨wr.heap.size + 1, 0, none⟩))).alloc (.map #[] 0)).alloc (.cells #[.pointer (some ⟨db, 0, none⟩), .int .i64 k, .int .i64 0, .map (some wr.heap.size)] 188)) := by
  obtain ⟨h1, h2, h3, h4⟩ := h
  have es : (wr.setCell ⟨db, 3 + k, none⟩ (.pointer (some ⟨wr.heap.size + 1, 0, none⟩))).heap.size = wr.heap.size := by simp [World.setCell]
  refine ⟨?_, by simp [es]; omega, ?_, ((h4.setCell (p := ⟨db, 3 + k, none⟩) (fun _ => rfl) _).alloc _).alloc _⟩
  · refine ((?_ : Blk _ _ _ _).alloc _).alloc _
    have := h1.set (3 + k) (.pointer (some ⟨wr.heap.size + 1, 0, none⟩))
    rw [halfCells_set _ _ _ _ _ _ _ _ _ hk] at this
    have ef : (fun i => if i = k then some ⟨wr.heap.size + 1, 0, none⟩ else if i < k then some (⟨wc.heap.size + 2 * i + 1, 0, none⟩ : Addr) else none) = fun j => if j < k + 1 then some ⟨wc.heap.size + 2 * j + 1, 0, none⟩ else none := by
      funext i
      by_cases e : i = k
      · subst e; rw [if_pos rfl, if_pos (Nat.lt_succ_self _), h2]
      · rw [if_neg e]
        by_cases e2 : i < k
        · rw [if_pos e2, if_pos (by omega)]
        · rw [if_neg e2, if_neg (by omega)]
    rw [ef] at this
    exact this
  · intro j hj
    by_cases e : j = k
    · subst e
      constructor
      · have := Blk.new ((wr.setCell ⟨db, 3 + j, none⟩ (.pointer (some ⟨wr.heap.size + 1, 0, none⟩))).alloc (.map #[] 0)) #[.pointer (some ⟨db, 0, none⟩), .int .i64 j, .int .i64 0, .map (some wr.heap.size)] 188
        simp only [World.size_alloc, es] at this
        rw [h2] at this ⊢
        exact this
      · have := (World.ownsMap_made (H := Unit) (wr.setCell ⟨db, 3 + j, none⟩ (.pointer (some ⟨wr.heap.size + 1, 0, none⟩))) Tryz.prog 3 (plainElem Tryz.prog 39)).alloc (.cells #[.pointer (some ⟨db, 0, none⟩), .int .i64 j, .int .i64 0, .map (some wr.heap.size)] 188)
        rw [es, h2] at this
        rw [h2]
        exact this
    · have := h3 j (by omega)
      refine ⟨((this.1.other (a := ⟨db, 3 + k, none⟩) (by show _ ≠ db; omega) _).alloc _).alloc _, ((this.2.setCell (a := ⟨db, 3 + k, none⟩) (by show _ ≠ db; omega) _).alloc _).alloc _⟩

theorem of_end {wc wr : World} {db pb pc n cb cc lb : Nat} {f : Nat → Int} (h0 : 0 < n) (hn : n ≤ 4096) (hpc : 8 * n ≤ pc) (hpb : pb < w.heap.size) (h : OfLoop wc db pb pc n cb cc lb 8 wr) (hp : Row w pb (8 * n) 39 (fun i => .int .u64 (f i)))
    (b1 : db < wc.heap.size) (b2 : Row wc cb (8 * n) 39 (fun i => .int .u64 (f i))) (b3 : Row wc lb (2 * n) 100 (fun j => if j % 2 = 0 then .int .u64 0 else .slice none 0 0)) (b4 : 8 * n ≤ cc)
    (n1 : db ≠ cb) (n2 : db ≠ lb) (n3 : cb ≠ lb) (s1 : w.heap.size ≤ db) (s2 : w.heap.size ≤ cb) (s3 : w.heap.size ≤ lb) (hb : Below w.heap.size w wc) :
    NewDev w pb pc n f (.returned (.pointer (some ⟨db, 0, none⟩))) wr := by
  obtain ⟨h1, h2, h3, h4⟩ := h
  have hcb := b2.lt
  have hlb := b3.lt
  have hb' : Below w.heap.size w wr := hb.trans ⟨h4.os, h4.tape, h4.output, h4.size, fun k hk => h4.block k (by have := hb.size; omega) (by omega)⟩
  let B := wc.heap.size
  let own : Nat → Option Role := fun k => if k = db then some .dev else if k = pb then some .pers else if k = cb then some .cur else if k = lb then some .lines else
    if B ≤ k ∧ k < B + 16 then (if (k - B) % 2 = 0 then some (.notes ((k - B) / 2)) else some (.thr ((k - B) / 2))) else none
  have hB : B = wc.heap.size := rfl
  refine ⟨⟨db, pb, pc, cb, cc, lb, fun j => B + 2 * j + 1, fun j => B + 2 * j⟩, own, rfl, rfl, rfl, ?_, ?_, hb'⟩
  · exact {
      wf := ⟨h0, hn, by simp [Dev.fresh], by simp [Dev.fresh], by simp [Dev.fresh], by simp [Dev.fresh]⟩
      dev := h1
      pers := by
        obtain ⟨c, p1, p2⟩ := hp
        exact ⟨c, (hb'.block pb hpb).trans p1, p2⟩
      cur := b2.upd h4 (Ne.symm n1)
      lines := by
        refine ⟨fun _ => .slice none 0 0, b3.upd h4 (Ne.symm n2), fun i _ => ⟨OwnSl.nil _ _ _, fun g hg => by simp [Value.ownBlock] at hg⟩⟩
      thr := fun j hj => (h3 j hj).1
      notes := fun j hj => ⟨0, _, Nat.zero_le _, (h3 j hj).2, by simp [Dev.fresh], fun x hx => by simp [has] at hx, by simp [Dev.fresh]⟩
      odb := by simp [own]
      opb := by show own pb = _; simp only [own]; rw [if_neg (by omega), if_pos trivial]
      ocb := by show own cb = _; simp only [own]; rw [if_neg (Ne.symm n1), if_neg (by omega), if_pos trivial]
      olb := by show own lb = _; simp only [own]; rw [if_neg (Ne.symm n2), if_neg (by omega), if_neg (Ne.symm n3), if_pos trivial]
      otb := fun j hj => by
        show own (B + 2 * j + 1) = _
        simp only [own]
        rw [if_neg (by omega), if_neg (by have := hb.size; omega), if_neg (by omega), if_neg (by omega), if_pos (by omega), if_neg (by omega), show (B + 2 * j + 1 - B) / 2 = j from by omega]
      onb := fun j hj => by
        show own (B + 2 * j) = _
        simp only [own]
        rw [if_neg (by omega), if_neg (by have := hb.size; omega), if_neg (by omega), if_neg (by omega), if_pos (by omega), if_pos (by omega), show (B + 2 * j - B) / 2 = j from by omega]
      lt := fun k hk => by
        have hs := hb'.size
        by_cases e1 : k = db
        · omega
        by_cases e2 : k = pb
        · omega
        by_cases e3 : k = cb
        · omega
        by_cases e4 : k = lb
        · omega
        by_cases e5 : B ≤ k ∧ k < B + 16
        · omega
        simp only [own] at hk
        rw [if_neg e1, if_neg e2, if_neg e3, if_neg e4, if_neg e5] at hk
        exact absurd rfl hk
      pcs := ⟨hpc, b4⟩ }
  · intro k hk
    by_cases e1 : k = db
    · omega
    by_cases e2 : k = pb
    · exact .inl e2
    by_cases e3 : k = cb
    · omega
    by_cases e4 : k = lb
    · omega
    by_cases e5 : B ≤ k ∧ k < B + 16
    · have := hb.size; omega
    simp only [own] at hk
    rw [if_neg e1, if_neg e2, if_neg e3, if_neg e4, if_neg e5] at hk
    exact absurd rfl hk

set_option maxRecDepth 100000 in
set_option maxHeartbeats 1000000 in
theorem of_any (pb pc n : Nat) (f : Nat → Int) (h : Row w pb (8 * n) 39 (fun i => .int .u64 (f i))) (h0 : 0 < n) (hn : n ≤ 4096) (hpc : 8 * n ≤ pc) :
    Calls Tryz.prog 32 #[.slice (some ⟨pb, 0, none⟩) (8 * n) pc] w (NewDev w pb pc n f) := by
  obtain ⟨i0, hi, hz0, hz1, hz2⟩ := info_parts infoLine
  have hmk := fun (wx : World) => run_make (P := Tryz.prog) wx 91 100 i0 _ Tryz.underlying91 hi hz0 .i64 .i64 (n : Int) (n : Int) (by omega) (by omega) (by rw [hz2]; omega) (by omega)
  simp only [Int.toNat_natCast, hz1] at hmk
  clear hi hz0 hz1 hz2
  have hrd : RdSl w 1 (.slice (some ⟨pb, 0, none⟩) (8 * n) pc) (8 * n) ((List.range (8 * n)).map fun i => .int .u64 (f i)) := by
    refine ⟨by simp, _, _, rfl, hpc, .inr ⟨pb, 0, rfl, fun j u hu => ?_⟩⟩
    rw [List.getElem?_map] at hu
    cases hj : (List.range (8 * n))[j]? with
    | none => rw [hj] at hu; cases hu
    | some k =>
      have hj' := List.getElem?_eq_some_iff.1 hj
      obtain ⟨hjl, hjk⟩ := hj'
      rw [List.length_range] at hjl
      rw [hj] at hu; simp at hjk hu; subst hjk; subst hu
      rw [Nat.zero_add]
      exact h.cell hjl
  have hone : ∀ u ∈ ((List.range (8 * n)).map fun i => Value.int .u64 (f i)), u.oneCell' = true := by
    intro u hu; simp at hu; obtain ⟨i, _, rfl⟩ := hu; rfl
  have H := Lib.hid h; have HR := Lib.hid hrd; have H1 := Lib.hid hone; clear h hrd hone
  have hq : ((8 * n : Nat) : Int) / 8 = (n : Int) := by omega
  have hwr : IntKind.i64.wrap (n : Int) = (n : Int) := IntWalk.i64_in _ (by omega)
  go_enter Tryz.func32, Tryz.ntmps32
  go_upto_region 1 with fail
  go_cut [3] (OfMid w pb pc n f)
  case first =>
    go_region_with (first | (go_at_call 33; refine (cloneU_any _ _ _ _ ?hr H1.out (by omega)).mono ?_; (case hr => first | exact HR.out.drew | exact (HR.out.alloc _).drew); rintro e w1 ⟨cb, cc, rfl, co, cg, cw⟩; have CO := Lib.hid (And.intro co (And.intro cg cw)); clear co cg cw))
    all_goals go_wp2_with fail
    all_goals go_meet
    · exact of_mid1 CO.out.1 CO.out.2.1 ⟨CO.out.2.2.os, CO.out.2.2.tape, CO.out.2.2.output, CO.out.2.2.size, CO.out.2.2.block⟩
    · exact of_mid2 rfl CO.out.1 CO.out.2.1 CO.out.2.2
  case rest =>
    obtain ⟨db, cb, cc, lb, rfl, b1, b2, b3, b4, n1, n2, n3, s1, s2, s3, hb⟩ := hcut
    have hdb := b1.lt
    have B1 := Lib.hid (And.intro b1 (And.intro b2 (And.intro b3 hb)))
    clear b1 b2 b3 hb hmk hq hwr
    have hmm := @run_makeMap Tryz.prog
    go_wp2_with fail
    go_loopw [14] (fun i wr => ∃ k : Nat, k ≤ 8 ∧ i = .int .i64 k ∧ OfLoop wc db pb pc n cb cc lb k wr) (fun i _ => 8 - (intOf i).toNat)
    case atStart => exact ⟨0, by omega, rfl, B1.out.1, rfl, fun j hj => absurd hj (Nat.not_lt_zero _), Upd.refl _ _⟩
    case round =>
      obtain ⟨k, hk, rfl, hl⟩ := hrel
      by_cases hlt : k < 8
      · have c3 : wr.cell? ⟨db, 3 + k, none⟩ = some (.pointer none) := by rw [hl.1.cell (halfCells_at _ _ _ _ _ _ _ k hlt)]; simp
        have f3 := hl.1.frozen (3 + k)
        have hdw : db < wr.heap.size := hl.1.lt
        have HL := Lib.hid hl; clear hl
        go_wp2_with fail
        go_roundw
        case rel => exact ⟨k + 1, by omega, by go_num, of_round hdb HL.out hlt⟩
        case measure => simp [intOf]; omega
      · obtain rfl : k = 8 := by omega
        have HL := Lib.hid hl; clear hl
        go_wp2_with fail
        go_ret
        exact of_end h0 hn hpc H.out.lt HL.out H.out hdb B1.out.2.1 B1.out.2.2.1 b4 n1 n2 n3 s1 s2 s3 B1.out.2.2.2
end

section
variable {w : World} {v : DV} {own : Nat → Option Role} {D : Dev}
def Dev.arm (D : Dev) (n : Nat) : Dev := if D.off then D else { D with armed := true, left := n }
def Dev.disarm (D : Dev) : Dev := if D.off then D else { D with armed := false, left := 0 }
end
end Go.Proofs.YtahpadhejjlpoaaGreatDoor
