/- The undo log, plain: what Save appends. And sets of words as maps of the program. -/
import Derived.Test.YtokgplgdaememaaDoorUndV
namespace Go.Proofs.YtokgplgdaememaaDoor
open Go.RowKit Go.Maps

/-- One offset more that Save is to save. -/
def freshStep (C : Nat → Int) (K : List Nat) (F : List (Nat × Int)) (o : Nat) : List (Nat × Int) := if o ∈ K ++ F.map (·.1) then F else F ++ [(o, C (o / 8))]
def freshL (C : Nat → Int) (K : List Nat) (offs : List Nat) : List (Nat × Int) := offs.foldl (freshStep C K) []
theorem freshL_snoc (C : Nat → Int) (K offs : List Nat) (o : Nat) : freshL C K (offs ++ [o]) = freshStep C K (freshL C K offs) o := by simp [freshL, List.foldl_append]
theorem freshStep_len (C : Nat → Int) (K : List Nat) (F : List (Nat × Int)) (o : Nat) : (freshStep C K F o).length ≤ F.length + 1 := by unfold freshStep; split <;> simp
theorem freshF_len (C : Nat → Int) (K offs : List Nat) : ∀ F : List (Nat × Int), (offs.foldl (freshStep C K) F).length ≤ F.length + offs.length := by
  induction offs with
  | nil => intro F; simp
  | cons o offs ih => intro F; have h1 := ih (freshStep C K F o); have h2 := freshStep_len C K F o; simp only [List.foldl_cons, List.length_cons]; omega
theorem freshL_len (C : Nat → Int) (K offs : List Nat) : (freshL C K offs).length ≤ offs.length := by have := freshF_len C K offs []; simpa [freshL] using this
theorem freshF_mem (C : Nat → Int) (K offs : List Nat) : ∀ F : List (Nat × Int), ∀ e ∈ offs.foldl (freshStep C K) F, e ∈ F ∨ (e.1 ∈ offs ∧ e.2 = C (e.1 / 8)) := by
  induction offs with
  | nil => intro F e he; exact .inl he
  | cons o offs ih =>
    intro F e he
    rcases ih _ e he with h | h
    · unfold freshStep at h
      split at h
      · exact .inl h
      · rcases List.mem_append.1 h with h | h
        · exact .inl h
        · simp at h; subst h; exact .inr ⟨by simp, rfl⟩
    · exact .inr ⟨by simp [h.1], h.2⟩
theorem freshL_mem (C : Nat → Int) (K offs : List Nat) : ∀ e ∈ freshL C K offs, e.1 ∈ offs ∧ e.2 = C (e.1 / 8) := fun e he => by
  rcases freshF_mem C K offs [] e he with h | h
  · simp at h
  · exact h
/-- The entries as writes, from base on. -/
def planWs (base : Nat) : List (Nat × Int) → List (Nat × Int)
  | [] => []
  | e :: l => (base, (e.1 : Int)) :: (base + 8, e.2) :: planWs (base + 16) l
theorem planWs_snoc (l : List (Nat × Int)) (e : Nat × Int) : ∀ b, planWs b (l ++ [e]) = planWs b l ++ [(b + 16 * l.length, (e.1 : Int)), (b + 16 * l.length + 8, e.2)] := by
  induction l with
  | nil => intro b; simp [planWs]
  | cons x l ih => intro b; simp only [List.cons_append, planWs, ih, List.length_cons]; rw [show b + 16 + 16 * l.length = b + 16 * (l.length + 1) by omega]
theorem planWs_len (l : List (Nat × Int)) : ∀ b, (planWs b l).length = 2 * l.length := by
  induction l with
  | nil => intro b; rfl
  | cons x l ih => intro b; simp only [planWs, List.length_cons, ih]; omega
theorem planWs_bd (l : List (Nat × Int)) : ∀ b, ∀ e ∈ planWs b l, b ≤ e.1 ∧ e.1 < b + 16 * l.length := by
  induction l with
  | nil => intro b e he; simp [planWs] at he
  | cons x l ih =>
    intro b e he
    simp only [planWs, List.mem_cons] at he
    simp only [List.length_cons]
    rcases he with rfl | rfl | h
    · simp only; omega
    · simp only; omega
    · have := ih _ e h; omega
/-- The program that Plan returns. -/
def planP (off s : Nat) (F : List (Nat × Int)) : List (Nat × Nat × Int) := if F = [] then [] else storesL (planWs (off + 64 + 16 * s) F) ++ storesL [(off, ((s + F.length : Nat) : Int))]

/-- The map says which words are in K. -/
def SetM (N : DataW Unit) (K : List Nat) : Prop := ∀ x : Nat, N.atKey (.int .u64 (x : Int)) (.lit (.bool false)) = .lit (.bool (decide (x ∈ K)))
theorem SetM.nil : SetM (.map []) [] := fun x => by simp [DataW.atKey]
theorem SetM.put {N : DataW Unit} {K : List Nat} (h : SetM N K) (hN : IsMap N) (o : Nat) : SetM (N.put (.int .u64 (o : Int)) (.lit (.bool true))) (K ++ [o]) := fun x => by
  by_cases e : x = o
  · subst e
    rw [atKey_put_same hN (show WideAt.IsKeyLit (.int .u64 (x : Int)) from trivial)]
    simp
  · rw [atKey_put_other (by intro h; injection h with _ h; exact e (by omega)), h x]
    simp [e]
theorem plainElem_bool_inv {P : Program} {e : TypeId} (he : P.underlying e = some .bool) {v : Value} {z : DataW Unit × List MemPlace} (h : plainElem P e v = some z) : ∃ b, v = .bool b ∧ z = (.lit (.bool b), []) := by
  unfold plainElem at h
  rw [he] at h
  cases v <;> simp at h
  exact ⟨_, rfl, h.symm⟩
theorem lawU64 : Keyed Tryd.prog 35 := int_keyed Tryd.underlying35
theorem zeroB (w : World) : (zeroValue 4).run Tryd.prog w = .ok (.bool false) w := by kernel_rfl
section
variable {w : World}
theorem look_set {b m : Nat} {N : DataW Unit} {K : List Nat} (h : w.ownsMap Tryd.prog 35 (plainElem Tryd.prog 4) b m N) (hK : SetM N K) (o : Nat) (ho : o < 18446744073709551616) :
    (Instr.lookup 130 (.map (some b)) (.int .u64 (o : Int)) false).run Tryd.prog w = .ok (.bool (decide (o ∈ K))) w := by
  obtain ⟨v, ps, hrun, hv⟩ := h.lookup lawU64 Tryd.underlying130 (zeroB w) (plainElem_bool Tryd.underlying4 false) (show keyOf Tryd.prog 35 (.int .u64 (o : Int)) = some (.int .u64 (o : Int)) from keyOf_int_mk Tryd.underlying35 (WalkArith.wf_u64 (by omega)))
  obtain ⟨x, rfl, hx⟩ := plainElem_bool_inv Tryd.underlying4 hv
  rw [hK o] at hx
  simp only [Prod.mk.injEq, DataW.lit.injEq, Lit.bool.injEq] at hx
  rw [hrun, hx.1]

/-- Where Plan stands: the log's entries, what it has collected, and the set of both. -/
structure MpSt (w wr : World) (ov : Value) (S : List (Nat × Int)) (fv : Value) (F : List (Nat × Int)) (mb : Nat) (K : List Nat) : Prop where
  o : Acc w w.heap.size wr 102 2 ov S.length (flat S)
  f : Acc w w.heap.size wr 102 2 fv F.length (flat F)
  m : ∃ (N : DataW Unit) (m : Nat), m ≤ K.length ∧ wr.ownsMap Tryd.prog 35 (plainElem Tryd.prog 4) mb m N ∧ SetM N K
  new : w.heap.size ≤ mb
  no : ov.ownBlock ≠ some mb
  nf : fv.ownBlock ≠ some mb
  ne : ∀ g, ov.ownBlock = some g → fv.ownBlock ≠ some g
variable {wr wz w1 : World} {ov fv : Value} {S F : List (Nat × Int)} {mb : Nat} {K : List Nat}
theorem MpSt.keep (h : MpSt w wr ov S fv F mb K) (hz : Below wr.heap.size wr wz) : MpSt w wz ov S fv F mb K := by
  obtain ⟨N, m, h1, h2, h3⟩ := h.m
  exact ⟨h.o.keep hz, h.f.keep hz, ⟨N, m, h1, h2.kept (row := none) ⟨hz.os, hz.tape, hz.output, hz.size, fun k hk _ => hz.block k hk⟩ (by simp), h3⟩, h.new, h.no, h.nf, h.ne⟩
theorem Acc.beside {B : Nat} {e : TypeId} {s n : Nat} {v : Value} {xs : List Value} (h : Acc w B wr e s v n xs) (hg : wr.grownBy w1 (some mb)) (hB : B ≤ mb) (hv : v.ownBlock ≠ some mb) : Acc w B w1 e s v n xs :=
  ⟨h.own.kept (fun k hk => hg.block k (h.own.lt k hk) (fun e => hv (by rw [hk]; exact e))), h.new, ⟨hg.os.trans h.bel.os, hg.tape.trans h.bel.tape, hg.output.trans h.bel.output, Nat.le_trans h.bel.size hg.size,
    fun k hk => (hg.block k (Nat.lt_of_lt_of_le hk h.lt) (fun e => by have := Option.some.inj e; omega)).trans (h.bel.block k hk)⟩, Nat.le_trans h.lt hg.size⟩
theorem MpSt.put (h : MpSt w wr ov S fv F mb K) (hz : wr.grownBy w1 (some mb)) {N : DataW Unit} {m o : Nat} (hm : m ≤ K.length) (hN : IsMap N) (hS : SetM N K) (h1 : w1.ownsMap Tryd.prog 35 (plainElem Tryd.prog 4) mb (m + 1) (N.put (.int .u64 (o : Int)) (.lit (.bool true)))) :
    MpSt w w1 ov S fv F mb (K ++ [o]) :=
  ⟨h.o.beside hz h.new h.no, h.f.beside hz h.new h.nf, ⟨_, m + 1, by simp; omega, h1, hS.put hN o⟩, h.new, h.no, h.nf, h.ne⟩
theorem MpSt.app {F' : List (Nat × Int)} {fv' : Value} {q k : Nat} (h : MpSt w wr ov S fv F mb K) (hz : Below wr.heap.size wr wz) (o1 : OwnSl w1 102 2 fv' (F.length + k) (flat F ++ flat F')) (hk : F'.length = k) (g1 : wz.grownBy w1 fv.ownBlock)
    (b1 : slAddr fv' = slAddr fv ∨ slAddr fv' = some ⟨q, 0, none⟩) (hq : wr.heap.size ≤ q) : MpSt w w1 ov S fv' (F ++ F') mb K := by
  have A1 := h.f.next hz o1 g1 b1 hq
  obtain ⟨N, m, h1, h2, h3⟩ := h.m
  have hlt := h2.lt
  have kz : wz.ownsMap Tryd.prog 35 (plainElem Tryd.prog 4) mb m N := h2.kept (row := none) ⟨hz.os, hz.tape, hz.output, hz.size, fun k hk _ => hz.block k hk⟩ (by simp)
  have nb : ∀ g, fv'.ownBlock = some g → fv.ownBlock = some g ∨ g = q := fun g hg => by
    rcases b1 with b1 | b1
    · rw [ownBlock_addr, b1, ← ownBlock_addr] at hg; exact .inl hg
    · rw [ownBlock_addr, b1] at hg; cases hg; exact .inr rfl
  refine ⟨⟨h.o.own.kept (fun g hg => ?_), h.o.new, A1.bel, A1.lt⟩, A1.congr (by simp [hk]) (by rw [flat_append]), ⟨N, m, h1, kz.kept g1 (fun e => h.nf e.symm), h3⟩, h.new, h.no, fun e => ?_, fun g hg hg2 => ?_⟩
  · have hlo := h.o.own.lt g hg
    rw [g1.block g (Nat.lt_of_lt_of_le hlo hz.size) (fun e => h.ne g hg e.symm)]
    exact hz.block g hlo
  · rcases nb _ e with h' | h'
    · exact h.nf h'
    · omega
  · rcases nb _ hg2 with h' | h'
    · exact h.ne g hg h'
    · have := h.o.own.lt g hg; omega
end
end Go.Proofs.YtokgplgdaememaaDoor
