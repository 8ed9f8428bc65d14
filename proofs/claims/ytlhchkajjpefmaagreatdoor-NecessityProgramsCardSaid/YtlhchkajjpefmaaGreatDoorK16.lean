/- Lemmas and walks, part 16: each theorem says what it proves; no condition beside its own. -/
import Derived.Test.YtlhchkajjpefmaaGreatDoorK15
set_option maxHeartbeats 16000000
set_option maxRecDepth 100000
namespace Go.Proofs.YtlhchkajjpefmaaGreatDoor
open Lib(hid)
open Go.RowKit Go.Proofs.Tryz
section
open Go.RowKit Go.Shelf
attribute [local go_sem] Oper.semAt_some
def prC(l:List (Int×Int)):List Value:=l.flatMap fun e => [.int .u64 e.1,.int .u64 e.2]
theorem Fw(a b:List (Int×Int)):prC (a++b)=prC a++prC b:=by simp[prC]
theorem Nv(l:List (Int×Int)):∀ (k:Nat) (e:Int×Int),l[k]? = some e->(prC l)[k*2]? = some (.int .u64 e.1)/\(prC l)[k*2+1]? = some (.int .u64 e.2):=by
 induction l with
 | nil=>intro k e h;simp at h
 | cons x l ih=>
  intro k e he;have hf:prC (x::l) = .int .u64 x.1 :: .int .u64 x.2::prC l:=rfl
  cases k with
  | zero=>simp at he;subst he;simp[hf]
  | succ k=>
   have:=ih k e (by simpa using he);rw[hf,show(k+1)*2=k*2+1+1 from by omega];simpa using this
theorem Aa:(Tryz.prog.info? 194).map (fun i=>(i.zero,i.size,i.bytes))=some (some (.agg #[.int .u64 0,.int .u64 0]),2,16):=by kernel_rfl
theorem Ec(w:World)(x y:Value)(t:TypeId):∀ j u,[x,y][j]? = some u->(w.alloc (.cells #[x,y] t)).cell? ((⟨w.heap.size,0,none⟩:Addr).add j)=some u:=by
 intro j u hu;rw[Addr.add_lit];refine(Blk.new w #[x,y] t).cell ?_
 simpa using hu
section
variable{w:World}{v:DV}{own:Nat->Option Qp}{D:Dev}{off:Nat}
def Yx(w:World)(es:List (Int×Int))(r:Ending)(w':World):Prop:=
 ∃ v,r = .returned v/\w'.ownsRow w.heap.size 194 2 v es.length (prC es)/\Below w.heap.size w w'
theorem Qlq(m:Value)(hm:∃ a,m = .iface 40 (.pointer (some a)))(off:Nat):Calls prog 118 #[.agg #[m,.int .u64 off]] w fun e w'=>
  e = .returned (.func (.func 189) #[] #[.pointer (some ⟨w.heap.size,0,none⟩)])/\w'=w.alloc (.cells #[m,.int .u64 off] 147):=by
 obtain⟨a,rfl⟩:=hm
 go_enter func118,ntmps118
 go_wp2
 go_ret
 exact⟨rfl,rfl⟩
theorem Qen(n:Nat)(hn:1<=n)(bl:Nat)(hd:IsDev w v own D)(B:Nat)(hob:∀ k,own k≠none->k<B)(hb:BOk D off)(hbl:Blk w bl #[.iface 40 (.pointer (some ⟨v.tb 0,0,none⟩)),.int .u64 off] 147) :
  SeqStopsK Fence.wide n prog 189 #[.pointer (some ⟨bl,0,none⟩)] Q4i (KpB B) (fun xs=>xs=Th D.cur off 7) (fun pre=>pre <+: Th D.cur off 7) (Th D.cur off 7).length w:=fun l J Jx _ hW hJ _ hY h0=>
 Qrd n hn l bl J Jx B hJ (hd.below hW) hob hb hY (hbl.below hW) h0
theorem Qiq(n:Nat)(hn:3<=n)(es:List (Int×Int))(bl:Nat)(s:(W:World)->Below w.heap.size w W->SeqStopsK Fence.wide (n-1) prog 189 #[.pointer (some ⟨bl,0,none⟩)] Q4i (KpB w.heap.size) (fun xs=>xs=es) (fun pre=>pre <+: es) es.length W)(hl:es.length<=100000) :
  CallsIn Fence.wide n prog 117 #[.func (.func 189) #[] #[.pointer (some ⟨bl,0,none⟩)]] w (Yx w es):=by
 have h1:1<=n:=by omega
 obtain⟨i0,hi,hz0,hz1,hz2⟩:=info_parts Aa;refine callsIn_of_wp_marks func117 rfl trivial ?_ rfl
 simp only[ntmps117,List.size_toArray,List.length_cons,List.length_nil,Nat.reduceAdd,Nat.reduceSub,Array.replicate_succ,Array.replicate_zero,List.push_toArray,List.append_toArray,List.nil_append,List.cons_append]
 gi_wp2
 have bO:Boxed (w.alloc (.cells #[.slice none 0 0] 186)) w.heap.size 186 (.slice none 0 0):=Boxed.new w 186 (.slice none 0 0);have hB0:Below w.heap.size w (w.alloc (.cells #[.slice none 0 0] 186)):=Qa _ _;refine wpIn_rangeFunc_ownG rfl h1 (gf:=189) (lb:=#[.pointer (some ⟨bl,0,none⟩)]) rfl trivial (enters_of func189 (by kernel_rfl) rfl)
  (s _ hB0) KpB.trans (fun W l o o' h=>Q6v (w:=w) W l o o' (Nat.le_trans hB0.size h)) (Below.refl _ _) (fun _=>rfl)
  (fun pre W=>(∃ v,Boxed W w.heap.size 186 v/\W.ownsRow w.heap.size 194 2 v pre.length (prC pre)/\True)/\Below w.heap.size w W)
  (fun _ _ _=>False)
  (OwnFrom.and (Own.from (holdsRow_own w.heap.size w.heap.size 186 194 2 (fun pre=>pre.length) (fun pre=>prC pre) (fun _ _=>True)) _) (ownFrom_below (Nat.le_refl _) (by simp)))
  (fun _ _ _ _ _ hs _ _=>hs)
  ⟨⟨_,bO,World.ownsRow_nil _ _ _ _,trivial⟩,hB0⟩
  (fun x=>{tmps:=#[.func (.func 189) #[] #[.pointer (some ⟨bl,0,none⟩)],undef,.slice none 0 0,.pointer (some ⟨w.heap.size,0,none⟩),.int .u64 x.1,.int .u64 x.2,.func (.func 189) #[] #[.pointer (some ⟨bl,0,none⟩)],.int .u64 x.1,.int .u64 x.2,undef,undef,undef,undef,undef,undef,undef],defers := []}) ?assign ?body ?done ?stop
 case assign=>
  intro l x W K hK
  gi_wp2
  exact hK
 case body=>
  rintro l pre x W ⟨⟨v,hv,hrow,_⟩,hB⟩ hlt;have hc:=hv.cell
  gi_wp2_with (gi_at_builtin;refine wpListIn_append_own _ rfl _ _ 186 rfl w.heap.size 194 i0 (.agg #[.int .u64 0,.int .u64 0]) 2 16 underlying186 hi hz0 hz1 hz2 rfl (by decide) _ _ _ rfl (hrow.alloc _) ⟨W.heap.size,0,none⟩ 1 1 [.int .u64 x.1,.int .u64 x.2] rfl rfl (Ec _ _ _ _) (by simp[Value.oneCell']) (by unfold maxLen;omega) (by omega) (by have:=hB.size;simp;omega) ?_;intro v' w1 hown' hgrow _;obtain⟨g',cap',rfl⟩:=ownsRow_succ hown';obtain⟨hv1,hv2,hr2,hk2,hb2⟩:=hv.appended (by decide) hrow hB.size (by omega) hown' hgrow;have hkp:=Qjh (v':=.slice (some ⟨g',0,none⟩) (pre.length+1) cap') hv hrow (by omega) hB.size hgrow;have hc1:=hv1.cell;have hf1:=hv1.frozen)
  exact⟨hk2.from _,hkp,⟨_,hv2,by rw[Fw,List.length_append];exact hr2,trivial⟩,hB.trans hb2⟩
 case done=>
  rintro D ys W hD rfl ⟨⟨v,hv,hrow,_⟩,hB⟩ hK;have hc:=hv.cell
  gi_wp2
  refine⟨by simp,.inl ⟨_,_,rfl,run_takeDeferred hK,?_⟩⟩
  exact⟨_,results_tmp rfl _ _ _,v,rfl,ownsRow_putObj hrow _ hK rfl,hB.trans (belowK_b (w:=w) (Nat.le_refl _) W D _ _ (by simp at hD;omega) hK rfl rfl)⟩
 case stop=>
  rintro D c pre W _ _ h _;exact h.elim
theorem Lt(h:IsDev w v own D)(hb:BOk D off){bl:Nat}(hbl:Blk w bl #[.iface 40 (.pointer (some ⟨v.tb 0,0,none⟩)),.int .u64 off] 147):Calls prog 117 #[.func (.func 189) #[] #[.pointer (some ⟨bl,0,none⟩)]] w (Yx w (Th D.cur off 7)):=by
 refine(callsIn_wide (n:=3)).1 ?_
 exact Qiq 3 (by omega) (Th D.cur off 7) bl (fun W hW=>Qen 2 (by omega) bl (h.below hW) w.heap.size (fun k hk=>h.lt k hk) hb (hbl.below hW)) (by have:=Qe9 D.cur off 7;omega)
theorem Yx.rd{es:List (Int×Int)}{r:Ending}{w':World}(h:Yx w es r w'):∃ v,r = .returned v/\Ql w' 2 v es.length (prC es)/\Qj w' 194 2 v es.length (prC es)/\(∀ g,v.ownBlock=some g->w.heap.size<=g)/\Below w.heap.size w w':=by
 obtain⟨v,rfl,hr,hb⟩:=h;have ho:Qj w' 194 2 v es.length (prC es):=⟨hr.1,by
  rcases hr.2 with h | ⟨g,cap,cur,hv,_,hb,hn,hm,hs,ht⟩
  ·exact .inl h
  ·exact .inr ⟨g,0,cap,cur,hv,hb,hn,hm,by omega,by simpa using ht⟩⟩
 refine⟨v,rfl,ho.rd,ho,fun g hg => ?_,hb⟩
 rcases hr.2 with ⟨rfl,_⟩ | ⟨g',cap,cur,rfl,h1,_⟩
 ·simp[Value.ownBlock]at hg
 ·simp[Value.ownBlock]at hg
  subst hg;exact h1
theorem Fs(u v:Value)(xs ys:List (Int×Int))(hx:Ql w 2 u xs.length (prC xs))(hy:Ql w 2 v ys.length (prC ys))(hl:xs.length<=100000)(hl2:ys.length<=100000) :
  Calls prog 120 #[u,v] w fun r w'=>r = .returned (.bool (decide (xs=ys)))/\Below w.heap.size w w':=by
 obtain⟨_,a,ca,rfl,hca,ha⟩:=hx;obtain⟨_,b,cb,rfl,hcb,hb⟩:=hy;have HA:=hid ha;have HB:=hid hb;clear ha hb
 by_cases hne:xs.length=ys.length
 ·have hbn:((xs.length:Int) != (ys.length:Int))=false:=by simp;omega
  generalize hn1:xs.length=n at *
  generalize hn2:ys.length=m at *
  have HN:=hid (And.intro hn1 hn2);clear hn1 hn2;subst hne;have hbn:((n:Int) != (n:Int))=false:=by simp
  go_enter func120,ntmps120
  go_wp2_with fail
  go_loopw [13] (fun i wr=>∃ k:Nat,k<=n/\i = .int .i64 k/\xs.take k=ys.take k/\Qt w wr) (fun i _=>n-(intOf i).toNat)
  case atStart=>exact⟨0,by omega,rfl,rfl,Qt.refl w⟩
  case round=>
   obtain⟨k,hk,rfl,heq,q⟩:=hrel;obtain⟨nq,rfl⟩:=q;have HE:=hid heq;clear heq
   by_cases hlt:k<n
   ·obtain⟨e,he⟩:∃ e,xs[k]? = some e:=⟨_,List.getElem?_eq_getElem (by rw[HN.out.1];exact hlt)⟩
    obtain⟨f,hf⟩:∃ e,ys[k]? = some e:=⟨_,List.getElem?_eq_getElem (by rw[HN.out.2];exact hlt)⟩;obtain⟨g1,o1,rfl,hc1⟩:=Zr HA.out (Nv xs k e he).1;obtain⟨g2,o2,rfl,hc2⟩:=Zr HB.out (Nv ys k f hf).1;have c1:=hc1 _ _ (Nv xs k e he).1;have c2:=hc1 _ _ (Nv xs k e he).2
    have d1:=hc2 _ _ (Nv ys k f hf).1;have d2:=hc2 _ _ (Nv ys k f hf).2
    rw[<- Nat.add_assoc]at c2 d2;have HEF:=hid (And.intro he hf);have hk':(k:Int)<n:=by omega
    clear hc1 hc2 he hf;obtain⟨e1,e2⟩:=e;obtain⟨f1,f2⟩:=f
    by_cases h1:e1=f1
    ·have hb1:(e1==f1)=true:=by simpa using h1
     by_cases h2:e2=f2
     ·have hb2:(e2==f2)=true:=by simpa using h2
      have HQ:=hid (And.intro h1 h2);clear h1 h2
      go_wp2_with fail
      go_quiet (fail)
      go_wp2_with fail
      go_roundw
      case rel=>exact⟨k+1,by omega,by go_num,by rw[Qy _ _ _ HEF.out.1,Qy _ _ _ HEF.out.2,HE.out,HQ.out.1,HQ.out.2],⟨_,rfl⟩⟩
      case measure=>simp[intOf];omega
     ·have hb2:(e2==f2)=false:=by simpa using h2
      have HQ:=hid h2;clear h1 h2
      go_wp2_with fail
      go_quiet (fail)
      go_wp2_with fail
      go_ret
      exact⟨Qx (by simp;intro h;rw[h,HEF.out.2]at HEF;exact absurd (by have:=HEF.out.1;simp at this;exact this.2.symm) HQ.out),((Qt.drewN w _).trans (Qt.drewN _ _)).below⟩
    ·have hb1:(e1==f1)=false:=by simpa using h1
     have HQ:=hid h1;clear h1
     go_wp2_with fail
     go_quiet (fail)
     go_wp2_with fail
     go_ret
     exact⟨Qx (by simp;intro h;rw[h,HEF.out.2]at HEF;exact absurd (by have:=HEF.out.1;simp at this;exact this.1.symm) HQ.out),((Qt.drewN w _).trans (Qt.drewN _ _)).below⟩
   ·go_wp2_with fail
    go_ret
    exact⟨Qx (by have:=HE.out;rw[List.take_of_length_le (by rw[HN.out.1];omega),List.take_of_length_le (by rw[HN.out.2];omega)]at this;simp[this]),(Qt.drewN w nq).below⟩
 ·have hbn:((xs.length:Int) != (ys.length:Int))=true:=by simp;omega
  have HD:Hid (decide (xs=ys)=false):=by show decide (xs=ys)=false;simp;exact fun h=>hne (by rw[h])
  generalize hn1:xs.length=n at *
  generalize hn2:ys.length=m at *
  clear hn1 hn2
  go_enter func120,ntmps120
  go_wp2_with fail
  go_ret
  exact⟨Qx HD.out.symm,Below.refl _ _⟩
def Qci(l:List (Int×Int))(e:Bool):Bool:=decide (l = [(5,1),(6,2)]) || (!e&&decide (l = [(5,1)]))
theorem Tr(u:Value)(l:List (Int×Int))(e:Bool)(hu:Ql w 2 u l.length (prC l))(hl:l.length<=100000) :
  Calls prog 119 #[u,.bool e] w fun r w'=>r = .returned (.bool (Qci l e))/\Below w.heap.size w w':=by
 have HL:=hid hu;have R1:Hid (Ql (w.alloc (.cells #[.int .u64 5,.int .u64 1] 194)) 2 (.slice (some ⟨w.heap.size,0,none⟩) 1 1) [(5,1)].length (prC [(5,1)])):=hid (Ql.new w #[.int .u64 5,.int .u64 1] 194 2 1 rfl);have B1:=hid (Qa w (.cells #[.int .u64 5,.int .u64 1] 194));have R2:Hid (∀ wx:World,Ql (wx.alloc (.cells #[.int .u64 5,.int .u64 1,.int .u64 6,.int .u64 2] 194)) 2 (.slice (some ⟨wx.heap.size,0,none⟩) 2 2) [(5,1),(6,2)].length (prC [(5,1),(6,2)])):=hid (fun wx=>Ql.new wx #[.int .u64 5,.int .u64 1,.int .u64 6,.int .u64 2] 194 2 2 rfl);have B2:=hid (fun wx=>Qa wx (.cells #[.int .u64 5,.int .u64 1,.int .u64 6,.int .u64 2] 194));have B12:=hid (B1.out.trans ((B2.out (w.alloc (.cells #[.int .u64 5,.int .u64 1] 194))).mono B1.out.size));have HE1:=hid (fun(wx:World) (vy:Value) (hx:Ql wx 2 u l.length (prC l)) (hy:Ql wx 2 vy [(5,1),(6,2)].length (prC [(5,1),(6,2)]))=>Fs u vy l [(5,1),(6,2)] hx hy hl (by simp));have HE2:=hid (fun(wx:World) (vy:Value) (hx:Ql wx 2 u l.length (prC l)) (hy:Ql wx 2 vy [(5,1)].length (prC [(5,1)]))=>Fs u vy l [(5,1)] hx hy hl (by simp));have E1:=hid (by have:=HE1.out _ _ (HL.out.below B12.out) (R2.out _);simp only[World.size_alloc]at this;exact this);unfold Qci;obtain⟨ba,hba⟩:∃ b,decide (l = [(5,1),(6,2)])=b:=⟨_,rfl⟩;obtain⟨bb,hbb⟩:∃ b,decide (l = [(5,1)])=b:=⟨_,rfl⟩;rw[hba]at E1;rw[hbb]at HE2;rw[hba,hbb];clear hu hba hbb HE1
 cases ba <;> cases e
 all_goals
  go_enter func119,ntmps119
  go_wp2_with fail
  (with_reducible refine E1.out.mono ?_)
  rintro r w1 ⟨rfl,b1⟩;have B3:=hid (B12.out.trans (b1.mono (by omega)));have E2:=hid (HE2.out w1 _ (HL.out.below B3.out) (R1.out.below (((B2.out _)).trans (b1.mono (by simp)))));clear b1 HE2;go_wp2_with fail
  first
   | (go_ret
      exact⟨rfl,B3.out⟩)
   | ((with_reducible refine E2.out.mono ?_)
      rintro r w2 ⟨rfl,b2⟩;have B4:=hid (B3.out.trans (b2.mono B3.out.size));clear b2;go_wp2_with fail
      go_ret
      exact⟨by simp,B4.out⟩)
end
end

section
def Tp:List Nat->Nat
 | []=>0
 | s::l=>s+16*Tp l
def Qo3(slots:List Nat)(c:Nat):Nat:=(c%4096)*4503599627370496+16*Tp slots+slots.length
theorem Qe6(l m:List Nat):Tp (l++m)=Tp l+16 ^ l.length*Tp m:=by
 induction l with
 | nil=>simp[Tp]
 | cons s l ih=>simp only[List.cons_append,Tp,ih,List.length_cons,Nat.pow_succ,Nat.mul_add];rw[<- Nat.mul_assoc,Nat.mul_comm 16 (16 ^ l.length)];omega
theorem Qe7(l:List Nat)(h:∀ s∈l,s<16):Tp l<16 ^ l.length:=by
 induction l with
 | nil=>simp[Tp]
 | cons s l ih=>
  have h1:=ih (fun x hx=>h x (by simp[hx]));have h2:=h s (by simp);simp only[Tp,List.length_cons,Nat.pow_succ];omega
theorem Q2i(k:Nat):(16:Nat) ^ k=2 ^ (4*k):=by rw[Nat.pow_mul]
theorem Qtm(l:List Nat)(n c s:Nat)(hl:∀ x∈l,x<16)(hs:s<16)(hn:n<16)(hk:l.length<12) :
  ((c%4096)*4503599627370496+16*Tp l+n) ||| (s*2 ^ (4+4*l.length))=(c%4096)*4503599627370496+16*Tp (l ++ [s])+n:=by
 have h1:=Qe7 l hl;rw[Q2i]at h1;have e1:Tp (l ++ [s])=Tp l+2 ^ (4*l.length)*s:=by rw[Qe6,Q2i];simp[Tp]
 have hp:(2:Nat) ^ (4+4*l.length)=16*2 ^ (4*l.length):=by rw[Nat.pow_add]
 have hlo:16*Tp l+n<2 ^ (4+4*l.length):=by rw[hp];omega
 have hq:(2:Nat) ^ (8+4*l.length)<=2 ^ 52:=Nat.pow_le_pow_right (by omega) (by omega);have hq2:(2:Nat) ^ (8+4*l.length)=16*2 ^ (4+4*l.length):=by rw[show 8+4*l.length=4+(4+4*l.length)from by omega,Nat.pow_add]
 have hx:s*2 ^ (4+4*l.length)+(16*Tp l+n)<2 ^ 52:=by
  have:s*2 ^ (4+4*l.length)<=15*2 ^ (4+4*l.length):=Nat.mul_le_mul_right _ (by omega);omega
 have j1:(c%4096)*4503599627370496 ||| (16*Tp l+n)=(c%4096)*4503599627370496+(16*Tp l+n):=nat_join 52 _ _ (by omega) (by omega)
 have j2:s*2 ^ (4+4*l.length) ||| (16*Tp l+n)=s*2 ^ (4+4*l.length)+(16*Tp l+n):=nat_join (4+4*l.length) _ _ (Nat.mul_mod_left _ _) hlo
 have j3:(c%4096)*4503599627370496 ||| (s*2 ^ (4+4*l.length)+(16*Tp l+n))=(c%4096)*4503599627370496+(s*2 ^ (4+4*l.length)+(16*Tp l+n)):=nat_join 52 _ _ (by omega) hx
 rw[Nat.add_assoc,<- j1,Nat.or_assoc,Nat.or_comm (16*Tp l+n),j2,j3,e1,hp];rw[<- Nat.mul_assoc s 16,Nat.mul_comm s 16,Nat.mul_assoc 16 s,Nat.mul_comm s];omega
theorem Q2e(l:List Nat)(n c:Nat)(hl:∀ x∈l,x<16)(hn:n<16)(hk:l.length<=12):(c%4096)*4503599627370496+16*Tp l+n<18446744073709551616:=by
 have h1:=Qe7 l hl;have h2:(16:Nat) ^ l.length<=16 ^ 12:=Nat.pow_le_pow_right (by omega) hk;have h3:(16:Nat) ^ 12=281474976710656:=by decide
 omega
def Qtk(slots:List Nat)(c k:Nat):Nat:=(c%4096)*4503599627370496+16*Tp (slots.take k)+slots.length
theorem Qtl(slots:List Nat)(c:Nat):Qtk slots c slots.length=Qo3 slots c:=by unfold Qtk Qo3;rw[List.take_length]
theorem Qx3(slots:List Nat)(c k:Nat)(h16:∀ x∈slots,x<16)(hl:slots.length<=12):Qtk slots c k<18446744073709551616:=
 Q2e _ _ _ (fun x hx=>h16 x (List.mem_of_mem_take hx)) (by omega) (by rw[List.length_take];omega)
theorem Qo4(slots:List Nat)(c k s:Nat)(h16:∀ x∈slots,x<16)(hl:slots.length<=12)(he:slots[k]? = some s) :
  bits .or .u64 (Qtk slots c k:Int) (IntKind.u64.wrap ((s:Int)*2 ^ (4+4*k)))=(Qtk slots c (k+1):Int):=by
 have hk:k<slots.length:=by
  rcases Nat.lt_or_ge k slots.length with h | h
  ·exact h
  ·rw[List.getElem?_eq_none h]at he;cases he
 have hs:s<16:=h16 s (List.mem_of_getElem? he);have ht:slots.take (k+1)=slots.take k ++ [s]:=by rw[List.take_add_one,he];rfl
 have hl':(slots.take k).length=k:=by rw[List.length_take];omega
 have hst:=Qtm (slots.take k) slots.length c s (fun x hx=>h16 x (List.mem_of_mem_take hx)) hs (by omega) (by omega);have hp:(2:Nat) ^ (4+4*k)<=2 ^ 48:=Nat.pow_le_pow_right (by omega) (by omega);have hx:s*2 ^ (4+4*k)<18446744073709551616:=by
  have:s*2 ^ (4+4*k)<=15*2 ^ (4+4*k):=Nat.mul_le_mul_right _ (by omega);omega
 have ew:IntKind.u64.wrap ((s:Int)*2 ^ (4+4*k))=((s*2 ^ (4+4*k):Nat):Int):=by
  rw[IntKind.wrap_u64];have:((s:Int)*2 ^ (4+4*k))=((s*2 ^ (4+4*k):Nat):Int):=by simp
  rw[this];omega
 rw[ew,u64_or_nat _ _ (Qx3 slots c k h16 hl) hx];rw[hl']at hst;unfold Qtk;rw[hst,ht]
theorem Qj1(slots:List Nat)(c:Nat)(hl:slots.length<=12):bits .or .u64 (slots.length:Int) ((c:Int)%4096*4503599627370496)=(Qtk slots c 0:Int):=by
 have e:((c:Int)%4096*4503599627370496)=((c%4096*4503599627370496:Nat):Int):=by omega
 rw[e,u64_or_nat _ _ (by omega) (by omega),Nat.or_comm,nat_join 52 _ _ (by omega) (by omega)];simp[Qtk,Tp]
end

section
section
variable{w:World}
theorem Qdf(sv:Value)(slots:List Nat)(c:Nat)(hs:Ql w 1 sv slots.length (Zi slots))(hl:slots.length<=12)(h16:∀ s∈slots,s<16)(hc:c<18446744073709551616) :
  Calls prog 174 #[sv,.int .u64 c] w fun r w'=>r = .returned (.int .u64 (Qo3 slots c))/\w=w':=by
 obtain⟨_,a,cap,rfl,hcap,ha⟩:=hs;have HA:=hid ha;have H16:=hid h16;clear ha h16
 have hlz:(0:Int)<=slots.length:=by omega
 go_enter func174,ntmps174
 go_wp2_with fail
 rw[Qj1 slots c hl]
 go_loop [5,17] (fun x i=>∃ k:Nat,k<=slots.length/\i = .int .i64 k/\x = .int .u64 (Qtk slots c k:Nat)) (fun _ i=>slots.length-(intOf i).toNat)
 case atStart=>exact⟨0,Nat.zero_le _,rfl,rfl⟩
 case round=>
  obtain⟨k,hk,rfl,rfl⟩:=hrel
  by_cases hlt:k<slots.length
  ·obtain⟨s,he⟩:∃ s,slots[k]? = some s:=⟨_,List.getElem?_eq_getElem hlt⟩
   have hs16:=H16.out s (List.mem_of_getElem? he);have hv:(Zi slots)[k]? = some (.int .i64 s):=by simp[Zi,he]
   obtain⟨sb,so,rfl,hc'⟩:∃ sb so,a=some ⟨sb,so,none⟩/\∀ j u,(Zi slots)[j]? = some u->w.cell? ⟨sb,so+j,none⟩=some u:=by
    rcases HA.out with h0 | h0
    ·rw[h0]at hv;simp at hv
    ·exact h0
   have e1:=hc' _ _ hv;have Hst:=hid (Qo4 slots c k s H16.out hl he);clear hc' hv he;go_wp2_with fail
   go_round
   case rel=>exact⟨k+1,by omega,by go_num,by rw[Hst.out]⟩
   case measure=>simp[intOf];omega
  ·obtain rfl:k=slots.length:=by omega
   go_wp2_with fail
   go_ret
   exact⟨Xm (by rw[Qtl]),rfl⟩
end
end

section
section
variable{w:World}
end
end

section
def Kr(ks:List Int)(high:Int)(b:Bool)(i:Nat):Prop:=(0<i/\ks.getD i 0<=ks.getD (i-1) 0)\/(b=true/\high<=ks.getD i 0)
def Qea(ks vs:List Int)(k i:Nat):Int:=if 4<=i/\i<4+k then ks.getD (i-4) 0 else if 16<=i/\i<16+k then vs.getD (i-16) 0 else 0
def Qw1(ks vs:List Int)(next high:Int)(b:Bool)(i:Nat):Int:=
 if i=0 then(Qo3 (List.range ks.length) 0:Nat)else if i=1 then next else if i=2 then(if b then high else 0)else if i=3 then(if b then 1 else 0)else Qea ks vs ks.length i
theorem Qmn(ks vs:List Int)(k i:Nat)(x y:Int)(hx:ks[k]? = some x)(hy:vs[k]? = some y)(hk:k<12):Qea ks vs (k+1) i=if i=16+k then y else if i=4+k then x else Qea ks vs k i:=by
 unfold Qea
 by_cases e1:i=16+k
 ·rw[if_pos e1,if_neg (by omega),if_pos (by omega),show i-16=k from by omega]
  simp[List.getD,hy]
 ·rw[if_neg e1]
  by_cases e2:i=4+k
  ·rw[if_pos e2,if_pos (by omega),show i-4=k from by omega]
   simp[List.getD,hx]
  ·rw[if_neg e2]
   by_cases e3:4<=i/\i<4+k
   ·rw[if_pos e3,if_pos (by omega)]
   ·rw[if_neg e3,if_neg (by omega)]
    by_cases e4:16<=i/\i<16+k
    ·rw[if_pos e4,if_pos (by omega)]
    ·rw[if_neg e4,if_neg (by omega)]
section
variable{w:World}
theorem Q9w(wx:World):(Instr.makeSlice 56 (.int .i64 28) (.int .i64 28)).run prog wx = .ok (.slice (some ⟨wx.heap.size,0,none⟩) 28 28) (wx.alloc (.cells (madeCells #[.int .u64 0] 28) 31)):=by
 obtain⟨i0,hi,hz0,hz1,hz2⟩:=info_parts Gv;have:=run_make (P:=prog) wx 56 31 i0 _ underlying56 hi hz0 .i64 .i64 28 28 (by omega) (by omega) (by rw[hz2];decide) (by decide);rw[hz1]at this;exact this
theorem Qxu(wx:World)(n:Nat)(hn:n<=1000):(Instr.makeSlice 60 (.int .i64 n) (.int .i64 n)).run prog wx = .ok (.slice (some ⟨wx.heap.size,0,none⟩) n n) (wx.alloc (.cells (madeCells #[.int .i64 0] n) 3)):=by
 obtain⟨i0,hi,hz0,hz1,hz2⟩:=info_parts Bi;have:=run_make (P:=prog) wx 60 3 i0 _ underlying60 hi hz0 .i64 .i64 n n (by omega) (by omega) (by rw[hz2];omega) (by omega);rw[hz1]at this;simpa [Value.cells]using this
theorem Qdp(w:World)(t:TypeId)(k:IntKind)(n:Nat):Row (w.alloc (.cells (madeCells #[.int k 0] n) t)) w.heap.size n t (fun _ => .int k 0):=
 Row.new w _ t _ _ (fun i hi=>by simp[madeCells,hi,Nat.mod_one])
def Qbx(w:World)(ks vs:List Int)(k:Nat)(wr:World):Prop:=
 Row wr w.heap.size 28 31 (fun i => .int .u64 (Qea ks vs k i))/\Row wr (w.heap.size+1) ks.length 3 (fun i => .int .i64 (if i<k then i else 0:Nat))/\Below w.heap.size w wr
theorem Qr5(ks vs:List Int):Qbx w ks vs 0 ((w.alloc (.cells (madeCells #[.int .u64 0] 28) 31)).alloc (.cells (madeCells #[.int .i64 0] ks.length) 3)):=by
 refine⟨((Qdp w 31 .u64 28).alloc _).congr (fun i _ => ?_),?_,((Below.refl _ _).alloc (Nat.le_refl _) _).alloc (by simp) _⟩
 ·unfold Qea;rw[if_neg (by omega),if_neg (by omega)]
 ·have:=Qdp (w.alloc (.cells (madeCells #[.int .u64 0] 28) 31)) 3 .i64 ks.length
  rw[World.size_alloc]at this;exact this.congr (fun i _=>by simp)
theorem Qr6{ks vs:List Int}{k:Nat}{wr:World}(h:Qbx w ks vs k wr){x y:Int}(hx:ks[k]? = some x)(hy:vs[k]? = some y)(hk:k<ks.length)(h12:ks.length<=12) :
  Qbx w ks vs (k+1) (((wr.setCell ⟨w.heap.size+1,k,none⟩ (.int .i64 k)).setCell ⟨w.heap.size,4+k,none⟩ (.int .u64 x)).setCell ⟨w.heap.size,16+k,none⟩ (.int .u64 y)):=by
 obtain⟨h1,h2,h3⟩:=h;refine⟨?_,?_,?_⟩
 ·refine(((h1.other (a:=⟨w.heap.size+1,k,none⟩) (by simp) _).set (4+k) (.int .u64 x)).set (16+k) (.int .u64 y)).congr (fun i _ => ?_)
  rw[Qmn ks vs k i x y hx hy (by omega)]
  by_cases e1:i=16+k
  ·rw[if_pos e1,if_pos e1]
  ·rw[if_neg e1,if_neg e1]
   by_cases e2:i=4+k
   ·rw[if_pos e2,if_pos e2]
   ·rw[if_neg e2,if_neg e2]
 ·refine(((h2.set k (.int .i64 k)).other (a:=⟨w.heap.size,4+k,none⟩) (by simp) _).other (a:=⟨w.heap.size,16+k,none⟩) (by simp) _).congr (fun i _ => ?_)
  by_cases e:i=k
  ·subst e;simp
  ·rw[if_neg e]
   by_cases e2:i<k
   ·rw[if_pos e2,if_pos (by omega)]
   ·rw[if_neg e2,if_neg (by omega)]
 ·exact((h3.setCell (p:=⟨w.heap.size+1,k,none⟩) (by simp) _).setCell (p:=⟨w.heap.size,4+k,none⟩) (by simp) _).setCell (p:=⟨w.heap.size,16+k,none⟩) (by simp) _
def Qee(w:World)(ks vs:List Int)(next high:Int)(b:Bool)(r:Ending)(w':World):Prop:=
 ∃ g,r = .returned (.tuple #[.slice (some ⟨g,0,none⟩) 28 28,.int .i64 0])/\Row w' g 28 31 (fun i => .int .u64 (Qw1 ks vs next high b i))/\w.heap.size<=g/\Below w.heap.size w w'
def Qwc(w:World)(r:Ending)(w':World):Prop:=r = .returned (.tuple #[.slice none 0 0,.int .i64 1])/\Below w.heap.size w w'
theorem Qmp{ks vs:List Int}{wr:World}(h:Qbx w ks vs ks.length wr):Ql wr 1 (.slice (some ⟨w.heap.size+1,0,none⟩) ks.length ks.length) (List.range ks.length).length (Zi (List.range ks.length)):=by
 refine⟨by simp[Zi],_,_,by rw[List.length_range],by simp,.inr ⟨_,0,rfl,fun j u hu => ?_⟩⟩
 have hj:j<ks.length:=by
  rcases Nat.lt_or_ge j ks.length with h | h
  ·exact h
  ·simp[Zi,List.getElem?_eq_none (show(List.range ks.length).length<=j by simpa using h)]at hu
 simp[Zi,List.getElem?_range hj]at hu;subst hu;rw[Nat.zero_add,h.2.1.cell hj];simp[hj]
theorem Qmo{ks vs:List Int}{wr:World}(h:Row wr w.heap.size 28 31 (fun i => .int .u64 (Qea ks vs ks.length i))/\Below w.heap.size w wr)(_h12:ks.length<=12)(next high:Int)(b:Bool)(wx:World)
  (hx:wx=if b then((((wr.setCell ⟨w.heap.size,0,none⟩ (.int .u64 (Qo3 (List.range ks.length) 0:Nat))).setCell ⟨w.heap.size,1,none⟩ (.int .u64 next)).setCell ⟨w.heap.size,2,none⟩ (.int .u64 high)).setCell ⟨w.heap.size,3,none⟩ (.int .u64 1))
   else((wr.setCell ⟨w.heap.size,0,none⟩ (.int .u64 (Qo3 (List.range ks.length) 0:Nat))).setCell ⟨w.heap.size,1,none⟩ (.int .u64 next))) :
  Qee w ks vs next high b (.returned (.tuple #[.slice (some ⟨w.heap.size,0,none⟩) 28 28,.int .i64 0])) wx:=by
 obtain⟨h1,h3⟩:=h;have hf:∀ i,i<4->Qea ks vs ks.length i=0:=fun i hi=>by unfold Qea;rw[if_neg (by omega),if_neg (by omega)]
 cases b
 ·rw[if_neg (by simp)]at hx
  subst hx;refine⟨_,rfl,((h1.set 0 _).set 1 _).congr (fun i _ => ?_),Nat.le_refl _,(h3.setCell (p:=⟨w.heap.size,0,none⟩) (by simp) _).setCell (p:=⟨w.heap.size,1,none⟩) (by simp) _⟩
  unfold Qw1
  by_cases e1:i=1
  ·simp[e1]
  ·by_cases e0:i=0
   ·simp[e0]
   ·rw[if_neg e1,if_neg e0,if_neg e0,if_neg e1]
    by_cases e2:i=2
    ·subst e2;simp[hf]
    ·by_cases e3:i=3
     ·subst e3;simp[hf]
     ·rw[if_neg e2,if_neg e3]
 ·rw[if_pos rfl]at hx
  subst hx;refine⟨_,rfl,((((h1.set 0 _).set 1 _).set 2 _).set 3 _).congr (fun i _ => ?_),Nat.le_refl _,(((h3.setCell (p:=⟨w.heap.size,0,none⟩) (by simp) _).setCell (p:=⟨w.heap.size,1,none⟩) (by simp) _).setCell (p:=⟨w.heap.size,2,none⟩) (by simp) _).setCell (p:=⟨w.heap.size,3,none⟩) (by simp) _⟩
  unfold Qw1
  by_cases e3:i=3
  ·simp[e3]
  ·by_cases e2:i=2
   ·simp[e2]
   ·by_cases e1:i=1
    ·simp[e1]
    ·by_cases e0:i=0
     ·simp[e0]
     ·rw[if_neg e3,if_neg e2,if_neg e1,if_neg e0,if_neg e0,if_neg e1,if_neg e2,if_neg e3]
def Qlb(w:World)(ks vs:List Int)(next high:Int)(b:Bool)(r:Ending)(w':World):Prop:=
 ((∀ i,i<ks.length->¬ Kr ks high b i)->Qee w ks vs next high b r w')/\((¬ ∀ i,i<ks.length->¬ Kr ks high b i)->Qwc w r w')
theorem Qe8(kv vv:Value)(ks vs:List Int)(next high:Int)(b:Bool)(hk:Ql w 1 kv ks.length (Xb ks))(hv:Ql w 1 vv vs.length (Xb vs))(hl:ks.length=vs.length)(h12:ks.length<=12) :
  Calls prog 123 #[kv,vv,.int .u64 next,.int .u64 high,.bool b] w (Qlb w ks vs next high b):=by
 obtain⟨_,ka,kc,rfl,hkc,hka⟩:=hk;obtain⟨_,va,vc,rfl,hvc,hva⟩:=hv;have hne:((ks.length:Int) != (vs.length:Int))=false:=by simp;omega
 have h12':¬ (12:Int)<ks.length:=by omega
 have h1:=fun(wx:World)=>Q9w wx
 have h2:=fun(wx:World)=>Qxu wx ks.length (by omega)
 have HK:=hid hka;have HV:=hid hva;have HL:=hid hl;clear hka hva hl
 go_enter func123,ntmps123
 go_wp2_with fail
 clear h1 h2;have hm0:=hid (Qr5 (w:=w) ks vs)
 go_loopw [32] (fun i wr=>∃ k:Nat,k<=ks.length/\i = .int .i64 k/\(∀ i,i<k->¬ Kr ks high b i)/\Qbx w ks vs k wr) (fun i _=>ks.length-(intOf i).toNat)
 case atStart=>exact⟨0,Nat.zero_le _,rfl,fun i hi=>absurd hi (Nat.not_lt_zero _),hm0.out⟩
 case round=>
  obtain⟨k,hk,rfl,hgood,hmid⟩:=hrel;have HG:=hid hgood;have HM:=hid hmid;clear hgood hmid hm0
  have hold:∀ bb o u,w.cell? ⟨bb,o,none⟩=some u->wr.cell? ⟨bb,o,none⟩=some u:=fun bb o u h=>(HM.out.2.2.cell (World.block_lt_of_cell? w _ h)).trans h
  by_cases hlt:k<ks.length
  ·obtain⟨x,hx⟩:∃ x,ks[k]? = some x:=⟨_,List.getElem?_eq_getElem hlt⟩
   obtain⟨y,hy⟩:∃ y,vs[k]? = some y:=⟨_,List.getElem?_eq_getElem (by rw[<- HL.out];exact hlt)⟩;obtain⟨kb,ko,rfl,hkc'⟩:=Zr HK.out (Ku ks k x hx);obtain⟨vb,vo,rfl,hvc'⟩:=Zr HV.out (Ku vs k y hy);have hv1:vb≠w.heap.size+1:=by have:=World.block_lt_of_cell? w _ (hvc' _ _ (Ku vs k y hy));simp only at this;omega
   have e1:=hold _ _ _ (hkc' _ _ (Ku ks k x hx));have e2:=hold _ _ _ (hvc' _ _ (Ku vs k y hy));have hlv:(k:Int)<vs.length:=by have:=HL.out;omega
   have hlk:(k:Int)<ks.length:=by omega
   have xD:ks.getD k 0=x:=by simp[List.getD,hx]
   have s1:wr.cell? ⟨w.heap.size+1,k,none⟩=some (.int .i64 ((if k<k then k else 0:Nat):Int)):=HM.out.2.1.cell hlt;have s2:=HM.out.2.1.frozen k;have w1:wr.cell? ⟨w.heap.size,4+k,none⟩=some (.int .u64 (Qea ks vs k (4+k))):=HM.out.1.cell (by omega);have w2:wr.cell? ⟨w.heap.size,16+k,none⟩=some (.int .u64 (Qea ks vs k (16+k))):=HM.out.1.cell (by omega);have w3:=HM.out.1.frozen (4+k);have w4:=HM.out.1.frozen (16+k);have M1:=hid (Qr6 HM.out hx hy hlt h12);have XD:=hid xD;have HB:Hid (Kr ks high b k->¬ ∀ i,i<ks.length->¬ Kr ks high b i):=fun h1 h2=>h2 k hlt h1
   have hgn:¬ Kr ks high b k->∀ i,i<k+1->¬ Kr ks high b i:=fun h i hi=>by
    rcases Nat.lt_succ_iff_lt_or_eq.1 hi with h' | h'
    ·exact HG.out i h'
    ·rw[h'];exact h
   have HN:=hid hgn;have HW:=hid HM.out.2.2
   rcases Nat.eq_zero_or_pos k with hk0 | hk0
   ·subst hk0
    clear hold hkc' hvc' hx hy xD hgn;simp only[Nat.add_zero]at e1 e2 w1 w2 w3 w4;rw[show((0:Nat):Int)=0 from rfl]
    by_cases hb2:b=true/\high<=x
    ·have Hbad:Hid (Kr ks high b 0):=by show Kr ks high b 0;exact .inr ⟨hb2.1,by rw[XD.out];exact hb2.2⟩
     obtain⟨rfl,hb3⟩:=hb2;go_wp2_with fail
     go_ret2
     exact⟨fun h=>absurd h (HB.out Hbad.out),fun _=>⟨rfl,HW.out⟩⟩
    ·have Hng:Hid (¬ Kr ks high b 0):=by
      show ¬ Kr ks high b 0
      rintro(⟨h,_⟩ | ⟨h,h'⟩)
      ·omega
      ·rw[XD.out]at h';exact hb2 ⟨h,h'⟩
     cases b
     ·clear hb2
      go_wp2_with fail
      go_roundw
      case rel=>exact⟨1,by omega,by go_num,HN.out Hng.out,M1.out⟩
      case measure=>simp[intOf];omega
     ·have hb3:¬ high<=x:=fun h=>hb2 ⟨rfl,h⟩
      clear hb2;go_wp2_with fail
      go_roundw
      case rel=>exact⟨1,by omega,by go_num,HN.out Hng.out,M1.out⟩
      case measure=>simp[intOf];omega
   ·obtain⟨m,rfl⟩:∃ m,k=m+1:=⟨k-1,by omega⟩
    obtain⟨z,hz⟩:∃ z,ks[m]? = some z:=⟨_,List.getElem?_eq_getElem (by omega)⟩;have e3:=hold _ _ _ (hkc' _ _ (Ku ks m z hz));have ZD:Hid (ks.getD m 0=z):=by show ks.getD m 0=z;simp[List.getD,hz]
    clear hold hkc' hvc' hx hy hz xD hgn
    by_cases hb1:x<=z
    ·have Hbad:Hid (Kr ks high b (m+1)):=by show Kr ks high b (m+1);exact .inl ⟨by omega,by rw[XD.out,Nat.add_sub_cancel,ZD.out];exact hb1⟩
     go_wp2_with fail
     all_goals
      go_ret2
      exact⟨fun h=>absurd h (HB.out Hbad.out),fun _=>⟨rfl,HW.out⟩⟩
    ·by_cases hb2:b=true/\high<=x
     ·have Hbad:Hid (Kr ks high b (m+1)):=by show Kr ks high b (m+1);exact .inr ⟨hb2.1,by rw[XD.out];exact hb2.2⟩
      obtain⟨rfl,hb3⟩:=hb2;go_wp2_with fail
      go_ret2
      exact⟨fun h=>absurd h (HB.out Hbad.out),fun _=>⟨rfl,HW.out⟩⟩
     ·have Hng:Hid (¬ Kr ks high b (m+1)):=by
       show ¬ Kr ks high b (m+1)
       rintro(⟨_,h⟩ | ⟨h,h'⟩)
       ·rw[XD.out,Nat.add_sub_cancel,ZD.out]at h;exact hb1 h
       ·rw[XD.out]at h';exact hb2 ⟨h,h'⟩
      cases b
      ·clear hb2
       go_wp2_with fail
       go_roundw
       case rel=>exact⟨m+1+1,by omega,by go_num,HN.out Hng.out,M1.out⟩
       case measure=>simp[intOf];omega
      ·have hb3:¬ high<=x:=fun h=>hb2 ⟨rfl,h⟩
       clear hb2;go_wp2_with fail
       go_roundw
       case rel=>exact⟨m+1+1,by omega,by go_num,HN.out Hng.out,M1.out⟩
       case measure=>simp[intOf];omega
  ·obtain rfl:k=ks.length:=by omega
   have z0:wr.cell? ⟨w.heap.size,0,none⟩=some (.int .u64 (Qea ks vs ks.length 0)):=HM.out.1.cell (by omega);have z1:wr.cell? ⟨w.heap.size,1,none⟩=some (.int .u64 (Qea ks vs ks.length 1)):=HM.out.1.cell (by omega);have z2:wr.cell? ⟨w.heap.size,2,none⟩=some (.int .u64 (Qea ks vs ks.length 2)):=HM.out.1.cell (by omega);have z3:wr.cell? ⟨w.heap.size,3,none⟩=some (.int .u64 (Qea ks vs ks.length 3)):=HM.out.1.cell (by omega);have f0:=HM.out.1.frozen 0;have f1:=HM.out.1.frozen 1;have f2:=HM.out.1.frozen 2;have f3:=HM.out.1.frozen 3
   have ho:=Qdf _ _ 0 (Qmp HM.out) (by simpa using h12) (fun s hs=>by simp at hs;omega) (by omega);rw[show((0:Nat):Int)=0 from rfl]at ho;have HO:=hid ho;clear ho
   clear hold
   cases b
   ·go_wp2_with (go_at_call 174;(with_reducible refine HO.out.mono ?_);rintro e w' ⟨rfl,rfl⟩)
    go_ret2
    exact⟨fun _=>Qmo ⟨HM.out.1,HM.out.2.2⟩ h12 next high false _ rfl,fun h=>absurd HG.out h⟩
   ·go_wp2_with (go_at_call 174;(with_reducible refine HO.out.mono ?_);rintro e w' ⟨rfl,rfl⟩)
    go_ret2
    exact⟨fun _=>Qmo ⟨HM.out.1,HM.out.2.2⟩ h12 next high true _ rfl,fun h=>absurd HG.out h⟩
end
end

section
structure Xy(w:World)(cb:Nat)(W:Nat->Int)(slots:List Nat)(ch:Nat):Prop where
 words:∀ i,i<28->w.cell? ⟨cb,i,none⟩=some (.int .u64 (W i))
 sl:∃ sv,w.cell? ⟨cb,28,none⟩=some sv/\Ql w 1 sv slots.length (Zi slots)
 ch:w.cell? ⟨cb,29,none⟩=some (.int .u64 ch)
 lt12:∀ s∈slots,s<12
 len:slots.length<=12
 ty:∃ c,Blk w cb c 260
 ty2:∀ sv,w.cell? ⟨cb,28,none⟩=some sv->∀ g,sv.ownBlock=some g->∃ c,Blk w g c 3
theorem Ql.drewN{w:World}{size:Nat}{v:Value}{n:Nat}{xs:List Value}(h:Ql w size v n xs)(q:Nat):Ql (w.drewN q) size v n xs:=h.kept (fun _ _ _=>rfl)
theorem Xy.drewN{w:World}{cb:Nat}{W:Nat->Int}{slots:List Nat}{ch:Nat}(h:Xy w cb W slots ch)(q:Nat):Xy (w.drewN q) cb W slots ch:=
 ⟨h.words,by obtain⟨sv,h1,h2⟩:=h.sl;exact⟨sv,h1,h2.drewN q⟩,h.ch,h.lt12,h.len,h.ty,h.ty2⟩
theorem Xy.qt{w w':World}{cb:Nat}{W:Nat->Int}{slots:List Nat}{ch:Nat}(h:Xy w cb W slots ch)(q:Qt w w'):Xy w' cb W slots ch:=by obtain⟨n,rfl⟩:=q;exact h.drewN n
def Qo(p:Nat):Nat:=p%4294967296*8
def Do(off:Nat):Nat:=off/8+4294967296+562949953421312
theorem Q2k(off:Nat)(ho:off<=34359738360):bits .or .u64 (bits .or .u64 ((off:Int)/8) 4294967296) 562949953421312=(Do off:Nat):=by
 rw[show((off:Int)/8)=((off/8:Nat):Int)from by omega,show(4294967296:Int)=((4294967296:Nat):Int)from rfl,show(562949953421312:Int)=((562949953421312:Nat):Int)from rfl];rw[u64_or_nat _ _ (by omega) (by omega),Nat.or_comm,nat_join 32 4294967296 (off/8) (by decide) (by omega)];rw[u64_or_nat _ _ (by omega) (by omega),Nat.or_comm,nat_join 48 562949953421312 (4294967296+off/8) (by decide) (by omega)];unfold Do;congr 1;omega
theorem Qyl{k k':IntKind}{a b a' b':Int}(h:a=b)(h':a'=b'):Ending.returned (.tuple #[.int k a,.int k' a']) = .returned (.tuple #[.int k b,.int k' b']):=by rw[h,h']
theorem Qvm{k:IntKind}{a b:Int}{x y:Bool}(h:a=b)(h':x=y):Ending.returned (.tuple #[.int k a,.bool x]) = .returned (.tuple #[.int k b,.bool y]):=by rw[h,h']
section
variable{w:World}
theorem Vb(p:Nat)(_hp:p<18446744073709551616):Calls prog 214 #[.int .u64 p] w fun r w'=>r = .returned (.int .u64 (Qo p))/\w=w':=by
 go_enter func214,ntmps214
 go_wp2
 go_ret
 exact⟨Xm (by unfold Qo;omega),rfl⟩
theorem Ad(off:Nat)(h0:0<off)(h8:off%8=0)(ho:off<=34359738360) :
  Calls prog 73 #[.int .u64 off,.int .u16 1,.int .u8 2] w fun r w'=>r = .returned (.tuple #[.int .u64 (Do off),.int .i64 0])/\w=w':=by
 have b1:((off:Int)==0)=false:=by simp;omega
 have b2:((off:Int)%8 != 0)=false:=by simp;omega
 have b3:¬ (34359738360:Int)<off:=by omega
 go_enter func73,ntmps73
 go_wp2
 go_ret2
 exact⟨Qyl (Q2k off ho) rfl,rfl⟩
theorem Qg3(m:Value)(p:Int)(hm:m = .nilIface\/∃ t a,m = .iface t (.pointer (some a))) :
  Calls prog 74 #[m,.int .u64 p] w fun r w'=>r = .returned (.agg #[m,.int .u64 p])/\Below w.heap.size w w':=by
 rcases hm with rfl | ⟨t,a,rfl⟩
 all_goals
  go_enter func74,ntmps74
  go_wp2
  refine bodyPost_ret (v:=.agg #[_,.int .u64 p]) (by simp[results,results74,go_sem]) rfl ⟨rfl,?_⟩
  exact(Below.refl _ _).alloc (Nat.le_refl _) _
theorem Qai{cb:Nat}{W:Nat->Int}{slots:List Nat}{ch:Nat}(h:Xy w cb W slots ch)(i s:Nat)(hi:slots[i]? = some s) :
  Calls prog 195 #[.pointer (some ⟨cb,0,none⟩),.int .i64 i] w fun r w'=>r = .returned (.int .u64 (W (4+s)))/\Qt w w':=by
 have hs:=h.lt12 s (List.mem_of_getElem? hi);have hil:i<slots.length:=by
  rcases Nat.lt_or_ge i slots.length with h | h
  ·exact h
  ·rw[List.getElem?_eq_none h]at hi;cases hi
 obtain⟨sv,c28,hrd⟩:=h.sl;have hv:(Zi slots)[i]? = some (.int .i64 s):=by simp[Zi,hi]
 obtain⟨_,a,c,rfl,hc,ha⟩:=hrd;obtain⟨sb,so,rfl,hcell⟩:=Zr ha hv;have c1:=hcell _ _ hv;have c2:=h.words (4+s) (by omega);have b1:(i:Int)<slots.length:=by omega
 have b2:(4:Int)+s<28:=by omega
 clear ha hcell hv h hi
 go_enter func195,ntmps195
 go_wp2_with fail
 go_quiet (fail)
 go_wp2_with fail
 go_ret
 exact⟨rfl,_,rfl⟩
theorem Qd6{cb:Nat}{W:Nat->Int}{slots:List Nat}{ch:Nat}(h:Xy w cb W slots ch)(i s:Nat)(hi:slots[i]? = some s) :
  Calls prog 196 #[.pointer (some ⟨cb,0,none⟩),.int .i64 i] w fun r w'=>r = .returned (.int .u64 (W (16+s)))/\Qt w w':=by
 have hs:=h.lt12 s (List.mem_of_getElem? hi);have hil:i<slots.length:=by
  rcases Nat.lt_or_ge i slots.length with h | h
  ·exact h
  ·rw[List.getElem?_eq_none h]at hi;cases hi
 obtain⟨sv,c28,hrd⟩:=h.sl;have hv:(Zi slots)[i]? = some (.int .i64 s):=by simp[Zi,hi]
 obtain⟨_,a,c,rfl,hc,ha⟩:=hrd;obtain⟨sb,so,rfl,hcell⟩:=Zr ha hv;have c1:=hcell _ _ hv;have c2:=h.words (16+s) (by omega);have b1:(i:Int)<slots.length:=by omega
 have b2:(16:Int)+s<28:=by omega
 clear ha hcell hv h hi
 go_enter func196,ntmps196
 go_wp2_with fail
 go_quiet (fail)
 go_wp2_with fail
 go_ret
 exact⟨rfl,_,rfl⟩
def findIdx(W:Nat->Int)(k:Int):List Nat->Nat
 | []=>0
 | s::l=>if W (4+s)<k then findIdx W k l+1 else 0
theorem Ei(W:Nat->Int)(k:Int)(l:List Nat):findIdx W k l<=l.length:=by
 induction l with
 | nil=>simp[findIdx]
 | cons s l ih=>simp only[findIdx,List.length_cons];split <;> omega
theorem Nh(W:Nat->Int)(k:Int):∀ (l:List Nat) (i:Nat),i<=l.length->(∀ j s,j<i->l[j]? = some s->W (4+s)<k)->(∀ s,l[i]? = some s->¬ W (4+s)<k)->findIdx W k l=i:=by
 intro l
 induction l with
 | nil=>intro i hi _ _;simp at hi;subst hi;rfl
 | cons s l ih=>
  intro i hi h1 h2
  cases i with
  | zero=>simp only[findIdx];rw[if_neg (h2 s (by simp))]
  | succ i=>
   simp only[findIdx];rw[if_pos (h1 0 s (by omega) (by simp)),ih i (by simpa using hi) (fun j t hj ht=>h1 (j+1) t (by omega) (by simpa using ht)) (fun t ht=>h2 t (by simpa using ht))]
def Jt(W:Nat->Int)(k:Int)(l:List Nat):Bool:=match l[findIdx W k l]? with | some s=>W (4+s)==k | none=>false
theorem Iu{cb:Nat}{W:Nat->Int}{slots:List Nat}{ch:Nat}(h:Xy w cb W slots ch)(k:Int) :
  Calls prog 169 #[.pointer (some ⟨cb,0,none⟩),.int .u64 k] w fun r w'=>r = .returned (.tuple #[.int .i64 (findIdx W k slots),.bool (Jt W k slots)])/\Qt w w':=by
 obtain⟨sv,c28,hrd⟩:=h.sl;have hlen:=h.len;obtain⟨_,a,c,rfl,hc,ha⟩:=hrd;have H:=hid h;clear h ha
 go_enter func169,ntmps169
 go_wp2_with fail
 go_loopw [6] (fun x wr=>∃ i:Nat,i<=slots.length/\x = .int .i64 i/\(∀ j s,j<i->slots[j]? = some s->W (4+s)<k)/\∃ q,wr=w.drewN q) (fun x _=>slots.length-(intOf x).toNat)
 case atStart=>exact⟨0,Nat.zero_le _,rfl,fun j _ hj=>absurd hj (Nat.not_lt_zero _),0,rfl⟩
 case round=>
  obtain⟨i,hi,rfl,hlow,q,rfl⟩:=hrel;have HL:=hid hlow;clear hlow
  by_cases hlt:i<slots.length
  ·obtain⟨s,hs⟩:∃ s,slots[i]? = some s:=⟨_,List.getElem?_eq_getElem hlt⟩
   have b1:(i:Int)<slots.length:=by omega
   have HK:=hid (Qai (H.out.drewN q) i s hs);have HS:=hid hs;clear hs
   by_cases hk:W (4+s)<k
   ·go_wp2_with (go_at_call 195;(with_reducible refine HK.out.mono ?_);rintro e w' ⟨rfl,q',rfl⟩)
    go_roundw
    case rel=>
     refine⟨i+1,by omega,by go_num,fun j t hj ht => ?_,_,rfl⟩
     rcases Nat.lt_succ_iff_lt_or_eq.1 hj with h' | h'
     ·exact HL.out j t h' ht
     ·rw[h',HS.out]at ht;cases ht;exact hk
    case measure=>simp[intOf];omega
   ·have Hf:Hid (findIdx W k slots=i):=Nh W k slots i hi HL.out (fun t ht=>by rw[HS.out]at ht;cases ht;exact hk)
    have Hb:Hid (Jt W k slots=(W (4+s)==k)):=by show Jt W k slots=_;unfold Jt;rw[Hf.out,HS.out]
    have HK2:=hid (fun q=>Qai (H.out.drewN q) i s HS.out);clear HK;go_wp2_with (go_at_call 195;(with_reducible refine(HK2.out _).mono ?_);rintro e w' ⟨rfl,q',rfl⟩)
    go_ret2
    exact⟨Qvm (by rw[Hf.out]) Hb.out.symm,_,rfl⟩
  ·obtain rfl:i=slots.length:=by omega
   have Hf:Hid (findIdx W k slots=slots.length):=Nh W k slots _ (Nat.le_refl _) HL.out (fun t ht=>by rw[List.getElem?_eq_none (Nat.le_refl _)]at ht;cases ht);have Hb:Hid (Jt W k slots=false):=by show Jt W k slots=_;unfold Jt;rw[Hf.out,List.getElem?_eq_none (Nat.le_refl _)]
   go_wp2_with fail
   go_ret2
   exact⟨Qvm (by rw[Hf.out]) Hb.out.symm,_,rfl⟩
end
end

section
def nib(x i:Nat):Nat:=x/2 ^ (4+4*i)%16
theorem Q1u(x i:Nat):nib x i<16:=Nat.mod_lt _ (by omega)
def Wl(x n i:Nat):Prop:=(n<=i->nib x i=0)/\(i<n->nib x i<12/\∀ j,j<i->nib x j≠nib x i)
def Jm(x:Nat):Prop:=x%16<=12/\∀ i,i<12->Wl x (x%16) i
def Yr(x n:Nat):List Nat:=(List.range n).map (nib x)
def Ps(x m j:Nat):Bool:=(List.range m).any (fun i=>nib x i==j)
theorem Qgf(x n:Nat):Yr x (n+1)=Yr x n ++ [nib x n]:=by simp[Yr,List.range_succ]
theorem Qkt(x m j:Nat):Ps x (m+1) j=(if j=nib x m then true else Ps x m j):=by
 simp only[Ps,List.range_succ,List.any_append,List.any_cons,List.any_nil,Bool.or_false]
 by_cases e:j=nib x m
 ·subst e;simp
 ·rw[if_neg e,show(nib x m==j)=false from by simp;exact fun h=>e h.symm];simp
theorem Qdw(x m j:Nat):Ps x m j=true↔∃ i,i<m/\nib x i=j:=by simp[Ps]
def Qlj(w:World)(x:Nat)(r:Ending)(w':World):Prop:=
 Below w.heap.size w w'/\((Jm x/\∃ sv,r = .returned (.tuple #[sv,.bool true])/\Qj w' 3 1 sv (x%16) (Zi (Yr x (x%16)))/\∀ g,sv.ownBlock=some g->w.heap.size<=g) \/
  (¬ Jm x/\r = .returned (.tuple #[.slice none 0 0,.bool false])))
def Pv(w:World)(x m:Nat)(lv:Value)(wr:World):Prop:=
 Row wr w.heap.size 16 308 (fun j => .bool (Ps x m j))/\Qj wr 3 1 lv m (Zi (Yr x m))/\(∀ g,lv.ownBlock=some g->w.heap.size<g)/\Below w.heap.size w wr
theorem Qj4{w:World}{x m:Nat}{lv v':Value}{wr wz w1:World}(h:Pv w x m lv wr){s:Nat}(hs:s=nib x m){c:Array Value}{q:Nat}{kk:Int}
  (hz:wz=(wr.setCell ⟨w.heap.size,s,none⟩ (.bool true)).alloc (.cells c 3)) (hkk:kk=s) (o1:Qj w1 3 1 v' (m+1) (Zi (Yr x m) ++ [.int .i64 kk])) (g1:wz.grownBy w1 lv.ownBlock)
  (b1:Zc v'=Zc lv\/Zc v'=some ⟨q,0,none⟩) (hq:wr.heap.size<=q):Pv w x (m+1) v' w1:=by
 subst hkk;obtain⟨h1,h2,h3,h4⟩:=h;have hb:Below w.heap.size w wz:=by
  rw[hz];exact(h4.setCell (p:=⟨w.heap.size,s,none⟩) (by simp) _).alloc (by have:=h4.size;simp[World.setCell];exact this) _
 have hr:Row wz w.heap.size 16 308 (fun j => .bool (Ps x (m+1) j)):=by
  rw[hz];refine((h1.set s (.bool true)).alloc _).congr (fun i _ => ?_)
  rw[Qkt,<- hs]
  by_cases e:i=s
  ·rw[if_pos e,if_pos e]
  ·rw[if_neg e,if_neg e]
 have hlt:=hr.lt;refine⟨?_,by rw[Qgf,Qjv,<- hs];exact o1,fun g hg => ?_,hb.grown g1 hb.size (fun g hg=>by have:=h3 g hg;omega)⟩
 ·obtain⟨c,p1,p2⟩:=hr
  exact⟨c,(g1.block _ hlt (fun e=>by have:=h3 _ e.symm;omega)).trans p1,p2⟩
 ·rcases b1 with b1 | b1
  ·rw[Qh,b1,<- Qh]at hg;exact h3 g hg
  ·rw[Qh,b1]at hg;cases hg;show w.heap.size<q;have:=h1.lt;omega
section
variable{w:World}
theorem Qo6(x:Nat)(hx:x<18446744073709551616):Calls prog 215 #[.int .u64 x] w (Qlj w x):=by
 have hand:bits .and .u64 (x:Int) 15=((x%16:Nat):Int):=by
  rw[show(15:Int)=((15:Nat):Int)from rfl,u64_and_nat _ _ hx (by decide),nat_mask4]
 obtain⟨i0,hi,hz0,hz1,hz2⟩:=info_parts Bi;have I:=hid (And.intro hi (And.intro hz0 (And.intro hz1 hz2)));clear hi hz0 hz1 hz2
 obtain⟨n,hne⟩:∃ n,n=x%16:=⟨_,rfl⟩;rw[<- hne]at hand;have HN:=hid hne;have hn16:n<16:=by omega
 clear hne
 by_cases hn:n<=12
 ·have hn':¬ (12:Int)<n:=by omega
  go_enter func215,ntmps215
  go_wp2_with fail
  have hm0:Pv w x 0 (.slice none 0 0) (w.alloc (.cells #[.bool false,.bool false,.bool false,.bool false,.bool false,.bool false,.bool false,.bool false,.bool false,.bool false,.bool false,.bool false,.bool false,.bool false,.bool false,.bool false] 308)):=by
   refine⟨Row.new w _ _ _ _ (fun j hj => ?_),Qj.nil _ _ _,fun g hg=>by simp[Value.ownBlock]at hg,(Below.refl _ _).alloc (Nat.le_refl _) _⟩
   obtain rfl | rfl | rfl | rfl | rfl | rfl | rfl | rfl | rfl | rfl | rfl | rfl | rfl | rfl | rfl | rfl:j=0\/j=1\/j=2\/j=3\/j=4\/j=5\/j=6\/j=7\/j=8\/j=9\/j=10\/j=11\/j=12\/j=13\/j=14\/j=15:=by omega
   all_goals rfl
  have HM0:=hid hm0;clear hm0
  go_loopw [5,14] (fun lv i wr=>∃ k:Nat,k<=12/\i = .int .i64 k/\(∀ i,i<k->Wl x n i)/\Pv w x (min k n) lv wr) (fun _ i _=>12-(intOf i).toNat)
  case atStart=>exact⟨0,Nat.zero_le _,rfl,fun i hi=>absurd hi (Nat.not_lt_zero _),by rw[Nat.zero_min];exact HM0.out⟩
  case round=>
   obtain⟨k,hk,rfl,hgood,hmid⟩:=hrel;have HG:=hid hgood;clear hgood HM0
   have hbelow:=hid hmid.2.2.2
   by_cases hlt:k<12
   ·obtain⟨s,hs⟩:∃ s,s=nib x k:=⟨_,rfl⟩
    have hs16:s<16:=by rw[hs];exact Q1u x k
    have hsh:bits .and .u64 ((x:Int)/2 ^ (4+4*k)) 15=(s:Int):=by
     have hd:((x:Int)/2 ^ (4+4*k))=((x/2 ^ (4+4*k):Nat):Int):=by simp
     rw[hd,show(15:Int)=((15:Nat):Int)from rfl,u64_and_nat _ _ (Nat.lt_of_le_of_lt (Nat.div_le_self _ _) hx) (by decide),nat_mask4,hs];rfl
    have HS:=hid hs;clear hs
    have hbad:¬ Wl x n k->¬ Jm x:=fun h h2=>h (by have:=h2.2 k hlt;rw[<- HN.out]at this;exact this)
    have HB:=hid hbad;have hnext:Wl x n k->∀ i,i<k+1->Wl x n i:=fun h i hi=>by
     rcases Nat.lt_succ_iff_lt_or_eq.1 hi with h' | h'
     ·exact HG.out i h'
     ·rw[h'];exact h
    have HX:=hid hnext;clear hbad hnext
    by_cases hkn:n<=k
    ·have hkn':(n:Int)<=k:=by omega
     rw[Nat.min_eq_right hkn]at hmid;obtain⟨la,lc,hlv⟩:=hmid.2.1.slice;subst hlv;have HM:=hid hmid;clear hmid
     by_cases hz:s=0
     ·have hz':((s:Int) != 0)=false:=by simp;omega
      have Hg:Hid (Wl x n k):=⟨fun _=>by rw[<- HS.out];exact hz,fun h=>absurd h (by omega)⟩;have HZ:=hid hz;clear hz
      go_wp2_with fail
      go_roundw
      case rel=>exact⟨k+1,by omega,by go_num,HX.out Hg.out,by rw[Nat.min_eq_right (by omega)];exact HM.out⟩
      case measure=>simp[intOf];omega
     ·have hz':((s:Int) != 0)=true:=by simp;omega
      have Hg:Hid (¬ Jm x):=HB.out (fun h=>hz (by rw[HS.out];exact h.1 hkn));clear hz;go_wp2_with fail
      go_ret2
      exact⟨hbelow.out,.inr ⟨Hg.out,rfl⟩⟩
    ·have hkn':¬ (n:Int)<=k:=by omega
     rw[Nat.min_eq_left (by omega)]at hmid;obtain⟨la,lc,hlv⟩:=hmid.2.1.slice;subst hlv;have HM:=hid hmid;clear hmid
     by_cases h12:12<=s
     ·have h12':(12:Int)<=s:=by omega
      have Hg:Hid (¬ Jm x):=HB.out (fun h=>by have:=(h.2 (by omega)).1;rw[<- HS.out]at this;omega);go_wp2_with fail
      go_ret2
      exact⟨hbelow.out,.inr ⟨Hg.out,rfl⟩⟩
     ·have h12':¬ (12:Int)<=s:=by omega
      have hs16':(s:Int)<16:=by omega
      have c1:wr.cell? ⟨w.heap.size,s,none⟩=some (.bool (Ps x k s)):=HM.out.1.cell hs16;have f1:=HM.out.1.frozen s;have hsn:Ps x k s=true\/Ps x k s=false:=by cases Ps x k s <;> simp
      rcases hsn with hsn | hsn
      ·rw[hsn]at c1
       have Hg:Hid (¬ Jm x):=HB.out (fun h=>by
        obtain⟨j,hj,he⟩:=(Qdw x k s).1 hsn;exact(h.2 (by omega)).2 j hj (by rw[he,HS.out]))
       clear hsn;go_wp2_with fail
       go_ret2
       exact⟨hbelow.out,.inr ⟨Hg.out,rfl⟩⟩
      ·rw[hsn]at c1
       have Hg:Hid (Wl x n k):=⟨fun h=>absurd h (by omega),fun _=>⟨by rw[<- HS.out];omega,fun j hj he=>by
        have:Ps x k s=true:=(Qdw x k s).2 ⟨j,hj,by rw[he,HS.out]⟩;rw[hsn]at this;cases this⟩⟩
       have ho2:∀ g,(Value.slice la k lc).ownBlock=some g->g≠w.heap.size:=fun g hg=>by have:=HM.out.2.2.1 g hg;omega
       have HO2:=hid ho2;clear hsn ho2;go_wp2_with (at_builtin;refine Qc _ rfl _ _ 60 rfl 3 i0 _ 1 8 underlying60 I.out.1 I.out.2.1 I.out.2.2.1 I.out.2.2.2 rfl (by decide) _ k (Zi (Yr x k)) rfl (by exact(HM.out.2.1.other (a:=⟨w.heap.size,s,none⟩) (fun g hg=>HO2.out g hg) _).alloc _) _ 1 _ rfl (Ql.newAt _ _ _ 1 1 _ (by simp[World.setCell]) rfl) (Qaw _ _) (by unfold maxLen;omega) (by omega) ?_)
       intro v' w1 o1 g1 b1 n1;have M1:=hid (Qj4 HM.out HS.out rfl rfl o1 g1 b1 (by omega));clear o1 g1 b1 n1;go_wp2_with fail
       go_roundw
       case rel=>exact⟨k+1,by omega,by go_num,HX.out Hg.out,by rw[Nat.min_eq_left (by omega)];exact M1.out⟩
       case measure=>simp[intOf];omega
   ·obtain rfl:k=12:=by omega
    rw[Nat.min_eq_right hn]at hmid;have HM:=hid hmid;clear hmid
    go_wp2_with fail
    go_ret2
    exact⟨hbelow.out,.inl ⟨⟨by rw[<- HN.out];exact hn,by rw[<- HN.out];exact HG.out⟩,_,rfl,by rw[<- HN.out];exact HM.out.2.1,fun g hg=>Nat.le_of_lt (HM.out.2.2.1 g hg)⟩⟩
 ·have hn':(12:Int)<n:=by omega
  go_enter func215,ntmps215
  go_wp2_with fail
  go_ret2
  exact⟨Below.refl _ _,.inr ⟨fun h=>hn (by rw[HN.out];exact h.1),rfl⟩⟩
end
end
end Go.Proofs.YtlhchkajjpefmaaGreatDoor
