/- Lemmas and walks, part 28: each theorem says what it proves; no condition beside its own. -/
import Derived.Test.YtlhchkajjpefmaaGreatDoorK27
set_option maxHeartbeats 16000000
set_option maxRecDepth 100000
namespace Go.Proofs.YtlhchkajjpefmaaGreatDoor
open Lib(hid)
open Go.RowKit Go.Proofs.Tryz
section
open Go.Maps
attribute [local go_sem ↓] Go.wp_at_zero Go.wp_at_succ
theorem Qu8{xs ys:List Ent}{k:Nat}{e f:Ent}(he:xs[k]? = some e)(hf:ys[k]? = some f)(h:toL e≠toL f):decide (xs.map toL=ys.map toL)=false:=by
 rw[decide_eq_false_iff_not];intro h2;have h3:=congrArg (fun l=>l[k]?) h2;simp only[List.getElem?_map,he,hf,Option.map_some,Option.some.injEq]at h3;exact h h3
section
variable{w:World}
theorem Wh(u v:Value)(xs ys:List Ent)(hx:Ql w 2 u xs.length (eC xs))(hy:Ql w 2 v ys.length (eC ys))(hl:xs.length<=100000)(hl2:ys.length<=100000) :
  Calls prog 95 #[u,v] w fun r w'=>r = .returned (.bool (decide (xs.map toL=ys.map toL)))/\Below w.heap.size w w':=by
 obtain⟨_,a,ca,rfl,hca,ha⟩:=hx;obtain⟨_,b,cb,rfl,hcb,hb⟩:=hy;have HA:=hid ha;have HB:=hid hb;clear ha hb
 by_cases hne:xs.length=ys.length
 ·have hbn:((xs.length:Int) != (ys.length:Int))=false:=by simp;omega
  generalize hn1:xs.length=n at *
  generalize hn2:ys.length=m at *
  have HN:=hid (And.intro hn1 hn2);clear hn1 hn2;subst hne;have hbn:((n:Int) != (n:Int))=false:=by simp
  go_enter func95,ntmps95
  go_wp2_with fail
  go_loopw [13] (fun i wr=>∃ k:Nat,k<=n/\i = .int .i64 k/\(xs.take k).map toL=(ys.take k).map toL/\Qt w wr) (fun i _=>n-(intOf i).toNat)
  case atStart=>exact⟨0,by omega,rfl,rfl,Qt.refl w⟩
  case round=>
   obtain⟨k,hk,rfl,heq,q⟩:=hrel;obtain⟨nq,rfl⟩:=q;have HE:=hid heq;clear heq
   by_cases hlt:k<n
   ·obtain⟨e,he⟩:∃ e,xs[k]? = some e:=⟨_,List.getElem?_eq_getElem (by rw[HN.out.1];exact hlt)⟩
    obtain⟨f,hf⟩:∃ e,ys[k]? = some e:=⟨_,List.getElem?_eq_getElem (by rw[HN.out.2];exact hlt)⟩;obtain⟨g1,o1,rfl,hc1⟩:=Zr HA.out (Ly xs k e he).1;obtain⟨g2,o2,rfl,hc2⟩:=Zr HB.out (Ly ys k f hf).1;have c1:=hc1 _ _ (Ly xs k e he).1;have c2:=hc1 _ _ (Ly xs k e he).2
    have d1:=hc2 _ _ (Ly ys k f hf).1;have d2:=hc2 _ _ (Ly ys k f hf).2
    rw[<- Nat.add_assoc]at c2 d2;have HEF:=hid (And.intro he hf);have hk':(k:Int)<n:=by omega
    clear hc1 hc2 he hf;obtain⟨e1,e2⟩:=e;obtain⟨f1,f2⟩:=f;simp only at c1 c2 d1 d2
    by_cases h1:e1.toList=f1.toList
    ·have hb1:(e1.toList==f1.toList)=true:=by simpa using h1
     by_cases h2:e2=f2
     ·have hb2:((e2:Int)==(f2:Int))=true:=by simp;omega
      have HQ:=hid (And.intro h1 h2);clear h1 h2
      go_wp2_with fail
      go_quiet (fail)
      go_wp2_with fail
      go_roundw
      case rel=>exact⟨k+1,by omega,by go_num,by rw[Qy _ _ _ HEF.out.1,Qy _ _ _ HEF.out.2,List.map_append,List.map_append,HE.out];simp[toL,HQ.out.1,HQ.out.2],⟨_,rfl⟩⟩
      case measure=>simp[intOf];omega
     ·have hb2:((e2:Int)==(f2:Int))=false:=by simp;omega
      have HQ:=hid h2;clear h1 h2
      go_wp2_with fail
      go_quiet (fail)
      go_wp2_with fail
      go_ret
      exact⟨Qx (Qu8 HEF.out.1 HEF.out.2 (fun h=>HQ.out (congrArg Prod.snd h))).symm,((Qt.drewN w _).trans (Qt.drewN _ _)).below⟩
    ·have hb1:(e1.toList==f1.toList)=false:=by simpa using h1
     have HQ:=hid h1;clear h1
     go_wp2_with fail
     go_quiet (fail)
     go_wp2_with fail
     go_ret
     exact⟨Qx (Qu8 HEF.out.1 HEF.out.2 (fun h=>HQ.out (congrArg Prod.fst h))).symm,((Qt.drewN w _).trans (Qt.drewN _ _)).below⟩
   ·go_wp2_with fail
    go_ret
    exact⟨Qx (by have:=HE.out;rw[List.take_of_length_le (by rw[HN.out.1];omega),List.take_of_length_le (by rw[HN.out.2];omega)]at this;simp[this]),(Qt.drewN w nq).below⟩
 ·have hbn:((xs.length:Int) != (ys.length:Int))=true:=by simp;omega
  have HD:Hid (decide (xs.map toL=ys.map toL)=false):=by
   show decide (xs.map toL=ys.map toL)=false
   rw[decide_eq_false_iff_not];exact fun h=>hne (by have:=congrArg List.length h;simpa using this)
  generalize hn1:xs.length=n at *
  generalize hn2:ys.length=m at *
  clear hn1 hn2
  go_enter func95,ntmps95
  go_wp2_with fail
  go_ret
  exact⟨Qx HD.out.symm,Below.refl _ _⟩
theorem Qev(a:Addr)(n c:Nat)(xs:List Ent)(h:Ql w 2 (.slice (some a) n c) n (eC xs))(hn:n<=4294967296) :
  Calls prog 93 #[.slice (some a) n c] w fun r w'=>∃ g cap,r = .returned (.slice (some ⟨g,0,none⟩) n cap)/\Qj w' 171 2 (.slice (some ⟨g,0,none⟩) n cap) n (eC xs)/\w.heap.size<=g/\Below w.heap.size w w':=by
 obtain⟨i0,hi,hz0,hz1,hz2⟩:=info_parts Qfl;have I:=hid (And.intro hi (And.intro hz0 (And.intro hz1 hz2)));clear hi hz0 hz1 hz2
 have H:=hid h;have H1:=hid (Qmm xs);clear h
 generalize eC xs=fx at *
 have hq:=fun wx=>Lib.run_eql_slice_nil (P:=prog) wx 172 171 (some a) n c 0 0 underlying172
 go_enter func93,ntmps93
 go_wp2_with (at_builtin;refine Qc _ rfl _ _ 172 rfl 171 i0 _ 2 24 underlying172 I.out.1 I.out.2.1 I.out.2.2.1 I.out.2.2.2 rfl (by decide) _ 0 [] rfl ?h0 _ n fx rfl ?h1 ?h2 ?h3 ?h4 ?_)
 case h0=>exact Qj.new _ _ _ 2 0 0 rfl (Nat.le_refl _) (Nat.zero_le _)
 case h1=>exact H.out.alloc _
 case h2=>exact H1.out
 case h3=>unfold maxLen;omega
 case h4=>omega
 intro v' w1 o1 g1 b1 n1;have O1:=hid o1;have G1:=hid g1;have B1:=hid b1;clear o1 g1 b1 n1
 go_wp2
 go_ret
 have hb:Below w.heap.size w w1:=((Below.refl _ _).alloc (Nat.le_refl _) _).grown G1.out (by simp) (fun k hk=>by cases hk;exact Nat.le_refl _);obtain⟨a',c',hv⟩:=O1.out.slice;have O2:=O1.out;have B2:=B1.out;rw[hv]at O2 B2
 rcases B2 with h | h
 ·simp only[Zc]at h
  subst h;exact⟨w.heap.size,c',by rw[<- hv];rfl,O2,Nat.le_refl _,hb⟩
 ·simp only[Zc]at h
  subst h;exact⟨w.heap.size+1,c',by rw[<- hv];rfl,O2,Nat.le_succ _,hb⟩
theorem Qf1{P:Program}{o:Oper}{a:Act}{K:Act->World->Prop}{Q:Exit->Act->World->Prop}(s x:Operand)(t:TypeId)
  (ho:o.op = .call {callee:=.builtin .append,args:=#[s,x],argTypes:=#[t,t]})
  (e:TypeId) (i:TypeInfo) (z:Value) (size bytes:Nat) (ht:P.underlying t=some (.slice e)) (hi:P.info? e=some i) (hz:i.zero=some z)
  (hsize:i.size=size) (hby:i.bytes=bytes) (hzs:z.cells.size=size) (hsz:0<size)
  (v:Value) (n:Nat) (xs:List Value) (hs:a.eval s=v) (hown:Qj w e size v n xs)
  (xv:Value) (m:Nat) (news:List Value) (hx:a.eval x=xv) (hnews:Ql w size xv m news) (h1:∀ u∈news,u.oneCell'=true)
  (h63:n+m<=maxLen) (hbytes:(n+m)*bytes<=140737488355328)
  (h:∀ v' w',Qj w' e size v' (n+m) (xs++news)->w.grownBy w' v.ownBlock->(Zc v'=Zc v\/Zc v'=some ⟨w.heap.size,0,none⟩)->K (a.put o.dst v') w'):Oper.wp P o a w K Q:=by
 obtain⟨v',w',hr,h2,h3,h4,_⟩:=Wz (P:=P) w t o.type e i z size bytes ht hi hz hsize hby hzs v n xs hown xv m news hnews h1 h63 hbytes hsz;unfold Oper.wp execOp;simp only[ho,resolve,invoke,builtin,Sem.run_bind,Sem.run_pure,Result.andThen_ok,List.map_toArray,List.map_cons,List.map_nil,hs,hx,hr];exact h v' w' h2 h3 h4
theorem Qop{v:DV}{own:Nat->Option Qp}{D:Dev}{g n x:Nat}{F:Nat->Int}{B:Nat}(hN:Nib w)(hg:Mt w g)(P:Pst B w v D own w)(_h0:0<B)(h1:g<B)(hS:SCl D 0 n F x)(hn:64<=n)(hx:x<=1000)(e:Bool) :
  Calls prog 92 #[(.iface 40 (.pointer (some ⟨v.tb 0,0,none⟩))),.bool e,.pointer (some ⟨g,0,none⟩)] w fun r w'=>r = .returned (.bool (gRt F e))/\Below B w w':=by
 have HB0:=hid P.size;have HO:=hid (Lb hN P.dev hS hn);unfold Q5v at HO;have HGC:Hid (∀ wx,Below B w wx->wx.cell? ⟨g,0,none⟩=some (.func (.func 87) #[] #[])):=hid (fun wx hb=>(hg.above hb h1).cell);unfold gRt
 by_cases hop:Bz (rtW F)=0
 case neg=>
  have hop2:((Bz (rtW F):Nat):Int)≠0:=by omega
  have hob:(((Bz (rtW F):Nat):Int) != 0)=true:=by simpa using hop2
  have HO1:Hid (Calls prog 62 #[(.iface 40 (.pointer (some ⟨v.tb 0,0,none⟩))),.int .i64 2] w fun r w'=>r = .returned (.tuple #[.pointer none,.int .i64 (Bz (rtW F):Nat)])/\Below w.heap.size w w'):=hid (HO.out.mono fun r w' hp=>by
   rcases hp with ⟨_,k⟩ | ⟨k,_⟩
   ·exact k
   ·exact absurd k hop)
  rw[decide_eq_false hop];clear hN hg P h1 hS hn hx hop HO HGC hop2
  generalize ((Bz (rtW F):Nat):Int)=oe at *
  go_enter func92,ntmps92
  go_wp2_with fail
  (with_reducible refine HO1.out.mono ?_)
  rintro r w1 ⟨rfl,b1⟩;have B1:=hid (b1.mono HB0.out);clear b1;go_wp2_with fail
  go_ret
  exact⟨rfl,B1.out⟩
 case pos=>
 have HO1:Hid (Calls prog 62 #[(.iface 40 (.pointer (some ⟨v.tb 0,0,none⟩))),.int .i64 2] w fun r w'=>r = .returned (.tuple #[.pointer (some ⟨w.heap.size,0,none⟩),.int .i64 0])/\Yg w' w.heap.size 128 (.iface 40 (.pointer (some ⟨v.tb 0,0,none⟩)))/\Below w.heap.size w w'):=hid (HO.out.mono fun r w' hp=>by
  rcases hp with ⟨k,_⟩ | ⟨_,k⟩
  ·exact absurd hop k
  ·exact k)
 rw[decide_eq_true hop,Bool.true_and];have HPT:Hid (∀ (i:Nat),1<=i->i<=3->∀ wx,Calls prog 87 #[.int .u64 i] wx fun r w'=>r = .returned (.int .u64 (ptV i:Nat))/\wx=w'):=hid (fun i a b wx=>Bv (w:=wx) i a b);have HP1:Hid (∀ wx,Calls prog 87 #[.int .u64 1] wx fun r w'=>r = .returned (.int .u64 (ptV 1:Nat))/\wx=w'):=hid (HPT.out 1 (by omega) (by omega));have HP2:Hid (∀ wx,Calls prog 87 #[.int .u64 2] wx fun r w'=>r = .returned (.int .u64 (ptV 2:Nat))/\wx=w'):=hid (HPT.out 2 (by omega) (by omega));have HP3:Hid (∀ wx,Calls prog 87 #[.int .u64 3] wx fun r w'=>r = .returned (.int .u64 (ptV 3:Nat))/\wx=w'):=hid (HPT.out 3 (by omega) (by omega));have HL:Hid (∀ wx b,Below w.heap.size w wx->Yg wx b 128 (.iface 40 (.pointer (some ⟨v.tb 0,0,none⟩)))->Calls prog 94 #[.pointer (some ⟨b,0,none⟩)] wx fun r w'=>∃ ov,r = .returned ov/\Acc wx wx.heap.size w' 171 2 ov (Tm (Gs (rtW F) 16)).length (eC (Tm (Gs (rtW F) 16)))):=hid (fun wx b hb hd=>by
  have:=Ta (hS.don hn (P.next hb).dev hd)
  rwa [<- Kg (Gs (rtW F) 16)]at this)
 have HST:Hid (∀ wx b,Below w.heap.size w wx->Yg wx b 128 (.iface 40 (.pointer (some ⟨v.tb 0,0,none⟩)))->Calls prog 90 #[.pointer (some ⟨b,0,none⟩),.string ⟨#[97]⟩,.int .u64 (ptV 3:Nat)] wx fun r w'=>(Qch (rtW F) [97] (ptV 3) 4096≠0/\r = .returned (.int .i64 (Qch (rtW F) [97] (ptV 3) 4096:Nat))/\Below wx.heap.size wx w') \/
   (Qch (rtW F) [97] (ptV 3) 4096=0/\r = .returned (.int .i64 0)/\Below B w w'/\wx.heap.size<=w'.heap.size/\(∀ k,w.heap.size<=k->k<wx.heap.size->w'.heap[k]? = wx.heap[k]?) /\
    ∀ wy b2 (k:Nat) (q:Nat) (u:Value),w.heap.size<=k->k<wx.heap.size->wy=(w'.setCell ⟨k,q,none⟩ u)->Yg wy b2 128 (.iface 40 (.pointer (some ⟨v.tb 0,0,none⟩)))->Calls prog 94 #[.pointer (some ⟨b2,0,none⟩)] wy fun r w2=>∃ ov,r = .returned ov/\Acc wy wy.heap.size w2 171 2 ov (Tm (Gs (rtW (rtC F [97] (ptV 3))) 16)).length (eC (Tm (Gs (rtW (rtC F [97] (ptV 3))) 16))))):=hid (fun wx b hb hd=>by
  refine(Qdr (hS.don hn (P.next hb).dev hd) (hN.below hb) ⟨#[97]⟩ (ptV 3) (Cd 3) (by have:=hS.exec;omega)).mono ?_
  rw[Que,hS.grp.on.n,Qu3 _ _ (by omega) (by omega) (show 4096<=64*n by omega)];rintro r w' (⟨k,k2,k3⟩ | ⟨k,rfl,d⟩)
  ·exact .inl ⟨k,k2,k3⟩
  ·have hS2:=Qpt hS hn [97] (ptV 3) _ (Is k) (Cd 3)
   have dd:=d;obtain⟨own2,d2,o2,u2⟩:=d;have P2:=(P.next hb).go d2 o2 u2;refine .inr ⟨k,by rw[hS2.grp.on.err],P2.bel,u2.size,fun k h1 h2=>u2.block k h2 (fun ho=>by have:=P.dev.lt k ho;omega),fun wy b2 k q u hk1 hk2 hwy hb2 => ?_⟩
   have hok:own2 k=none:=by
    rw[o2 k hk2]
    cases hh:own k with
    | none=>rfl
    | some r=>have:=P.dev.lt k (by rw[hh];simp);omega
   have P3:=P2.set (p:=⟨k,q,none⟩) (by have:=P.size;show B<=k;omega) hok u;subst hwy;have:=Ta (hS2.don hn P3.dev hb2)
   rwa [<- Kg (Gs _ 16)]at this)
 have hex:rtL F=(Tm (Gs (rtW F) 16)).map toL:=(Qvq F).symm;have hex2:rtL (rtC F [97] (ptV 3))=(Tm (Gs (rtW (rtC F [97] (ptV 3))) 16)).map toL:=(Qvq _).symm;have hl1:=Kg (Gs (rtW F) 16);have hl2:=Kg (Gs (rtW (rtC F [97] (ptV 3))) 16);have hl3:=Px (rtW F) 16;have hl4:=Px (rtW (rtC F [97] (ptV 3))) 16;rw[hex,hex2];clear hN hg P h1 hS hn hx hop HO HPT hex hex2
 generalize Tm (Gs (rtW (rtC F [97] (ptV 3))) 16)=S2 at *
 generalize Tm (Gs (rtW F) 16)=S1 at *
 generalize Qch (rtW F) [97] (ptV 3) 4096=er at *
 have hs1:S1.length<=16:=by omega
 have hs2:S2.length<=16:=by omega
 clear hl1 hl2 hl3 hl4;obtain⟨sl,hsl⟩:∃ sl,S1.length=sl:=⟨_,rfl⟩;have SL:=hid hsl;have HEA:Hid (∀ wx u vv,Ql wx 2 u sl (eC S1)->Ql wx 2 vv 2 (eC [(⟨#[97]⟩,ptV 1),(⟨#[98]⟩,ptV 2)])->Calls prog 95 #[u,vv] wx fun r w'=>r = .returned (.bool (decide (S1.map toL = [([97],ptV 1),([98],ptV 2)])))/\Below wx.heap.size wx w'):=hid (fun wx u vv h1 h2=>by
  rw[<- SL.out]at h1;have:=Wh (w:=wx) u vv S1 [(⟨#[97]⟩,ptV 1),(⟨#[98]⟩,ptV 2)] h1 h2 (by omega) (by simp)
  rwa [show List.map toL [((⟨#[97]⟩:ByteArray),ptV 1),(⟨#[98]⟩,ptV 2)] = [([97],ptV 1),([98],ptV 2)]by simp[toL]]at this)
 have HEB:Hid (∀ wx u vv,Ql wx 2 u sl (eC S1)->Ql wx 2 vv 1 (eC [(⟨#[97]⟩,ptV 1)])->Calls prog 95 #[u,vv] wx fun r w'=>r = .returned (.bool (decide (S1.map toL = [([97],ptV 1)])))/\Below wx.heap.size wx w'):=hid (fun wx u vv h1 h2=>by
  rw[<- SL.out]at h1;have:=Wh (w:=wx) u vv S1 [(⟨#[97]⟩,ptV 1)] h1 h2 (by omega) (by simp)
  rwa [show List.map toL [((⟨#[97]⟩:ByteArray),ptV 1)] = [([97],ptV 1)]by simp[toL]]at this)
 have HNE:Hid ((decide (S1.map toL = [([97],ptV 1),([98],ptV 2)]) || decide (S1.map toL = [([97],ptV 1)]))=true->∃ e0 T,S1=e0::T):=hid (fun h=>by
  cases S1 with
  | nil=>simp at h
  | cons e0 T=>exact⟨e0,T,rfl⟩)
 have HLN:Hid ((decide (S1.map toL = [([97],ptV 1),([98],ptV 2)]) || decide (S1.map toL = [([97],ptV 1)]))=true->0<sl):=hid (fun h=>by
  obtain⟨e0,T,h2⟩:=HNE.out h;rw[<- SL.out,h2];simp)
 unfold Q8n;obtain⟨bA,hbA⟩:∃ b,decide (S1.map toL = [([97],ptV 1),([98],ptV 2)])=b:=⟨_,rfl⟩;obtain⟨bB,hbB⟩:∃ b,decide (S1.map toL = [([97],ptV 1)])=b:=⟨_,rfl⟩;rw[hbA]at HEA;rw[hbB]at HEB;rw[hbA,hbB]at HNE HLN ⊢;rw[hsl]at HL;rw[hsl]at hs1;clear hbA hbB hsl;obtain⟨i0,hi,hz0,hz1,hz2⟩:=info_parts Qfl;have I:=hid (And.intro hi (And.intro hz0 (And.intro hz1 hz2)));clear hi hz0 hz1 hz2;have HCL:Hid (∀ (wx:World) (a:Addr),Ql wx 2 (.slice (some a) 1 1) 1 (eC [(⟨#[97]⟩,ptV 1)])->Calls prog 93 #[.slice (some a) 1 1] wx fun r w'=>∃ g cap,r = .returned (.slice (some ⟨g,0,none⟩) 1 cap)/\Qj w' 171 2 (.slice (some ⟨g,0,none⟩) 1 cap) 1 (eC [(⟨#[97]⟩,ptV 1)])/\wx.heap.size<=g/\Below wx.heap.size wx w'):=hid (fun wx a h=>Qev a 1 1 [(⟨#[97]⟩,ptV 1)] h (by omega))
 go_enter func92,ntmps92
 go_wp2_with fail
 (with_reducible refine HO1.out.mono ?_)
 rintro r w1 ⟨rfl,d1,b1⟩;have D1:=hid d1;have B1:=hid b1
 have c0:=HGC.out w1 (b1.mono HB0.out);clear d1 b1 HO1;go_wp2_with fail
 (with_reducible refine(HP1.out _).mono ?_)
 rintro r w2 ⟨rfl,rfl⟩;have RB:=hid (Ql.new w1 #[.string ⟨#[97]⟩,.int .u64 (ptV 1:Nat)] 171 2 1 rfl);have BA:=hid (Qa w1 (.cells #[.string ⟨#[97]⟩,.int .u64 (ptV 1:Nat)] 171));have C2:Hid ((w1.alloc (.cells #[.string ⟨#[97]⟩,.int .u64 (ptV 1:Nat)] 171)).drew.cell? ⟨g,0,none⟩=some (.func (.func 87) #[] #[])):=hid (HGC.out _ ((B1.out.trans (BA.out.mono B1.out.size)).mono HB0.out).drew);clear c0;go_wp2_with fail
 refine wp_region_held (S:=(fun wx=>wx.cell? ⟨g,0,none⟩=some (.func (.func 87) #[] #[]))) (by kernel_rfl) ?_
 change wpAnyH _ _ _ _ _ _ _ _ (World.drew _)
 refine tkH 0 (.slice (some ⟨w1.heap.size,0,none⟩) 1 1) rfl (fun w _=>by go_simp) C2.out ?_
 refine tkH 2 (.func (.func 87) #[] #[]) rfl (fun wx hx=>(by have c:=hx;go_simp)) C2.out ?_
 refine onH 1 rfl (fun K hK => ?_);go_simp
 (with_reducible refine(HCL.out _ _ RB.out.drew).mono ?_)
 rintro e w4 ⟨gc,cc,rfl,o4,g4,b4⟩;have O4:=hid o4;have G4:=hid g4;have B4:Hid (Below w1.heap.size w1 w4):=hid ((BA.out.drew).trans (b4.mono (by simp)));have C4:=hid (HGC.out w4 ((B1.out.trans (B4.out.mono B1.out.size)).mono HB0.out));have RB4:=hid (RB.out.drew.below b4);clear o4 g4 b4
 go_simp;refine hK _ _ ⟨C4.out,?_⟩;clear hK K
 refine onH 3 rfl (fun K hK => ?_);go_simp
 (with_reducible refine(HP2.out _).mono ?_)
 rintro e w5 ⟨rfl,rfl⟩
 go_simp;refine hK _ _ ⟨C4.out,?_⟩;clear hK K
 refine onH 4 rfl (fun K hK => ?_);go_simp;refine hK _ _ ⟨C4.out,?_⟩;clear hK K
 have C5:=hid (HGC.out (w4.alloc (.cells #[.string ⟨#[98]⟩,.int .u64 (ptV 2:Nat)] 171)) (((B1.out.trans (B4.out.mono B1.out.size)).mono HB0.out).alloc (Nat.le_trans HB0.out (Nat.le_trans B1.out.size B4.out.size)) _));refine onH 5 rfl (fun K hK => ?_);go_simp;refine hK _ _ ⟨C5.out,?_⟩;clear hK K
 refine Qb (i:=6) (by kernel_rfl) rfl rfl (fun K hK => ?_)
 refine Qf1 (.tmp 23) (.tmp 27) 172 rfl 171 i0 _ 2 24 underlying172 I.out.1 I.out.2.1 I.out.2.2.1 I.out.2.2.2 rfl (by decide) (.slice (some ⟨gc,0,none⟩) 1 cc) 1 (eC [(⟨#[97]⟩,ptV 1)]) rfl (O4.out.alloc _) _ 1 (eC [(⟨#[98]⟩,ptV 2)]) rfl (Ql.newAt _ _ _ 2 1 _ rfl rfl) (Qmm _) (by unfold maxLen;omega) (by omega) ?_
 intro v6 w6 o6 g6 a6;have B6:Hid (Below w1.heap.size w1 w6):=hid ((B4.out.alloc B4.out.size _).grown g6 (by have:=B4.out.size;simp;omega) (fun k hk=>by cases hk;have:=G4.out;simp at this;show w1.heap.size<=gc;omega));have R6:Hid (Ql w6 2 v6 2 (eC [(⟨#[97]⟩,ptV 1),(⟨#[98]⟩,ptV 2)])):=hid o6.rd;have RB6:=hid ((RB4.out.alloc (.cells #[.string ⟨#[98]⟩,.int .u64 (ptV 2:Nat)] 171)).kept (fun k hk hlt=>g6.block k hlt (fun e=>by
  have h1:=G4.out;have e1:gc=k:=by simpa [Value.ownBlock]using e.symm
  have e2:w1.heap.size=k:=by simpa [Value.ownBlock]using hk
  simp at h1;omega)))
 have BW:=hid (B1.out.trans (B6.out.mono B1.out.size));have C6:=hid (HGC.out w6 (BW.out.mono HB0.out));clear o6 g6 a6;refine hK _ _ ⟨C6.out,?_⟩
 clear hK K;refine onH 7 rfl (fun K hK => ?_);go_simp;refine hK _ _ ⟨C6.out,?_⟩;clear hK K
 refine wpAnyH_done (by kernel_rfl) ?_ _
 have D6:=hid (D1.out.next B6.out);have HL1:=hid (HL.out w6 _ BW.out D6.out);clear C2 C4 C5 C6 O4 RB4 RB HL;go_wp2_with fail
 (with_reducible refine HL1.out.mono ?_)
 rintro r w7 ⟨ov,rfl,a7⟩;obtain⟨oa,oc,hov⟩:=a7.slice;subst hov;have B7:=hid (BW.out.trans (a7.bel.mono BW.out.size));have D7:=hid (D6.out.next a7.bel);have AO7:=hid a7.own;have ON:Hid (∀ k,(Value.slice oa sl oc).ownBlock=some k->w.heap.size<=k):=hid (fun k hk=>Nat.le_trans BW.out.size (a7.new k hk));have ND:Hid (∀ k,(Value.slice oa sl oc).ownBlock=some k->w.heap.size<k):=hid (fun k hk=>Nat.lt_of_lt_of_le D6.out.blk.lt (a7.new k hk));have RB7:=hid (RB6.out.below a7.bel);have HE7:=hid (HEA.out w7 _ _ a7.rd (R6.out.below a7.bel));clear a7 HL1 HEA R6 RB6;go_wp2_with fail
 (with_reducible refine HE7.out.mono ?_)
 rintro r w8 ⟨rfl,b8⟩;have B8:=hid (B7.out.trans (b8.mono B7.out.size));have D8:=hid (D7.out.next b8);have AO8:=hid (AO7.out.kept (fun k hk=>b8.block k (AO7.out.lt k hk)));have RB8:=hid (RB7.out.below b8);clear b8 HE7 RB7 AO7 D7 B7
 cases bA
 ·cases e
  ·have HE8:=hid (HEB.out w8 _ _ AO8.out.rd RB8.out)
   go_wp2_with fail
   (with_reducible refine HE8.out.mono ?_)
   rintro r w9 ⟨rfl,b9⟩;have B9:=hid (B8.out.trans (b9.mono B8.out.size));have D9:=hid (D8.out.next b9);have AO9:=hid (AO8.out.kept (fun k hk=>b9.block k (AO8.out.lt k hk)));clear b9 HE8 RB8 HEB
   cases bB
   ·have B10:=hid (B9.out.mono HB0.out)
    go_wp2_with fail
    go_ret
    exact⟨rfl,B10.out⟩
   ·have hpos:=HLN.out rfl
    have hpos2:(0:Int)<sl:=by omega
    clear hpos;have c0:=HGC.out w9 (B9.out.mono HB0.out);go_wp2_with fail
    (with_reducible refine(HP3.out _).mono ?_)
    rintro r wq ⟨rfl,rfl⟩;have HS1:=hid (HST.out _ _ B9.out D9.out);go_wp2_with fail
    (with_reducible refine HS1.out.mono ?_)
    rintro r w12 (⟨he,rfl,b12⟩ | ⟨he,rfl,b12,z12,k12,hl12⟩)
    ·have heb:(((er:Nat):Int) != 0)=true:=by simp;omega
     have HE:=hid he;have B12:=hid ((B9.out.trans (b12.mono B9.out.size)).mono HB0.out);clear he b12;go_wp2_with fail
     go_ret
     exact⟨by simp[HE.out],B12.out⟩
    ·have HE:=hid he
     have B12:=hid b12;have AO12:=hid (AO9.out.kept (fun k hk=>k12 k (ON.out k hk) (AO9.out.lt k hk)));have D12:Hid (Yg w12 w.heap.size 128 (.iface 40 (.pointer (some ⟨v.tb 0,0,none⟩)))):=hid ⟨(k12 _ (Nat.le_refl _) D9.out.blk.lt).trans D9.out.blk⟩;have c0:=HGC.out w12 b12;obtain⟨e0,T,hS⟩:=HNE.out (by simp);obtain⟨lg,lo,hoa,hcl,hfr,hlt,ho2⟩:=AO12.out.setQ (i:=1) (by omega) (.int .u64 (ptV 3:Nat));subst hoa;rw[hS]at hcl;have hcl2:w12.cell? ⟨lg,lo+1,none⟩=some (.int .u64 (e0.2:Nat)):=hcl;have hlg:w.heap.size<=lg:=ON.out lg rfl;have hlg2:=AO9.out.lt lg rfl;have D13:Hid (Yg (w12.setCell ⟨lg,lo+1,none⟩ (.int .u64 (ptV 3:Nat))) w.heap.size 128 (.iface 40 (.pointer (some ⟨v.tb 0,0,none⟩)))):=hid ⟨D12.out.blk.other (by have:=ND.out lg rfl;show w.heap.size≠lg;omega) _⟩;have HL13:=hid (hl12 _ w.heap.size lg (lo+1) _ hlg hlg2 rfl D13.out);have B13:=hid (B12.out.setCell (p:=⟨lg,lo+1,none⟩) (Nat.le_trans HB0.out hlg) (.int .u64 (ptV 3:Nat)));have O13:Hid (Qj (w12.setCell ⟨lg,lo+1,none⟩ (.int .u64 (ptV 3:Nat))) 171 2 (.slice (some ⟨lg,lo,none⟩) sl oc) ((e0.1,ptV 3)::T).length (eC ((e0.1,ptV 3)::T))):=hid (by
      have:=ho2;rw[hS]at this;rw[show((e0.1,ptV 3)::T).length=sl by rw[<- SL.out,hS];rfl];exact this)
     have HQ:Hid (((e0.1,ptV 3)::T).map toL=Q7h (S1.map toL)):=hid (by rw[hS];rfl);have HTL:Hid (((e0.1,ptV 3)::T).length<=100000/\((e0.1,ptV 3)::T).length=sl):=hid (by rw[show((e0.1,ptV 3)::T).length=sl by rw[<- SL.out,hS];rfl];exact⟨by omega,rfl⟩)
     generalize ((e0.1,ptV 3)::T)=S3 at *
     clear he b12 z12 k12 hl12 hcl hS ho2 HS1;go_wp2_with fail
     (with_reducible refine(HP3.out _).mono ?_)
     rintro r wq ⟨rfl,rfl⟩;go_wp2_with fail
     (with_reducible refine HL13.out.mono ?_)
     rintro r w14 ⟨ov2,rfl,a14⟩;have HEQ:=hid (Wh (w:=w14) ov2 (.slice (some ⟨lg,lo,none⟩) sl oc) S2 S3 a14.rd (by have:=(O13.out.kept (fun k hk=>a14.bel.block k (O13.out.lt k hk))).rd;rw[HTL.out.2]at this ⊢;exact this) (by omega) HTL.out.1);have B14:=hid (B13.out.trans (a14.bel.mono (Nat.le_trans HB0.out B13.out.size)));clear a14 HL13;go_wp2_with fail
     (with_reducible refine HEQ.out.mono ?_)
     rintro r w15 ⟨rfl,b15⟩;have B15:=hid (B14.out.trans (b15.mono (Nat.le_trans HB0.out B14.out.size)));clear b15;go_wp2_with fail
     go_ret
     exact⟨by rw[HQ.out];simp[HE.out],B15.out⟩
  ·have B10:=hid (B8.out.mono HB0.out)
   go_wp2_with fail
   go_ret
   exact⟨rfl,B10.out⟩
 ·have hpos:=HLN.out rfl
  have hpos2:(0:Int)<sl:=by omega
  clear hpos;have c0:=HGC.out w8 (B8.out.mono HB0.out);go_wp2_with fail
  (with_reducible refine(HP3.out _).mono ?_)
  rintro r wq ⟨rfl,rfl⟩;have HS1:=hid (HST.out _ _ B8.out D8.out);go_wp2_with fail
  (with_reducible refine HS1.out.mono ?_)
  rintro r w12 (⟨he,rfl,b12⟩ | ⟨he,rfl,b12,z12,k12,hl12⟩)
  ·have heb:(((er:Nat):Int) != 0)=true:=by simp;omega
   have HE:=hid he;have B12:=hid ((B8.out.trans (b12.mono B8.out.size)).mono HB0.out);clear he b12;go_wp2_with fail
   go_ret
   exact⟨by simp[HE.out],B12.out⟩
  ·have HE:=hid he
   have B12:=hid b12;have AO12:=hid (AO8.out.kept (fun k hk=>k12 k (ON.out k hk) (AO8.out.lt k hk)));have D12:Hid (Yg w12 w.heap.size 128 (.iface 40 (.pointer (some ⟨v.tb 0,0,none⟩)))):=hid ⟨(k12 _ (Nat.le_refl _) D8.out.blk.lt).trans D8.out.blk⟩;have c0:=HGC.out w12 b12;obtain⟨e0,T,hS⟩:=HNE.out (by simp);obtain⟨lg,lo,hoa,hcl,hfr,hlt,ho2⟩:=AO12.out.setQ (i:=1) (by omega) (.int .u64 (ptV 3:Nat));subst hoa;rw[hS]at hcl;have hcl2:w12.cell? ⟨lg,lo+1,none⟩=some (.int .u64 (e0.2:Nat)):=hcl;have hlg:w.heap.size<=lg:=ON.out lg rfl;have hlg2:=AO8.out.lt lg rfl;have D13:Hid (Yg (w12.setCell ⟨lg,lo+1,none⟩ (.int .u64 (ptV 3:Nat))) w.heap.size 128 (.iface 40 (.pointer (some ⟨v.tb 0,0,none⟩)))):=hid ⟨D12.out.blk.other (by have:=ND.out lg rfl;show w.heap.size≠lg;omega) _⟩;have HL13:=hid (hl12 _ w.heap.size lg (lo+1) _ hlg hlg2 rfl D13.out);have B13:=hid (B12.out.setCell (p:=⟨lg,lo+1,none⟩) (Nat.le_trans HB0.out hlg) (.int .u64 (ptV 3:Nat)));have O13:Hid (Qj (w12.setCell ⟨lg,lo+1,none⟩ (.int .u64 (ptV 3:Nat))) 171 2 (.slice (some ⟨lg,lo,none⟩) sl oc) ((e0.1,ptV 3)::T).length (eC ((e0.1,ptV 3)::T))):=hid (by
    have:=ho2;rw[hS]at this;rw[show((e0.1,ptV 3)::T).length=sl by rw[<- SL.out,hS];rfl];exact this)
   have HQ:Hid (((e0.1,ptV 3)::T).map toL=Q7h (S1.map toL)):=hid (by rw[hS];rfl);have HTL:Hid (((e0.1,ptV 3)::T).length<=100000/\((e0.1,ptV 3)::T).length=sl):=hid (by rw[show((e0.1,ptV 3)::T).length=sl by rw[<- SL.out,hS];rfl];exact⟨by omega,rfl⟩)
   generalize ((e0.1,ptV 3)::T)=S3 at *
   clear he b12 z12 k12 hl12 hcl hS ho2 HS1;go_wp2_with fail
   (with_reducible refine(HP3.out _).mono ?_)
   rintro r wq ⟨rfl,rfl⟩;go_wp2_with fail
   (with_reducible refine HL13.out.mono ?_)
   rintro r w14 ⟨ov2,rfl,a14⟩;have HEQ:=hid (Wh (w:=w14) ov2 (.slice (some ⟨lg,lo,none⟩) sl oc) S2 S3 a14.rd (by have:=(O13.out.kept (fun k hk=>a14.bel.block k (O13.out.lt k hk))).rd;rw[HTL.out.2]at this ⊢;exact this) (by omega) HTL.out.1);have B14:=hid (B13.out.trans (a14.bel.mono (Nat.le_trans HB0.out B13.out.size)));clear a14 HL13;go_wp2_with fail
   (with_reducible refine HEQ.out.mono ?_)
   rintro r w15 ⟨rfl,b15⟩;have B15:=hid (B14.out.trans (b15.mono (Nat.le_trans HB0.out B14.out.size)));clear b15;go_wp2_with fail
   go_ret
   exact⟨by rw[HQ.out];simp[HE.out],B15.out⟩
end
end

section
def sbQ:List (Nat×Nat×Int):=sbP ((Lk 2).withGen 2) 1
def sbC:Nat->Int:=Qf5 ((Lk 1).withGen 1) 0 (Qg8 (fun _=>0))
def rdC:Nat->Int:=Qvf 1 2 (fun i=>Qu [(640,0)] 0 i)
def udC:Nat->Int:=Ds 1 2 (fun _=>0)
def bkC:Nat->Int:=Qkd (fun _=>0) 1312 5 1
def bkQ:List (Nat×Nat×Int):=Rm bkC 1312 6 2
def lfC:Nat->Int:=fun i=>Qu (Qhj 28) 0 i
def Dq:Nat->Int:=rtC rtZ [97] (ptV 1)
theorem Q2y:∀ e∈sbQ,Qht e=true:=by decide +kernel
theorem Q2p:∀ e∈Zb 640 (rdW 3 4),Qht e=true:=by decide +kernel
theorem Q3l:∀ e∈udQ 3 4 (Ds 1 2 (fun _=>0)),Qht e=true:=by decide +kernel
theorem Q0k:∀ e∈bkQ,Qht e=true:=by decide +kernel
theorem Qxm:∀ e∈Yu lfC 6 2,Qht e=true:=by decide +kernel
theorem Q2u:∀ e∈Yt 128 (rtW Dq) [98] (ptV 2),Qht e=true:=by decide +kernel
theorem Qer:Gk bkC 1312:=(Gk.zero _ (fun _=>by simp) rfl).put (by omega) (by omega)
theorem Ql3:Qdk bkC 1312 6=0:=by kernel_rfl
theorem Qn2:Qlg lfC 6 2:=⟨by decide +kernel,by decide +kernel,by decide +kernel,Qxm,by decide +kernel,by decide +kernel,by decide +kernel⟩
theorem Qa8:Bz (rtW Dq)=0:=by kernel_rfl
theorem Qh2:Ry (rtW Dq) [98] (ptV 2) 4096=0:=by kernel_rfl
section
variable{D:Dev}{n x:Nat}
theorem Qp1(hn:48<=n):Np sbC n=true/\Kz sbC n=0/\Vn sbC n=(Lk 1).withGen 1:=by
 obtain⟨_,_,f3,f4,f5⟩:=Qjx ((Lk 1).withGen 1) ((Ru 1 (by omega) (by omega)).withGen 1) (by decide) (fun _=>0) (n:=n) (show(48:Int)<=(n:Int)by omega);exact⟨f3,f4,f5⟩
theorem Qbd(h:SCl D 0 n (fun _=>0) x)(hn:64<=n):SCl (D.run 0 Ts) 0 n sbC (x+24):=
 h.format (s:=(Lk 1).withGen 1) (((Ru 1 (by omega) (by omega)).withGen 1).fits (by decide) (by decide)) (show 2<=n by omega)
theorem Qa4(h:SCl D 0 n (fun _=>0) x)(hn:64<=n):SCl (D.run 0 Gf) 0 n rdC (x+30):=by
 have h1:=Ch (Qdn h hn) hn 1 2 (by omega) (by omega);have l1:=Zx [(640,(0:Int))];have l2:=Qf9 1 2;simp only[List.length_cons,List.length_nil]at l1;unfold Gf;rw[Dev.run_append];exact h1.mono (by omega)
theorem Io(h:SCl D 0 n (fun _=>0) x)(hn:64<=n):SCl (D.run 0 Tn) 0 n bkC (x+9):=
 (h.bcl.put (off:=1312) rfl (by omega) (k:=5) (v:=1) (by omega) (by omega) (by decide)).scl
theorem Qa9(h:SCl D 0 n (fun _=>0) x)(hn:64<=n):SCl (D.run 0 Gg) 0 n Dq (x+42):=by
 have h1:=Qpt (Qvr h hn) hn [97] (ptV 1) 4096 (Is Qps) (Cd 1);unfold Gg;rw[Dev.run_append];exact h1.mono (by omega)
end
end

section
open Go.Maps
section
variable{w wb:World}{v:DV}{own:Nat->Option Qp}{D D1:Dev}{a g g1 g2 n x:Nat}{C:Nat->Int}{q:List (Nat×Nat×Int)}{ok:(Nat->Int)->Prop}{gd:(Nat->Int)->Bool->Bool}
theorem Pst.base{B:Nat}{w':World}(P:Pst B w.drew v D own w'):Pst B w v D own w':=⟨P.dev,P.ab,((Below.refl B w).drew).trans P.bel,P.le⟩
theorem Ju{B:Nat}{w':World}(h:Below B w.drew w'):Below B w w':=((Below.refl B w).drew).trans h
theorem Qyr(h:SCl D 0 n C x):Qd2 D=0:=by
 have:∀ m,Qbt (fun l=>(D.hist l).length) m=0:=by
  intro m
  induction m with
  | zero=>rfl
  | succ m ih=>
   show Qbt (fun l=>(D.hist l).length) m+(D.hist m).length=0
   rw[ih,h.grp.hst.hist];rfl
 exact this _
theorem SyP.of(hn:64<=n)(hn2:n<=4096)(cl:SCl D1 0 n C x)(hx:x<=100)(hq:∀ e∈q,Qht e=true)(hl:q.length<=60)
  (setup:∀ (wx:World) (v:DV) (own:Nat->Option Qp) (B:Nat),Below wb.heap.size wb wx->(∀ k,own k≠none->B<=k)->wb.heap.size<=B->B<=wx.heap.size->IsDev wx v own (Dev.fresh n (fun _=>0)) ->
   Calls Tryz.prog 305 #[.pointer (some ⟨a,0,none⟩),.pointer (some ⟨v.db,0,none⟩)] wx fun r w'=>∃ x,r = .returned (.int .i64 x)/\x=0/\∃ own',Pst B wx v D1 own' w')
  (prog:∀ (wx:World) (v:DV) (own:Nat->Option Qp),Below wb.heap.size wb wx->(∀ k,own k≠none->wb.heap.size<=k)->IsDev wx v own D1 ->
   Calls Tryz.prog 304 #[.pointer (some ⟨a,0,none⟩),(.iface 40 (.pointer (some ⟨v.tb 0,0,none⟩)))] wx fun r w'=>∃ sv x,r = .returned (.tuple #[sv,.int .i64 x])/\x=0/\Acc wx wx.heap.size w' 73 3 sv q.length (Qd q))
  (good:∀ (wx:World) (v:DV) (own:Nat->Option Qp) (D:Dev) (x:Nat) (F:Nat->Int) (B:Nat) (e:Bool),Below wb.heap.size wb wx->ok F->SCl D 0 n F x->x<=1000->IsDev wx v own D->(∀ k,own k≠none->B<=k)->wb.heap.size<=B->B<=wx.heap.size ->
   Calls Tryz.prog 303 #[.pointer (some ⟨a,0,none⟩),.pointer (some ⟨v.db,0,none⟩),.bool e] wx fun r w'=>∃ x,r = .returned (.bool x)/\x=gd F e/\Below B wx w') :
  SyP wb a n D1 q ok gd where
 lo:=hn
 hi:=hn2
 dn:=cl.grp.on.n
 vb:=cl.vb
 ex:=by have:=cl.exec;omega
 tot:=Qyr cl
 len:=hl
 okq:=fun e he=>Kl (hq e he) hn
 setup:=fun wx v own B h1 h2 h3 h4 h5=>(setup wx v own B h1 h2 h3 h4 h5).mono fun r w' ⟨x,h6,h7,h8⟩=>⟨by rw[h6,h7],h8⟩
 prog:=fun wx v own h1 h2 h3=>(prog wx v own h1 h2 h3).mono fun r w' ⟨sv,x,h6,h7,h8⟩=>⟨sv,by rw[h6,h7],h8⟩
 good:=fun wx v own D x F B e h1 h2 h3 h4 h5 h6 h7 h8=>(good wx v own D x F B e h1 h2 h3 h4 h5 h6 h7 h8).mono fun r w' ⟨x,h9,h10,h11⟩=>⟨by rw[h9,h10],h11⟩
theorem Q2z{B:Nat}{w':World}(h:IsDev w v own D)(ab:∀ k,own k≠none->B<=k)(le:B<=w.heap.size){D':Dev}(hp:Qr v own w.drew D' w'):∃ own',Pst B w v D' own' w':=((Pst.start h.drew ab le).post hp).imp fun _ k=>k.base
theorem Zaj(ha:Blk wb a #[.func (.func 81) #[] #[.pointer (some ⟨g1,0,none⟩)],.func (.func 83) #[] #[.pointer (some ⟨g1,0,none⟩)],.func (.func 84) #[] #[.pointer (some ⟨g1,0,none⟩)]] 166)(hg:Pn wb g1)(hN:Nib wb)(h0:0<wb.heap.size)(hn:64<=n)(hn2:n<=4096) :
  SyP wb a n ((Dev.fresh n (fun _=>0)).run 0 Ts) sbQ (fun _=>True) (gSb n):=by
 have S0:=Xz (f:=fun _=>0) (fun _=>by omega) 0 n;have S1:=(Qbd S0 hn);have hg1:=hg.lt;obtain⟨f3,f4,f5⟩:=Qp1 (n:=n) (by omega);refine SyP.of hn hn2 S1 (by omega) Q2y (by decide +kernel) (fun wx v own B h1 h2 h3 h4 h5 => ?_) (fun wx v own h1 h2 h3 => ?_) (fun wx v own D x F B e h1 h2 h3 h4 h5 h6 h7 h8 => ?_)
 ·refine Qgm (ha.below h1) h5 hn ?_
  exact(Qoq ((hN.below h1).below (Below.refl _ _).drew) ((hg.below h1).below (Below.refl _ _).drew) h5.drew rfl (show 48<=n by omega) (show 0+100000<_ by omega)).mono fun r w' hp=>⟨_,hp.1,(by rw[S1.grp.on.err]),Q2z h5 h2 h4 hp.2⟩
 ·refine Qbg (ha.below h1) ?_
  exact((Qor (hN.below h1) (hg.below h1) h3 S1.grp.on.off S1.grp.on.err S1.vb (by rw[S1.grp.on.n];omega)).mono fun r w' hp=>by
   rw[S1.cur,S1.grp.on.n]at hp
   rcases hp with ⟨k,_⟩ | ⟨_,k,_⟩ | ⟨_,_,ov,rfl,a2⟩
   ·rw[f3]at k;cases k
   ·rw[f5]at k;exact absurd k (by decide)
   ·rw[f5,f4]at a2
    exact⟨ov,0,rfl,rfl,a2⟩)
 ·refine Qkv (ha.below h1) h5 e ?_
  exact(Qos ((hN.below h1).below (Below.refl _ _).drew) ((hg.below h1).below (Below.refl _ _).drew) (Pst.start h5.drew h6 h8) (Nat.lt_of_lt_of_le h0 h7) (Nat.lt_of_lt_of_le hg1 h7) h3 hn h4 e).mono fun r w' hp=>⟨_,hp.1,rfl,Ju hp.2⟩
theorem Zah(ha:Blk wb a #[.func (.func 99) #[] #[.pointer (some ⟨g1,0,none⟩)],.func (.func 101) #[] #[],.func (.func 102) #[] #[.pointer (some ⟨g1,0,none⟩)]] 166)(hg:Ms wb g1)(hN:Nib wb)(h0:0<wb.heap.size)(hn:64<=n)(hn2:n<=4096) :
  SyP wb a n ((Dev.fresh n (fun _=>0)).run 0 Gf) (Zb 640 (rdW 3 4)) (fun _=>True) (gRd n):=by
 have S0:=Xz (f:=fun _=>0) (fun _=>by omega) 0 n;have S1:=(Qa4 S0 hn);have hg1:=hg.lt;refine SyP.of hn hn2 S1 (by omega) Q2p (by decide +kernel) (fun wx v own B h1 h2 h3 h4 h5 => ?_) (fun wx v own h1 h2 h3 => ?_) (fun wx v own D x F B e h1 h2 h3 h4 h5 h6 h7 h8 => ?_)
 ·refine Qgo (ha.below h1) h5 hn ?_
  exact(Qok ((hN.below h1).below (Below.refl _ _).drew) ((hg.below h1).below (Below.refl _ _).drew) (Pst.start h5.drew h2 h4) (Nat.lt_of_lt_of_le h0 h3) (Nat.lt_of_lt_of_le hg1 h3) S0 hn (by omega)).mono fun r w' hp=>⟨_,hp.1,rfl,hp.2.imp fun _ k=>k.base⟩
 ·refine Qbi (ha.below h1) ?_
  exact((Qol (hN.below h1) h3 S1 (Qvg _ _ _) hn).mono fun r w' ⟨sv,h6,h7⟩=>⟨sv,0,h6,rfl,h7⟩)
 ·refine Qkx (ha.below h1) h5 e ?_
  exact(Qom ((hN.below h1).below (Below.refl _ _).drew) ((hg.below h1).below (Below.refl _ _).drew) (Pst.start h5.drew h6 h8) (Nat.lt_of_lt_of_le h0 h7) (Nat.lt_of_lt_of_le hg1 h7) h3 hn h4 e).mono fun r w' hp=>⟨_,hp.1,rfl,Ju hp.2⟩
theorem Zak(ha:Blk wb a #[.func (.func 109) #[] #[.pointer (some ⟨g2,0,none⟩)],.func (.func 110) #[] #[.pointer (some ⟨g1,0,none⟩)],.func (.func 111) #[] #[.pointer (some ⟨g2,0,none⟩)]] 166)(hg:Po wb g2)(hg2:Q0h wb g1)(hn:64<=n)(hn2:n<=4096) :
  SyP wb a n ((Dev.fresh n (fun _=>0)).run 0 Mj) (udQ 3 4 (Ds 1 2 (fun _=>0))) (fun _=>True) (gUd n):=by
 have S0:=Xz (f:=fun _=>0) (fun _=>by omega) 0 n;have S1:=(Cq S0 hn 1 2 (by omega) (by omega));have hg1:=hg.lt;refine SyP.of hn hn2 S1 (by omega) Q3l (by decide +kernel) (fun wx v own B h1 h2 h3 h4 h5 => ?_) (fun wx v own h1 h2 h3 => ?_) (fun wx v own D x F B e h1 h2 h3 h4 h5 h6 h7 h8 => ?_)
 ·refine Qgp (ha.below h1) h5 hn ?_
  exact(Qou ((hg.below h1).below (Below.refl _ _).drew) (Pst.start h5.drew h2 h4) S0 hn (by omega)).mono fun r w' hp=>⟨_,hp.1,rfl,hp.2.imp fun _ k=>k.base⟩
 ·refine Qbj (ha.below h1) ?_
  exact((Qov (Blk.below hg2 h1) h3 S1 (Wb (Qqi _ _ _)) hn).mono fun r w' ⟨sv,h6,h7⟩=>⟨sv,0,h6,rfl,h7⟩)
 ·refine Qky (ha.below h1) h5 e ?_
  exact(Qow ((hg.below h1).below (Below.refl _ _).drew) (Pst.start h5.drew h6 h8) (Nat.lt_of_lt_of_le hg1 h7) h3 hn h4 e).mono fun r w' hp=>⟨_,hp.1,rfl,Ju hp.2⟩
theorem Zaf(ha:Blk wb a #[.func (.func 113) #[] #[],.func (.func 115) #[] #[],.func (.func 116) #[] #[]] 166)(hn:64<=n)(hn2:n<=4096) :
  SyP wb a n ((Dev.fresh n (fun _=>0)).run 0 Tn) bkQ Qx0 gBk:=by
 have S0:=Xz (f:=fun _=>0) (fun _=>by omega) 0 n;have S1:=(Io S0 hn);refine SyP.of hn hn2 S1 (by omega) Q0k (by decide +kernel) (fun wx v own B h1 h2 h3 h4 h5 => ?_) (fun wx v own h1 h2 h3 => ?_) (fun wx v own D x F B e h1 h2 h3 h4 h5 h6 h7 h8 => ?_)
 ·refine Qgq (ha.below h1) h5 hn ?_
  exact(Qoc (Pst.start h5.drew h2 h4) S0 hn (by omega)).mono fun r w' hp=>⟨_,hp.1,rfl,hp.2.imp fun _ k=>k.base⟩
 ·refine Qbk (ha.below h1) ?_
  exact((Qod h3 S1 hn Qer Ql3).mono fun r w' ⟨sv,h6,h7⟩=>⟨sv,0,h6,rfl,h7⟩)
 ·refine Qkz (ha.below h1) h5 e ?_
  exact(Qoe (Pst.start h5.drew h6 h8) h3 hn h4 h2 e).mono fun r w' hp=>⟨_,hp.1,rfl,Ju hp.2⟩
theorem Zag(ha:Blk wb a #[.func (.func 122) #[] #[],.func (.func 125) #[] #[.pointer (some ⟨g1,0,none⟩)],.func (.func 126) #[] #[.pointer (some ⟨g1,0,none⟩)]] 166)(hg:Aj wb g1)(hn:64<=n)(hn2:n<=4096) :
  SyP wb a n ((Dev.fresh n (fun _=>0)).run 0 Uk) (Yu lfC 6 2) Qv7 gLf:=by
 have S0:=Xz (f:=fun _=>0) (fun _=>by omega) 0 n;have S1:=(Qhk S0 hn);refine SyP.of hn hn2 S1 (by rw[show Uk.length=33 by decide +kernel];omega) Qxm (by decide +kernel) (fun wx v own B h1 h2 h3 h4 h5 => ?_) (fun wx v own h1 h2 h3 => ?_) (fun wx v own D x F B e h1 h2 h3 h4 h5 h6 h7 h8 => ?_)
 ·refine Qgr (ha.below h1) h5 hn ?_
  exact(Qog (Pst.start h5.drew h2 h4) S0 hn (by omega)).mono fun r w' hp=>⟨_,hp.1,rfl,hp.2.imp fun _ k=>k.base⟩
 ·refine Qbl (ha.below h1) ?_
  exact((Qoh (hg.below h1) h3 S1.onC hn rfl rfl Qn2).mono fun r w' ⟨sv,h6,h7⟩=>⟨sv,0,h6,rfl,h7⟩)
 ·refine Qk0 (ha.below h1) h5 e ?_
  exact(Qoi ((hg.below h1).below (Below.refl _ _).drew) (Pst.start h5.drew h6 h8) h3 hn h4 h2 e).mono fun r w' hp=>⟨_,hp.1,rfl,Ju hp.2⟩
theorem Zai(ha:Blk wb a #[.func (.func 88) #[] #[.pointer (some ⟨g1,0,none⟩)],.func (.func 91) #[] #[.pointer (some ⟨g1,0,none⟩)],.func (.func 92) #[] #[.pointer (some ⟨g1,0,none⟩)]] 166)(hg:Mt wb g1)(hN:Nib wb)(h0:0<wb.heap.size)(hn:64<=n)(hn2:n<=4096) :
  SyP wb a n ((Dev.fresh n (fun _=>0)).run 0 Gg) (Yt 128 (rtW Dq) [98] (ptV 2)) (fun _=>True) gRt:=by
 have S0:=Xz (f:=fun _=>0) (fun _=>by omega) 0 n;have S1:=(Qa9 S0 hn);have hg1:=hg.lt;refine SyP.of hn hn2 S1 (by omega) Q2u (by decide +kernel) (fun wx v own B h1 h2 h3 h4 h5 => ?_) (fun wx v own h1 h2 h3 => ?_) (fun wx v own D x F B e h1 h2 h3 h4 h5 h6 h7 h8 => ?_)
 ·refine Qgn (ha.below h1) h5 hn ?_
  exact(Qon ((hN.below h1).below (Below.refl _ _).drew) ((hg.below h1).below (Below.refl _ _).drew) (Pst.start h5.drew h2 h4) (Nat.lt_of_lt_of_le h0 h3) (Nat.lt_of_lt_of_le hg1 h3) S0 hn (by omega)).mono fun r w' hp=>⟨_,hp.1,rfl,hp.2.imp fun _ k=>k.base⟩
 ·refine Qbh (ha.below h1) ?_
  exact((Qoo (hN.below h1) (hg.below h1) h3 S1 hn Qa8 Qh2).mono fun r w' ⟨sv,h6,h7⟩=>⟨sv,0,h6,rfl,h7⟩)
 ·refine Qkw (ha.below h1) h5 e ?_
  exact(Qop ((hN.below h1).below (Below.refl _ _).drew) ((hg.below h1).below (Below.refl _ _).drew) (Pst.start h5.drew h6 h8) (Nat.lt_of_lt_of_le h0 h7) (Nat.lt_of_lt_of_le hg1 h7) h3 hn h4 e).mono fun r w' hp=>⟨_,hp.1,rfl,Ju hp.2⟩
end
end

section
def Bd(F:Nat->Int):Prop:=∀ i,0<=F i/\F i<18446744073709551616
structure Ev(q:List (Nat×Nat×Int))(C:Nat->Int)(g64:(Nat->Int)->Bool->Bool)(okB:(Nat->Int)->Bool)(fn:Nat):Prop where
 ok:∀ f:Int,-1<=f->f<fn->(Gd (fun F _=>okB F) (Dev.fresh 64 C) (qOf f q) 1000).2.2=1
 sys:(Gd g64 (Dev.fresh 64 C) q 1000).2.2=1
 bad:∀ f:Int,0<=f->f<fn->(Gd g64 (Dev.fresh 64 C) (qOf f q) 1000).2.2=0
 fn:Kp q=fn
def Qx1(F:Nat->Int):Bool:=decide ((Sup.of (cpW F 0)).lin<=64)&&decide ((Sup.of (cpW F 1)).lin<=64)
theorem Qac{W:List Nat}(h:(Sup.of W).lin<=64){n:Nat}(hn:64<=n):Wk W n=Wk W 64:=by
 unfold Wk;rw[decide_eq_true (show(Sup.of W).lin<=(n:Int)by omega),decide_eq_true (show(Sup.of W).lin<=((64:Nat):Int)by omega)]
theorem Q2a{F:Nat->Int}(h:Qx1 F=true){n:Nat}(hn:64<=n)(e:Bool):gSb n F e=gSb 64 F e:=by
 unfold Qx1 at h;simp only[Bool.and_eq_true,decide_eq_true_eq]at h;have g0:cpG F n 0=cpG F 64 0:=Qac h.1 hn;have g1:cpG F n 1=cpG F 64 1:=Qac h.2 hn;have s0:cpS F n 0=cpS F 64 0:=by unfold cpS Jy;rw[Qac h.1 hn]
 have s1:cpS F n 1=cpS F 64 1:=by unfold cpS Jy;rw[Qac h.2 hn]
 have nb:Qhq F n=Qhq F 64:=by unfold Qhq;rw[g0,g1,s0,s1]
 have ng:Np F n=Np F 64:=by unfold Np;rw[nb,g0]
 have ns:Vn F n=Vn F 64:=by
  unfold Vn Kz;rw[nb]
  split
  ·exact s1
  ·exact s0
 unfold gSb;rw[ng,ns]
def Qtj(F:Nat->Int):Bool:=(List.range ((F 80).toNat%65536)).all fun i=>decide ((F (88+2*i)).toNat<4096)
theorem Qre{α:Type}{l:List α}{p q:α->Bool}(h:∀ x∈l,p x=q x):l.all p=l.all q:=by
 induction l with
 | nil=>rfl
 | cons x l ih=>rw[List.all_cons,List.all_cons,h x (List.mem_cons_self ..),ih (fun y hy=>h y (List.mem_cons_of_mem _ hy))]
theorem Qtx{o n:Nat}(h:o<4096)(hn:64<=n):Zg (64*n) 640 1664 o=Zg (64*64) 640 1664 o:=by
 unfold Zg;exact decide_eq_decide.2 ⟨fun k=>⟨k.1,by omega,k.2.2⟩,fun k=>⟨k.1,by omega,k.2.2⟩⟩
theorem Qyf{F:Nat->Int}(h:Qtj F=true){n:Nat}(hn:64<=n):rdL n F=rdL 64 F:=by
 unfold Qtj at h;have h':=List.all_eq_true.1 h;have ha:((List.range ((F 80).toNat%65536)).map fun i=>((F (80+8+2*i)).toNat,F (80+9+2*i))).all (fun e=>Zg (64*n) 640 1664 e.1)=((List.range ((F 80).toNat%65536)).map fun i=>((F (80+8+2*i)).toNat,F (80+9+2*i))).all (fun e=>Zg (64*64) 640 1664 e.1):=
  Qre (fun e he=>by
   obtain⟨i,hi,rfl⟩:=List.mem_map.1 he;have:=h' i hi;simp only[decide_eq_true_eq]at this;exact Qtx this hn)
 unfold rdL Jj;rw[show 640/8=80 from rfl];simp only;rw[ha]
theorem Q1z{F:Nat->Int}(h:Qtj F=true){n:Nat}(hn:64<=n)(e:Bool):gRd n F e=gRd 64 F e:=by
 have h1:=Qyf h hn;have h2:rdF n F=rdF 64 F:=by unfold rdF;rw[h1]
 unfold gRd;rw[h1,h2]
def Qx2(F:Nat->Int):Bool:=(Qk F 640 2).all fun e=>decide (e.1<4096)
theorem Q2b{F:Nat->Int}(h:Qx2 F=true){n:Nat}(hn:64<=n)(e:Bool):gUd n F e=gUd 64 F e:=by
 have h':=List.all_eq_true.1 h;have hv:udV n F=udV 64 F:=by
  unfold udV Xo;refine List.filter_congr (fun e he => ?_)
  have:=h' e he;simp only[decide_eq_true_eq]at this;unfold Qw;exact decide_eq_decide.2 ⟨fun k=>⟨k.1,by omega,k.2.2⟩,fun k=>⟨k.1,by omega,k.2.2⟩⟩
 have h2:Ia n F=Ia 64 F:=by unfold Ia;rw[hv]
 unfold gUd;rw[h2]
def Q4q(F:Nat->Int):Bool:=((List.range 7).all fun s => !Xf (bkH F 1312) s || decide (fpN (bkH F 1312) s=Bu (bkK F 1312 s).toNat%256)) &&
 ((List.range 7).all fun s=>(List.range 7).all fun t => !(Xf (bkH F 1312) s&&Xf (bkH F 1312) t&&decide (bkK F 1312 s=bkK F 1312 t)) || decide (s=t))
def Qdc(F:Nat->Int):Bool := !Qci (Th F 1312 7) false || Q4q F
theorem Qth{F:Nat->Int}(hF:Bd F)(h:Qdc F=true):Qx0 F:=by
 intro he;unfold Qdc at h;rw[he]at h;simp only[Bool.not_true,Bool.false_or]at h;unfold Q4q at h;simp only[Bool.and_eq_true,List.all_eq_true,List.mem_range,Bool.or_eq_true,Bool.not_eq_true',decide_eq_true_eq]at h;refine⟨hF,fun s hs hu => ?_,fun s t hs ht hu hv hk => ?_⟩
 ·rcases h.1 s hs with h1 | h1
  ·rw[hu]at h1;cases h1
  ·exact h1
 ·rcases h.2 s hs t ht with h1 | h1
  ·rw[hu,hv,decide_eq_true hk]at h1;cases h1
  ·exact h1
def Q9d(F:Nat->Int):Bool:=decide (Xk (lfW F) 4096)&&(!Jt (lfW F) 7 (Zd (lfW F))&&(decide ((Zd (lfW F)).length<12)&&((Yu F 7 3).all Qht&&(decide ((Yu F 7 3).length<=20)&&(decide (Xk (lfW (Xj (Yu F 7 3) F)) 4096)&&decide (Xj (Yu F 7 3) F 193=0))))))
def Qdd(F:Nat->Int):Bool:=decide (F 193=0)&&(decide (F 195=0)&&(!(decide (Xk (lfW F) 4096)&&Qci (Gt F) false) || Q9d F))
theorem Qti{F:Nat->Int}(h:Qdd F=true):Qv7 F:=by
 unfold Qdd at h;simp only[Bool.and_eq_true,decide_eq_true_eq]at h;obtain⟨h1,h2,h3⟩:=h;refine⟨h1,h2,fun h4 h5 => ?_⟩
 rw[decide_eq_true h4,h5]at h3;simp only[Bool.and_self,Bool.not_true,Bool.false_or]at h3;unfold Q9d at h3;simp only[Bool.and_eq_true,decide_eq_true_eq,Bool.not_eq_true']at h3;obtain⟨a1,a2,a3,a4,a5,a6,a7⟩:=h3;exact⟨a1,a2,a3,fun e he=>List.all_eq_true.1 a4 e he,a5,a6,a7⟩
theorem Ea{f:Int}{P:Int->Prop}{m:Nat}(h1 : -1<=f)(h2:f<m)(h:P (-1)/\∀ k,k<m->P (k:Nat)):P f:=by
 by_cases h3:f = -1
 ·rw[h3];exact h.1
 ·have:=h.2 f.toNat (by omega)
  rwa [show((f.toNat:Nat):Int)=f by omega]at this
theorem Eb{f:Int}{P:Int->Prop}{m:Nat}(h1:0<=f)(h2:f<m)(h:∀ k,k<m->P (k:Nat)):P f:=by
 have:=h f.toNat (by omega)
 rwa [show((f.toNat:Nat):Int)=f by omega]at this
theorem Q5a{P:Nat->Prop}(h:P 0):∀ k,k<1->P k:=fun k hk=>by
 obtain rfl:k=0:=by omega
 exact h
theorem Q5r{P:Nat->Prop}(h:P 0/\P 1):∀ k,k<2->P k:=fun k hk=>by
 obtain rfl | rfl:k=0\/k=1:=by omega
 ·exact h.1
 ·exact h.2
theorem Qsh{P:Nat->Prop}(h:P 0/\P 1/\P 2/\P 3):∀ k,k<4->P k:=fun k hk=>by
 obtain rfl | rfl | rfl | rfl:k=0\/k=1\/k=2\/k=3:=by omega
 ·exact h.1
 ·exact h.2.1
 ·exact h.2.2.1
 ·exact h.2.2.2
theorem Q9p:Ev bkQ bkC gBk Qdc 2 where
 ok:=fun f h1 h2=>Ea (P:=fun f=>(Gd (fun F _=>Qdc F) (Dev.fresh 64 bkC) (qOf f bkQ) 1000).2.2=1) h1 h2 ⟨by kernel_rfl,Q5r ⟨by kernel_rfl,by kernel_rfl⟩⟩
 sys:=by kernel_rfl
 bad:=fun f h1 h2=>Eb (P:=fun f=>(Gd gBk (Dev.fresh 64 bkC) (qOf f bkQ) 1000).2.2=0) h1 h2 (Q5r ⟨by kernel_rfl,by kernel_rfl⟩)
 fn:=by kernel_rfl
theorem Q9q:Ev (Yu lfC 6 2) lfC gLf Qdd 2 where
 ok:=fun f h1 h2=>Ea (P:=fun f=>(Gd (fun F _=>Qdd F) (Dev.fresh 64 lfC) (qOf f (Yu lfC 6 2)) 1000).2.2=1) h1 h2 ⟨by kernel_rfl,Q5r ⟨by kernel_rfl,by kernel_rfl⟩⟩
 sys:=by kernel_rfl
 bad:=fun f h1 h2=>Eb (P:=fun f=>(Gd gLf (Dev.fresh 64 lfC) (qOf f (Yu lfC 6 2)) 1000).2.2=0) h1 h2 (Q5r ⟨by kernel_rfl,by kernel_rfl⟩)
 fn:=by kernel_rfl
theorem Q9r:Ev (Zb 640 (rdW 3 4)) rdC (gRd 64) Qtj 4 where
 ok:=fun f h1 h2=>Ea (P:=fun f=>(Gd (fun F _=>Qtj F) (Dev.fresh 64 rdC) (qOf f (Zb 640 (rdW 3 4))) 1000).2.2=1) h1 h2 ⟨by kernel_rfl,Qsh ⟨by kernel_rfl,by kernel_rfl,by kernel_rfl,by kernel_rfl⟩⟩
 sys:=by kernel_rfl
 bad:=fun f h1 h2=>Eb (P:=fun f=>(Gd (gRd 64) (Dev.fresh 64 rdC) (qOf f (Zb 640 (rdW 3 4))) 1000).2.2=0) h1 h2 (Qsh ⟨by kernel_rfl,by kernel_rfl,by kernel_rfl,by kernel_rfl⟩)
 fn:=by kernel_rfl
theorem Q9u:Ev (udQ 3 4 (Ds 1 2 (fun _=>0))) udC (gUd 64) Qx2 4 where
 ok:=fun f h1 h2=>Ea (P:=fun f=>(Gd (fun F _=>Qx2 F) (Dev.fresh 64 udC) (qOf f (udQ 3 4 (Ds 1 2 (fun _=>0)))) 1000).2.2=1) h1 h2 ⟨by kernel_rfl,Qsh ⟨by kernel_rfl,by kernel_rfl,by kernel_rfl,by kernel_rfl⟩⟩
 sys:=by kernel_rfl
 bad:=fun f h1 h2=>Eb (P:=fun f=>(Gd (gUd 64) (Dev.fresh 64 udC) (qOf f (udQ 3 4 (Ds 1 2 (fun _=>0)))) 1000).2.2=0) h1 h2 (Qsh ⟨by kernel_rfl,by kernel_rfl,by kernel_rfl,by kernel_rfl⟩)
 fn:=by kernel_rfl
theorem Q9t:Ev sbQ sbC (gSb 64) Qx1 1 where
 ok:=fun f h1 h2=>Ea (P:=fun f=>(Gd (fun F _=>Qx1 F) (Dev.fresh 64 sbC) (qOf f sbQ) 1000).2.2=1) h1 h2 ⟨by kernel_rfl,Q5a (by kernel_rfl)⟩
 sys:=by kernel_rfl
 bad:=fun f h1 h2=>Eb (P:=fun f=>(Gd (gSb 64) (Dev.fresh 64 sbC) (qOf f sbQ) 1000).2.2=0) h1 h2 (Q5a (by kernel_rfl))
 fn:=by kernel_rfl
theorem Q9s:Ev (Yt 128 (rtW Dq) [98] (ptV 2)) Dq gRt (fun _=>true) 1 where
 ok:=fun f h1 h2=>Ea (P:=fun f=>(Gd (fun _ _=>true) (Dev.fresh 64 Dq) (qOf f (Yt 128 (rtW Dq) [98] (ptV 2))) 1000).2.2=1) h1 h2 ⟨by kernel_rfl,Q5a (by kernel_rfl)⟩
 sys:=by kernel_rfl
 bad:=fun f h1 h2=>Eb (P:=fun f=>(Gd gRt (Dev.fresh 64 Dq) (qOf f (Yt 128 (rtW Dq) [98] (ptV 2))) 1000).2.2=0) h1 h2 (Q5a (by kernel_rfl))
 fn:=by kernel_rfl
end

section
open Go.Maps
attribute [local go_sem ↓] Go.wp_at_zero Go.wp_at_succ
section
variable{w wb:World}{v:DV}{own:Nat->Option Qp}{D D1:Dev}{a n:Nat}{q:List (Nat×Nat×Int)}{ok:(Nat->Int)->Prop}{g:(Nat->Int)->Bool->Bool}
end
end

section
open Go.Maps
attribute [local go_sem ↓] Go.wp_at_zero Go.wp_at_succ
section
variable{w wb:World}{v:DV}{own:Nat->Option Qp}{D D1:Dev}{a n:Nat}{q:List (Nat×Nat×Int)}{ok:(Nat->Int)->Prop}{g:(Nat->Int)->Bool->Bool}
end
end

section
open Go.Maps
attribute [local go_sem ↓] Go.wp_at_zero Go.wp_at_succ
section
variable{w wb:World}{v:DV}{own:Nat->Option Qp}{D D1:Dev}{a n:Nat}{q:List (Nat×Nat×Int)}{ok:(Nat->Int)->Prop}{g:(Nat->Int)->Bool->Bool}
end
end

section
open Go.Maps
attribute [local go_sem ↓] Go.wp_at_zero Go.wp_at_succ
section
variable{w wb:World}{a n:Nat}{sp q:List (Nat×Nat×Int)}{C:Nat->Int}{ok:(Nat->Int)->Prop}{g g64:(Nat->Int)->Bool->Bool}{okB:(Nat->Int)->Bool}{fn:Nat}
structure SyR(w:World)(a n:Nat)(sp q:List (Nat×Nat×Int))(C:Nat->Int)(ok:(Nat->Int)->Prop)(g g64:(Nat->Int)->Bool->Bool)(okB:(Nat->Int)->Bool)(fn:Nat):Prop where
 P:SyP w a n ((Dev.fresh n (fun _=>0)).run 0 sp) q ok g
 ev:Ev q C g64 okB fn
 cl:∃ x,x<=100/\SCl ((Dev.fresh n (fun _=>0)).run 0 sp) 0 n C x
 okq:∀ e∈q,Qht e=true
 h:∀ F,Bd F->okB F=true->ok F/\∀ e,g F e=g64 F e
theorem SyR.next(R:SyR wb a n sp q C ok g g64 okB fn)(hb:Below wb.heap.size wb w):SyR w a n sp q C ok g g64 okB fn:=⟨R.P.next hb,R.ev,R.cl,R.okq,R.h⟩
theorem SyR.bd(R:SyR w a n sp q C ok g g64 okB fn):Bd C:=by
 obtain⟨x,_,S⟩:=R.cl;intro i;have:=S.vb.cur i;rw[S.cur]at this;exact this
def fnL:Nat->Nat | 0=>1 | 1=>1 | 2=>4 | 3=>4 | 4=>2 | _=>2
structure SyL(w:World)(ad:Nat->Nat)(n:Nat):Prop where
 sb:SyR w (ad 0) n Ts sbQ sbC (fun _=>True) (gSb n) (gSb 64) Qx1 1
 rt:SyR w (ad 1) n Gg (Yt 128 (rtW Dq) [98] (ptV 2)) Dq (fun _=>True) gRt gRt (fun _=>true) 1
 rd:SyR w (ad 2) n Gf (Zb 640 (rdW 3 4)) rdC (fun _=>True) (gRd n) (gRd 64) Qtj 4
 ud:SyR w (ad 3) n Mj (udQ 3 4 (Ds 1 2 (fun _=>0))) udC (fun _=>True) (gUd n) (gUd 64) Qx2 4
 bk:SyR w (ad 4) n Tn bkQ bkC Qx0 gBk gBk Qdc 2
 lf:SyR w (ad 5) n Uk (Yu lfC 6 2) lfC Qv7 gLf gLf Qdd 2
theorem Ge(n:Nat):SCl (Dev.fresh n (fun _=>0)) 0 n (fun _=>0) 0:=Xz (f:=fun _=>0) (fun _=>by omega) 0 n
theorem sbR(P:∀ n,64<=n->n<=4096->SyP w a n ((Dev.fresh n (fun _=>0)).run 0 Ts) sbQ (fun _=>True) (gSb n))(hn:64<=n)(hn2:n<=4096):SyR w a n Ts sbQ sbC (fun _=>True) (gSb n) (gSb 64) Qx1 1:=
 ⟨P n hn hn2,Q9t,⟨_,by omega,Qbd (Ge n) hn⟩,Q2y,fun F _ h=>⟨trivial,fun e=>Q2a h hn e⟩⟩
theorem rtR(P:∀ n,64<=n->n<=4096->SyP w a n ((Dev.fresh n (fun _=>0)).run 0 Gg) (Yt 128 (rtW Dq) [98] (ptV 2)) (fun _=>True) gRt)(hn:64<=n)(hn2:n<=4096):SyR w a n Gg (Yt 128 (rtW Dq) [98] (ptV 2)) Dq (fun _=>True) gRt gRt (fun _=>true) 1:=
 ⟨P n hn hn2,Q9s,⟨_,by omega,Qa9 (Ge n) hn⟩,Q2u,fun F _ h=>⟨trivial,fun e=>rfl⟩⟩
theorem rdR(P:∀ n,64<=n->n<=4096->SyP w a n ((Dev.fresh n (fun _=>0)).run 0 Gf) (Zb 640 (rdW 3 4)) (fun _=>True) (gRd n))(hn:64<=n)(hn2:n<=4096):SyR w a n Gf (Zb 640 (rdW 3 4)) rdC (fun _=>True) (gRd n) (gRd 64) Qtj 4:=
 ⟨P n hn hn2,Q9r,⟨_,by omega,Qa4 (Ge n) hn⟩,Q2p,fun F _ h=>⟨trivial,fun e=>Q1z h hn e⟩⟩
theorem udR(P:∀ n,64<=n->n<=4096->SyP w a n ((Dev.fresh n (fun _=>0)).run 0 Mj) (udQ 3 4 (Ds 1 2 (fun _=>0))) (fun _=>True) (gUd n))(hn:64<=n)(hn2:n<=4096):SyR w a n Mj (udQ 3 4 (Ds 1 2 (fun _=>0))) udC (fun _=>True) (gUd n) (gUd 64) Qx2 4:=
 ⟨P n hn hn2,Q9u,⟨_,by omega,Cq (Ge n) hn 1 2 (by omega) (by omega)⟩,Q3l,fun F _ h=>⟨trivial,fun e=>Q2b h hn e⟩⟩
theorem bkR(P:∀ n,64<=n->n<=4096->SyP w a n ((Dev.fresh n (fun _=>0)).run 0 Tn) bkQ Qx0 gBk)(hn:64<=n)(hn2:n<=4096):SyR w a n Tn bkQ bkC Qx0 gBk gBk Qdc 2:=
 ⟨P n hn hn2,Q9p,⟨_,by omega,Io (Ge n) hn⟩,Q0k,fun F hF h=>⟨Qth hF h,fun e=>rfl⟩⟩
theorem lfR(P:∀ n,64<=n->n<=4096->SyP w a n ((Dev.fresh n (fun _=>0)).run 0 Uk) (Yu lfC 6 2) Qv7 gLf)(hn:64<=n)(hn2:n<=4096):SyR w a n Uk (Yu lfC 6 2) lfC Qv7 gLf gLf Qdd 2:=
 ⟨P n hn hn2,Q9q,⟨_,by rw[show Uk.length=33 by decide +kernel];omega,Qhk (Ge n) hn⟩,Qxm,fun F hF h=>⟨Qti h,fun e=>rfl⟩⟩
def syV(g:Nat):Value:=.iface 160 (.pointer (some ⟨g,0,none⟩))
theorem Wn(hN:Nib w)(h0:0<w.heap.size):Calls prog 7 #[] w fun r w'=>∃ (b:Nat) (ad:Nat->Nat),r = .returned (.slice (some ⟨b,0,none⟩) 6 6)/\Row w' b 6 23 (fun i=>syV (ad i))/\(∀ n,64<=n->n<=4096->SyL w' ad n)/\Below w.heap.size w w':=by
 have H0:=hid (fun(wx:World)=>Pq (w:=wx));have H1:=hid (fun(wx:World)=>Qjr (w:=wx));have H2:=hid (fun(wx:World)=>Qjq (w:=wx));have H3:=hid (fun(wx:World)=>Qjs (w:=wx));have H4:=hid (fun(wx:World)=>Qc8 (w:=wx));have H5:=hid (fun(wx:World)=>Qjp (w:=wx));have HN:=hid hN;have HZ:=hid h0
 clear hN h0;have B0:=hid (Below.refl w.heap.size w)
 go_enter func7,ntmps7
 go_wp2_with fail
 (with_reducible refine(H0.out _).mono ?_)
 rintro e w1 ⟨g1,x1,rfl,k1,y1,_,_,b1⟩;have B1:=hid (B0.out.trans (b1.mono B0.out.size));have P1:Hid (∀ n,64<=n->n<=4096->SyP w1 g1 n ((Dev.fresh n (fun _=>0)).run 0 Ts) sbQ (fun _=>True) (gSb n)):=hid (fun n h1 h2=>Zaj k1 y1 (HN.out.below B1.out) (Nat.lt_of_lt_of_le HZ.out B1.out.size) h1 h2);clear b1 k1 y1;go_wp2_with fail
 (with_reducible refine(H1.out _).mono ?_)
 rintro e w2 ⟨g2,x2,rfl,k2,y2,_,_,b2⟩;have B2:=hid (B1.out.trans (b2.mono B1.out.size));have T2:=hid b2;have P2:Hid (∀ n,64<=n->n<=4096->SyP w2 g2 n ((Dev.fresh n (fun _=>0)).run 0 Gg) (Yt 128 (rtW Dq) [98] (ptV 2)) (fun _=>True) gRt):=hid (fun n h1 h2=>Zai k2 y2 (HN.out.below B2.out) (Nat.lt_of_lt_of_le HZ.out B2.out.size) h1 h2);clear b2 k2 y2;go_wp2_with fail
 (with_reducible refine(H2.out _).mono ?_)
 rintro e w3 ⟨g3,x3,rfl,k3,y3,_,_,b3⟩;have B3:=hid (B2.out.trans (b3.mono B2.out.size));have T3:=hid b3;have P3:Hid (∀ n,64<=n->n<=4096->SyP w3 g3 n ((Dev.fresh n (fun _=>0)).run 0 Gf) (Zb 640 (rdW 3 4)) (fun _=>True) (gRd n)):=hid (fun n h1 h2=>Zah k3 y3 (HN.out.below B3.out) (Nat.lt_of_lt_of_le HZ.out B3.out.size) h1 h2);clear b3 k3 y3;go_wp2_with fail
 (with_reducible refine(H3.out _).mono ?_)
 rintro e w4 ⟨g4,x4,z4,rfl,k4,y4,_,q4,_,_,b4⟩;have B4:=hid (B3.out.trans (b4.mono B3.out.size));have T4:=hid b4;have P4:Hid (∀ n,64<=n->n<=4096->SyP w4 g4 n ((Dev.fresh n (fun _=>0)).run 0 Mj) (udQ 3 4 (Ds 1 2 (fun _=>0))) (fun _=>True) (gUd n)):=hid (fun n h1 h2=>Zak k4 q4 y4 h1 h2);clear b4 k4 y4 q4;go_wp2_with fail
 (with_reducible refine(H4.out _).mono ?_)
 rintro e w5 ⟨g5,rfl,k5,_,b5⟩;have B5:=hid (B4.out.trans (b5.mono B4.out.size));have T5:=hid b5;have P5:Hid (∀ n,64<=n->n<=4096->SyP w5 g5 n ((Dev.fresh n (fun _=>0)).run 0 Tn) bkQ Qx0 gBk):=hid (fun n h1 h2=>Zaf k5 h1 h2);clear b5 k5;go_wp2_with fail
 (with_reducible refine(H5.out _).mono ?_)
 rintro e w6 ⟨g6,x6,rfl,k6,y6,_,_,b6⟩;have B6:=hid (B5.out.trans (b6.mono B5.out.size));have T6:=hid b6;have P6:Hid (∀ n,64<=n->n<=4096->SyP w6 g6 n ((Dev.fresh n (fun _=>0)).run 0 Uk) (Yu lfC 6 2) Qv7 gLf):=hid (fun n h1 h2=>Zag k6 y6 h1 h2);clear b6 k6 y6
 all_goals
  go_wp2_with fail
  go_ret
  refine⟨_,fun i=>if i=0 then g1 else if i=1 then g2 else if i=2 then g3 else if i=3 then g4 else if i=4 then g5 else g6,rfl,⟨_,Blk.new _ _ _,fun i hi => ?_⟩,fun n hn hn2 => ?_,B6.out.trans ((Qa _ _).mono B6.out.size)⟩
  ·obtain rfl | rfl | rfl | rfl | rfl | rfl:i=0\/i=1\/i=2\/i=3\/i=4\/i=5:=by omega
   all_goals rfl
  ·have L6:=Qa w6 (.cells #[syV g1,syV g2,syV g3,syV g4,syV g5,syV g6] 23)
   have L5:=T6.out.trans (L6.mono T6.out.size);have L4:=T5.out.trans (L5.mono T5.out.size);have L3:=T4.out.trans (L4.mono T4.out.size);have L2:=T3.out.trans (L3.mono T3.out.size);have L1:=T2.out.trans (L2.mono T2.out.size);exact⟨(sbR P1.out hn hn2).next L1,(rtR P2.out hn hn2).next L2,(rdR P3.out hn hn2).next L3,(udR P4.out hn hn2).next L4,(bkR P5.out hn hn2).next L5,(lfR P6.out hn hn2).next L6⟩
end
end
end Go.Proofs.YtlhchkajjpefmaaGreatDoor
