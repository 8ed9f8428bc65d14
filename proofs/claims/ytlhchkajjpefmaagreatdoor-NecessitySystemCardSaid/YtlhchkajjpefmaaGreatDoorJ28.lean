import Derived.Test.YtlhchkajjpefmaaGreatDoorJ27
import Derived.Test.YtlhchkajjpefmaaGreatDoorJ24
import Derived.Test.YtlhchkajjpefmaaGreatDoorJ13
import Derived.Test.YtlhchkajjpefmaaGreatDoorJ19
import Derived.Test.YtlhchkajjpefmaaGreatDoorJ18
import Derived.Test.YtlhchkajjpefmaaGreatDoorJ12
set_option maxHeartbeats 16000000
set_option maxRecDepth 100000
namespace Go.Proofs.YtlhchkajjpefmaaGreatDoor
section
open Go.RowKit Go.Maps
attribute [local go_sem ↓] Go.wp_at_zero Go.wp_at_succ
theorem ne_toL{xs ys:List Ent}{k:Nat}{e f:Ent}(he:xs[k]? = some e)(hf:ys[k]? = some f)(h:toL e≠toL f):decide (xs.map toL=ys.map toL)=false:=by
 rw[decide_eq_false_iff_not];intro h2;have h3:=congrArg (fun l=>l[k]?) h2;simp only[List.getElem?_map,he,hf,Option.map_some,Option.some.injEq]at h3;exact h h3
section
variable{w:World}
theorem equalEn_any(u v:Value)(xs ys:List Ent)(hx:RdSl w 2 u xs.length (eC xs))(hy:RdSl w 2 v ys.length (eC ys))(hl:xs.length≤100000)(hl2:ys.length≤100000) :
  Calls Tryz.prog 95 #[u,v] w fun r w'=>r = .returned (.bool (decide (xs.map toL=ys.map toL)))∧Below w.heap.size w w':=by
 obtain⟨_,a,ca,rfl,hca,ha⟩:=hx;obtain⟨_,b,cb,rfl,hcb,hb⟩:=hy;have HA:=Lib.hid ha;have HB:=Lib.hid hb;clear ha hb
 by_cases hne:xs.length=ys.length
 ·have hbn:((xs.length:Int) != (ys.length:Int))=false:=by simp;omega
  generalize hn1:xs.length=n at *
  generalize hn2:ys.length=m at *
  have HN:=Lib.hid (And.intro hn1 hn2);clear hn1 hn2;subst hne;have hbn:((n:Int) != (n:Int))=false:=by simp
  go_enter Tryz.func95,Tryz.ntmps95
  go_wp2_with fail
  go_loopw [13] (fun i wr=>∃ k:Nat,k≤n∧i = .int .i64 k∧(xs.take k).map toL=(ys.take k).map toL∧Qt w wr) (fun i _=>n-(intOf i).toNat)
  case atStart=>exact⟨0,by omega,rfl,rfl,Qt.refl w⟩
  case round=>
   obtain⟨k,hk,rfl,heq,q⟩:=hrel;obtain⟨nq,rfl⟩:=q;have HE:=Lib.hid heq;clear heq
   by_cases hlt:k<n
   ·obtain⟨e,he⟩:∃ e,xs[k]? = some e:=⟨_,List.getElem?_eq_getElem (by rw[HN.out.1];exact hlt)⟩
    obtain⟨f,hf⟩:∃ e,ys[k]? = some e:=⟨_,List.getElem?_eq_getElem (by rw[HN.out.2];exact hlt)⟩;obtain⟨g1,o1,rfl,hc1⟩:=rd_at HA.out (eC_get xs k e he).1;obtain⟨g2,o2,rfl,hc2⟩:=rd_at HB.out (eC_get ys k f hf).1;have c1:=hc1 _ _ (eC_get xs k e he).1;have c2:=hc1 _ _ (eC_get xs k e he).2
    have d1:=hc2 _ _ (eC_get ys k f hf).1;have d2:=hc2 _ _ (eC_get ys k f hf).2
    rw[← Nat.add_assoc]at c2 d2;have HEF:=Lib.hid (And.intro he hf);have hk':(k:Int)<n:=by omega
    clear hc1 hc2 he hf;obtain⟨e1,e2⟩:=e;obtain⟨f1,f2⟩:=f;simp only at c1 c2 d1 d2
    by_cases h1:e1.toList=f1.toList
    ·have hb1:(e1.toList==f1.toList)=true:=by simpa using h1
     by_cases h2:e2=f2
     ·have hb2:((e2:Int)==(f2:Int))=true:=by simp;omega
      have HQ:=Lib.hid (And.intro h1 h2);clear h1 h2
      go_wp2_with fail
      go_quiet (fail)
      go_wp2_with fail
      go_roundw
      case rel=>exact⟨k+1,by omega,by go_num,by rw[take_snoc_get _ _ _ HEF.out.1,take_snoc_get _ _ _ HEF.out.2,List.map_append,List.map_append,HE.out];simp[toL,HQ.out.1,HQ.out.2],⟨_,rfl⟩⟩
      case measure=>simp[intOf];omega
     ·have hb2:((e2:Int)==(f2:Int))=false:=by simp;omega
      have HQ:=Lib.hid h2;clear h1 h2
      go_wp2_with fail
      go_quiet (fail)
      go_wp2_with fail
      go_ret
      exact⟨ret_bool (ne_toL HEF.out.1 HEF.out.2 (fun h=>HQ.out (congrArg Prod.snd h))).symm,((Qt.drewN w _).trans (Qt.drewN _ _)).below⟩
    ·have hb1:(e1.toList==f1.toList)=false:=by simpa using h1
     have HQ:=Lib.hid h1;clear h1
     go_wp2_with fail
     go_quiet (fail)
     go_wp2_with fail
     go_ret
     exact⟨ret_bool (ne_toL HEF.out.1 HEF.out.2 (fun h=>HQ.out (congrArg Prod.fst h))).symm,((Qt.drewN w _).trans (Qt.drewN _ _)).below⟩
   ·go_wp2_with fail
    go_ret
    exact⟨ret_bool (by have:=HE.out;rw[List.take_of_length_le (by rw[HN.out.1];omega),List.take_of_length_le (by rw[HN.out.2];omega)]at this;simp[this]),(Qt.drewN w nq).below⟩
 ·have hbn:((xs.length:Int) != (ys.length:Int))=true:=by simp;omega
  have HD:Hid (decide (xs.map toL=ys.map toL)=false):=by
   show decide (xs.map toL=ys.map toL)=false
   rw[decide_eq_false_iff_not];exact fun h=>hne (by have:=congrArg List.length h;simpa using this)
  generalize hn1:xs.length=n at *
  generalize hn2:ys.length=m at *
  clear hn1 hn2
  go_enter Tryz.func95,Tryz.ntmps95
  go_wp2_with fail
  go_ret
  exact⟨ret_bool HD.out.symm,Below.refl _ _⟩
theorem cloneEn_any(a:Addr)(n c:Nat)(xs:List Ent)(h:RdSl w 2 (.slice (some a) n c) n (eC xs))(hn:n≤4294967296) :
  Calls Tryz.prog 93 #[.slice (some a) n c] w fun r w'=>∃ g cap,r = .returned (.slice (some ⟨g,0,none⟩) n cap)∧OwnSl w' 171 2 (.slice (some ⟨g,0,none⟩) n cap) n (eC xs)∧w.heap.size≤g∧Below w.heap.size w w':=by
 obtain⟨i0,hi,hz0,hz1,hz2⟩:=info_parts infoEnt;have I:=Lib.hid (And.intro hi (And.intro hz0 (And.intro hz1 hz2)));clear hi hz0 hz1 hz2
 have H:=Lib.hid h;have H1:=Lib.hid (eC_one xs);clear h
 generalize eC xs=fx at *
 have hq:=fun wx=>Lib.run_eql_slice_nil (P:=Tryz.prog) wx 172 171 (some a) n c 0 0 Tryz.underlying172
 go_enter Tryz.func93,Tryz.ntmps93
 go_wp2_with (at_builtin;refine wpList_append_sl _ rfl _ _ 172 rfl 171 i0 _ 2 24 Tryz.underlying172 I.out.1 I.out.2.1 I.out.2.2.1 I.out.2.2.2 rfl (by decide) _ 0 [] rfl ?h0 _ n fx rfl ?h1 ?h2 ?h3 ?h4 ?_)
 case h0=>exact OwnSl.new _ _ _ 2 0 0 rfl (Nat.le_refl _) (Nat.zero_le _)
 case h1=>exact H.out.alloc _
 case h2=>exact H1.out
 case h3=>unfold maxLen;omega
 case h4=>omega
 intro v' w1 o1 g1 b1 n1;have O1:=Lib.hid o1;have G1:=Lib.hid g1;have B1:=Lib.hid b1;clear o1 g1 b1 n1
 go_wp2
 go_ret
 have hb:Below w.heap.size w w1:=((Below.refl _ _).alloc (Nat.le_refl _) _).grown G1.out (by simp) (fun k hk=>by cases hk;exact Nat.le_refl _);obtain⟨a',c',hv⟩:=O1.out.slice;have O2:=O1.out;have B2:=B1.out;rw[hv]at O2 B2
 rcases B2 with h | h
 ·simp only[slAddr]at h
  subst h;exact⟨w.heap.size,c',by rw[← hv];rfl,O2,Nat.le_refl _,hb⟩
 ·simp only[slAddr]at h
  subst h;exact⟨w.heap.size+1,c',by rw[← hv];rfl,O2,Nat.le_succ _,hb⟩
theorem op_append14{P:Program}{o:Oper}{a:Act}{K:Act→World→Prop}{Q:Exit→Act→World→Prop}(s x:Operand)(t:TypeId)
  (ho:o.op = .call {callee:=.builtin .append,args:=#[s,x],argTypes:=#[t,t]})
  (e:TypeId) (i:TypeInfo) (z:Value) (size bytes:Nat) (ht:P.underlying t=some (.slice e)) (hi:P.info? e=some i) (hz:i.zero=some z)
  (hsize:i.size=size) (hby:i.bytes=bytes) (hzs:z.cells.size=size) (hsz:0<size)
  (v:Value) (n:Nat) (xs:List Value) (hs:a.eval s=v) (hown:OwnSl w e size v n xs)
  (xv:Value) (m:Nat) (news:List Value) (hx:a.eval x=xv) (hnews:RdSl w size xv m news) (h1:∀ u∈news,u.oneCell'=true)
  (h63:n+m≤maxLen) (hbytes:(n+m)*bytes≤140737488355328)
  (h:∀ v' w',OwnSl w' e size v' (n+m) (xs++news)→w.grownBy w' v.ownBlock→(slAddr v'=slAddr v∨slAddr v'=some ⟨w.heap.size,0,none⟩)→K (a.put o.dst v') w'):Oper.wp P o a w K Q:=by
 obtain⟨v',w',hr,h2,h3,h4,_⟩:=run_append_sl (P:=P) w t o.type e i z size bytes ht hi hz hsize hby hzs v n xs hown xv m news hnews h1 h63 hbytes hsz;unfold Oper.wp execOp;simp only[ho,resolve,invoke,builtin,Sem.run_bind,Sem.run_pure,Result.andThen_ok,List.map_toArray,List.map_cons,List.map_nil,hs,hx,hr];exact h v' w' h2 h3 h4
theorem ncRt4_any{v:DV}{own:Nat→Option Role}{D:Dev}{g n x:Nat}{F:Nat→Int}{B:Nat}(hN:Nib w)(hg:RtBox w g)(P:Pst B w v D own w)(_h0:0<B)(h1:g<B)(hS:SCl D 0 n F x)(hn:64≤n)(hx:x≤1000)(e:Bool) :
  Calls Tryz.prog 92 #[(.iface 40 (.pointer (some ⟨v.tb 0,0,none⟩))),.bool e,.pointer (some ⟨g,0,none⟩)] w fun r w'=>r = .returned (.bool (gRt F e))∧Below B w w':=by
 have HB0:=Lib.hid P.size;have HO:=Lib.hid (rt_open hN P.dev hS hn);unfold Op14 at HO;have HGC:Hid (∀ wx,Below B w wx→wx.cell? ⟨g,0,none⟩=some (.func (.func 87) #[] #[])):=Lib.hid (fun wx hb=>(hg.above hb h1).cell);unfold gRt
 by_cases hop:opnE (rtW F)=0
 case neg=>
  have hop2:((opnE (rtW F):Nat):Int)≠0:=by omega
  have hob:(((opnE (rtW F):Nat):Int) != 0)=true:=by simpa using hop2
  have HO1:Hid (Calls Tryz.prog 62 #[(.iface 40 (.pointer (some ⟨v.tb 0,0,none⟩))),.int .i64 2] w fun r w'=>r = .returned (.tuple #[.pointer none,.int .i64 (opnE (rtW F):Nat)])∧Below w.heap.size w w'):=Lib.hid (HO.out.mono fun r w' hp=>by
   rcases hp with ⟨_,k⟩ | ⟨k,_⟩
   ·exact k
   ·exact absurd k hop)
  rw[decide_eq_false hop];clear hN hg P h1 hS hn hx hop HO HGC hop2
  generalize ((opnE (rtW F):Nat):Int)=oe at *
  go_enter Tryz.func92,Tryz.ntmps92
  go_wp2_with fail
  (with_reducible refine HO1.out.mono ?_)
  rintro r w1 ⟨rfl,b1⟩;have B1:=Lib.hid (b1.mono HB0.out);clear b1;go_wp2_with fail
  go_ret
  exact⟨rfl,B1.out⟩
 case pos=>
 have HO1:Hid (Calls Tryz.prog 62 #[(.iface 40 (.pointer (some ⟨v.tb 0,0,none⟩))),.int .i64 2] w fun r w'=>r = .returned (.tuple #[.pointer (some ⟨w.heap.size,0,none⟩),.int .i64 0])∧DirAt w' w.heap.size 128 (.iface 40 (.pointer (some ⟨v.tb 0,0,none⟩)))∧Below w.heap.size w w'):=Lib.hid (HO.out.mono fun r w' hp=>by
  rcases hp with ⟨k,_⟩ | ⟨_,k⟩
  ·exact absurd hop k
  ·exact k)
 rw[decide_eq_true hop,Bool.true_and];have HPT:Hid (∀ (i:Nat),1≤i→i≤3→∀ wx,Calls Tryz.prog 87 #[.int .u64 i] wx fun r w'=>r = .returned (.int .u64 (ptV i:Nat))∧wx=w'):=Lib.hid (fun i a b wx=>ncRt1_any (w:=wx) i a b);have HP1:Hid (∀ wx,Calls Tryz.prog 87 #[.int .u64 1] wx fun r w'=>r = .returned (.int .u64 (ptV 1:Nat))∧wx=w'):=Lib.hid (HPT.out 1 (by omega) (by omega));have HP2:Hid (∀ wx,Calls Tryz.prog 87 #[.int .u64 2] wx fun r w'=>r = .returned (.int .u64 (ptV 2:Nat))∧wx=w'):=Lib.hid (HPT.out 2 (by omega) (by omega));have HP3:Hid (∀ wx,Calls Tryz.prog 87 #[.int .u64 3] wx fun r w'=>r = .returned (.int .u64 (ptV 3:Nat))∧wx=w'):=Lib.hid (HPT.out 3 (by omega) (by omega));have HL:Hid (∀ wx b,Below w.heap.size w wx→DirAt wx b 128 (.iface 40 (.pointer (some ⟨v.tb 0,0,none⟩)))→Calls Tryz.prog 94 #[.pointer (some ⟨b,0,none⟩)] wx fun r w'=>∃ ov,r = .returned ov∧Acc wx wx.heap.size w' 171 2 ov (srtR (entL (rtW F) 16)).length (eC (srtR (entL (rtW F) 16)))):=Lib.hid (fun wx b hb hd=>by
  have:=rtList_any (hS.don hn (P.next hb).dev hd)
  rwa [← srtR_len (entL (rtW F) 16)]at this)
 have HST:Hid (∀ wx b,Below w.heap.size w wx→DirAt wx b 128 (.iface 40 (.pointer (some ⟨v.tb 0,0,none⟩)))→Calls Tryz.prog 90 #[.pointer (some ⟨b,0,none⟩),.string ⟨#[97]⟩,.int .u64 (ptV 3:Nat)] wx fun r w'=>(errS (rtW F) [97] (ptV 3) 4096≠0∧r = .returned (.int .i64 (errS (rtW F) [97] (ptV 3) 4096:Nat))∧Below wx.heap.size wx w') ∨
   (errS (rtW F) [97] (ptV 3) 4096=0∧r = .returned (.int .i64 0)∧Below B w w'∧wx.heap.size≤w'.heap.size∧(∀ k,w.heap.size≤k→k<wx.heap.size→w'.heap[k]? = wx.heap[k]?) ∧
    ∀ wy b2 (k:Nat) (q:Nat) (u:Value),w.heap.size≤k→k<wx.heap.size→wy=(w'.setCell ⟨k,q,none⟩ u)→DirAt wy b2 128 (.iface 40 (.pointer (some ⟨v.tb 0,0,none⟩)))→Calls Tryz.prog 94 #[.pointer (some ⟨b2,0,none⟩)] wy fun r w2=>∃ ov,r = .returned ov∧Acc wy wy.heap.size w2 171 2 ov (srtR (entL (rtW (rtC F [97] (ptV 3))) 16)).length (eC (srtR (entL (rtW (rtC F [97] (ptV 3))) 16))))):=Lib.hid (fun wx b hb hd=>by
  refine(rtSet_any (hS.don hn (P.next hb).dev hd) (hN.below hb) ⟨#[97]⟩ (ptV 3) (ptV_lt 3) (by have:=hS.exec;omega)).mono ?_
  rw[str_a,hS.grp.on.n,errS_n _ _ (by omega) (by omega) (show 4096≤64*n by omega)];rintro r w' (⟨k,k2,k3⟩ | ⟨k,rfl,d⟩)
  ·exact .inl ⟨k,k2,k3⟩
  ·have hS2:=rt_chg hS hn [97] (ptV 3) _ (errS_err k) (ptV_lt 3)
   have dd:=d;obtain⟨own2,d2,o2,u2⟩:=d;have P2:=(P.next hb).go d2 o2 u2;refine .inr ⟨k,by rw[hS2.grp.on.err],P2.bel,u2.size,fun k h1 h2=>u2.block k h2 (fun ho=>by have:=P.dev.lt k ho;omega),fun wy b2 k q u hk1 hk2 hwy hb2 => ?_⟩
   have hok:own2 k=none:=by
    rw[o2 k hk2]
    cases hh:own k with
    | none=>rfl
    | some r=>have:=P.dev.lt k (by rw[hh];simp);omega
   have P3:=P2.set (p:=⟨k,q,none⟩) (by have:=P.size;show B≤k;omega) hok u;subst hwy;have:=rtList_any (hS2.don hn P3.dev hb2)
   rwa [← srtR_len (entL _ 16)]at this)
 have hex:rtL F=(srtR (entL (rtW F) 16)).map toL:=(rtL_eq F).symm;have hex2:rtL (rtC F [97] (ptV 3))=(srtR (entL (rtW (rtC F [97] (ptV 3))) 16)).map toL:=(rtL_eq _).symm;have hl1:=srtR_len (entL (rtW F) 16);have hl2:=srtR_len (entL (rtW (rtC F [97] (ptV 3))) 16);have hl3:=entL_len (rtW F) 16;have hl4:=entL_len (rtW (rtC F [97] (ptV 3))) 16;rw[hex,hex2];clear hN hg P h1 hS hn hx hop HO HPT hex hex2
 generalize srtR (entL (rtW (rtC F [97] (ptV 3))) 16)=S2 at *
 generalize srtR (entL (rtW F) 16)=S1 at *
 generalize errS (rtW F) [97] (ptV 3) 4096=er at *
 have hs1:S1.length≤16:=by omega
 have hs2:S2.length≤16:=by omega
 clear hl1 hl2 hl3 hl4;obtain⟨sl,hsl⟩:∃ sl,S1.length=sl:=⟨_,rfl⟩;have SL:=Lib.hid hsl;have HEA:Hid (∀ wx u vv,RdSl wx 2 u sl (eC S1)→RdSl wx 2 vv 2 (eC [(⟨#[97]⟩,ptV 1),(⟨#[98]⟩,ptV 2)])→Calls Tryz.prog 95 #[u,vv] wx fun r w'=>r = .returned (.bool (decide (S1.map toL = [([97],ptV 1),([98],ptV 2)])))∧Below wx.heap.size wx w'):=Lib.hid (fun wx u vv h1 h2=>by
  rw[← SL.out]at h1;have:=equalEn_any (w:=wx) u vv S1 [(⟨#[97]⟩,ptV 1),(⟨#[98]⟩,ptV 2)] h1 h2 (by omega) (by simp)
  rwa [show List.map toL [((⟨#[97]⟩:ByteArray),ptV 1),(⟨#[98]⟩,ptV 2)] = [([97],ptV 1),([98],ptV 2)]by simp[toL]]at this)
 have HEB:Hid (∀ wx u vv,RdSl wx 2 u sl (eC S1)→RdSl wx 2 vv 1 (eC [(⟨#[97]⟩,ptV 1)])→Calls Tryz.prog 95 #[u,vv] wx fun r w'=>r = .returned (.bool (decide (S1.map toL = [([97],ptV 1)])))∧Below wx.heap.size wx w'):=Lib.hid (fun wx u vv h1 h2=>by
  rw[← SL.out]at h1;have:=equalEn_any (w:=wx) u vv S1 [(⟨#[97]⟩,ptV 1)] h1 h2 (by omega) (by simp)
  rwa [show List.map toL [((⟨#[97]⟩:ByteArray),ptV 1)] = [([97],ptV 1)]by simp[toL]]at this)
 have HNE:Hid ((decide (S1.map toL = [([97],ptV 1),([98],ptV 2)]) || decide (S1.map toL = [([97],ptV 1)]))=true→∃ e0 T,S1=e0::T):=Lib.hid (fun h=>by
  cases S1 with
  | nil=>simp at h
  | cons e0 T=>exact⟨e0,T,rfl⟩)
 have HLN:Hid ((decide (S1.map toL = [([97],ptV 1),([98],ptV 2)]) || decide (S1.map toL = [([97],ptV 1)]))=true→0<sl):=Lib.hid (fun h=>by
  obtain⟨e0,T,h2⟩:=HNE.out h;rw[← SL.out,h2];simp)
 unfold expR;obtain⟨bA,hbA⟩:∃ b,decide (S1.map toL = [([97],ptV 1),([98],ptV 2)])=b:=⟨_,rfl⟩;obtain⟨bB,hbB⟩:∃ b,decide (S1.map toL = [([97],ptV 1)])=b:=⟨_,rfl⟩;rw[hbA]at HEA;rw[hbB]at HEB;rw[hbA,hbB]at HNE HLN ⊢;rw[hsl]at HL;rw[hsl]at hs1;clear hbA hbB hsl;obtain⟨i0,hi,hz0,hz1,hz2⟩:=info_parts infoEnt;have I:=Lib.hid (And.intro hi (And.intro hz0 (And.intro hz1 hz2)));clear hi hz0 hz1 hz2;have HCL:Hid (∀ (wx:World) (a:Addr),RdSl wx 2 (.slice (some a) 1 1) 1 (eC [(⟨#[97]⟩,ptV 1)])→Calls Tryz.prog 93 #[.slice (some a) 1 1] wx fun r w'=>∃ g cap,r = .returned (.slice (some ⟨g,0,none⟩) 1 cap)∧OwnSl w' 171 2 (.slice (some ⟨g,0,none⟩) 1 cap) 1 (eC [(⟨#[97]⟩,ptV 1)])∧wx.heap.size≤g∧Below wx.heap.size wx w'):=Lib.hid (fun wx a h=>cloneEn_any a 1 1 [(⟨#[97]⟩,ptV 1)] h (by omega))
 go_enter Tryz.func92,Tryz.ntmps92
 go_wp2_with fail
 (with_reducible refine HO1.out.mono ?_)
 rintro r w1 ⟨rfl,d1,b1⟩;have D1:=Lib.hid d1;have B1:=Lib.hid b1
 have c0:=HGC.out w1 (b1.mono HB0.out);clear d1 b1 HO1;go_wp2_with fail
 (with_reducible refine(HP1.out _).mono ?_)
 rintro r w2 ⟨rfl,rfl⟩;have RB:=Lib.hid (RdSl.new w1 #[.string ⟨#[97]⟩,.int .u64 (ptV 1:Nat)] 171 2 1 rfl);have BA:=Lib.hid (below_alloc w1 (.cells #[.string ⟨#[97]⟩,.int .u64 (ptV 1:Nat)] 171));have C2:Hid ((w1.alloc (.cells #[.string ⟨#[97]⟩,.int .u64 (ptV 1:Nat)] 171)).drew.cell? ⟨g,0,none⟩=some (.func (.func 87) #[] #[])):=Lib.hid (HGC.out _ ((B1.out.trans (BA.out.mono B1.out.size)).mono HB0.out).drew);clear c0;go_wp2_with fail
 refine wp_region_held (S:=(fun wx=>wx.cell? ⟨g,0,none⟩=some (.func (.func 87) #[] #[]))) (by kernel_rfl) ?_
 change wpAnyH _ _ _ _ _ _ _ _ (World.drew _)
 refine wpAnyH_take (i:=0) (v:=.slice (some ⟨w1.heap.size,0,none⟩) 1 1) rfl (by kernel_rfl) (by kernel_rfl) (by kernel_rfl) (fun _ _ _ h=>h) (Or.inl ⟨by kernel_rfl,fun w _=>by go_simp⟩) C2.out ?_
 refine wpAnyH_take (i:=2) (v:=.func (.func 87) #[] #[]) rfl (by kernel_rfl) (by kernel_rfl) (by kernel_rfl) (fun _ _ _ h=>h) (Or.inl ⟨by kernel_rfl,fun wx hx=>(by have c:=hx;go_simp)⟩) C2.out ?_
 refine wpAnyH_one (i:=1) (by kernel_rfl) rfl rfl (fun K hK => ?_)
 go_simp
 (with_reducible refine(HCL.out _ _ RB.out.drew).mono ?_)
 rintro e w4 ⟨gc,cc,rfl,o4,g4,b4⟩;have O4:=Lib.hid o4;have G4:=Lib.hid g4;have B4:Hid (Below w1.heap.size w1 w4):=Lib.hid ((BA.out.drew).trans (b4.mono (by simp)));have C4:=Lib.hid (HGC.out w4 ((B1.out.trans (B4.out.mono B1.out.size)).mono HB0.out));have RB4:=Lib.hid (RB.out.drew.below b4);clear o4 g4 b4
 go_simp
 refine hK _ _ ⟨C4.out,?_⟩
 clear hK K;refine wpAnyH_one (i:=3) (by kernel_rfl) rfl rfl (fun K hK => ?_)
 go_simp
 (with_reducible refine(HP2.out _).mono ?_)
 rintro e w5 ⟨rfl,rfl⟩
 go_simp
 refine hK _ _ ⟨C4.out,?_⟩
 clear hK K;refine wpAnyH_one (i:=4) (by kernel_rfl) rfl rfl (fun K hK => ?_)
 go_simp
 refine hK _ _ ⟨C4.out,?_⟩
 clear hK K;have C5:=Lib.hid (HGC.out (w4.alloc (.cells #[.string ⟨#[98]⟩,.int .u64 (ptV 2:Nat)] 171)) (((B1.out.trans (B4.out.mono B1.out.size)).mono HB0.out).alloc (Nat.le_trans HB0.out (Nat.le_trans B1.out.size B4.out.size)) _));refine wpAnyH_one (i:=5) (by kernel_rfl) rfl rfl (fun K hK => ?_)
 go_simp
 refine hK _ _ ⟨C5.out,?_⟩
 clear hK K;refine wpAnyH_one (i:=6) (by kernel_rfl) rfl rfl (fun K hK => ?_)
 refine op_append14 (.tmp 23) (.tmp 27) 172 rfl 171 i0 _ 2 24 Tryz.underlying172 I.out.1 I.out.2.1 I.out.2.2.1 I.out.2.2.2 rfl (by decide) (.slice (some ⟨gc,0,none⟩) 1 cc) 1 (eC [(⟨#[97]⟩,ptV 1)]) rfl (O4.out.alloc _) _ 1 (eC [(⟨#[98]⟩,ptV 2)]) rfl (RdSl.newAt _ _ _ 2 1 _ rfl rfl) (eC_one _) (by unfold maxLen;omega) (by omega) ?_
 intro v6 w6 o6 g6 a6;have B6:Hid (Below w1.heap.size w1 w6):=Lib.hid ((B4.out.alloc B4.out.size _).grown g6 (by have:=B4.out.size;simp;omega) (fun k hk=>by cases hk;have:=G4.out;simp at this;show w1.heap.size≤gc;omega));have R6:Hid (RdSl w6 2 v6 2 (eC [(⟨#[97]⟩,ptV 1),(⟨#[98]⟩,ptV 2)])):=Lib.hid o6.rd;have RB6:=Lib.hid ((RB4.out.alloc (.cells #[.string ⟨#[98]⟩,.int .u64 (ptV 2:Nat)] 171)).kept (fun k hk hlt=>g6.block k hlt (fun e=>by
  have h1:=G4.out;have e1:gc=k:=by simpa [Value.ownBlock]using e.symm
  have e2:w1.heap.size=k:=by simpa [Value.ownBlock]using hk
  simp at h1;omega)))
 have BW:=Lib.hid (B1.out.trans (B6.out.mono B1.out.size));have C6:=Lib.hid (HGC.out w6 (BW.out.mono HB0.out));clear o6 g6 a6;refine hK _ _ ⟨C6.out,?_⟩
 clear hK K;refine wpAnyH_one (i:=7) (by kernel_rfl) rfl rfl (fun K hK => ?_)
 go_simp
 refine hK _ _ ⟨C6.out,?_⟩
 clear hK K;refine wpAnyH_done (by kernel_rfl) ?_ _
 have D6:=Lib.hid (D1.out.next B6.out);have HL1:=Lib.hid (HL.out w6 _ BW.out D6.out);clear C2 C4 C5 C6 O4 RB4 RB HL;go_wp2_with fail
 (with_reducible refine HL1.out.mono ?_)
 rintro r w7 ⟨ov,rfl,a7⟩;obtain⟨oa,oc,hov⟩:=a7.slice;subst hov;have B7:=Lib.hid (BW.out.trans (a7.bel.mono BW.out.size));have D7:=Lib.hid (D6.out.next a7.bel);have AO7:=Lib.hid a7.own;have ON:Hid (∀ k,(Value.slice oa sl oc).ownBlock=some k→w.heap.size≤k):=Lib.hid (fun k hk=>Nat.le_trans BW.out.size (a7.new k hk));have ND:Hid (∀ k,(Value.slice oa sl oc).ownBlock=some k→w.heap.size<k):=Lib.hid (fun k hk=>Nat.lt_of_lt_of_le D6.out.blk.lt (a7.new k hk));have RB7:=Lib.hid (RB6.out.below a7.bel);have HE7:=Lib.hid (HEA.out w7 _ _ a7.rd (R6.out.below a7.bel));clear a7 HL1 HEA R6 RB6;go_wp2_with fail
 (with_reducible refine HE7.out.mono ?_)
 rintro r w8 ⟨rfl,b8⟩;have B8:=Lib.hid (B7.out.trans (b8.mono B7.out.size));have D8:=Lib.hid (D7.out.next b8);have AO8:=Lib.hid (AO7.out.kept (fun k hk=>b8.block k (AO7.out.lt k hk)));have RB8:=Lib.hid (RB7.out.below b8);clear b8 HE7 RB7 AO7 D7 B7
 cases bA
 ·cases e
  ·have HE8:=Lib.hid (HEB.out w8 _ _ AO8.out.rd RB8.out)
   go_wp2_with fail
   (with_reducible refine HE8.out.mono ?_)
   rintro r w9 ⟨rfl,b9⟩;have B9:=Lib.hid (B8.out.trans (b9.mono B8.out.size));have D9:=Lib.hid (D8.out.next b9);have AO9:=Lib.hid (AO8.out.kept (fun k hk=>b9.block k (AO8.out.lt k hk)));clear b9 HE8 RB8 HEB
   cases bB
   ·have B10:=Lib.hid (B9.out.mono HB0.out)
    go_wp2_with fail
    go_ret
    exact⟨rfl,B10.out⟩
   ·have hpos:=HLN.out rfl
    have hpos2:(0:Int)<sl:=by omega
    clear hpos;have c0:=HGC.out w9 (B9.out.mono HB0.out);go_wp2_with fail
    (with_reducible refine(HP3.out _).mono ?_)
    rintro r wq ⟨rfl,rfl⟩;have HS1:=Lib.hid (HST.out _ _ B9.out D9.out);go_wp2_with fail
    (with_reducible refine HS1.out.mono ?_)
    rintro r w12 (⟨he,rfl,b12⟩ | ⟨he,rfl,b12,z12,k12,hl12⟩)
    ·have heb:(((er:Nat):Int) != 0)=true:=by simp;omega
     have HE:=Lib.hid he;have B12:=Lib.hid ((B9.out.trans (b12.mono B9.out.size)).mono HB0.out);clear he b12;go_wp2_with fail
     go_ret
     exact⟨by simp[HE.out],B12.out⟩
    ·have HE:=Lib.hid he
     have B12:=Lib.hid b12;have AO12:=Lib.hid (AO9.out.kept (fun k hk=>k12 k (ON.out k hk) (AO9.out.lt k hk)));have D12:Hid (DirAt w12 w.heap.size 128 (.iface 40 (.pointer (some ⟨v.tb 0,0,none⟩)))):=Lib.hid ⟨(k12 _ (Nat.le_refl _) D9.out.blk.lt).trans D9.out.blk⟩;have c0:=HGC.out w12 b12;obtain⟨e0,T,hS⟩:=HNE.out (by simp);obtain⟨lg,lo,hoa,hcl,hfr,hlt,ho2⟩:=AO12.out.setQ (i:=1) (by omega) (.int .u64 (ptV 3:Nat));subst hoa;rw[hS]at hcl;have hcl2:w12.cell? ⟨lg,lo+1,none⟩=some (.int .u64 (e0.2:Nat)):=hcl;have hlg:w.heap.size≤lg:=ON.out lg rfl;have hlg2:=AO9.out.lt lg rfl;have D13:Hid (DirAt (w12.setCell ⟨lg,lo+1,none⟩ (.int .u64 (ptV 3:Nat))) w.heap.size 128 (.iface 40 (.pointer (some ⟨v.tb 0,0,none⟩)))):=Lib.hid ⟨D12.out.blk.other (by have:=ND.out lg rfl;show w.heap.size≠lg;omega) _⟩;have HL13:=Lib.hid (hl12 _ w.heap.size lg (lo+1) _ hlg hlg2 rfl D13.out);have B13:=Lib.hid (B12.out.setCell (p:=⟨lg,lo+1,none⟩) (Nat.le_trans HB0.out hlg) (.int .u64 (ptV 3:Nat)));have O13:Hid (OwnSl (w12.setCell ⟨lg,lo+1,none⟩ (.int .u64 (ptV 3:Nat))) 171 2 (.slice (some ⟨lg,lo,none⟩) sl oc) ((e0.1,ptV 3)::T).length (eC ((e0.1,ptV 3)::T))):=Lib.hid (by
      have:=ho2;rw[hS]at this;rw[show((e0.1,ptV 3)::T).length=sl by rw[← SL.out,hS];rfl];exact this)
     have HQ:Hid (((e0.1,ptV 3)::T).map toL=setP (S1.map toL)):=Lib.hid (by rw[hS];rfl);have HTL:Hid (((e0.1,ptV 3)::T).length≤100000∧((e0.1,ptV 3)::T).length=sl):=Lib.hid (by rw[show((e0.1,ptV 3)::T).length=sl by rw[← SL.out,hS];rfl];exact⟨by omega,rfl⟩)
     generalize ((e0.1,ptV 3)::T)=S3 at *
     clear he b12 z12 k12 hl12 hcl hS ho2 HS1;go_wp2_with fail
     (with_reducible refine(HP3.out _).mono ?_)
     rintro r wq ⟨rfl,rfl⟩;go_wp2_with fail
     (with_reducible refine HL13.out.mono ?_)
     rintro r w14 ⟨ov2,rfl,a14⟩;have HEQ:=Lib.hid (equalEn_any (w:=w14) ov2 (.slice (some ⟨lg,lo,none⟩) sl oc) S2 S3 a14.rd (by have:=(O13.out.kept (fun k hk=>a14.bel.block k (O13.out.lt k hk))).rd;rw[HTL.out.2]at this ⊢;exact this) (by omega) HTL.out.1);have B14:=Lib.hid (B13.out.trans (a14.bel.mono (Nat.le_trans HB0.out B13.out.size)));clear a14 HL13;go_wp2_with fail
     (with_reducible refine HEQ.out.mono ?_)
     rintro r w15 ⟨rfl,b15⟩;have B15:=Lib.hid (B14.out.trans (b15.mono (Nat.le_trans HB0.out B14.out.size)));clear b15;go_wp2_with fail
     go_ret
     exact⟨by rw[HQ.out];simp[HE.out],B15.out⟩
  ·have B10:=Lib.hid (B8.out.mono HB0.out)
   go_wp2_with fail
   go_ret
   exact⟨rfl,B10.out⟩
 ·have hpos:=HLN.out rfl
  have hpos2:(0:Int)<sl:=by omega
  clear hpos;have c0:=HGC.out w8 (B8.out.mono HB0.out);go_wp2_with fail
  (with_reducible refine(HP3.out _).mono ?_)
  rintro r wq ⟨rfl,rfl⟩;have HS1:=Lib.hid (HST.out _ _ B8.out D8.out);go_wp2_with fail
  (with_reducible refine HS1.out.mono ?_)
  rintro r w12 (⟨he,rfl,b12⟩ | ⟨he,rfl,b12,z12,k12,hl12⟩)
  ·have heb:(((er:Nat):Int) != 0)=true:=by simp;omega
   have HE:=Lib.hid he;have B12:=Lib.hid ((B8.out.trans (b12.mono B8.out.size)).mono HB0.out);clear he b12;go_wp2_with fail
   go_ret
   exact⟨by simp[HE.out],B12.out⟩
  ·have HE:=Lib.hid he
   have B12:=Lib.hid b12;have AO12:=Lib.hid (AO8.out.kept (fun k hk=>k12 k (ON.out k hk) (AO8.out.lt k hk)));have D12:Hid (DirAt w12 w.heap.size 128 (.iface 40 (.pointer (some ⟨v.tb 0,0,none⟩)))):=Lib.hid ⟨(k12 _ (Nat.le_refl _) D8.out.blk.lt).trans D8.out.blk⟩;have c0:=HGC.out w12 b12;obtain⟨e0,T,hS⟩:=HNE.out (by simp);obtain⟨lg,lo,hoa,hcl,hfr,hlt,ho2⟩:=AO12.out.setQ (i:=1) (by omega) (.int .u64 (ptV 3:Nat));subst hoa;rw[hS]at hcl;have hcl2:w12.cell? ⟨lg,lo+1,none⟩=some (.int .u64 (e0.2:Nat)):=hcl;have hlg:w.heap.size≤lg:=ON.out lg rfl;have hlg2:=AO8.out.lt lg rfl;have D13:Hid (DirAt (w12.setCell ⟨lg,lo+1,none⟩ (.int .u64 (ptV 3:Nat))) w.heap.size 128 (.iface 40 (.pointer (some ⟨v.tb 0,0,none⟩)))):=Lib.hid ⟨D12.out.blk.other (by have:=ND.out lg rfl;show w.heap.size≠lg;omega) _⟩;have HL13:=Lib.hid (hl12 _ w.heap.size lg (lo+1) _ hlg hlg2 rfl D13.out);have B13:=Lib.hid (B12.out.setCell (p:=⟨lg,lo+1,none⟩) (Nat.le_trans HB0.out hlg) (.int .u64 (ptV 3:Nat)));have O13:Hid (OwnSl (w12.setCell ⟨lg,lo+1,none⟩ (.int .u64 (ptV 3:Nat))) 171 2 (.slice (some ⟨lg,lo,none⟩) sl oc) ((e0.1,ptV 3)::T).length (eC ((e0.1,ptV 3)::T))):=Lib.hid (by
    have:=ho2;rw[hS]at this;rw[show((e0.1,ptV 3)::T).length=sl by rw[← SL.out,hS];rfl];exact this)
   have HQ:Hid (((e0.1,ptV 3)::T).map toL=setP (S1.map toL)):=Lib.hid (by rw[hS];rfl);have HTL:Hid (((e0.1,ptV 3)::T).length≤100000∧((e0.1,ptV 3)::T).length=sl):=Lib.hid (by rw[show((e0.1,ptV 3)::T).length=sl by rw[← SL.out,hS];rfl];exact⟨by omega,rfl⟩)
   generalize ((e0.1,ptV 3)::T)=S3 at *
   clear he b12 z12 k12 hl12 hcl hS ho2 HS1;go_wp2_with fail
   (with_reducible refine(HP3.out _).mono ?_)
   rintro r wq ⟨rfl,rfl⟩;go_wp2_with fail
   (with_reducible refine HL13.out.mono ?_)
   rintro r w14 ⟨ov2,rfl,a14⟩;have HEQ:=Lib.hid (equalEn_any (w:=w14) ov2 (.slice (some ⟨lg,lo,none⟩) sl oc) S2 S3 a14.rd (by have:=(O13.out.kept (fun k hk=>a14.bel.block k (O13.out.lt k hk))).rd;rw[HTL.out.2]at this ⊢;exact this) (by omega) HTL.out.1);have B14:=Lib.hid (B13.out.trans (a14.bel.mono (Nat.le_trans HB0.out B13.out.size)));clear a14 HL13;go_wp2_with fail
   (with_reducible refine HEQ.out.mono ?_)
   rintro r w15 ⟨rfl,b15⟩;have B15:=Lib.hid (B14.out.trans (b15.mono (Nat.le_trans HB0.out B14.out.size)));clear b15;go_wp2_with fail
   go_ret
   exact⟨by rw[HQ.out];simp[HE.out],B15.out⟩
end
end

section
open Go.RowKit
def sbQ:List (Nat×Nat×Int):=sbP ((supK 2).withGen 2) 1
def sbC:Nat→Int:=prgC ((supK 1).withGen 1) 0 (ersC (fun _=>0))
def rdC:Nat→Int:=rdCC 1 2 (fun i=>look [(640,0)] 0 i)
def udC:Nat→Int:=udCC 1 2 (fun _=>0)
def bkC:Nat→Int:=putC (fun _=>0) 1312 5 1
def bkQ:List (Nat×Nat×Int):=putL bkC 1312 6 2
def lfC:Nat→Int:=fun i=>look (lfWs 28) 0 i
def rtCs:Nat→Int:=rtC rtZ [97] (ptV 1)
theorem sbQ_q:∀ e∈sbQ,okqB e=true:=by decide +kernel
theorem rdQ_q:∀ e∈rPlanP 640 (rdW 3 4),okqB e=true:=by decide +kernel
theorem udQ_q:∀ e∈udQ 3 4 (udCC 1 2 (fun _=>0)),okqB e=true:=by decide +kernel
theorem bkQ_q:∀ e∈bkQ,okqB e=true:=by decide +kernel
theorem lfQ_q:∀ e∈putL1 lfC 6 2,okqB e=true:=by decide +kernel
theorem rtQ_q:∀ e∈progR 128 (rtW rtCs) [98] (ptV 2),okqB e=true:=by decide +kernel
theorem bkC_inv:BInv bkC 1312:=(BInv.zero _ (fun _=>by simp) rfl).put (by omega) (by omega)
theorem bkC_put:putE bkC 1312 6=0:=by kernel_rfl
theorem lfC_put:LfPut lfC 6 2:=⟨by decide +kernel,by decide +kernel,by decide +kernel,lfQ_q,by decide +kernel,by decide +kernel,by decide +kernel⟩
theorem rtCs_opn:opnE (rtW rtCs)=0:=by kernel_rfl
theorem rtCs_err:errE (rtW rtCs) [98] (ptV 2) 4096=0:=by kernel_rfl
section
variable{D:Dev}{n x:Nat}
theorem sbC_new(hn:48≤n):newG sbC n=true∧newA sbC n=0∧newS sbC n=(supK 1).withGen 1:=by
 obtain⟨_,_,f3,f4,f5⟩:=new_format ((supK 1).withGen 1) ((supK_ok 1 (by omega) (by omega)).withGen 1) (by decide) (fun _=>0) (n:=n) (show(48:Int)≤(n:Int)by omega);exact⟨f3,f4,f5⟩
theorem sb_setup(h:SCl D 0 n (fun _=>0) x)(hn:64≤n):SCl (D.run 0 sbSetP) 0 n sbC (x+24):=
 h.format (s:=(supK 1).withGen 1) (((supK_ok 1 (by omega) (by omega)).withGen 1).fits (by decide) (by decide)) (show 2≤n by omega)
theorem rd_setup(h:SCl D 0 n (fun _=>0) x)(hn:64≤n):SCl (D.run 0 rdSetP) 0 n rdC (x+30):=by
 have h1:=rd_commit (rd_format h hn) hn 1 2 (by omega) (by omega);have l1:=storesL_len [(640,(0:Int))];have l2:=rd_plan_len 1 2;simp only[List.length_cons,List.length_nil]at l1;unfold rdSetP;rw[Dev.run_append];exact h1.mono (by omega)
theorem bk_setup(h:SCl D 0 n (fun _=>0) x)(hn:64≤n):SCl (D.run 0 bkSetP) 0 n bkC (x+9):=
 (h.bcl.put (off:=1312) rfl (by omega) (k:=5) (v:=1) (by omega) (by omega) (by decide)).scl
theorem rt_setup(h:SCl D 0 n (fun _=>0) x)(hn:64≤n):SCl (D.run 0 rtSetP) 0 n rtCs (x+42):=by
 have h1:=rt_chg (rt_fmt h hn) hn [97] (ptV 1) 4096 (errS_err rtZ_err) (ptV_lt 1);unfold rtSetP;rw[Dev.run_append];exact h1.mono (by omega)
end
end

section
open Go.RowKit Go.Maps
section
variable{w wb:World}{v:DV}{own:Nat→Option Role}{D D1:Dev}{a g g1 g2 n x:Nat}{C:Nat→Int}{q:List (Nat×Nat×Int)}{ok:(Nat→Int)→Prop}{gd:(Nat→Int)→Bool→Bool}
theorem Pst.base{B:Nat}{w':World}(P:Pst B w.drew v D own w'):Pst B w v D own w':=⟨P.dev,P.ab,((Below.refl B w).drew).trans P.bel,P.le⟩
theorem below_base{B:Nat}{w':World}(h:Below B w.drew w'):Below B w w':=((Below.refl B w).drew).trans h
theorem scl_tot(h:SCl D 0 n C x):totH D=0:=by
 have:∀ m,sumH (fun l=>(D.hist l).length) m=0:=by
  intro m
  induction m with
  | zero=>rfl
  | succ m ih=>
   show sumH (fun l=>(D.hist l).length) m+(D.hist m).length=0
   rw[ih,h.grp.hst.hist];rfl
 exact this _
theorem SyP.of(hn:64≤n)(hn2:n≤4096)(cl:SCl D1 0 n C x)(hx:x≤100)(hq:∀ e∈q,okqB e=true)(hl:q.length≤60)
  (setup:∀ (wx:World) (v:DV) (own:Nat→Option Role) (B:Nat),Below wb.heap.size wb wx→(∀ k,own k≠none→B≤k)→wb.heap.size≤B→B≤wx.heap.size→IsDev wx v own (Dev.fresh n (fun _=>0)) →
   Calls Tryz.prog 305 #[.pointer (some ⟨a,0,none⟩),.pointer (some ⟨v.db,0,none⟩)] wx fun r w'=>∃ x,r = .returned (.int .i64 x)∧x=0∧∃ own',Pst B wx v D1 own' w')
  (prog:∀ (wx:World) (v:DV) (own:Nat→Option Role),Below wb.heap.size wb wx→(∀ k,own k≠none→wb.heap.size≤k)→IsDev wx v own D1 →
   Calls Tryz.prog 304 #[.pointer (some ⟨a,0,none⟩),(.iface 40 (.pointer (some ⟨v.tb 0,0,none⟩)))] wx fun r w'=>∃ sv x,r = .returned (.tuple #[sv,.int .i64 x])∧x=0∧Acc wx wx.heap.size w' 73 3 sv q.length (instrC q))
  (good:∀ (wx:World) (v:DV) (own:Nat→Option Role) (D:Dev) (x:Nat) (F:Nat→Int) (B:Nat) (e:Bool),Below wb.heap.size wb wx→ok F→SCl D 0 n F x→x≤1000→IsDev wx v own D→(∀ k,own k≠none→B≤k)→wb.heap.size≤B→B≤wx.heap.size →
   Calls Tryz.prog 303 #[.pointer (some ⟨a,0,none⟩),.pointer (some ⟨v.db,0,none⟩),.bool e] wx fun r w'=>∃ x,r = .returned (.bool x)∧x=gd F e∧Below B wx w') :
  SyP wb a n D1 q ok gd where
 lo:=hn
 hi:=hn2
 dn:=cl.grp.on.n
 vb:=cl.vb
 ex:=by have:=cl.exec;omega
 tot:=scl_tot cl
 len:=hl
 okq:=fun e he=>okqB_ok (hq e he) hn
 setup:=fun wx v own B h1 h2 h3 h4 h5=>(setup wx v own B h1 h2 h3 h4 h5).mono fun r w' ⟨x,h6,h7,h8⟩=>⟨by rw[h6,h7],h8⟩
 prog:=fun wx v own h1 h2 h3=>(prog wx v own h1 h2 h3).mono fun r w' ⟨sv,x,h6,h7,h8⟩=>⟨sv,by rw[h6,h7],h8⟩
 good:=fun wx v own D x F B e h1 h2 h3 h4 h5 h6 h7 h8=>(good wx v own D x F B e h1 h2 h3 h4 h5 h6 h7 h8).mono fun r w' ⟨x,h9,h10,h11⟩=>⟨by rw[h9,h10],h11⟩
theorem sb_pst{B:Nat}{w':World}(h:IsDev w v own D)(ab:∀ k,own k≠none→B≤k)(le:B≤w.heap.size){D':Dev}(hp:DPost v own w.drew D' w'):∃ own',Pst B w v D' own' w':=((Pst.start h.drew ab le).post hp).imp fun _ k=>k.base
theorem sySb(ha:Blk wb a #[.func (.func 81) #[] #[.pointer (some ⟨g1,0,none⟩)],.func (.func 83) #[] #[.pointer (some ⟨g1,0,none⟩)],.func (.func 84) #[] #[.pointer (some ⟨g1,0,none⟩)]] 166)(hg:SbBox wb g1)(hN:Nib wb)(h0:0<wb.heap.size)(hn:64≤n)(hn2:n≤4096) :
  SyP wb a n ((Dev.fresh n (fun _=>0)).run 0 sbSetP) sbQ (fun _=>True) (gSb n):=by
 have S0:=fresh_scl (f:=fun _=>0) (fun _=>by omega) 0 n;have S1:=(sb_setup S0 hn);have hg1:=hg.lt;obtain⟨f3,f4,f5⟩:=sbC_new (n:=n) (by omega);refine SyP.of hn hn2 S1 (by omega) sbQ_q (by decide +kernel) (fun wx v own B h1 h2 h3 h4 h5 => ?_) (fun wx v own h1 h2 h3 => ?_) (fun wx v own D x F B e h1 h2 h3 h4 h5 h6 h7 h8 => ?_)
 ·refine sySetup_of1 (ha.below h1) h5 hn ?_
  exact(ncSb2_any ((hN.below h1).below (Below.refl _ _).drew) ((hg.below h1).below (Below.refl _ _).drew) h5.drew rfl (show 48≤n by omega) (show 0+100000<_ by omega)).mono fun r w' hp=>⟨_,hp.1,(by rw[S1.grp.on.err]),sb_pst h5 h2 h4 hp.2⟩
 ·refine syProgram_of1 (ha.below h1) ?_
  exact((ncSb3_any (hN.below h1) (hg.below h1) h3 S1.grp.on.off S1.grp.on.err S1.vb (by rw[S1.grp.on.n];omega)).mono fun r w' hp=>by
   rw[S1.cur,S1.grp.on.n]at hp
   rcases hp with ⟨k,_⟩ | ⟨_,k,_⟩ | ⟨_,_,ov,rfl,a2⟩
   ·rw[f3]at k;cases k
   ·rw[f5]at k;exact absurd k (by decide)
   ·rw[f5,f4]at a2
    exact⟨ov,0,rfl,rfl,a2⟩)
 ·refine syGood_of1 (ha.below h1) h5 e ?_
  exact(ncSb4_any ((hN.below h1).below (Below.refl _ _).drew) ((hg.below h1).below (Below.refl _ _).drew) (Pst.start h5.drew h6 h8) (Nat.lt_of_lt_of_le h0 h7) (Nat.lt_of_lt_of_le hg1 h7) h3 hn h4 e).mono fun r w' hp=>⟨_,hp.1,rfl,below_base hp.2⟩
theorem syRd(ha:Blk wb a #[.func (.func 99) #[] #[.pointer (some ⟨g1,0,none⟩)],.func (.func 101) #[] #[],.func (.func 102) #[] #[.pointer (some ⟨g1,0,none⟩)]] 166)(hg:RdBox wb g1)(hN:Nib wb)(h0:0<wb.heap.size)(hn:64≤n)(hn2:n≤4096) :
  SyP wb a n ((Dev.fresh n (fun _=>0)).run 0 rdSetP) (rPlanP 640 (rdW 3 4)) (fun _=>True) (gRd n):=by
 have S0:=fresh_scl (f:=fun _=>0) (fun _=>by omega) 0 n;have S1:=(rd_setup S0 hn);have hg1:=hg.lt;refine SyP.of hn hn2 S1 (by omega) rdQ_q (by decide +kernel) (fun wx v own B h1 h2 h3 h4 h5 => ?_) (fun wx v own h1 h2 h3 => ?_) (fun wx v own D x F B e h1 h2 h3 h4 h5 h6 h7 h8 => ?_)
 ·refine sySetup_of3 (ha.below h1) h5 hn ?_
  exact(ncRd2_any ((hN.below h1).below (Below.refl _ _).drew) ((hg.below h1).below (Below.refl _ _).drew) (Pst.start h5.drew h2 h4) (Nat.lt_of_lt_of_le h0 h3) (Nat.lt_of_lt_of_le hg1 h3) S0 hn (by omega)).mono fun r w' hp=>⟨_,hp.1,rfl,hp.2.imp fun _ k=>k.base⟩
 ·refine syProgram_of3 (ha.below h1) ?_
  exact((ncRd3_any (hN.below h1) h3 S1 (rdCC_0 _ _ _) hn).mono fun r w' ⟨sv,h6,h7⟩=>⟨sv,0,h6,rfl,h7⟩)
 ·refine syGood_of3 (ha.below h1) h5 e ?_
  exact(ncRd4_any ((hN.below h1).below (Below.refl _ _).drew) ((hg.below h1).below (Below.refl _ _).drew) (Pst.start h5.drew h6 h8) (Nat.lt_of_lt_of_le h0 h7) (Nat.lt_of_lt_of_le hg1 h7) h3 hn h4 e).mono fun r w' hp=>⟨_,hp.1,rfl,below_base hp.2⟩
theorem syUd(ha:Blk wb a #[.func (.func 109) #[] #[.pointer (some ⟨g2,0,none⟩)],.func (.func 110) #[] #[.pointer (some ⟨g1,0,none⟩)],.func (.func 111) #[] #[.pointer (some ⟨g2,0,none⟩)]] 166)(hg:UdBox wb g2)(hg2:UdBx2 wb g1)(hn:64≤n)(hn2:n≤4096) :
  SyP wb a n ((Dev.fresh n (fun _=>0)).run 0 udSetP) (udQ 3 4 (udCC 1 2 (fun _=>0))) (fun _=>True) (gUd n):=by
 have S0:=fresh_scl (f:=fun _=>0) (fun _=>by omega) 0 n;have S1:=(ud_exec S0 hn 1 2 (by omega) (by omega));have hg1:=hg.lt;refine SyP.of hn hn2 S1 (by omega) udQ_q (by decide +kernel) (fun wx v own B h1 h2 h3 h4 h5 => ?_) (fun wx v own h1 h2 h3 => ?_) (fun wx v own D x F B e h1 h2 h3 h4 h5 h6 h7 h8 => ?_)
 ·refine sySetup_of4 (ha.below h1) h5 hn ?_
  exact(ncUd3_any ((hg.below h1).below (Below.refl _ _).drew) (Pst.start h5.drew h2 h4) S0 hn (by omega)).mono fun r w' hp=>⟨_,hp.1,rfl,hp.2.imp fun _ k=>k.base⟩
 ·refine syProgram_of4 (ha.below h1) ?_
  exact((ncUd4_any (Blk.below hg2 h1) h3 S1 (saved_zero (udCC_0 _ _ _)) hn).mono fun r w' ⟨sv,h6,h7⟩=>⟨sv,0,h6,rfl,h7⟩)
 ·refine syGood_of4 (ha.below h1) h5 e ?_
  exact(ncUd5_any ((hg.below h1).below (Below.refl _ _).drew) (Pst.start h5.drew h6 h8) (Nat.lt_of_lt_of_le hg1 h7) h3 hn h4 e).mono fun r w' hp=>⟨_,hp.1,rfl,below_base hp.2⟩
theorem syBk(ha:Blk wb a #[.func (.func 113) #[] #[],.func (.func 115) #[] #[],.func (.func 116) #[] #[]] 166)(hn:64≤n)(hn2:n≤4096) :
  SyP wb a n ((Dev.fresh n (fun _=>0)).run 0 bkSetP) bkQ okBk gBk:=by
 have S0:=fresh_scl (f:=fun _=>0) (fun _=>by omega) 0 n;have S1:=(bk_setup S0 hn);refine SyP.of hn hn2 S1 (by omega) bkQ_q (by decide +kernel) (fun wx v own B h1 h2 h3 h4 h5 => ?_) (fun wx v own h1 h2 h3 => ?_) (fun wx v own D x F B e h1 h2 h3 h4 h5 h6 h7 h8 => ?_)
 ·refine sySetup_of5 (ha.below h1) h5 hn ?_
  exact(ncBk1_any (Pst.start h5.drew h2 h4) S0 hn (by omega)).mono fun r w' hp=>⟨_,hp.1,rfl,hp.2.imp fun _ k=>k.base⟩
 ·refine syProgram_of5 (ha.below h1) ?_
  exact((ncBk2_any h3 S1 hn bkC_inv bkC_put).mono fun r w' ⟨sv,h6,h7⟩=>⟨sv,0,h6,rfl,h7⟩)
 ·refine syGood_of5 (ha.below h1) h5 e ?_
  exact(ncBk3_any (Pst.start h5.drew h6 h8) h3 hn h4 h2 e).mono fun r w' hp=>⟨_,hp.1,rfl,below_base hp.2⟩
theorem syLf(ha:Blk wb a #[.func (.func 122) #[] #[],.func (.func 125) #[] #[.pointer (some ⟨g1,0,none⟩)],.func (.func 126) #[] #[.pointer (some ⟨g1,0,none⟩)]] 166)(hg:LfBox wb g1)(hn:64≤n)(hn2:n≤4096) :
  SyP wb a n ((Dev.fresh n (fun _=>0)).run 0 lfSetP) (putL1 lfC 6 2) OkLf gLf:=by
 have S0:=fresh_scl (f:=fun _=>0) (fun _=>by omega) 0 n;have S1:=(lf_set S0 hn);refine SyP.of hn hn2 S1 (by rw[show lfSetP.length=33 by decide +kernel];omega) lfQ_q (by decide +kernel) (fun wx v own B h1 h2 h3 h4 h5 => ?_) (fun wx v own h1 h2 h3 => ?_) (fun wx v own D x F B e h1 h2 h3 h4 h5 h6 h7 h8 => ?_)
 ·refine sySetup_of6 (ha.below h1) h5 hn ?_
  exact(ncLf2_any (Pst.start h5.drew h2 h4) S0 hn (by omega)).mono fun r w' hp=>⟨_,hp.1,rfl,hp.2.imp fun _ k=>k.base⟩
 ·refine syProgram_of6 (ha.below h1) ?_
  exact((ncLf3_any (hg.below h1) h3 S1.onC hn rfl rfl lfC_put).mono fun r w' ⟨sv,h6,h7⟩=>⟨sv,0,h6,rfl,h7⟩)
 ·refine syGood_of6 (ha.below h1) h5 e ?_
  exact(ncLf4_any ((hg.below h1).below (Below.refl _ _).drew) (Pst.start h5.drew h6 h8) h3 hn h4 h2 e).mono fun r w' hp=>⟨_,hp.1,rfl,below_base hp.2⟩
theorem syRt(ha:Blk wb a #[.func (.func 88) #[] #[.pointer (some ⟨g1,0,none⟩)],.func (.func 91) #[] #[.pointer (some ⟨g1,0,none⟩)],.func (.func 92) #[] #[.pointer (some ⟨g1,0,none⟩)]] 166)(hg:RtBox wb g1)(hN:Nib wb)(h0:0<wb.heap.size)(hn:64≤n)(hn2:n≤4096) :
  SyP wb a n ((Dev.fresh n (fun _=>0)).run 0 rtSetP) (progR 128 (rtW rtCs) [98] (ptV 2)) (fun _=>True) gRt:=by
 have S0:=fresh_scl (f:=fun _=>0) (fun _=>by omega) 0 n;have S1:=(rt_setup S0 hn);have hg1:=hg.lt;refine SyP.of hn hn2 S1 (by omega) rtQ_q (by decide +kernel) (fun wx v own B h1 h2 h3 h4 h5 => ?_) (fun wx v own h1 h2 h3 => ?_) (fun wx v own D x F B e h1 h2 h3 h4 h5 h6 h7 h8 => ?_)
 ·refine sySetup_of2 (ha.below h1) h5 hn ?_
  exact(ncRt2_any ((hN.below h1).below (Below.refl _ _).drew) ((hg.below h1).below (Below.refl _ _).drew) (Pst.start h5.drew h2 h4) (Nat.lt_of_lt_of_le h0 h3) (Nat.lt_of_lt_of_le hg1 h3) S0 hn (by omega)).mono fun r w' hp=>⟨_,hp.1,rfl,hp.2.imp fun _ k=>k.base⟩
 ·refine syProgram_of2 (ha.below h1) ?_
  exact((ncRt3_any (hN.below h1) (hg.below h1) h3 S1 hn rtCs_opn rtCs_err).mono fun r w' ⟨sv,h6,h7⟩=>⟨sv,0,h6,rfl,h7⟩)
 ·refine syGood_of2 (ha.below h1) h5 e ?_
  exact(ncRt4_any ((hN.below h1).below (Below.refl _ _).drew) ((hg.below h1).below (Below.refl _ _).drew) (Pst.start h5.drew h6 h8) (Nat.lt_of_lt_of_le h0 h7) (Nat.lt_of_lt_of_le hg1 h7) h3 hn h4 e).mono fun r w' hp=>⟨_,hp.1,rfl,below_base hp.2⟩
end
end

section
open Go.RowKit
def Bd(F:Nat→Int):Prop:=∀ i,0≤F i∧F i<18446744073709551616
structure Ev(q:List (Nat×Nat×Int))(C:Nat→Int)(g64:(Nat→Int)→Bool→Bool)(okB:(Nat→Int)→Bool)(fn:Nat):Prop where
 ok:∀ f:Int,-1≤f→f<fn→(fndG (fun F _=>okB F) (Dev.fresh 64 C) (qOf f q) 1000).2.2=1
 sys:(fndG g64 (Dev.fresh 64 C) q 1000).2.2=1
 bad:∀ f:Int,0≤f→f<fn→(fndG g64 (Dev.fresh 64 C) (qOf f q) 1000).2.2=0
 fn:fenN q=fn
theorem Ev.use{q:List (Nat×Nat×Int)}{C:Nat→Int}{g g64:(Nat→Int)→Bool→Bool}{okB:(Nat→Int)→Bool}{ok:(Nat→Int)→Prop}{fn:Nat}{D1:Dev}(E:Ev q C g64 okB fn)(S:Sim D1 (Dev.fresh 64 C))(hC:Bd C)(hq:∀ e∈q,okqB e=true)
  (h:∀ F,Bd F→okB F=true→ok F∧∀ e,g F e=g64 F e) (f:Int) (h1 : -1≤f) (h2:f<fn) :
  (∀ k,k≤(qOf f q).length→∀ i,i<prodN (basesL (D1.run 0 ((qOf f q).take k)))→ok (imgN (D1.run 0 ((qOf f q).take k)) i))∧fndG g D1 (qOf f q) 1000=fndG g64 (Dev.fresh 64 C) (qOf f q) 1000:=by
 have hq':∀ e∈qOf f q,OkQ 64 e:=fun e he=>okqB_ok (hq e (qOf_mem e he)) (Nat.le_refl _)
 have hvb:(Dev.fresh 64 C).VB:=⟨hC,fun l e he=>by simp[Dev.fresh]at he⟩;have hall:=fndG_all (g:=fun F _=>okB F) (D:=Dev.fresh 64 C) (q:=qOf f q) (L:=1000) _ _ (E.ok f h1 h2);have hb:∀ k i,Bd (imgN ((Dev.fresh 64 C).run 0 ((qOf f q).take k)) i):=fun k i j=>by
  have:=Dev.VB.run ((qOf f q).take k) hvb 0 (fun e he _=>⟨(hq' e (List.mem_of_mem_take he)).v0,(hq' e (List.mem_of_mem_take he)).v1⟩);exact this.img _ j
 have key:∀ k,k≤(qOf f q).length→∀ i,i<prodN (basesL ((Dev.fresh 64 C).run 0 ((qOf f q).take k)))→ok (imgN ((Dev.fresh 64 C).run 0 ((qOf f q).take k)) i)∧∀ e,g (imgN ((Dev.fresh 64 C).run 0 ((qOf f q).take k)) i) e=g64 (imgN ((Dev.fresh 64 C).run 0 ((qOf f q).take k)) i) e:=fun k hk i hi=>
  h _ (hb k i) ((hall k (Nat.zero_le _) (by omega)).2 i hi)
 refine⟨fun k hk i hi => ?_,?_⟩
 ·have hs:=S.run (q:=(qOf f q).take k) (fun e he=>hq' e (List.mem_of_mem_take he))
  rw[hs.img];rw[hs.bases]at hi;exact(key k hk i hi).1
 ·rw[S.fnd g hq' 1000]
  exact fndG_congr (fun k hk i hi e=>(key k hk i hi).2 e) _ _ (by omega)
def okSb(F:Nat→Int):Bool:=decide ((Sup.of (cpW F 0)).lin≤64)&&decide ((Sup.of (cpW F 1)).lin≤64)
theorem goodB_n{W:List Nat}(h:(Sup.of W).lin≤64){n:Nat}(hn:64≤n):goodB W n=goodB W 64:=by
 unfold goodB;rw[decide_eq_true (show(Sup.of W).lin≤(n:Int)by omega),decide_eq_true (show(Sup.of W).lin≤((64:Nat):Int)by omega)]
theorem okSb_n{F:Nat→Int}(h:okSb F=true){n:Nat}(hn:64≤n)(e:Bool):gSb n F e=gSb 64 F e:=by
 unfold okSb at h;simp only[Bool.and_eq_true,decide_eq_true_eq]at h;have g0:cpG F n 0=cpG F 64 0:=goodB_n h.1 hn;have g1:cpG F n 1=cpG F 64 1:=goodB_n h.2 hn;have s0:cpS F n 0=cpS F 64 0:=by unfold cpS decoded;rw[goodB_n h.1 hn]
 have s1:cpS F n 1=cpS F 64 1:=by unfold cpS decoded;rw[goodB_n h.2 hn]
 have nb:newB F n=newB F 64:=by unfold newB;rw[g0,g1,s0,s1]
 have ng:newG F n=newG F 64:=by unfold newG;rw[nb,g0]
 have ns:newS F n=newS F 64:=by
  unfold newS newA;rw[nb]
  split
  ·exact s1
  ·exact s0
 unfold gSb;rw[ng,ns]
def okRd(F:Nat→Int):Bool:=(List.range ((F 80).toNat%65536)).all fun i=>decide ((F (88+2*i)).toNat<4096)
theorem all_same{α:Type}{l:List α}{p q:α→Bool}(h:∀ x∈l,p x=q x):l.all p=l.all q:=by
 induction l with
 | nil=>rfl
 | cons x l ih=>rw[List.all_cons,List.all_cons,h x (List.mem_cons_self ..),ih (fun y hy=>h y (List.mem_cons_of_mem _ hy))]
theorem rAllow_n{o n:Nat}(h:o<4096)(hn:64≤n):rAllowB (64*n) 640 1664 o=rAllowB (64*64) 640 1664 o:=by
 unfold rAllowB;exact decide_eq_decide.2 ⟨fun k=>⟨k.1,by omega,k.2.2⟩,fun k=>⟨k.1,by omega,k.2.2⟩⟩
theorem rLook_n{F:Nat→Int}(h:okRd F=true){n:Nat}(hn:64≤n):rdL n F=rdL 64 F:=by
 unfold okRd at h;have h':=List.all_eq_true.1 h;have ha:((List.range ((F 80).toNat%65536)).map fun i=>((F (80+8+2*i)).toNat,F (80+9+2*i))).all (fun e=>rAllowB (64*n) 640 1664 e.1)=((List.range ((F 80).toNat%65536)).map fun i=>((F (80+8+2*i)).toNat,F (80+9+2*i))).all (fun e=>rAllowB (64*64) 640 1664 e.1):=
  all_same (fun e he=>by
   obtain⟨i,hi,rfl⟩:=List.mem_map.1 he;have:=h' i hi;simp only[decide_eq_true_eq]at this;exact rAllow_n this hn)
 unfold rdL rLook;rw[show 640/8=80 from rfl];simp only;rw[ha]
theorem okRd_n{F:Nat→Int}(h:okRd F=true){n:Nat}(hn:64≤n)(e:Bool):gRd n F e=gRd 64 F e:=by
 have h1:=rLook_n h hn;have h2:rdF n F=rdF 64 F:=by unfold rdF;rw[h1]
 unfold gRd;rw[h1,h2]
def okUd(F:Nat→Int):Bool:=(savedL F 640 2).all fun e=>decide (e.1<4096)
theorem okUd_n{F:Nat→Int}(h:okUd F=true){n:Nat}(hn:64≤n)(e:Bool):gUd n F e=gUd 64 F e:=by
 have h':=List.all_eq_true.1 h;have hv:udV n F=udV 64 F:=by
  unfold udV validL;refine List.filter_congr (fun e he => ?_)
  have:=h' e he;simp only[decide_eq_true_eq]at this;unfold allowedB;exact decide_eq_decide.2 ⟨fun k=>⟨k.1,by omega,k.2.2⟩,fun k=>⟨k.1,by omega,k.2.2⟩⟩
 have h2:udF2 n F=udF2 64 F:=by unfold udF2;rw[hv]
 unfold gUd;rw[h2]
def invB(F:Nat→Int):Bool:=((List.range 7).all fun s => !usedB (bkH F 1312) s || decide (fpN (bkH F 1312) s=mixN (bkK F 1312 s).toNat%256)) &&
 ((List.range 7).all fun s=>(List.range 7).all fun t => !(usedB (bkH F 1312) s&&usedB (bkH F 1312) t&&decide (bkK F 1312 s=bkK F 1312 t)) || decide (s=t))
def okBkB(F:Nat→Int):Bool := !expB (entB F 1312 7) false || invB F
theorem okBkB_ok{F:Nat→Int}(hF:Bd F)(h:okBkB F=true):okBk F:=by
 intro he;unfold okBkB at h;rw[he]at h;simp only[Bool.not_true,Bool.false_or]at h;unfold invB at h;simp only[Bool.and_eq_true,List.all_eq_true,List.mem_range,Bool.or_eq_true,Bool.not_eq_true',decide_eq_true_eq]at h;refine⟨hF,fun s hs hu => ?_,fun s t hs ht hu hv hk => ?_⟩
 ·rcases h.1 s hs with h1 | h1
  ·rw[hu]at h1;cases h1
  ·exact h1
 ·rcases h.2 s hs t ht with h1 | h1
  ·rw[hu,hv,decide_eq_true hk]at h1;cases h1
  ·exact h1
def putB(F:Nat→Int):Bool:=decide (nodeOk (lfW F) 4096)&&(!foundB (lfW F) 7 (slotsW (lfW F))&&(decide ((slotsW (lfW F)).length<12)&&((putL1 F 7 3).all okqB&&(decide ((putL1 F 7 3).length≤20)&&(decide (nodeOk (lfW (lookI (putL1 F 7 3) F)) 4096)&&decide (lookI (putL1 F 7 3) F 193=0))))))
def okLfB(F:Nat→Int):Bool:=decide (F 193=0)&&(decide (F 195=0)&&(!(decide (nodeOk (lfW F) 4096)&&expB (entL1 F) false) || putB F))
theorem okLfB_ok{F:Nat→Int}(h:okLfB F=true):OkLf F:=by
 unfold okLfB at h;simp only[Bool.and_eq_true,decide_eq_true_eq]at h;obtain⟨h1,h2,h3⟩:=h;refine⟨h1,h2,fun h4 h5 => ?_⟩
 rw[decide_eq_true h4,h5]at h3;simp only[Bool.and_self,Bool.not_true,Bool.false_or]at h3;unfold putB at h3;simp only[Bool.and_eq_true,decide_eq_true_eq,Bool.not_eq_true']at h3;obtain⟨a1,a2,a3,a4,a5,a6,a7⟩:=h3;exact⟨a1,a2,a3,fun e he=>List.all_eq_true.1 a4 e he,a5,a6,a7⟩
theorem cases4{f:Int}{P:Int→Prop}{m:Nat}(h1 : -1≤f)(h2:f<m)(h:P (-1)∧∀ k,k<m→P (k:Nat)):P f:=by
 by_cases h3:f = -1
 ·rw[h3];exact h.1
 ·have:=h.2 f.toNat (by omega)
  rwa [show((f.toNat:Nat):Int)=f by omega]at this
theorem cases5{f:Int}{P:Int→Prop}{m:Nat}(h1:0≤f)(h2:f<m)(h:∀ k,k<m→P (k:Nat)):P f:=by
 have:=h f.toNat (by omega)
 rwa [show((f.toNat:Nat):Int)=f by omega]at this
theorem one1{P:Nat→Prop}(h:P 0):∀ k,k<1→P k:=fun k hk=>by
 obtain rfl:k=0:=by omega
 exact h
theorem two2{P:Nat→Prop}(h:P 0∧P 1):∀ k,k<2→P k:=fun k hk=>by
 obtain rfl | rfl:k=0∨k=1:=by omega
 ·exact h.1
 ·exact h.2
theorem four4{P:Nat→Prop}(h:P 0∧P 1∧P 2∧P 3):∀ k,k<4→P k:=fun k hk=>by
 obtain rfl | rfl | rfl | rfl:k=0∨k=1∨k=2∨k=3:=by omega
 ·exact h.1
 ·exact h.2.1
 ·exact h.2.2.1
 ·exact h.2.2.2
theorem evBk:Ev bkQ bkC gBk okBkB 2 where
 ok:=fun f h1 h2=>cases4 (P:=fun f=>(fndG (fun F _=>okBkB F) (Dev.fresh 64 bkC) (qOf f bkQ) 1000).2.2=1) h1 h2 ⟨by kernel_rfl,two2 ⟨by kernel_rfl,by kernel_rfl⟩⟩
 sys:=by kernel_rfl
 bad:=fun f h1 h2=>cases5 (P:=fun f=>(fndG gBk (Dev.fresh 64 bkC) (qOf f bkQ) 1000).2.2=0) h1 h2 (two2 ⟨by kernel_rfl,by kernel_rfl⟩)
 fn:=by kernel_rfl
theorem evLf:Ev (putL1 lfC 6 2) lfC gLf okLfB 2 where
 ok:=fun f h1 h2=>cases4 (P:=fun f=>(fndG (fun F _=>okLfB F) (Dev.fresh 64 lfC) (qOf f (putL1 lfC 6 2)) 1000).2.2=1) h1 h2 ⟨by kernel_rfl,two2 ⟨by kernel_rfl,by kernel_rfl⟩⟩
 sys:=by kernel_rfl
 bad:=fun f h1 h2=>cases5 (P:=fun f=>(fndG gLf (Dev.fresh 64 lfC) (qOf f (putL1 lfC 6 2)) 1000).2.2=0) h1 h2 (two2 ⟨by kernel_rfl,by kernel_rfl⟩)
 fn:=by kernel_rfl
theorem evRd:Ev (rPlanP 640 (rdW 3 4)) rdC (gRd 64) okRd 4 where
 ok:=fun f h1 h2=>cases4 (P:=fun f=>(fndG (fun F _=>okRd F) (Dev.fresh 64 rdC) (qOf f (rPlanP 640 (rdW 3 4))) 1000).2.2=1) h1 h2 ⟨by kernel_rfl,four4 ⟨by kernel_rfl,by kernel_rfl,by kernel_rfl,by kernel_rfl⟩⟩
 sys:=by kernel_rfl
 bad:=fun f h1 h2=>cases5 (P:=fun f=>(fndG (gRd 64) (Dev.fresh 64 rdC) (qOf f (rPlanP 640 (rdW 3 4))) 1000).2.2=0) h1 h2 (four4 ⟨by kernel_rfl,by kernel_rfl,by kernel_rfl,by kernel_rfl⟩)
 fn:=by kernel_rfl
theorem evUd:Ev (udQ 3 4 (udCC 1 2 (fun _=>0))) udC (gUd 64) okUd 4 where
 ok:=fun f h1 h2=>cases4 (P:=fun f=>(fndG (fun F _=>okUd F) (Dev.fresh 64 udC) (qOf f (udQ 3 4 (udCC 1 2 (fun _=>0)))) 1000).2.2=1) h1 h2 ⟨by kernel_rfl,four4 ⟨by kernel_rfl,by kernel_rfl,by kernel_rfl,by kernel_rfl⟩⟩
 sys:=by kernel_rfl
 bad:=fun f h1 h2=>cases5 (P:=fun f=>(fndG (gUd 64) (Dev.fresh 64 udC) (qOf f (udQ 3 4 (udCC 1 2 (fun _=>0)))) 1000).2.2=0) h1 h2 (four4 ⟨by kernel_rfl,by kernel_rfl,by kernel_rfl,by kernel_rfl⟩)
 fn:=by kernel_rfl
theorem evSb:Ev sbQ sbC (gSb 64) okSb 1 where
 ok:=fun f h1 h2=>cases4 (P:=fun f=>(fndG (fun F _=>okSb F) (Dev.fresh 64 sbC) (qOf f sbQ) 1000).2.2=1) h1 h2 ⟨by kernel_rfl,one1 (by kernel_rfl)⟩
 sys:=by kernel_rfl
 bad:=fun f h1 h2=>cases5 (P:=fun f=>(fndG (gSb 64) (Dev.fresh 64 sbC) (qOf f sbQ) 1000).2.2=0) h1 h2 (one1 (by kernel_rfl))
 fn:=by kernel_rfl
theorem evRt:Ev (progR 128 (rtW rtCs) [98] (ptV 2)) rtCs gRt (fun _=>true) 1 where
 ok:=fun f h1 h2=>cases4 (P:=fun f=>(fndG (fun _ _=>true) (Dev.fresh 64 rtCs) (qOf f (progR 128 (rtW rtCs) [98] (ptV 2))) 1000).2.2=1) h1 h2 ⟨by kernel_rfl,one1 (by kernel_rfl)⟩
 sys:=by kernel_rfl
 bad:=fun f h1 h2=>cases5 (P:=fun f=>(fndG gRt (Dev.fresh 64 rtCs) (qOf f (progR 128 (rtW rtCs) [98] (ptV 2))) 1000).2.2=0) h1 h2 (one1 (by kernel_rfl))
 fn:=by kernel_rfl
end

section
open Go.RowKit Go.Maps
attribute [local go_sem ↓] Go.wp_at_zero Go.wp_at_succ
section
variable{w wb:World}{v:DV}{own:Nat→Option Role}{D D1:Dev}{a n:Nat}{q:List (Nat×Nat×Int)}{ok:(Nat→Int)→Prop}{g:(Nat→Int)→Bool→Bool}
def SyInc(g:(Nat→Int)→Bool→Bool)(D:Dev)(L:Nat)(e:Bool)(r:Ending):Prop:=
 (L<prodN (basesL D)∧r = .returned (.tuple #[.int .u64 0,.bool false,.int .i64 9])) ∨
 (¬ L<prodN (basesL D)∧∃ i,badG g D e=some i∧i<prodN (basesL D)∧r = .returned (.tuple #[.int .u64 i,.bool true,.int .i64 0])) ∨
 (¬ L<prodN (basesL D)∧badG g D e=none∧r = .returned (.tuple #[.int .u64 0,.bool false,.int .i64 0]))
theorem incS_any(P:SyP w a n D1 q ok g)(h:IsDev w v own D)(hdn:D.n=n)(hvb:D.VB)(hx:D.exec<1000000)(hok:∀ i,i<prodN (basesL D)→ok (imgN D i))(hp:prodN (basesL D)≤1152921504606846976)(e:Bool)(L:Nat)(hL:L≤9223372036854775807) :
  Calls Tryz.prog 57 #[(.iface 160 (.pointer (some ⟨a,0,none⟩))),.pointer (some ⟨v.db,0,none⟩),.bool e,.int .i64 L] w fun r w'=>SyInc g D L e r∧Below w.heap.size w w':=by
 have hn:=h.wf.le;have hql:∀ l∈D.dirtyL,(D.hist l).length≤1000000000:=fun l hl=>by
  have hln:l<D.n:=by
   unfold Dev.dirtyL at hl;have:=(List.mem_filter.1 hl).1;simpa using this
  have:=h.wf.cnt l hln;omega
 have HC:=Lib.hid (count_any h hvb (by omega) (by omega) hql);have HAT:=Lib.hid (fun(wx:World) (hb:Below w.heap.size w wx) (i:Nat) (hi:i<prodN (basesL D))=>csAtN_any (h.kept hb.size (fun k hk=>hb.block k (h.lt k hk))) hvb (by omega) i hi (by omega) hql);have HDV:=Lib.hid (fun(wx:World) (s:ByteArray) (ks:Nat→Nat) (hs:ImgS s D.n (D.img ks))=>imDevice_any (w:=wx) hs h.wf.pos hn (fun i=>hvb.img ks i));have hmg:=meth_syGood ⟨a,0,none⟩;have HGD:=Lib.hid (fun(wx:World) (v2:DV) (own2:Nat→Option Role) (F:Nat→Int) (B:Nat)=>P.good wx v2 own2 (Dev.fresh n F) 0 F B e);have HOK:=Lib.hid hok;have HIW:=Lib.hid (fun(i:Nat) (ks:Nat→Nat) (hk:∀ j l:Nat,D.dirtyL[j]? = some l→ks l=digN (basesL D) i j)=>img_words (n:=D.n) rfl hk);have HDN:=Lib.hid hdn;have HIB:=Lib.hid (fun ks i=>hvb.img ks i);have HBA:=Lib.hid (fun i h1 h2 h3=>badG_at g (D:=D) (e:=e) (i:=i) h1 h2 h3);have HBN:=Lib.hid (fun h1=>badG_no g (D:=D) (e:=e) h1);clear hok P;unfold SyInc;obtain⟨P,hP⟩:∃ P,prodN (basesL D)=P:=⟨_,rfl⟩;rw[hP]at HC HAT HBA HBN HOK hp ⊢;have gL:IntKind.u64.wrap (L:Int)=(L:Int):=IntWalk.u64_in _ (by omega);clear h hvb hql hP
 go_enter Tryz.func57,Tryz.ntmps57
 go_wp2_with fail
 (with_reducible refine HC.out.mono ?_)
 rintro r w1 ⟨rfl,b1⟩;have B1:=Lib.hid b1;clear b1 HC
 by_cases hLP:L<P
 ·have hLP':(L:Int)<(P:Int):=by omega
  go_wp2_with fail
  go_ret3
  exact⟨.inl ⟨hLP,rfl⟩,B1.out⟩
 ·have hLP':¬ (L:Int)<(P:Int):=by omega
  go_wp2_with fail
  go_loopw [31] (fun y wy=>∃ i:Nat,i≤P∧y = .int .u64 i∧Below w.heap.size w wy∧∀ j,j<i→g (imgN D j) e=true) (fun y _=>P-(intOf y).toNat)
  case atStart=>exact⟨0,by omega,rfl,B1.out,fun j hj=>absurd hj (Nat.not_lt_zero j)⟩
  case round=>
   obtain⟨i,hi,rfl,hby,hgd⟩:=hrel;rename World=>wy
   have BY:=Lib.hid hby;have GD:=Lib.hid hgd
   clear hby hgd
   by_cases hiP:i<P
   ·have hiP':(i:Int)<(P:Int):=by omega
    have HAT1:=Lib.hid (HAT.out wy BY.out i hiP);go_wp2_with fail
    (with_reducible refine HAT1.out.mono ?_)
    rintro r w3 ⟨ks,s,k1,rfl,k2,b3⟩;have K1:=Lib.hid k1.2;have K2:=Lib.hid k2
    have B3:=Lib.hid (BY.out.trans (b3.mono BY.out.size));clear k1 k2 b3 HAT1;have HDV1:=Lib.hid (fun o=>HDV.out (w3.alloc o) s ks K2.out);go_wp2_with fail
    (with_reducible refine(HDV1.out _).mono ?_)
    rintro r w4 ⟨v2,own2,rfl,⟨F,hF,d2⟩,o2,b4⟩;have O2:=Lib.hid o2;have D2:=Lib.hid ((d2.words hF).words (g:=imgN D i) (fun j hj=>HIW.out i ks K1.out j hj));rw[HDN.out]at D2;have B4:=Lib.hid (B3.out.trans ((below_alloc w3 (.cells #[.string s] 46)).mono B3.out.size |>.trans (b4.mono (by simp;exact Nat.le_succ_of_le B3.out.size))));clear hF d2 o2 b4 HDV1;have HGD1:=Lib.hid (HGD.out w4 v2 own2 (imgN D i) w.heap.size B4.out (HOK.out i hiP) (fresh_scl (fun j=>HIB.out _ j) 0 n) (by omega) D2.out (fun k hk=>Nat.le_trans (Nat.le_trans B3.out.size (by simp)) (O2.out k hk)) (Nat.le_refl _) B4.out.size);obtain⟨gv,hgv⟩:∃ gv,g (imgN D i) e=gv:=⟨_,rfl⟩;have HGV:=Lib.hid hgv;rw[hgv]at HGD1;clear hgv;go_wp2_with fail
    (with_reducible refine HGD1.out.mono ?_)
    rintro r w5 ⟨rfl,b5⟩;have B5:=Lib.hid (B4.out.trans b5);clear b5
    cases gv
    ·have e1:=HBA.out i hiP HGV.out GD.out
     go_wp2_with fail
     go_ret3
     exact⟨.inr (.inl ⟨hLP,i,e1,hiP,rfl⟩),B5.out⟩
    ·go_wp2_with fail
     go_roundw
     case rel=>exact⟨i+1,by omega,by go_num,B5.out,fun j hj=>by
      rcases Nat.lt_or_ge j i with h1 | h1
      ·exact GD.out j h1
      ·obtain rfl:j=i:=by omega
       exact HGV.out⟩
     case measure=>simp[intOf];omega
   ·obtain rfl:i=P:=by omega
    have hbn:=HBN.out GD.out;go_wp2_with fail
    go_ret3
    exact⟨.inr (.inr ⟨hLP,hbn,rfl⟩),BY.out⟩
end
end
end Go.Proofs.YtlhchkajjpefmaaGreatDoor
