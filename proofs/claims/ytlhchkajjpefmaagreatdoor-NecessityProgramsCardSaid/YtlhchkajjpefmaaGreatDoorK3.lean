/- Lemmas and walks, part 3: each theorem says what it proves; no condition beside its own. -/
import Derived.Test.YtlhchkajjpefmaaGreatDoorK2
import Derived.Deep.DeepCutAuto
import Derived.Deep.RegionHeld3
import Derived.Deep.DrawnRows
set_option maxHeartbeats 16000000
set_option maxRecDepth 100000
namespace Go.Proofs.YtlhchkajjpefmaaGreatDoor
open Lib(hid)
open Go.RowKit Go.Proofs.Tryz
section
open Go.Maps
theorem Gv:(Tryz.prog.info? 31).map (fun i=>(i.zero,i.size,i.bytes))=some (some (.int .u64 0),1,8):=by kernel_rfl
theorem Qsq:(Tryz.prog.info? 119).map (fun i=>(i.zero,i.size,i.bytes))=some (some (.agg #[.int .u64 0,.slice none 0 0]),2,32):=by kernel_rfl
section
variable{w:World}
theorem Mz(a:Addr)(n c:Nat)(xs:List Value)(h:Ql w 1 (.slice (some a) n c) n xs)(h1:∀ u∈xs,u.oneCell'=true)(hn:n<=4611686018) :
  Calls prog 77 #[.slice (some a) n c] w fun r w'=>∃ g cap,r = .returned (.slice (some ⟨g,0,none⟩) n cap)/\Qj w' 31 1 (.slice (some ⟨g,0,none⟩) n cap) n xs/\w.heap.size<=g/\Below w.heap.size w w':=by
 obtain⟨i0,hi,hz0,hz1,hz2⟩:=info_parts Gv;have I:=hid (And.intro hi (And.intro hz0 (And.intro hz1 hz2)));clear hi hz0 hz1 hz2
 have H:=hid h;have H1:=hid h1;clear h h1
 have hq:=fun wx=>Lib.run_eql_slice_nil (P:=prog) wx 56 31 (some a) n c 0 0 underlying56
 go_enter func77,ntmps77
 go_wp2_with (at_builtin;refine Qc _ rfl _ _ 56 rfl 31 i0 _ 1 8 underlying56 I.out.1 I.out.2.1 I.out.2.2.1 I.out.2.2.2 rfl (by decide) _ 0 [] rfl ?h0 _ n xs rfl ?h1 ?h2 ?h3 ?h4 ?_)
 case h0=>exact Qj.new _ _ _ 1 0 0 rfl (Nat.le_refl _) (Nat.zero_le _)
 case h1=>exact H.out.alloc _
 case h2=>exact H1.out
 case h3=>unfold maxLen;omega
 case h4=>omega
 intro v' w1 o1 g1 b1 n1;have O1:=hid o1;have G1:=hid g1;have B1:=hid b1;clear o1 g1 b1 n1
 go_wp2
 go_ret
 have hb:Below w.heap.size w w1:=((Below.refl _ _).alloc (Nat.le_refl _) _).grown G1.out (by simp) (fun k hk=>by cases hk;exact Nat.le_refl _);obtain⟨a',c',hv⟩:=O1.out.slice;have O2:=O1.out;have B2:=B1.out;rw[hv]at O2 B2
 rcases B2 with h | h
 ·simp only[Zc]at h
  subst h;exact⟨w.heap.size,c',by rw[<- hv];rfl,O2,Nat.le_refl _,hb⟩
 ·simp only[Zc]at h
  subst h;exact⟨w.heap.size+1,c',by rw[<- hv];rfl,O2,Nat.le_succ _,hb⟩
def Dev.fresh(n:Nat)(f:Nat->Int):Dev:=
 {n:=n,pers:=f,hist:=fun _ => [],done:=fun _=>0,err:=fun _=>0,note:=fun _ _=>none,off:=false,armed:=false,left:=0,exec:=0}
def Qus(w:World)(pb pc n:Nat)(f:Nat->Int)(r:Ending)(w':World):Prop:=
 ∃ v own,r = .returned (.pointer (some ⟨v.db,0,none⟩))/\v.pb=pb/\v.pc=pc/\IsDev w' v own (Dev.fresh n f)/\(∀ k,own k≠none->k=pb\/w.heap.size<=k)/\Below w.heap.size w w'
def Vl(pb pc n cb cc lb:Nat)(t:Nat->Option Addr):Array Value:=
 #[.slice (some ⟨pb,0,none⟩) (8*n) pc,.slice (some ⟨cb,0,none⟩) (8*n) cc,.slice (some ⟨lb,0,none⟩) n n,.pointer (t 0),.pointer (t 1),.pointer (t 2),.pointer (t 3),.pointer (t 4),.pointer (t 5),.pointer (t 6),.pointer (t 7),
  .bool false,.bool false,.int .i64 0,.int .u64 0]
def Qv6(w:World)(pb pc n:Nat)(f:Nat->Int)(s:Value)(w2:World):Prop:=
 ∃ db cb cc lb,s = .pointer (some ⟨db,0,none⟩)/\Blk w2 db (Vl pb pc n cb cc lb (fun _=>none)) 88/\Row w2 cb (8*n) 31 (fun i => .int .u64 (f i)) /\
  Row w2 lb (2*n) 119 (fun j=>if j%2=0 then .int .u64 0 else .slice none 0 0)/\8*n<=cc/\db≠cb/\db≠lb/\cb≠lb/\w.heap.size<=db/\w.heap.size<=cb/\w.heap.size<=lb/\Below w.heap.size w w2
theorem Qj.row{e:TypeId}{g n cap:Nat}{F:Nat->Value}(h:Qj w e 1 (.slice (some ⟨g,0,none⟩) n cap) n ((List.range n).map F)):Row w g n e F/\n<=cap:=by
 rcases h.2 with ⟨h1,_⟩ | ⟨g',o,cap',cur,h1,hb,hc,_,_,ht⟩
 ·cases h1
 ·cases h1
  refine⟨⟨cur,hb,fun i hi => ?_⟩,hc⟩
  have:=congrArg (fun l=>l[i]?) ht;simp only[List.drop_zero,Nat.mul_one,List.getElem?_take,hi,if_true,List.getElem?_map,List.getElem?_range hi,Option.map_some]at this;simpa using this
theorem Mc(w:World)(t:TypeId)(n:Nat):Row (w.alloc (.cells (madeCells #[.int .u64 0,.slice none 0 0] (n*2)) t)) w.heap.size (2*n) t (fun j=>if j%2=0 then .int .u64 0 else .slice none 0 0):=by
 refine Row.new w _ t _ _ (fun i hi => ?_)
 have hi':i<n*2:=by omega
 simp only[madeCells,Array.getElem?_map,Array.getElem?_range,hi',if_true,Option.map_some]
 rcases Nat.mod_two_eq_zero_or_one i with h | h <;> simp[h]
theorem Qxy{pb pc n cb cc:Nat}{f:Nat->Int}{w1:World}(co:Qj w1 31 1 (.slice (some ⟨cb,0,none⟩) (8*n) cc) (8*n) ((List.range (8*n)).map fun i => .int .u64 (f i)))
  (cg:w.heap.size<=cb) (cw:Below w.heap.size w w1) :
  Qv6 w pb pc n f (.pointer (some ⟨w1.heap.size+1,0,none⟩)) ((w1.alloc (.cells (madeCells #[.int .u64 0,.slice none 0 0] (n*2)) 119)).alloc (.cells (Vl pb pc n cb cc w1.heap.size (fun _=>none)) 88)):=by
 have hr:=co.row;have hlt:=hr.1.lt;have hs:=cw.size;have e:w1.heap.size+1=(w1.alloc (.cells (madeCells #[.int .u64 0,.slice none 0 0] (n*2)) 119)).heap.size:=by simp
 refine⟨w1.heap.size+1,cb,cc,w1.heap.size,rfl,?_,(hr.1.alloc _).alloc _,(Mc w1 119 n).alloc _,hr.2,by omega,by omega,by omega,by omega,by omega,by omega,(cw.alloc hs _).alloc (by simp;omega) _⟩
 rw[e];exact Blk.new _ _ _
theorem Qxz{pb pc n cb cc:Nat}{f:Nat->Int}{w1 w0:World}(h0:w0=(w.alloc (.cells (madeCells #[.int .u64 0,.slice none 0 0] (n*2)) 119)).drew)(co:Qj w1 31 1 (.slice (some ⟨cb,0,none⟩) (8*n) cc) (8*n) ((List.range (8*n)).map fun i => .int .u64 (f i)))
  (cg:w0.heap.size<=cb) (cw:Below w0.heap.size w0 w1) :
  Qv6 w pb pc n f (.pointer (some ⟨w1.heap.size,0,none⟩)) (w1.alloc (.cells (Vl pb pc n cb cc w.heap.size (fun _=>none)) 88)):=by
 have hr:=co.row;have hlt:=hr.1.lt;have hs:=cw.size;have e:w0.heap.size=w.heap.size+1:=by rw[h0];simp[World.drew]
 have hb:Below w.heap.size w w1:=by
  refine Below.trans (b:=w0) ?_ (cw.mono (by omega))
  rw[h0];exact((Below.refl _ _).alloc (Nat.le_refl _) _).drew
 have hl:Row w1 w.heap.size (2*n) 119 (fun j=>if j%2=0 then .int .u64 0 else .slice none 0 0):=by
  obtain⟨c,h1,h2⟩:=Mc w 119 n;refine⟨c,(cw.block _ (by omega)).trans ?_,h2⟩
  rw[h0];exact h1
 exact⟨w1.heap.size,cb,cc,w.heap.size,rfl,Blk.new _ _ _,hr.1.alloc _,hl.alloc _,hr.2,by omega,by omega,by omega,by omega,by omega,by omega,hb.alloc (by omega) _⟩
def Qgy(wc:World)(db pb pc n cb cc lb k:Nat)(wr:World):Prop:=
 Blk wr db (Vl pb pc n cb cc lb (fun j=>if j<k then some ⟨wc.heap.size+2*j+1,0,none⟩else none)) 88/\wr.heap.size=wc.heap.size+2*k /\
 (∀ j,j<k->Blk wr (wc.heap.size+2*j+1) #[.pointer (some ⟨db,0,none⟩),.int .i64 j,.int .i64 0,.map (some (wc.heap.size+2*j))] 113/\wr.ownsMap prog 3 (plainElem prog 31) (wc.heap.size+2*j) 0 (.map []:DataW Unit)) /\
 Upd (fun b=>b=db) wc wr
theorem Qcv(pb pc n cb cc lb:Nat)(t:Nat->Option Addr)(j:Nat)(h:j<8):(Vl pb pc n cb cc lb t)[3+j]? = some (.pointer (t j)):=by
 obtain rfl | rfl | rfl | rfl | rfl | rfl | rfl | rfl:j=0\/j=1\/j=2\/j=3\/j=4\/j=5\/j=6\/j=7:=by omega
 all_goals rfl
theorem Qae(pb pc n cb cc lb:Nat)(t:Nat->Option Addr)(j:Nat)(a:Option Addr)(h:j<8):(Vl pb pc n cb cc lb t).setIfInBounds (3+j) (.pointer a)=Vl pb pc n cb cc lb (fun i=>if i=j then a else t i):=by
 obtain rfl | rfl | rfl | rfl | rfl | rfl | rfl | rfl:j=0\/j=1\/j=2\/j=3\/j=4\/j=5\/j=6\/j=7:=by omega
 all_goals simp[Vl]
theorem Qtg{wc wr:World}{db pb pc n cb cc lb k:Nat}(hdb:db<wc.heap.size)(h:Qgy wc db pb pc n cb cc lb k wr)(hk:k<8) :
  Qgy wc db pb pc n cb cc lb (k+1) (((wr.setCell ⟨db,3+k,none⟩ (.pointer (some ⟨wr.heap.size+1,0,none⟩))).alloc (.map #[] 0)).alloc (.cells #[.pointer (some ⟨db,0,none⟩),.int .i64 k,.int .i64 0,.map (some wr.heap.size)] 113)):=by
 obtain⟨h1,h2,h3,h4⟩:=h;have es:(wr.setCell ⟨db,3+k,none⟩ (.pointer (some ⟨wr.heap.size+1,0,none⟩))).heap.size=wr.heap.size:=by simp[World.setCell]
 refine⟨?_,by simp[es];omega,?_,((h4.setCell (p:=⟨db,3+k,none⟩) (fun _=>rfl) _).alloc _).alloc _⟩
 ·refine((?_:Blk _ _ _ _).alloc _).alloc _
  have:=h1.set (3+k) (.pointer (some ⟨wr.heap.size+1,0,none⟩));rw[Qae _ _ _ _ _ _ _ _ _ hk]at this;have ef:(fun i=>if i=k then some ⟨wr.heap.size+1,0,none⟩else if i<k then some (⟨wc.heap.size+2*i+1,0,none⟩:Addr)else none)=fun j=>if j<k+1 then some ⟨wc.heap.size+2*j+1,0,none⟩else none:=by
   funext i
   by_cases e:i=k
   ·subst e;rw[if_pos rfl,if_pos (Nat.lt_succ_self _),h2]
   ·rw[if_neg e]
    by_cases e2:i<k
    ·rw[if_pos e2,if_pos (by omega)]
    ·rw[if_neg e2,if_neg (by omega)]
  rw[ef]at this;exact this
 ·intro j hj
  by_cases e:j=k
  ·subst e
   constructor
   ·have:=Blk.new ((wr.setCell ⟨db,3+j,none⟩ (.pointer (some ⟨wr.heap.size+1,0,none⟩))).alloc (.map #[] 0)) #[.pointer (some ⟨db,0,none⟩),.int .i64 j,.int .i64 0,.map (some wr.heap.size)] 113
    simp only[World.size_alloc,es]at this;rw[h2]at this ⊢;exact this
   ·have:=(World.ownsMap_made (H:=Unit) (wr.setCell ⟨db,3+j,none⟩ (.pointer (some ⟨wr.heap.size+1,0,none⟩))) prog 3 (plainElem prog 31)).alloc (.cells #[.pointer (some ⟨db,0,none⟩),.int .i64 j,.int .i64 0,.map (some wr.heap.size)] 113)
    rw[es,h2]at this;rw[h2];exact this
  ·have:=h3 j (by omega)
   refine⟨((this.1.other (a:=⟨db,3+k,none⟩) (by show _≠db;omega) _).alloc _).alloc _,((this.2.setCell (a:=⟨db,3+k,none⟩) (by show _≠db;omega) _).alloc _).alloc _⟩
theorem Q1x{wc wr:World}{db pb pc n cb cc lb:Nat}{f:Nat->Int}(h0:0<n)(hn:n<=4096)(hpc:8*n<=pc)(hpb:pb<w.heap.size)(h:Qgy wc db pb pc n cb cc lb 8 wr)(hp:Row w pb (8*n) 31 (fun i => .int .u64 (f i)))
  (b1:db<wc.heap.size) (b2:Row wc cb (8*n) 31 (fun i => .int .u64 (f i))) (b3:Row wc lb (2*n) 119 (fun j=>if j%2=0 then .int .u64 0 else .slice none 0 0)) (b4:8*n<=cc)
  (n1:db≠cb) (n2:db≠lb) (n3:cb≠lb) (s1:w.heap.size<=db) (s2:w.heap.size<=cb) (s3:w.heap.size<=lb) (hb:Below w.heap.size w wc) :
  Qus w pb pc n f (.returned (.pointer (some ⟨db,0,none⟩))) wr:=by
 obtain⟨h1,h2,h3,h4⟩:=h;have hcb:=b2.lt;have hlb:=b3.lt;have hb':Below w.heap.size w wr:=hb.trans ⟨h4.os,h4.tape,h4.output,h4.size,fun k hk=>h4.block k (by have:=hb.size;omega) (by omega)⟩
 let B:=wc.heap.size
 let own:Nat->Option Qp:=fun k=>if k=db then some .dev else if k=pb then some .pers else if k=cb then some .cur else if k=lb then some .lines else
  if B<=k/\k<B+16 then(if(k-B)%2=0 then some (.notes ((k-B)/2))else some (.thr ((k-B)/2)))else none
 have hB:B=wc.heap.size:=rfl;refine⟨⟨db,pb,pc,cb,cc,lb,fun j=>B+2*j+1,fun j=>B+2*j⟩,own,rfl,rfl,rfl,?_,?_,hb'⟩
 ·exact {
   wf:=⟨h0,hn,by simp[Dev.fresh],by simp[Dev.fresh],by simp[Dev.fresh],by simp[Dev.fresh]⟩
   dev:=h1
   pers:=by
    obtain⟨c,p1,p2⟩:=hp;exact⟨c,(hb'.block pb hpb).trans p1,p2⟩
   cur:=b2.upd h4 (Ne.symm n1)
   lines:=by
    refine⟨fun _ => .slice none 0 0,b3.upd h4 (Ne.symm n2),fun i _=>⟨Qj.nil _ _ _,fun g hg=>by simp[Value.ownBlock]at hg⟩⟩
   thr:=fun j hj=>(h3 j hj).1
   notes:=fun j hj=>⟨0,_,Nat.zero_le _,(h3 j hj).2,by simp[Dev.fresh],fun x hx=>by simp[has]at hx,by simp[Dev.fresh]⟩
   odb:=by simp[own]
   opb:=by show own pb=_;simp only[own];rw[if_neg (by omega),if_pos trivial]
   ocb:=by show own cb=_;simp only[own];rw[if_neg (Ne.symm n1),if_neg (by omega),if_pos trivial]
   olb:=by show own lb=_;simp only[own];rw[if_neg (Ne.symm n2),if_neg (by omega),if_neg (Ne.symm n3),if_pos trivial]
   otb:=fun j hj=>by
    show own (B+2*j+1)=_
    simp only[own];rw[if_neg (by omega),if_neg (by have:=hb.size;omega),if_neg (by omega),if_neg (by omega),if_pos (by omega),if_neg (by omega),show(B+2*j+1-B)/2=j from by omega]
   onb:=fun j hj=>by
    show own (B+2*j)=_
    simp only[own];rw[if_neg (by omega),if_neg (by have:=hb.size;omega),if_neg (by omega),if_neg (by omega),if_pos (by omega),if_pos (by omega),show(B+2*j-B)/2=j from by omega]
   lt:=fun k hk=>by
    have hs:=hb'.size
    by_cases e1:k=db
    ·omega
    by_cases e2:k=pb
    ·omega
    by_cases e3:k=cb
    ·omega
    by_cases e4:k=lb
    ·omega
    by_cases e5:B<=k/\k<B+16
    ·omega
    simp only[own]at hk;rw[if_neg e1,if_neg e2,if_neg e3,if_neg e4,if_neg e5]at hk;exact absurd rfl hk
   pcs:=⟨hpc,b4⟩}
 ·intro k hk
  by_cases e1:k=db
  ·omega
  by_cases e2:k=pb
  ·exact .inl e2
  by_cases e3:k=cb
  ·omega
  by_cases e4:k=lb
  ·omega
  by_cases e5:B<=k/\k<B+16
  ·have:=hb.size;omega
  simp only[own]at hk;rw[if_neg e1,if_neg e2,if_neg e3,if_neg e4,if_neg e5]at hk;exact absurd rfl hk
theorem Qo0(pb pc n:Nat)(f:Nat->Int)(h:Row w pb (8*n) 31 (fun i => .int .u64 (f i)))(h0:0<n)(hn:n<=4096)(hpc:8*n<=pc) :
  Calls prog 37 #[.slice (some ⟨pb,0,none⟩) (8*n) pc] w (Qus w pb pc n f):=by
 obtain⟨i0,hi,hz0,hz1,hz2⟩:=info_parts Qsq;have hmk:=fun(wx:World)=>run_make (P:=prog) wx 85 119 i0 _ underlying85 hi hz0 .i64 .i64 (n:Int) (n:Int) (by omega) (by omega) (by rw[hz2];omega) (by omega)
 simp only[Int.toNat_natCast,hz1]at hmk;clear hi hz0 hz1 hz2;have hrd:Ql w 1 (.slice (some ⟨pb,0,none⟩) (8*n) pc) (8*n) ((List.range (8*n)).map fun i => .int .u64 (f i)):=by
  refine⟨by simp,_,_,rfl,hpc,.inr ⟨pb,0,rfl,fun j u hu => ?_⟩⟩
  rw[List.getElem?_map]at hu
  cases hj:(List.range (8*n))[j]? with
  | none=>rw[hj]at hu;cases hu
  | some k=>
   have hj':=List.getElem?_eq_some_iff.1 hj;obtain⟨hjl,hjk⟩:=hj';rw[List.length_range]at hjl;rw[hj]at hu;simp at hjk hu;subst hjk;subst hu
   rw[Nat.zero_add];exact h.cell hjl
 have hone:∀ u∈((List.range (8*n)).map fun i=>Value.int .u64 (f i)),u.oneCell'=true:=by
  intro u hu;simp at hu;obtain⟨i,_,rfl⟩:=hu;rfl
 have H:=hid h;have HR:=hid hrd;have H1:=hid hone;clear h hrd hone
 have hq:((8*n:Nat):Int)/8=(n:Int):=by omega
 have hwr:IntKind.i64.wrap (n:Int)=(n:Int):=IntWalk.i64_in _ (by omega)
 go_enter func37,ntmps37
 go_upto_region 1 with fail
 go_cut [3] (Qv6 w pb pc n f)
 case first=>
  go_region_with (first | (go_at_call 77;refine(Mz _ _ _ _ ?hr H1.out (by omega)).mono ?_;(case hr=>first | exact HR.out.drew | exact(HR.out.alloc _).drew);rintro e w1 ⟨cb,cc,rfl,co,cg,cw⟩;have CO:=hid (And.intro co (And.intro cg cw));clear co cg cw))
  all_goals go_wp2_with fail
  all_goals go_meet
  ·exact Qxy CO.out.1 CO.out.2.1 ⟨CO.out.2.2.os,CO.out.2.2.tape,CO.out.2.2.output,CO.out.2.2.size,CO.out.2.2.block⟩
  ·exact Qxz rfl CO.out.1 CO.out.2.1 CO.out.2.2
 case rest=>
  obtain⟨db,cb,cc,lb,rfl,b1,b2,b3,b4,n1,n2,n3,s1,s2,s3,hb⟩:=hcut;have hdb:=b1.lt;have B1:=hid (And.intro b1 (And.intro b2 (And.intro b3 hb)));clear b1 b2 b3 hb hmk hq hwr;have hmm:=@run_makeMap prog;go_wp2_with fail
  go_loopw [14] (fun i wr=>∃ k:Nat,k<=8/\i = .int .i64 k/\Qgy wc db pb pc n cb cc lb k wr) (fun i _=>8-(intOf i).toNat)
  case atStart=>exact⟨0,by omega,rfl,B1.out.1,rfl,fun j hj=>absurd hj (Nat.not_lt_zero _),Upd.refl _ _⟩
  case round=>
   obtain⟨k,hk,rfl,hl⟩:=hrel
   by_cases hlt:k<8
   ·have c3:wr.cell? ⟨db,3+k,none⟩=some (.pointer none):=by rw[hl.1.cell (Qcv _ _ _ _ _ _ _ k hlt)];simp
    have f3:=hl.1.frozen (3+k);have hdw:db<wr.heap.size:=hl.1.lt;have HL:=hid hl;clear hl
    go_wp2_with fail
    go_roundw
    case rel=>exact⟨k+1,by omega,by go_num,Qtg hdb HL.out hlt⟩
    case measure=>simp[intOf];omega
   ·obtain rfl:k=8:=by omega
    have HL:=hid hl;clear hl
    go_wp2_with fail
    go_ret
    exact Q1x h0 hn hpc H.out.lt HL.out H.out hdb B1.out.2.1 B1.out.2.2.1 b4 n1 n2 n3 s1 s2 s3 B1.out.2.2.2
end
section
variable{w:World}{v:DV}{own:Nat->Option Qp}{D:Dev}
end
end

section
def Zi(l:List Nat):List Value:=l.map fun(s:Nat)=>Value.int .i64 s
def Qt(w w':World):Prop:=∃ n,w'=w.drewN n
theorem Qt.refl(w:World):Qt w w:=⟨0,rfl⟩
theorem Qt.below{w w':World}(h:Qt w w'):Below w.heap.size w w':=by obtain⟨n,rfl⟩:=h;exact⟨rfl,rfl,rfl,Nat.le_refl _,fun _ _=>rfl⟩
theorem Qt.trans{a b c:World}(h:Qt a b)(k:Qt b c):Qt a c:=by
 obtain⟨n,rfl⟩:=h;obtain⟨m,rfl⟩:=k;exact⟨n+m,by rw[World.drewN_drewN]⟩
theorem Qt.drewN(w:World)(n:Nat):Qt w (w.drewN n):=⟨n,rfl⟩
def Xb(l:List Int):List Value:=l.map fun s=>Value.int .u64 s
theorem Ku(l:List Int)(k:Nat)(x:Int)(h:l[k]? = some x):(Xb l)[k]? = some (.int .u64 x):=by simp[Xb,h]
section
variable{w:World}
theorem Yz{P:Program}{ops:Array Oper}{o:Oper}{a:Act}{K:Act->World->Prop}{Q:Exit->Act->World->Prop}{E:Prop}(hgd:o.guard=none)(s x:Operand)(t:TypeId)
  (ho:o.op = .call {callee:=.builtin .append,args:=#[s,x],argTypes:=#[t,t]})
  (e:TypeId) (i:TypeInfo) (z:Value) (size bytes:Nat) (ht:P.underlying t=some (.slice e)) (hi:P.info? e=some i) (hz:i.zero=some z)
  (hsize:i.size=size) (hby:i.bytes=bytes) (hzs:z.cells.size=size) (hsz:0<size)
  (v:Value) (n:Nat) (xs:List Value) (hs:a.eval s=v) (hown:Qj w e size v n xs)
  (xv:Value) (m:Nat) (news:List Value) (hx:a.eval x=xv) (hnews:Ql w size xv m news) (h1:∀ u∈news,u.oneCell'=true)
  (h63:n+m<=maxLen) (hbytes:(n+m)*bytes<=140737488355328)
  (h:∀ v' w',Qj w' e size v' (n+m) (xs++news)->w.grownBy w' v.ownBlock->(Zc v'=Zc v\/Zc v'=some ⟨w.heap.size,0,none⟩)->K (a.put o.dst v') w') :
  if Region.wanted o (yielded ops a.tmps)=true then Oper.wp P o a w K Q else E:=by
 have hw:Region.wanted o (yielded ops a.tmps)=true:=by simp[Region.wanted,hgd]
 rw[if_pos hw];obtain⟨v',w',hr,h2,h3,h4,_⟩:=Wz (P:=P) w t o.type e i z size bytes ht hi hz hsize hby hzs v n xs hown xv m news hnews h1 h63 hbytes hsz;unfold Oper.wp execOp;simp only[ho,resolve,invoke,builtin,Sem.run_bind,Sem.run_pure,Result.andThen_ok,List.map_toArray,List.map_cons,List.map_nil,hs,hx,hr];exact h v' w' h2 h3 h4
end
section
variable{w:World}
theorem Qa(w:World)(o:Obj):Below w.heap.size w (w.alloc o):=(Below.refl _ _).alloc (Nat.le_refl _) _
end
section
variable{w:World}
theorem Xn(w:World)(o:Obj):Below w.heap.size w (w.alloc o).drew:=((Below.refl _ _).alloc (Nat.le_refl _) _).drew
end
section
variable{w:World}{v:DV}{own:Nat->Option Qp}{D:Dev}
theorem load_ok(h:IsDev w v own D){j:Nat}(hj:j<8)(off:Nat)(hoff:D.off=false)(hw:off%8=0)(hl:off<64*D.n) :
  Calls prog 290 #[.pointer (some ⟨v.tb j,0,none⟩),.int .u64 off] w fun r w'=>r = .returned (.int .u64 (D.cur (off/8)))/\w=w':=by
 have c0:w.cell? ⟨v.tb j,0,none⟩=some (.pointer (some ⟨v.db,0,none⟩)):=(h.thr j hj).cell rfl;have c1:w.cell? ⟨v.db,1,none⟩=some (.slice (some ⟨v.cb,0,none⟩) (8*D.n) v.cc):=h.dev.cell rfl;have hn:=h.wf.le;have h2:D.wordB off=true:=by simp[Dev.wordB,hw,hl]
 have ck:w.cell? ⟨v.cb,off/8,none⟩=some (.int .u64 (D.cur (off/8))):=Qmg h (by omega);have hw:((off:Int)/8)<(8*D.n:Nat):=by omega
 have H:=hid h;have H2:=hid h2;have Ho:=hid hoff;clear h h2 hoff
 go_enter func290,ntmps290
 go_wp2_with (first | (go_at_call 52;refine(Mm H.out hj off).mono ?_;rintro e w' ⟨rfl,rfl⟩;rw[H2.out]) | (go_at_call 138;refine(Qde H.out hj Ho.out).mono ?_;rintro e w' ⟨rfl,rfl⟩))
 go_ret
 exact⟨rfl,rfl⟩
end
section
variable{w:World}{v:DV}{own:Nat->Option Qp}{D:Dev}
theorem meth_Size(a:Addr)(w:World):(method 461 40 (.pointer (some a)) "Size").run prog w = .ok (291,.pointer (some a)) w:=by kernel_rfl
end
section
variable{w:World}{v:DV}{own:Nat->Option Qp}{D:Dev}
theorem meth_Err(a:Addr)(w:World):(method 461 40 (.pointer (some a)) "Err").run prog w = .ok (289,.pointer (some a)) w:=by kernel_rfl
end
section
variable{w:World}{v:DV}{own:Nat->Option Qp}{D:Dev}
theorem meth_Load(a:Addr)(w:World):(method 461 40 (.pointer (some a)) "Load").run prog w = .ok (290,.pointer (some a)) w:=by kernel_rfl
end
section
variable{w:World}{v:DV}{own:Nat->Option Qp}{D:Dev}
theorem Fv(a:Addr)(w:World):(method 461 40 (.pointer (some a)) "Store").run prog w = .ok (18,.pointer (some a)) w:=by kernel_rfl
end
section
variable{w:World}{v:DV}{own:Nat->Option Qp}{D:Dev}
theorem Nn(a:Addr)(w:World):(method 461 40 (.pointer (some a)) "Flush").run prog w = .ok (19,.pointer (some a)) w:=by kernel_rfl
end
section
variable{w:World}{v:DV}{own:Nat->Option Qp}{D:Dev}
theorem Nm(a:Addr)(w:World):(method 461 40 (.pointer (some a)) "Fence").run prog w = .ok (20,.pointer (some a)) w:=by kernel_rfl
end
def Qd(l:List (Nat×Nat×Int)):List Value:=l.flatMap fun e => [.int .u8 e.1,.int .u64 e.2.1,.int .u64 e.2.2]
theorem Zv(a b:List (Nat×Nat×Int)):Qd (a++b)=Qd a++Qd b:=by simp[Qd]
theorem Xv(l:List (Nat×Nat×Int)):(Qd l).length=l.length*3:=by
 induction l with
 | nil=>rfl
 | cons e l ih=>simp[Qd]at *;omega
theorem Zn(l:List (Nat×Nat×Int)):∀ u∈Qd l,u.oneCell'=true:=by
 intro u hu;simp[Qd]at hu;obtain⟨a,b,c,_,rfl | rfl | rfl⟩:=hu <;> rfl
theorem Xs:(Tryz.prog.info? 73).map (fun i=>(i.zero,i.size,i.bytes))=some (some (.agg #[.int .u8 0,.int .u64 0,.int .u64 0]),3,24):=by kernel_rfl
theorem Zj{w1 w2:World}(hb:Below w1.heap.size w1 w2){b o:Nat}{u:Value}(h:w1.cell? ⟨b,o,none⟩=some u):w2.cell? ⟨b,o,none⟩=some u:=
 (hb.cell (p:=⟨b,o,none⟩) (World.block_lt_of_cell? w1 _ h)).trans h
theorem Qlz{W W':World}(h:Below W.drew.heap.size W.drew W'):Below W.heap.size W W':=⟨h.os,h.tape,h.output,h.size,h.block⟩
theorem Xr(l:List (Nat×Int))(k:Nat)(e:Nat×Int)(h:l[k]? = some e):(Qv l)[k*2]? = some (.int .u64 e.1)/\(Qv l)[k*2+1]? = some (.int .u64 e.2):=by
 have:=Iv l k e h;rw[Nat.mul_comm]at this;exact this
theorem Ze(w:World)(o1 o2:Obj):Below w.heap.size w ((w.alloc o1).alloc o2):=(Qa w o1).trans ((Qa _ o2).mono (by simp))
section
variable{w:World}
theorem Acc.deeper{w w0 wc:World}{e:TypeId}{s n:Nat}{u:Value}{xs:List Value}(h:Acc w0 w0.heap.size wc e s u n xs)(hb:Below w.heap.size w w0):Acc w w.heap.size wc e s u n xs:=
 ⟨h.own,fun g hg=>Nat.le_trans hb.size (h.new g hg),hb.trans (h.bel.mono hb.size),Nat.le_trans hb.size h.lt⟩
end
section
variable{w:World}{v:DV}{own:Nat->Option Qp}{D:Dev}
theorem IsDev.below{w':World}(h:IsDev w v own D)(hb:Below w.heap.size w w'):IsDev w' v own D:=h.kept hb.size (fun k hk=>hb.block k (h.lt k hk))
end
section
variable{w:World}{v:DV}{own:Nat->Option Qp}{D:Dev}
end
section
variable{w:World}{v:DV}{own:Nat->Option Qp}{D:Dev}
end
section
variable{w:World}{v:DV}{own:Nat->Option Qp}{D:Dev}
end
theorem Bi:(Tryz.prog.info? 3).map (fun i=>(i.zero,i.size,i.bytes))=some (some (.int .i64 0),1,8):=by kernel_rfl
theorem Qjv(l:List Nat)(s:Nat):Zi (l ++ [s])=Zi l ++ [.int .i64 s]:=by simp[Zi]
section
variable{w:World}
theorem Sn(l:List Nat):∀ u∈Zi l,u.oneCell'=true:=by intro u hu;simp[Zi]at hu;obtain⟨s,_,rfl⟩:=hu;rfl
end
theorem Qy{α:Type}(l:List α)(k:Nat)(x:α)(h:l[k]? = some x):l.take (k+1)=l.take k ++ [x]:=by rw[List.take_add_one,h];rfl
structure Cu(D:Dev)(n x:Nat)(C:Nat->Int):Prop where
 n:D.n=n
 off:D.off=false
 armed:D.armed=false
 exec:D.exec<=x
 err:∀ j,D.err j=0
 cur:∀ i,D.cur i=C i
section
variable{w:World}{v:DV}{own:Nat->Option Qp}{D:Dev}
end
theorem Fj{α:Type}(l:List α)(k:Nat)(x:α)(h:l[k]? = some x):l.take (k+1)=l.take k ++ [x]:=by rw[List.take_add_one,h];rfl
section
variable{w:World}
theorem Ql.takeG{size:Nat}{a:Option Addr}{n c:Nat}{xs:List Value}(h:Ql w size (.slice a n c) n xs)(k:Nat)(hk:k<=n):Ql w size (.slice a k c) k (xs.take (k*size)):=by
 obtain⟨h1,a',c',e,hc,h2⟩:=h
 cases e
 refine⟨by rw[List.length_take,h1];exact Nat.min_eq_left (Nat.mul_le_mul_right _ hk),a,c,rfl,by omega,?_⟩
 rcases h2 with rfl | ⟨b,o,rfl,h3⟩
 ·left;simp
 ·right;refine⟨b,o,rfl,fun j u hu=>h3 j u ?_⟩
  rw[List.getElem?_take]at hu
  split at hu
  ·exact hu
  ·cases hu
end
section
variable{w:World}
theorem Ql.dropG{size:Nat}{a:Option Addr}{n c:Nat}{xs:List Value}(h:Ql w size (.slice a n c) n xs)(k:Nat)(hk:k<=n):Ql w size (.slice (if c=k then a else a.map (·.add (k*size))) (n-k) (c-k)) (n-k) (xs.drop (k*size)):=by
 obtain⟨h1,a',c',e,hc,h2⟩:=h
 cases e
 refine⟨by rw[List.length_drop,h1,Nat.sub_mul],_,c-k,rfl,by omega,?_⟩
 by_cases hck:c=k
 ·left;rw[List.drop_of_length_le];rw[h1];exact Nat.mul_le_mul_right _ (by omega)
 ·rw[if_neg hck]
  rcases h2 with rfl | ⟨b,o,rfl,h3⟩
  ·left;simp
  ·right;refine⟨b,o+k*size,by simp[Addr.add_lit],fun j u hu => ?_⟩
   rw[List.getElem?_drop]at hu;rw[Nat.add_assoc];exact h3 _ u hu
end
section
variable{w:World}
theorem Vo{w1 wz w2:World}{v1 v2:Value}{q:Nat}(h:Below w.heap.size w w1/\∀ g,v1.ownBlock=some g->w.heap.size<=g)(hz:Below w1.heap.size w1 wz)(g2:wz.grownBy w2 v1.ownBlock)(b2:Zc v2=Zc v1\/Zc v2=some ⟨q,0,none⟩)(hq:w.heap.size<=q) :
  Below w.heap.size w w2/\∀ g,v2.ownBlock=some g->w.heap.size<=g:=by
 have h1:Below w.heap.size w wz:=h.1.trans (hz.mono h.1.size);refine⟨h1.grown g2 h1.size h.2,fun g hg => ?_⟩
 rcases b2 with b2 | b2
 ·rw[Qh,b2,<- Qh]at hg;exact h.2 g hg
 ·rw[Qh,b2]at hg;cases hg;exact hq
end
end

section
def Dev.step(D:Dev)(j:Nat)(e:Nat×Nat×Int):Dev:=if e.1=1 then D.store j e.2.1 e.2.2 else if e.1=2 then D.flush j e.2.1 else D.fence j
def Dev.run(D:Dev)(j:Nat)(l:List (Nat×Nat×Int)):Dev:=l.foldl (fun D e=>D.step j e) D
def Qz(l:List (Nat×Nat×Int)):Prop:=∀ e∈l,1<=e.1/\e.1<=3/\e.2.1<18446744073709551616
theorem Dev.run_snoc(D:Dev)(j:Nat)(l:List (Nat×Nat×Int))(e:Nat×Nat×Int):D.run j (l ++ [e])=(D.run j l).step j e:=by simp[Dev.run,List.foldl_append]
theorem Dev.run_append(D:Dev)(j:Nat)(l m:List (Nat×Nat×Int)):D.run j (l++m)=(D.run j l).run j m:=by simp[Dev.run,List.foldl_append]
theorem Dev.fail_exec(D:Dev)(j:Nat)(e:Int):(D.fail j e).exec=D.exec:=by unfold Dev.fail;split <;> rfl
theorem Dev.onD_exec(D:Dev)(j:Nat)(b:Bool):(D.onD j b).exec=D.exec:=by unfold Dev.onD;split <;> (try split) <;> simp[Dev.fail_exec]
theorem Dev.countedD_exec(D:Dev)(j:Nat)(b:Bool):(D.countedD j b).exec<=D.exec+1:=by
 unfold Dev.countedD
 split
 ·split
  ·rw[Dev.fail_exec];exact Nat.le_succ _
  ·simp[Dev.tick]
 ·rw[Dev.onD_exec];omega
theorem Dev.step_exec(D:Dev)(j:Nat)(e:Nat×Nat×Int):(D.step j e).exec<=D.exec+1:=by
 unfold Dev.step Dev.store Dev.flush Dev.fence
 repeat' split
 all_goals exact Dev.countedD_exec _ _ _
theorem Dev.run_exec(D:Dev)(j:Nat)(l:List (Nat×Nat×Int)):(D.run j l).exec<=D.exec+l.length:=by
 induction l generalizing D with
 | nil=>simp[Dev.run]
 | cons e l ih=>have h1:=ih (D.step j e);have h2:=D.step_exec j e;simp only[Dev.run,List.foldl_cons,List.length_cons]at *;omega
def Dev.img(D:Dev)(ks:Nat->Nat)(i:Nat):Int:=Qu ((D.hist (i/8)).take (ks (i/8))) (D.pers i) i
theorem Zp(l:List (Nat×Int))(d:Int)(i:Nat)(h:∀ e∈l,e.1/8≠i):Qu l d i=d:=by
 induction l generalizing d with
 | nil=>rfl
 | cons e l ih=>
  simp only[Qu,List.foldl_cons,if_neg (h e (List.mem_cons_self ..))];exact ih d (fun x hx=>h x (List.mem_cons_of_mem _ hx))
theorem Qhm(l:List (Nat×Int))(d:Int)(i:Nat):Qu l d i=d\/∃ e∈l,e.1/8=i/\Qu l d i=e.2:=by
 induction l generalizing d with
 | nil=>exact .inl rfl
 | cons e l ih=>
  simp only[Qu,List.foldl_cons]
  by_cases h:e.1/8=i
  ·rw[if_pos h]
   rcases ih e.2 with h1 | ⟨x,hx,h2,h3⟩
   ·exact .inr ⟨e,by simp,h,h1⟩
   ·exact .inr ⟨x,by simp[hx],h2,h3⟩
  ·rw[if_neg h]
   rcases ih d with h1 | ⟨x,hx,h2,h3⟩
   ·exact .inl h1
   ·exact .inr ⟨x,by simp[hx],h2,h3⟩
theorem Bs(ws:List (Nat×Int))(d:Int)(i:Nat):Qu (ws.filter fun e=>e.1/64==i/8) d i=Qu ws d i:=by
 induction ws generalizing d with
 | nil=>rfl
 | cons e l ih=>
  by_cases h:e.1/64=i/8
  ·rw[List.filter_cons_of_pos (by simpa using h)]
   simp only[Qu,List.foldl_cons];exact ih _
  ·rw[List.filter_cons_of_neg (by simpa using h)]
   simp only[Qu,List.foldl_cons];rw[if_neg (by omega)];exact ih d
structure Dev.VB(D:Dev):Prop where
 pers:∀ i,0<=D.pers i/\D.pers i<18446744073709551616
 hist:∀ l,∀ e∈D.hist l,0<=e.2/\e.2<18446744073709551616
theorem Br(l:List (Nat×Int))(d:Int)(i:Nat)(hd:0<=d/\d<18446744073709551616)(h:∀ e∈l,0<=e.2/\e.2<18446744073709551616):0<=Qu l d i/\Qu l d i<18446744073709551616:=by
 rcases Qhm l d i with h1 | ⟨e,he,_,h1⟩
 ·rw[h1];exact hd
 ·rw[h1];exact h e he
theorem Dev.VB.cur{D:Dev}(h:D.VB)(i:Nat):0<=D.cur i/\D.cur i<18446744073709551616:=Br _ _ _ (h.pers i) (h.hist _)
theorem Dev.VB.img{D:Dev}(h:D.VB)(ks:Nat->Nat)(i:Nat):0<=D.img ks i/\D.img ks i<18446744073709551616:=Br _ _ _ (h.pers i) (fun e he=>h.hist _ e (List.mem_of_mem_take he))
theorem Dev.VB.same{D D':Dev}(h:D.VB)(h1:D'.pers=D.pers)(h2:D'.hist=D.hist):D'.VB:=⟨by rw[h1];exact h.pers,by rw[h2];exact h.hist⟩
theorem Dev.countedD_same(D:Dev)(j:Nat)(b:Bool):(D.countedD j b).pers=D.pers/\(D.countedD j b).hist=D.hist:=by
 unfold Dev.countedD Dev.onD Dev.fail
 repeat' split
 all_goals exact⟨rfl,rfl⟩
theorem Dev.VB.step{D:Dev}(h:D.VB)(j:Nat)(e:Nat×Nat×Int)(he:e.1=1->0<=e.2.2/\e.2.2<18446744073709551616):(D.step j e).VB:=by
 have hc:=fun b=>h.same (D.countedD_same j b).1 (D.countedD_same j b).2
 unfold Dev.step
 split
 ·next h1=>
  unfold Dev.store
  split
  ·refine⟨(hc _).pers,fun l x hx => ?_⟩
   have hx':x∈(if l=e.2.1/64 then(D.countedD j (D.wordB e.2.1)).hist l ++ [(e.2.1,e.2.2)]else(D.countedD j (D.wordB e.2.1)).hist l):=hx
   split at hx'
   ·rcases List.mem_append.1 hx' with h2 | h2
    ·exact(hc _).hist l x h2
    ·simp at h2;subst h2;exact he h1
   ·exact(hc _).hist l x hx'
  ·exact hc _
 ·split
  ·unfold Dev.flush
   split
   ·exact(hc _).same rfl rfl
   ·exact hc _
  ·unfold Dev.fence
   split
   ·refine⟨fun i=>Br _ _ _ ((hc _).pers i) (fun x hx=>(hc _).hist _ x (List.mem_of_mem_take hx)),fun l x hx=>(hc _).hist l x (List.mem_of_mem_drop hx)⟩
   ·exact hc _
def Q3p(p:List (Nat×Nat×Int)):Prop:=∀ e∈p,e.1=1->0<=e.2.2/\e.2.2<18446744073709551616
theorem Dev.VB.run(p:List (Nat×Nat×Int)):∀ {D:Dev},D.VB->∀ j,Q3p p->(D.run j p).VB:=by
 induction p with
 | nil=>intro D h _ _;exact h
 | cons e p ih=>intro D h j hp;exact ih (h.step j e (hp e (by simp))) j (fun x hx=>hp x (by simp[hx]))
structure Hst(D:Dev)(C:Nat->Int)(ws:List (Nat×Int)):Prop where
 pers:∀ i,D.pers i=C i
 hist:∀ l,D.hist l=ws.filter fun e=>e.1/64==l
theorem Hst.cur{D:Dev}{C:Nat->Int}{ws:List (Nat×Int)}(h:Hst D C ws)(i:Nat):D.cur i=Qu ws (C i) i:=by
 unfold Dev.cur;rw[h.pers,h.hist,Bs]
theorem Hst.img{D:Dev}{C:Nat->Int}{ws:List (Nat×Int)}(h:Hst D C ws)(ks:Nat->Nat)(i:Nat):D.img ks i=C i\/∃ e∈ws,e.1/8=i/\D.img ks i=e.2:=by
 unfold Dev.img;rw[h.pers,h.hist]
 rcases Qhm ((ws.filter fun e=>e.1/64==i/8).take (ks (i/8))) (C i) i with h1 | ⟨e,he,h2,h3⟩
 ·exact .inl h1
 ·exact .inr ⟨e,(List.mem_filter.1 (List.mem_of_mem_take he)).1,h2,h3⟩
theorem Hst.clean{D:Dev}{C:Nat->Int}(h:Hst D C [])(ks:Nat->Nat)(i:Nat):D.img ks i=C i:=by
 rcases h.img ks i with h | ⟨e,he,_⟩
 ·exact h
 ·simp at he
structure OnJ(D:Dev)(j n:Nat):Prop where
 n:D.n=n
 off:D.off=false
 err:D.err j=0
structure Grp(D:Dev)(j n:Nat)(C:Nat->Int)(ws:List (Nat×Int))(fs:List Nat):Prop where
 on:OnJ D j n
 hst:Hst D C ws
 yes:∀ o∈fs,D.note j (o/64)=some (D.done (o/64)+(D.hist (o/64)).length)
 no:∀ l,(∀ o∈fs,o/64≠l)->D.note j l=none
def Dev.may(D:Dev)(k:Nat):Prop:=D.armed=false\/k<=D.left
theorem Dev.may.mono{D:Dev}{k m:Nat}(h:D.may m)(hk:k<=m):D.may k:=h.imp id (fun h=>Nat.le_trans hk h)
section
variable{D:Dev}{j n:Nat}{C:Nat->Int}{ws:List (Nat×Int)}{fs:List Nat}
theorem Jv(h:OnJ D j n){k:Nat}(hm:D.may (k+1)):D.countedB true=true/\D.countedD j true=D.tick/\D.tick.may k/\OnJ D.tick j n:=by
 have hc:D.cut=false:=by
  unfold Dev.cut
  rcases hm with h1 | h1
  ·simp[h1]
  ·have:(D.left==0)=false:=by simp;omega
   simp[this]
 refine⟨by simp[Dev.countedB,Dev.onB,h.off,hc],by simp[Dev.countedD,Dev.onB,h.off,hc],?_,⟨h.n,h.off,h.err⟩⟩
 rcases hm with h1 | h1
 ·exact .inl h1
 ·unfold Dev.may Dev.tick
  by_cases ha:D.armed=true
  ·right;simp only[ha,if_true];omega
  ·left;simpa using ha
theorem Grp.tick(h:Grp D j n C ws fs):Grp D.tick j n C ws fs:=⟨⟨h.on.n,h.on.off,h.on.err⟩,⟨h.hst.pers,h.hst.hist⟩,h.yes,h.no⟩
theorem Grp.store(h:Grp D j n C ws []){k:Nat}(hm:D.may (k+1))(off:Nat)(x:Int)(h8:off%8=0)(hl:off<64*n):Grp (D.store j off x) j n C (ws ++ [(off,x)]) []/\(D.store j off x).may k:=by
 obtain⟨h1,h2,h3,h4⟩:=Jv h.on hm;have hw:D.wordB off=true:=by simp[Dev.wordB,h.on.n,h8,hl]
 have e:D.store j off x=D.tick.put off x:=by unfold Dev.store;rw[hw,h1,h2];rfl
 have t:=h.tick;rw[e];refine⟨⟨⟨t.on.n,t.on.off,t.on.err⟩,⟨t.hst.pers,fun l => ?_⟩,fun o ho=>by simp at ho,t.no⟩,h3⟩
 show(if l=off/64 then D.tick.hist l ++ [(off,x)]else D.tick.hist l)=_
 rw[List.filter_append,t.hst.hist]
 by_cases e:l=off/64
 ·rw[if_pos e];subst e;simp
 ·rw[if_neg e,List.filter_cons_of_neg (by simp;omega)];simp
theorem Grp.flush(h:Grp D j n C ws fs){k:Nat}(hm:D.may (k+1))(off:Nat)(hl:off<64*n):Grp (D.flush j off) j n C ws (fs ++ [off])/\(D.flush j off).may k:=by
 obtain⟨h1,h2,h3,h4⟩:=Jv h.on hm;have hw:D.inB off=true:=by simp[Dev.inB,h.on.n,hl]
 have e:D.flush j off=D.tick.jot j (off/64):=by unfold Dev.flush;rw[hw,h1,h2];rfl
 have t:=h.tick;rw[e];refine⟨⟨⟨t.on.n,t.on.off,t.on.err⟩,⟨t.hst.pers,t.hst.hist⟩,fun o ho => ?_,fun l hl => ?_⟩,h3⟩
 ·show(if j=j/\o/64=off/64 then some (D.tick.done (off/64)+(D.tick.hist (off/64)).length)else D.tick.note j (o/64))=_
  by_cases e:o/64=off/64
  ·rw[if_pos ⟨rfl,e⟩,e];rfl
  ·rw[if_neg (fun h=>e h.2)]
   rcases List.mem_append.1 ho with h' | h'
   ·exact t.yes o h'
   ·simp at h';subst h';exact absurd rfl e
 ·show(if j=j/\l=off/64 then some (D.tick.done (off/64)+(D.tick.hist (off/64)).length)else D.tick.note j l)=_
  rw[if_neg (fun h=>hl off (by simp) h.2.symm)];exact t.no l (fun o ho=>hl o (by simp[ho]))
theorem Grp.fence(h:Grp D j n C ws fs){k:Nat}(hm:D.may (k+1))(hc:∀ e∈ws,∃ o∈fs,o/64=e.1/64):Grp (D.fence j) j n (fun i=>Qu ws (C i) i) [] []/\(D.fence j).may k:=by
 obtain⟨h1,h2,h3,h4⟩:=Jv h.on hm;have e:D.fence j=D.tick.sync j:=by unfold Dev.fence;rw[h1,h2];rfl
 have t:=h.tick;have howed:∀ l,D.tick.owed j l=(D.tick.hist l).length:=fun l=>by
  unfold Dev.owed
  by_cases hf:∃ o∈fs,o/64=l
  ·obtain⟨o,ho,rfl⟩:=hf
   rw[t.yes o ho];simp
  ·have hf':∀ o∈fs,o/64≠l:=fun o ho e=>hf ⟨o,ho,e⟩
   rw[t.no l hf',t.hst.hist];have:ws.filter (fun e=>e.1/64==l) = []:=List.filter_eq_nil_iff.2 (fun e he=>by
    obtain⟨o,ho,e2⟩:=hc e he;have:=hf' o ho;simp;omega)
   rw[this];rfl
 rw[e];refine⟨⟨⟨t.on.n,t.on.off,t.on.err⟩,⟨fun i => ?_,fun l => ?_⟩,fun o ho=>by simp at ho,fun l _ => ?_⟩,h3⟩
 ·show Qu ((D.tick.hist (i/8)).take (D.tick.owed j (i/8))) (D.tick.pers i) i=_
  rw[howed,List.take_length,t.hst.pers,t.hst.hist,Bs]
 ·show(D.tick.hist l).drop (D.tick.owed j l)=_
  rw[howed,List.drop_length];rfl
 ·show(if j=j then none else D.tick.note j l)=none
  simp
def Zu(g:List (Nat×Int)×List Nat):List (Nat×Nat×Int):=(g.1.map fun e=>(1,e.1,e.2))++(g.2.map fun o=>(2,o,0)) ++ [(3,0,0)]
def Jz(n:Nat)(g:List (Nat×Int)×List Nat):Prop:=(∀ e∈g.1,e.1%8=0/\e.1<64*n/\∃ o∈g.2,o/64=e.1/64)/\∀ o∈g.2,o<64*n
def Qi(gs:List (List (Nat×Int)×List Nat)):List (Nat×Nat×Int):=gs.flatMap Zu
def Rf(C:Nat->Int)(gs:List (List (Nat×Int)×List Nat)):Nat->Int:=gs.foldl (fun C g i=>Qu g.1 (C i) i) C
theorem Nk(C:Nat->Int)(g:List (Nat×Int)×List Nat)(gs:List (List (Nat×Int)×List Nat)):Rf C (g::gs)=Rf (fun i=>Qu g.1 (C i) i) gs:=rfl
theorem Vx(g:List (Nat×Int)×List Nat):(Zu g).length=g.1.length+g.2.length+1:=by simp[Zu];omega
theorem Lf(l:List (Nat×Int)):∀ {D:Dev} {ws:List (Nat×Int)} {k:Nat},Grp D j n C ws []->D.may (l.length+k)->(∀ e∈l,e.1%8=0/\e.1<64*n) ->
  Grp (D.run j (l.map fun e=>(1,e.1,e.2))) j n C (ws++l) []/\(D.run j (l.map fun e=>(1,e.1,e.2))).may k:=by
 induction l with
 | nil=>intro D ws k h hm _;exact⟨by simpa [Dev.run]using h,by simpa [Dev.run]using hm⟩
 | cons e l ih=>
  intro D ws k h hm hl;obtain⟨h1,h2⟩:=h.store (k:=l.length+k) (by simp at hm;exact hm.mono (by omega)) e.1 e.2 (hl e (by simp)).1 (hl e (by simp)).2;have:=ih h1 h2 (fun x hx=>hl x (by simp[hx]));simp only[List.append_assoc,List.singleton_append]at this;exact this
theorem Cj(l:List Nat):∀ {D:Dev} {fs:List Nat} {k:Nat},Grp D j n C ws fs->D.may (l.length+k)->(∀ o∈l,o<64*n) ->
  Grp (D.run j (l.map fun o=>(2,o,0))) j n C ws (fs++l)/\(D.run j (l.map fun o=>(2,o,0))).may k:=by
 induction l with
 | nil=>intro D fs k h hm _;exact⟨by simpa [Dev.run]using h,by simpa [Dev.run]using hm⟩
 | cons e l ih=>
  intro D fs k h hm hl;obtain⟨h1,h2⟩:=h.flush (k:=l.length+k) (by simp at hm;exact hm.mono (by omega)) e (hl e (by simp));have:=ih h1 h2 (fun x hx=>hl x (by simp[hx]));simp only[List.append_assoc,List.singleton_append]at this;exact this
theorem Qt5(g:List (Nat×Int)×List Nat)(h:Grp D j n C [] [])(hg:Jz n g)(k:Nat)(hk:k<(Zu g).length)(hm:D.may k) :
  ∃ ws fs,ws <+: g.1/\Grp (D.run j ((Zu g).take k)) j n C ws fs:=by
 rw[Vx]at hk;have hs:∀ e∈g.1,e.1%8=0/\e.1<64*n:=fun e he=>⟨(hg.1 e he).1,(hg.1 e he).2.1⟩
 by_cases h1:k<=g.1.length
 ·have e:(Zu g).take k=(g.1.take k).map fun e=>(1,e.1,e.2):=by
   unfold Zu;rw[List.append_assoc,List.take_append_of_le_length (by simpa using h1),List.map_take]
  have hl:(g.1.take k).length=k:=by rw[List.length_take];omega
  obtain⟨h2,_⟩:=Lf (k:=0) (g.1.take k) h (by rw[hl];exact hm) (fun e he=>hs e (List.mem_of_mem_take he));rw[e];exact⟨g.1.take k,[],List.take_prefix _ _,by simpa using h2⟩
 ·have e:(Zu g).take k=(g.1.map fun e=>(1,e.1,e.2))++(g.2.take (k-g.1.length)).map fun o=>(2,o,0):=by
   unfold Zu;rw[List.append_assoc,List.take_append,List.take_of_length_le (by simp;omega),List.length_map,List.take_append_of_le_length (by simp;omega),List.map_take]
  obtain⟨h2,h3⟩:=Lf (k:=k-g.1.length) g.1 h (hm.mono (by omega)) hs;have hl:(g.2.take (k-g.1.length)).length=k-g.1.length:=by rw[List.length_take];omega
  obtain⟨h4,_⟩:=Cj (k:=0) (g.2.take (k-g.1.length)) h2 (by rw[hl];exact h3) (fun o ho=>hg.2 o (List.mem_of_mem_take ho));rw[e,Dev.run_append];exact⟨g.1,_,List.prefix_refl _,by simpa using h4⟩
theorem Qp0(g:List (Nat×Int)×List Nat)(h:Grp D j n C [] [])(hg:Jz n g)(k:Nat)(hm:D.may ((Zu g).length+k)) :
  Grp (D.run j (Zu g)) j n (fun i=>Qu g.1 (C i) i) [] []/\(D.run j (Zu g)).may k:=by
 rw[Vx]at hm;obtain⟨h2,h3⟩:=Lf (k:=g.2.length+1+k) g.1 h (hm.mono (by omega)) (fun e he=>⟨(hg.1 e he).1,(hg.1 e he).2.1⟩);obtain⟨h4,h5⟩:=Cj (k:=1+k) g.2 h2 (h3.mono (by omega)) hg.2;obtain⟨h6,h7⟩:=h4.fence (k:=k) (h5.mono (by omega)) (fun e he=>by
  obtain⟨o,ho,e2⟩:=(hg.1 e (by simpa using he)).2.2;exact⟨o,by simpa using ho,e2⟩)
 have e:D.run j (Zu g)=((D.run j (g.1.map fun e=>(1,e.1,e.2))).run j (g.2.map fun o=>(2,o,0))).fence j:=by
  unfold Zu;rw[Dev.run_snoc,Dev.run_append];rfl
 rw[e];exact⟨by simpa using h6,h7⟩
structure Far(D:Dev)(j n:Nat)(C:Nat->Int)(gs:List (List (Nat×Int)×List Nat))(a:Nat)(ws:List (Nat×Int)):Prop where
 le:a<=gs.length
 pre:∃ t,(gs[a]?.map (·.1)).getD []=ws++t
 grp:∃ fs,Grp D j n (Rf C (gs.take a)) ws fs
theorem Qpy(gs:List (List (Nat×Int)×List Nat)):∀ {D:Dev} {C:Nat->Int} (k:Nat),Grp D j n C [] []->(∀ g∈gs,Jz n g)->k<=(Qi gs).length->D.may k->∃ a ws,Far (D.run j ((Qi gs).take k)) j n C gs a ws /\
  (k=(Qi gs).length->a=gs.length/\ws = []/\Grp (D.run j ((Qi gs).take k)) j n (Rf C gs) [] []):=by
 induction gs with
 | nil=>
  intro D C k h _ hk _;have:k=0:=by simpa [Qi]using hk
  subst this;exact⟨0,[],⟨Nat.le_refl _,⟨[],rfl⟩,⟨[],h⟩⟩,fun _=>⟨rfl,rfl,h⟩⟩
 | cons g gs ih=>
  intro D C k h hg hk hm;have hgl:Qi (g::gs)=Zu g++Qi gs:=by simp[Qi]
  rw[hgl]at hk ⊢;rw[List.length_append]at hk
  by_cases h1:k<(Zu g).length
  ·rw[List.take_append_of_le_length (by omega)]
   obtain⟨ws,fs,⟨t,ht⟩,hG⟩:=Qt5 g h (hg g (by simp)) k h1 hm;exact⟨0,ws,⟨Nat.zero_le _,⟨t,by simp[ht]⟩,⟨fs,hG⟩⟩,fun e=>by rw[List.length_append]at e;omega⟩
  ·rw[List.take_append,List.take_of_length_le (by omega),Dev.run_append]
   obtain⟨h2,h3⟩:=Qp0 g h (hg g (by simp)) (k-(Zu g).length) (hm.mono (by omega));obtain⟨a,ws,hF,hE⟩:=ih (k-(Zu g).length) h2 (fun x hx=>hg x (by simp[hx])) (by omega) h3;refine⟨a+1,ws,⟨by have:=hF.le;simp;omega,by simpa using hF.pre,?_⟩,fun e => ?_⟩
   ·obtain⟨fs,hG⟩:=hF.grp
    exact⟨fs,by simpa [Nk]using hG⟩
   ·obtain⟨e1,e2,e3⟩:=hE (by rw[List.length_append]at e;omega)
    exact⟨by simp[e1],e2,by rw[Nk];exact e3⟩
def okP(n:Nat)(p:List (Nat×Nat×Int)):Prop:=∀ e∈p,(e.1=1/\e.2.1%8=0/\e.2.1<64*n)\/(e.1=2/\e.2.1<64*n)\/e.1=3
theorem Qj0{gs:List (List (Nat×Int)×List Nat)}(h:∀ g∈gs,Jz n g):okP n (Qi gs):=by
 intro e he;obtain⟨g,hg,he⟩:=List.mem_flatMap.1 he;have hk:=h g hg;unfold Zu at he
 rcases List.mem_append.1 he with he | he
 ·rcases List.mem_append.1 he with he | he
  ·obtain⟨x,hx,rfl⟩:=List.mem_map.1 he
   exact .inl ⟨rfl,(hk.1 x hx).1,(hk.1 x hx).2.1⟩
  ·obtain⟨x,hx,rfl⟩:=List.mem_map.1 he
   exact .inr (.inl ⟨rfl,hk.2 x hx⟩)
 ·simp at he;subst he;exact .inr (.inr rfl)
theorem Lj(hn:D.n=n){e:Nat×Nat×Int}(he:(e.1=1/\e.2.1%8=0/\e.2.1<64*n)\/(e.1=2/\e.2.1<64*n)\/e.1=3) :
  D.step j e=if D.countedB true then(if e.1=1 then(D.countedD j true).put e.2.1 e.2.2 else if e.1=2 then(D.countedD j true).jot j (e.2.1/64)else(D.countedD j true).sync j)else D.countedD j true:=by
 unfold Dev.step Dev.store Dev.flush Dev.fence
 rcases he with ⟨h1,h2,h3⟩ | ⟨h1,h3⟩ | h1
 ·have hw:D.wordB e.2.1=true:=by simp[Dev.wordB,hn,h2,h3]
  simp[h1,hw]
 ·have hw:D.inB e.2.1=true:=by simp[Dev.inB,hn,h3]
  simp[h1,hw]
 ·simp[h1]
theorem Qdy(h:OnJ D j n){k:Nat}(hm:D.may (k+1)){e:Nat×Nat×Int}(he:(e.1=1/\e.2.1%8=0/\e.2.1<64*n)\/(e.1=2/\e.2.1<64*n)\/e.1=3) :
  OnJ (D.step j e) j n/\(D.step j e).armed=D.armed/\(D.step j e).left=(if D.armed then D.left-1 else D.left):=by
 obtain⟨h1,h2,h3,h4⟩:=Jv h hm;rw[Lj h.n he,h1,h2,if_pos rfl]
 split
 ·exact⟨⟨h.n,h.off,h.err⟩,rfl,rfl⟩
 ·split
  ·exact⟨⟨h.n,h.off,h.err⟩,rfl,rfl⟩
  ·exact⟨⟨h.n,h.off,h.err⟩,rfl,rfl⟩
theorem Ah(p:List (Nat×Nat×Int)):∀ {D:Dev},OnJ D j n->D.armed=true->p.length<=D.left->okP n p->OnJ (D.run j p) j n/\(D.run j p).armed=true/\(D.run j p).left=D.left-p.length:=by
 induction p with
 | nil=>intro D h ha _ _;exact⟨h,ha,by simp[Dev.run]⟩
 | cons e p ih=>
  intro D h ha hl hp;have hl':p.length+1<=D.left:=hl;obtain⟨h1,h2,h3⟩:=Qdy h (k:=0) (.inr (by omega)) (hp e (by simp));rw[ha]at h2 h3;rw[if_pos rfl]at h3;obtain⟨h4,h5,h6⟩:=ih h1 h2 (by omega) (fun x hx=>hp x (by simp[hx]));refine⟨h4,h5,?_⟩
  show((D.step j e).run j p).left=_
  rw[h6,h3];simp;omega
theorem Qh6(h:OnJ D j n)(ha:D.armed=true)(hl:D.left=0){e:Nat×Nat×Int}(he:(e.1=1/\e.2.1%8=0/\e.2.1<64*n)\/(e.1=2/\e.2.1<64*n)\/e.1=3) :
  D.step j e=({D with off:=true}:Dev).setErr j 3:=by
 have hc:D.cut=true:=by simp[Dev.cut,ha,hl]
 have hb:D.countedB true=false:=by simp[Dev.countedB,hc]
 have hd:D.countedD j true=({D with off:=true}:Dev).setErr j 3:=by
  simp[Dev.countedD,Dev.onB,h.off,hc,Dev.fail,h.err]
 rw[Lj h.n he,hb,hd];rfl
theorem Quc(hoff:D.off=true)(he3:D.err j≠0)(hn:D.n=n){e:Nat×Nat×Int}(he:(e.1=1/\e.2.1%8=0/\e.2.1<64*n)\/(e.1=2/\e.2.1<64*n)\/e.1=3):D.step j e=D:=by
 have hb:D.countedB true=false:=by simp[Dev.countedB,Dev.onB,hoff]
 have hd:D.countedD j true=D:=by simp[Dev.countedD,Dev.onB,hoff,Dev.onD,Dev.fail,he3]
 rw[Lj hn he,hb,hd];rfl
theorem Qpz(p:List (Nat×Nat×Int))(hoff:D.off=true)(he3:D.err j≠0)(hn:D.n=n)(hp:okP n p):D.run j p=D:=by
 induction p with
 | nil=>rfl
 | cons e p ih=>
  show(D.step j e).run j p=D
  rw[Quc hoff he3 hn (hp e (by simp))];exact ih (fun x hx=>hp x (by simp[hx]))
inductive Q5t (D D':Dev) (j n:Nat) (C:Nat->Int) (gs:List (List (Nat×Int)×List Nat)):Prop where
 | all (on:Grp D' j n (Rf C gs) [] []) (armed:D'.armed=D.armed) (left:D'.left=if D.armed then D.left-(Qi gs).length else D.left):Q5t D D' j n C gs
 | cut (off:D'.off=true) (err:D'.err j=3) (hn:D'.n=n) (a:Nat) (ws:List (Nat×Int)) (le:a<=gs.length) (pre:∃ t,(gs[a]?.map (·.1)).getD []=ws++t) (hst:Hst D' (Rf C (gs.take a)) ws)
   (armed:D.armed=true) (left:D.left<(Qi gs).length):Q5t D D' j n C gs
theorem Ga(p:List (Nat×Nat×Int)):∀ {D:Dev},OnJ D j n->D.armed=false->okP n p->(D.run j p).armed=false/\(D.run j p).left=D.left:=by
 induction p with
 | nil=>intro D _ ha _;exact⟨ha,rfl⟩
 | cons e p ih=>
  intro D h ha hp;obtain⟨h1,h2,h3⟩:=Qdy h (k:=0) (.inl ha) (hp e (by simp));rw[ha]at h2 h3;obtain⟨h4,h5⟩:=ih h1 h2 (fun x hx=>hp x (by simp[hx]));exact⟨h4,h5.trans h3⟩
theorem Md{gs:List (List (Nat×Int)×List Nat)}(h:Grp D j n C [] [])(hg:∀ g∈gs,Jz n g):Q5t D (D.run j (Qi gs)) j n C gs:=by
 have hok:=Qj0 hg
 by_cases hm:D.may (Qi gs).length
 ·obtain⟨a,ws,_,hE⟩:=Qpy gs (Qi gs).length h hg (Nat.le_refl _) hm
  have:=(hE rfl).2.2;rw[List.take_length]at this
  rcases hm with h1 | h1
  ·obtain⟨h2,h3⟩:=Ga _ h.on h1 hok
   exact .all this (by rw[h2,h1]) (by rw[h3,h1];rfl)
  ·by_cases ha:D.armed=true
   ·obtain⟨_,h2,h3⟩:=Ah _ h.on ha h1 hok
    exact .all this (by rw[h2,ha]) (by rw[h3,ha];rfl)
   ·have ha':D.armed=false:=by simpa using ha
    obtain⟨h2,h3⟩:=Ga _ h.on ha' hok;exact .all this (by rw[h2,ha']) (by rw[h3,ha'];rfl)
 ·have ha:D.armed=true:=by
   cases e:D.armed
   ·exact absurd (.inl e) hm
   ·rfl
  have hl:D.left<(Qi gs).length:=Nat.lt_of_not_le (fun h=>hm (.inr h));obtain⟨a,ws,hF,_⟩:=Qpy gs D.left h hg (by omega) (.inr (Nat.le_refl _));have htl:((Qi gs).take D.left).length=D.left:=by rw[List.length_take];omega
  obtain⟨h1,h2,h3⟩:=Ah ((Qi gs).take D.left) h.on ha (by omega) (fun e he=>hok e (List.mem_of_mem_take he));obtain⟨fs,hG⟩:=hF.grp
  generalize hD1:D.run j ((Qi gs).take D.left)=D1 at *
  obtain⟨e,rest,hr⟩:∃ e rest,(Qi gs).drop D.left=e::rest:=by
   cases hd:(Qi gs).drop D.left with
   | nil=>have:=congrArg List.length hd;simp at this;omega
   | cons e rest=>exact⟨e,rest,rfl⟩
  have hmem:∀ x∈e::rest,(x.1=1/\x.2.1%8=0/\x.2.1<64*n)\/(x.1=2/\x.2.1<64*n)\/x.1=3:=fun x hx=>hok x (List.mem_of_mem_drop (by rw[hr];exact hx))
  have hrun:D.run j (Qi gs)=({D1 with off:=true}:Dev).setErr j 3:=by
   rw[<- List.take_append_drop D.left (Qi gs),Dev.run_append,hD1,hr];show(D1.step j e).run j rest=_
   rw[Qh6 h1 h2 (by rw[h3,htl];omega) (hmem e (by simp))];exact Qpz rest rfl (by simp[Dev.setErr]) h1.n (fun x hx=>hmem x (by simp[hx]))
  rw[hrun];exact .cut rfl (by simp[Dev.setErr]) h1.n a ws hF.le hF.pre ⟨hG.hst.pers,hG.hst.hist⟩ ha hl
end
end
end Go.Proofs.YtlhchkajjpefmaaGreatDoor
