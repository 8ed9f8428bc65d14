/- Lemmas and walks, part 23: each theorem says what it proves; no condition beside its own. -/
import Derived.Test.YtlhchkajjpefmaaGreatDoorK22
set_option maxHeartbeats 16000000
set_option maxRecDepth 100000
namespace Go.Proofs.YtlhchkajjpefmaaGreatDoor
open Lib(hid)
open Go.RowKit Go.Proofs.Tryz
section
open Go.Maps
attribute [local go_sem ↓] Go.wp_at_zero Go.wp_at_succ
namespace Ov
def ovE(n:Nat)(C:Nat->Int)(k:Nat):Dev:={Dev.fresh n C with exec:=k}
def Jd(v:DV)(own:Nat->Option Qp)(w:World)(E':Dev)(w':World):Prop:=
 ∃ own',IsDev w' v own' E'/\(∀ k,k<w.heap.size->own' k=own k)/\Upd (fun k=>own k=some .dev) w w'
def Qz0(C:Nat->Int)(off:Nat)(x:Int)(i:Nat):Int:=if off/8=i then x else C i
section
variable{w:World}{v:DV}{own:Nat->Option Qp}{D:Dev}{n k:Nat}{C:Nat->Int}
theorem Jd.refl(h:IsDev w v own D):Jd v own w D w:=⟨own,h,fun _ _=>rfl,Upd.refl _ _⟩
theorem Jd.next{own1:Nat->Option Qp}{D2:Dev}{w1 w2:World}(ho:∀ k,k<w.heap.size->own1 k=own k)(hu:Upd (fun k=>own k=some .dev) w w1)(h:Jd v own1 w1 D2 w2):Jd v own w D2 w2:=by
 obtain⟨own2,h1,h2,h3⟩:=h;exact⟨own2,h1,fun k hk=>(h2 k (Nat.lt_of_lt_of_le hk hu.size)).trans (ho k hk),hu.trans h3 (fun i hi hS=>by rw[<- ho i hi];exact hS)⟩
theorem Jd.past{w1 w2:World}{D':Dev}(hb:Below w.heap.size w w1)(h:Jd v own w1 D' w2):Jd v own w D' w2:=Jd.next (fun _ _=>rfl) (Upd.of_below hb) h
theorem Qqb{dv:DV}{ownD:Nat->Option Qp}{D0:Dev}{mb m:Nat}{lg lg':Value}{N:DataW Unit}{L:List (Nat×Int)}(h:IsDev w v own (ovE n C k))(h1:Q8e w v own (ovE n C k) dv ownD D0 mb m lg N L)
  {off:Nat} {x:Int} (h8:off%8=0) {w3 w5:World} {o:Obj} (g3:w.grownBy w3 (some mb)) (hm:w3.ownsMap prog 31 (plainElem prog 31) mb (m+1) (N.put (.int .u64 (off:Int)) (.lit (.int .u64 x))))
  (g5:(w3.alloc o).grownBy w5 lg.ownBlock) (o5:Qj w5 140 2 lg' (L.length+1) (Qv L ++ [.int .u64 off,.int .u64 x])) (a5:Zc lg'=Zc lg\/Zc lg'=some ⟨(w3.alloc o).heap.size,0,none⟩) :
  Jd v own w (ovE n (Qz0 C off x) (k+1)) (w5.setCell ⟨v.tb 0,2,none⟩ lg'):=by
 have hs3:=g3.size;have hs5:=g5.size;rw[World.size_alloc]at hs5;have hblk:∀ g,lg'.ownBlock=some g->lg.ownBlock=some g\/g=(w3.alloc o).heap.size:=fun g hg=>by
  rw[Qh]at hg ⊢
  rcases a5 with a | a
  ·rw[a]at hg;exact .inl hg
  ·rw[a]at hg;right;simp at hg;simp;exact hg.symm
 have key:∀ b,b<w.heap.size->b≠mb->lg.ownBlock≠some b->w5.heap[b]? = w.heap[b]?:=fun b hb e1 e2=>
  (g5.block b (by simp;omega) (fun e=>e2 e.symm)).trans ((Below.heap_alloc _ _ _ (by omega)).trans (g3.block b hb (fun e=>e1 (Option.some.inj e))))
 have ltb:v.tb 0<w.heap.size:=h.lt _ (by rw[h1.ob];simp);have lmb:mb<w.heap.size:=h.lt _ (by rw[h1.omb];simp);have nlb:lg.ownBlock≠some (v.tb 0):=fun e=>(h1.nl _ e).1 rfl
 have nlm:lg.ownBlock≠some mb:=fun e=>(h1.nl _ e).2 rfl
 have hset:∀ b,b≠v.tb 0->(w5.setCell ⟨v.tb 0,2,none⟩ lg').heap[b]? = w5.heap[b]?:=fun b hb=>Below.heap_setCell _ _ _ _ hb
 refine⟨fun b=>if lg'.ownBlock=some b/\w.heap.size<=b then some .dev else own b,⟨⟨h.wf.pos,h.wf.le⟩,fun b hb => ?_,dv,ownD,D0,mb,m+1,lg',N.put (.int .u64 (off:Int)) (.lit (.int .u64 x)),L ++ [(off,x)],?_⟩,fun b hb=>by simp only;rw[if_neg (by omega)],?_⟩
 ·by_cases hh:lg'.ownBlock=some b/\w.heap.size<=b
  ·have:=o5.lt b hh.1
   simpa [World.setCell]using this
  ·rw[if_neg hh]at hb
   have:=h.lt b hb;simp[World.setCell];omega
 ·have hsup:∀ b,own b≠none->(if lg'.ownBlock=some b/\w.heap.size<=b then some Qp.dev else own b)≠none:=fun b hb=>by split <;> simp_all
  have hsup2:∀ b,own b=some Qp.dev->(if lg'.ownBlock=some b/\w.heap.size<=b then some Qp.dev else own b)=some Qp.dev:=fun b hb=>by split <;> simp_all
  exact {
   dev:=h1.dev.kept (by simp[World.setCell];omega) (fun b hb=>by
    have hlt:=h.lt b (h1.sub b hb);rw[hset b (fun e=>hb (by rw[e];exact h1.dob))];exact key b hlt (fun e=>hb (by rw[e];exact h1.dmb)) (fun e=>hb (h1.dl b e)))
   on:=h1.on
   derr:=h1.derr
   sub:=fun b hb=>hsup b (h1.sub b hb)
   tb:=h1.tb
   blk:=by
    have hk:Blk w5 (v.tb 0) _ 244:=(key _ ltb h1.ne nlb).trans h1.blk;have:=hk.set 2 lg';simpa using this
   map:=by
    unfold World.ownsMap at *;rw[hset mb (fun e=>h1.ne e.symm),g5.block mb (by simp;omega) (fun e=>nlm e.symm),Below.heap_alloc _ _ _ (by omega)];exact hm
   mle:=by have:=h1.mle;simp;omega
   len:=by have h2:L.length<=k:=h1.len;show(L ++ [(off,x)]).length<=k+1;simp;omega
   om:=h1.om.put h1.map.isMap off h8 x
   log:=by
    have:Qj w5 140 2 lg' (L ++ [(off,x)]).length (Qv (L ++ [(off,x)])):=by rw[Za,List.length_append];exact o5
    exact this.other (fun g hg=>by
     rcases hblk g hg with e | e
     ·exact(h1.nl g e).1
     ·rw[e,World.size_alloc];show w3.heap.size+1≠v.tb 0;omega) _
   al:=fun e he=>by
    rcases List.mem_append.1 he with h2 | h2
    ·exact h1.al e h2
    ·simp at h2;subst h2;exact h8
   ob:=hsup2 _ h1.ob
   omb:=hsup2 _ h1.omb
   ol:=fun g hg=>by
    rcases hblk g hg with e | e
    ·exact hsup2 g (h1.ol g e)
    ·rw[if_pos ⟨hg,by rw[e,World.size_alloc];omega⟩]
   dob:=h1.dob
   dmb:=h1.dmb
   dl:=fun g hg=>by
    rcases hblk g hg with e | e
    ·exact h1.dl g e
    ·cases hh:ownD g with
     | none=>rfl
     | some r=>have:=h.lt g (h1.sub g (by rw[hh];simp));rw[e,World.size_alloc]at this;omega
   ne:=h1.ne
   nl:=fun g hg=>by
    rcases hblk g hg with e | e
    ·exact h1.nl g e
    ·rw[e,World.size_alloc];omega
   n:=h1.n
   eoff:=rfl
   eerr:=fun _=>rfl
   cur:=fun i=>by
    rw[Xt];show Qz0 C off x i=_
    have:=h1.cur i;have e:(ovE n C k).cur i=C i:=rfl;rw[e]at this;unfold Qz0;rw[this]}
 ·refine⟨g5.os.trans g3.os,g5.tape.trans g3.tape,g5.output.trans g3.output,by simp[World.setCell];omega,fun b hb hn => ?_⟩
  rw[hset b (fun e=>hn (by rw[e];exact h1.ob))];exact key b hb (fun e=>hn (by rw[e];exact h1.omb)) (fun e=>hn (h1.ol b e))
theorem Qud(h:IsDev w v own (ovE n C k))(off:Nat)(x:Int)(h8:off%8=0)(hl:off<64*n)(hx:0<=x/\x<18446744073709551616)(hk:k<=100000) :
  Calls prog 302 #[.pointer (some ⟨v.tb 0,0,none⟩),.int .u64 off,.int .u64 x] w fun r w'=>r = .returned (.tuple #[])/\Jd v own w (ovE n (Qz0 C off x) (k+1)) w':=by
 have hle:n<=4096:=h.wf.le;obtain⟨dv,ownD,D0,mb,m,lg,N,L,h1⟩:=h.ex;have hLk:L.length<=k:=h1.len;have hmL:=h1.mle;have HT:=hid (Go.Proofs.YtlhchkajjpefmaaGreatDoor.thrSize_any h1.dev (j:=0) (by omega));have hn0:D0.n=n:=h1.n.symm;rw[hn0]at HT;have hm:=Go.Proofs.YtlhchkajjpefmaaGreatDoor.meth_Size ⟨dv.tb 0,0,none⟩;have c0:=h1.blk.cell (i:=0) rfl;have c1:=h1.blk.cell (i:=1) rfl;obtain⟨la,lc,hlg⟩:=h1.log.slice;subst hlg;have H:=hid h;have H1:=hid h1
 have c2:=h1.blk.cell (i:=2) rfl;have hb1:((off:Int)%8 != 0)=false:=by simp;omega
 have hb2:¬ (n:Int)*64<=(off:Int):=by omega
 have hkey:keyOf prog 31 (.int .u64 (off:Int))=some (.int .u64 (off:Int)):=keyOf_int_mk underlying31 (WalkArith.wf_u64 (by omega));have HVAL:=hid (plainElem_int (H:=Unit) underlying31 (WalkArith.wf_u64 (n:=x) (by omega)));obtain⟨i0,hi,hz0,hz1,hz2⟩:=info_parts Xe;have I:=hid (And.intro hi (And.intro hz0 (And.intro hz1 hz2)));have HML:Hid (m+1<=maxLen):=by show m+1<=maxLen;unfold maxLen;omega
 have HK3:Hid (∀ w3,w.grownBy w3 (some mb)->Blk w3 (v.tb 0) _ 244):=hid (fun w3 g3=>(g3.block _ (h.lt _ (by rw[h1.ob];simp)) (fun e=>h1.ne (Option.some.inj e))).trans h1.blk);have HLG:Hid (∀ w3,w.grownBy w3 (some mb)->Qj w3 140 2 (.slice la L.length lc) L.length (Qv L)):=hid (fun w3 g3=>h1.log.kept (fun b hb=>g3.block b (h1.log.lt b hb) (fun e=>(h1.nl b hb).2 (Option.some.inj e))));have HK5:Hid (∀ (w3 w5:World) (o:Obj),w.grownBy w3 (some mb)->(w3.alloc o).grownBy w5 (Value.slice la L.length lc).ownBlock->Blk w5 (v.tb 0) _ 244):=hid (fun w3 w5 o g3 g5=>(g5.block _ (by have:=g3.size;have:=h.lt _ (show own (v.tb 0)≠none by rw[h1.ob];simp);simp;omega) (fun e=>(h1.nl _ e.symm).1 rfl)).trans ((HK3.out w3 g3).alloc _));clear h h1 hi hz0 hz1 hz2 hn0
 go_enter func302,ntmps302
 go_wp2_with fail
 (with_reducible refine HT.out.mono ?_)
 rintro r w1 ⟨rfl,rfl⟩;go_wp2_with (first | (at_mapUpdate;refine wpList_mapUpdate_own _ rfl _ _ _ 241 rfl 31 31 (int_keyed underlying31) underlying241 _ mb m _ rfl H1.out.map HML.out _ _ _ rfl rfl hkey _ [] HVAL.out ?_;intro w3 o3 g3;have k3:=(HK3.out w3 g3).cell (i:=2) (v:=.slice la L.length lc) rfl) | (at_builtin;refine Qc _ rfl _ _ 52 rfl 140 i0 _ 2 16 underlying52 I.out.1 I.out.2.1 I.out.2.2.1 I.out.2.2.2 rfl (by decide) _ _ _ rfl (by exact(HLG.out _ g3).alloc _) _ 1 [.int .u64 off,.int .u64 x] rfl (by exact Ql.newAt _ _ _ 2 1 _ rfl rfl) (by simp[Value.oneCell']) (by unfold maxLen;omega) (by omega) ?_;intro v5 w5 o5 g5 a5 _;obtain⟨la5,lc5,hv5⟩:=o5.slice;subst hv5;have K5:=HK5.out _ w5 _ g3 g5;have k5:=K5.cell (i:=2) (v:=.slice la L.length lc) rfl;have f5:=K5.frozen 2))
 go_end0
 exact⟨rfl,Qqb H.out H1.out h8 g3 o3 g5 o5 a5⟩
theorem IsDev.more(h:IsDev w v own (ovE n C k)):IsDev w v own (ovE n C (k+1)):=by
 obtain⟨dv,ownD,D0,mb,m,lg,N,L,h1⟩:=h.ex;exact⟨⟨h.wf.pos,h.wf.le⟩,h.lt,dv,ownD,D0,mb,m,lg,N,L,{h1 with len:=Nat.le_succ_of_le h1.len,n:=h1.n,eoff:=rfl,eerr:=fun _=>rfl,cur:=h1.cur}⟩
theorem Qsf(off:Int)(a:Addr):Calls prog 299 #[.pointer (some a),.int .u64 off] w fun r w'=>r = .returned (.tuple #[])/\w=w':=by
 go_enter func299,ntmps299
 go_wp2_with fail
 go_end0
 exact⟨rfl,rfl⟩
theorem Qsb(a:Addr):Calls prog 298 #[.pointer (some a)] w fun r w'=>r = .returned (.tuple #[])/\w=w':=by
 go_enter func298,ntmps298
 go_wp2_with fail
 go_end0
 exact⟨rfl,rfl⟩
def stC(C:Nat->Int)(e:Nat×Nat×Int):Nat->Int:=if e.1=1 then Qz0 C e.2.1 e.2.2 else C
theorem Qyv(C:Nat->Int)(l:List (Nat×Nat×Int))(e:Nat×Nat×Int):Xj (l ++ [e]) C=stC (Xj l C) e:=by
 rw[Kb,Kx,Qc4];unfold stC Qz0
 split <;> rfl
theorem Jd.start{w1:World}{D':Dev}(o:Obj)(h:Jd v own (w.alloc o) D' w1):Jd v own w D' w1:=h.past (Qa w o)
theorem Qiy(h:IsDev w v own (ovE n C k))(e:Nat×Nat×Int)(he:OkQ n e)(hk:k<=100000) :
  Calls prog 39 #[.agg #[.int .u8 e.1,.int .u64 e.2.1,.int .u64 e.2.2],.iface 141 (.pointer (some ⟨v.tb 0,0,none⟩))] w fun r w'=>r = .returned (.tuple #[])/\Jd v own w (ovE n (stC C e) (k+1)) w':=by
 obtain⟨op,off,x⟩:=e;have hm1:=Fv ⟨v.tb 0,0,none⟩;have hm2:=Nn ⟨v.tb 0,0,none⟩;have hm3:=Nm ⟨v.tb 0,0,none⟩
 have HS:=hid (fun o=>Qud (h.alloc o) off x he.al he.lt ⟨he.v0,he.v1⟩ hk);have HF:=hid (fun(wx:World)=>Qsf (w:=wx) (off:Int) ⟨v.tb 0,0,none⟩);have HN:=hid (fun(wx:World)=>Qsb (w:=wx) ⟨v.tb 0,0,none⟩);have HM:=hid (fun o=>Jd.start (w:=w) (own:=own) o (Jd.refl (h.more.alloc o)));have h3:op=1\/op=2\/op=3:=by have:=he.lo;have:=he.hi;simp only at *;omega
 clear h he;obtain rfl | rfl | rfl:=h3
 ·go_enter func39,ntmps39
  go_wp2_with fail
  (with_reducible refine(HS.out _).mono ?_)
  rintro e w1 ⟨rfl,hp⟩;have HP:=hid hp;clear hp
  go_wp2_with fail
  go_end0
  exact⟨rfl,HP.out.start⟩
 ·go_enter func39,ntmps39
  go_wp2_with fail
  (with_reducible refine(HF.out _).mono ?_)
  rintro e w1 ⟨rfl,rfl⟩;go_wp2_with fail
  go_end0
  exact⟨rfl,HM.out _⟩
 ·go_enter func39,ntmps39
  go_wp2_with fail
  (with_reducible refine(HN.out _).mono ?_)
  rintro e w1 ⟨rfl,rfl⟩;go_wp2_with fail
  go_end0
  exact⟨rfl,HM.out _⟩
structure Qli(w:World)(v:DV)(own:Nat->Option Qp)(n:Nat)(C:Nat->Int)(l:List (Nat×Nat×Int))(k:Nat)(wr:World):Prop where
 post:Jd v own w (ovE n (Xj (l.take k) C) k) wr
theorem run_ok(h:IsDev w v own (ovE n C 0))(pv:Value)(l:List (Nat×Nat×Int))(hp:Ql w 3 pv l.length (Qd l))(hown:∀ k,pv.ownBlock=some k->own k=none)(hq:∀ e∈l,OkQ n e)(hl:l.length<=1000) :
  Calls prog 12 #[pv,.iface 141 (.pointer (some ⟨v.tb 0,0,none⟩))] w fun r w'=>r = .returned (.int .i64 0)/\Jd v own w (ovE n (Xj l C) l.length) w':=by
 have hle:n<=4096:=h.wf.le;have hi:Qz l:=fun e he=>⟨(hq e he).lo,(hq e he).hi,by have:=(hq e he).lt;omega⟩
 have HV:=hid (Es pv l hp hi (by omega));have HP:=hid hp;have HQ:=hid hq;have HO:=hid hown;have H:=hid h;clear h hi hown hq
 have hm2:=meth_Err ⟨v.tb 0,0,none⟩;obtain⟨_,a,c,rfl,hc,_⟩:=hp
 generalize hn:l.length=m at *
 have HN:=hid hn;clear hn
 go_enter func12,ntmps12
 go_wp2_with fail
 (with_reducible refine HV.out.mono ?_)
 rintro e w1 ⟨rfl,b1⟩;have R1:Hid (Qli w v own n C l 0 w1):=⟨⟨own,H.out.below b1,fun _ _=>rfl,Upd.of_below b1⟩⟩;clear b1;go_wp2_with fail
 go_loopw [16] (fun y wr=>∃ k:Nat,k<=m/\y = .int .i64 k/\Qli w v own n C l k wr) (fun y _=>m-(intOf y).toNat)
 case atStart=>exact⟨0,by omega,rfl,R1.out⟩
 case round=>
  obtain⟨k,hk,rfl,hr⟩:=hrel;obtain⟨own1,d1,o1,u1⟩:=hr.post;have D1:=hid d1;have O1:=hid o1;have U1:=hid u1;clear hr d1 o1 u1 R1
  by_cases hlt:k<m
  ·have hk':(k:Int)<m:=by omega
   obtain⟨e,he⟩:∃ e,l[k]? = some e:=⟨_,List.getElem?_eq_getElem (by rw[HN.out];exact hlt)⟩;obtain⟨_,a',c',e',_,hE⟩:=HP.out.upd U1.out (fun k hk=>by rw[HO.out k hk];simp)
   cases e'
   have hg:=Yf l k e he;obtain⟨eb,eo,rfl,hE2⟩:=Zr hE hg.1;have c1:=hE2 _ _ hg.1;have c2:=hE2 _ _ hg.2.1;have c3:=hE2 _ _ hg.2.2
   rw[<- Nat.add_assoc]at c2 c3;have hqe:=HQ.out e (List.mem_of_getElem? he);have HT:=hid (Ll l k e he);have HX:=hid (fun o=>Qiy (D1.out.alloc o) e hqe (by omega));clear hE hE2 he hg hqe;go_wp2_with fail
   (with_reducible refine(HX.out _).mono ?_)
   rintro e' w2 ⟨rfl,hp⟩;have P2:Hid (Qli w v own n C l (k+1) w2):=⟨by rw[HT.out,Qyv];exact Jd.next O1.out U1.out hp.start⟩;clear hp;go_wp2_with fail
   go_roundw
   case rel=>exact⟨k+1,by omega,by go_num,P2.out⟩
   case measure=>simp[intOf];omega
  ·obtain rfl:k=m:=by omega
   have HF:Hid (l.take k=l):=List.take_of_length_le (by rw[HN.out];omega);rw[HF.out]at D1;have HE:Hid (Calls prog 297 #[.pointer (some ⟨v.tb 0,0,none⟩)] _ fun r w'=>r = .returned (.int .i64 0)/\_=w'):=hid (err_any D1.out (j:=0) (by omega));go_wp2_with fail
   (with_reducible refine HE.out.mono ?_)
   rintro e w' ⟨rfl,rfl⟩;go_wp2_with fail
   go_ret
   exact⟨rfl,own1,D1.out,O1.out,U1.out⟩
theorem over_any{dv:DV}{ownD:Nat->Option Qp}(hd:Go.Proofs.YtlhchkajjpefmaaGreatDoor.IsDev w dv ownD D)(hof:D.off=false)(he:D.err 0=0) :
  Calls prog 67 #[.iface 40 (.pointer (some ⟨dv.tb 0,0,none⟩))] w fun r w'=>∃ (v:DV) (own:Nat->Option Qp),r = .returned (.pointer (some ⟨v.tb 0,0,none⟩))/\IsDev w' v own (ovE D.n D.cur 0)/\Below w.heap.size w w'/\∀ k,own k=some .dev->w.heap.size<=k:=by
 have hmm:=@run_makeMap prog;have HE:Hid (∀ wz:World,wz=((w.alloc (.map #[] 0)).alloc (.cells #[.iface 40 (.pointer (some ⟨dv.tb 0,0,none⟩)),.map (some w.heap.size),.slice none 0 0,.slice none 0 0,.int .i64 0,.bool false] 244))->∃ (v:DV) (own:Nat->Option Qp),v.tb 0=w.heap.size+1/\IsDev wz v own (ovE D.n D.cur 0)/\Below w.heap.size w wz/\∀ k,own k=some .dev->w.heap.size<=k):=hid (fun wz hz=>by
  subst hz;have hm0:=World.ownsMap_made (H:=Unit) w prog 31 (plainElem prog 31);have hB:Below w.heap.size w ((w.alloc (.map #[] 0)).alloc (.cells #[.iface 40 (.pointer (some ⟨dv.tb 0,0,none⟩)),.map (some w.heap.size),.slice none 0 0,.slice none 0 0,.int .i64 0,.bool false] 244)):=(Qa _ _).trans ((Qa _ _).mono (by simp));have hno:∀ b,w.heap.size<=b->ownD b=none:=fun b hb=>by
   cases hh:ownD b with
   | none=>rfl
   | some r=>have:=hd.lt b (by rw[hh];simp);omega
  refine⟨{dv with tb:=fun _=>w.heap.size+1},fun b=>if b=w.heap.size\/b=w.heap.size+1 then some .dev else if ownD b=none then none else some .cur,rfl,⟨⟨hd.wf.pos,hd.wf.le⟩,fun b hb => ?_,dv,ownD,D,w.heap.size,0,.slice none 0 0,.map [],[],?_⟩,hB,fun b hb => ?_⟩
  ·by_cases hh:b=w.heap.size\/b=w.heap.size+1
   ·simp;omega
   ·rw[if_neg hh]at hb
    have:=hd.lt b (fun e=>by rw[if_pos e]at hb;exact hb rfl);simp;omega
  ·exact {
    dev:=hd.below hB
    on:=hof
    derr:=he
    sub:=fun b hb=>by split <;> simp_all
    tb:=fun _=>rfl
    blk:=by have:=Blk.new (w.alloc (.map #[] 0)) #[.iface 40 (.pointer (some ⟨dv.tb 0,0,none⟩)),.map (some w.heap.size),.slice none 0 0,.slice none 0 0,.int .i64 0,.bool false] 244;rwa [World.size_alloc]at this
    map:=by
     unfold World.ownsMap at *;rw[Below.heap_alloc _ _ _ (by simp)];exact hm0
    mle:=Nat.le_refl _
    len:=Nat.le_refl _
    om:=OvM.nil
    log:=Qj.nil _ _ _
    al:=fun e he=>by simp at he
    ob:=by simp
    omb:=by simp
    ol:=fun g hg=>by simp[Value.ownBlock]at hg
    dob:=hno _ (by show w.heap.size<=w.heap.size+1;omega)
    dmb:=hno _ (Nat.le_refl _)
    dl:=fun g hg=>by simp[Value.ownBlock]at hg
    ne:=by show w.heap.size+1≠w.heap.size;omega
    nl:=fun g hg=>by simp[Value.ownBlock]at hg
    n:=rfl
    eoff:=rfl
    eerr:=fun _=>rfl
    cur:=fun i=>rfl}
  ·by_cases hh:b=w.heap.size\/b=w.heap.size+1
   ·omega
   ·simp only[hh,if_false]at hb
    split at hb <;> simp at hb)
 clear hd hof he
 go_enter func67,ntmps67
 go_wp2_with fail
 go_ret
 obtain⟨v,own,h1,h2,h3,h4⟩:=HE.out _ rfl;exact⟨v,own,by simp[h1],h2,h3,h4⟩
end
end Ov
end

namespace Ov
structure LogAt(w:World)(v:DV)(own:Nat->Option Qp)(D:Dev)(lb j off n:Nat):Prop where
 dev:IsDev w v own D
 blk:Blk w lb #[.iface 141 (.pointer (some ⟨v.tb j,0,none⟩)),.int .u64 off,.int .i64 n] 211
 ob:own lb=none
 hj:j<8
 n2:2<=n
 o64:off%64=0
 fit:off+64*n<=64*D.n
section
variable{w:World}{v:DV}{own:Nat->Option Qp}{D:Dev}{lb j off n:Nat}
theorem LogAt.below{w':World}(h:LogAt w v own D lb j off n)(hb:Below w.heap.size w w'):LogAt w' v own D lb j off n:=⟨h.dev.below hb,h.blk.below hb,h.ob,h.hj,h.n2,h.o64,h.fit⟩
theorem LogAt.alloc(h:LogAt w v own D lb j off n)(o:Obj):LogAt (w.alloc o) v own D lb j off n:=h.below (Qa w o)
theorem LogAt.drew(h:LogAt w v own D lb j off n):LogAt w.drew v own D lb j off n:=h.below ((Below.refl _ _).drew)
theorem LogAt.c0(h:LogAt w v own D lb j off n):w.cell? ⟨lb,0,none⟩=some (.iface 141 (.pointer (some ⟨v.tb j,0,none⟩))):=h.blk.cell rfl
theorem LogAt.c1(h:LogAt w v own D lb j off n):w.cell? ⟨lb,1,none⟩=some (.int .u64 off):=h.blk.cell rfl
theorem LogAt.c2(h:LogAt w v own D lb j off n):w.cell? ⟨lb,2,none⟩=some (.int .i64 n):=h.blk.cell rfl
theorem LogAt.bd(h:LogAt w v own D lb j off n):off+64*n<=262144/\D.n<=4096:=by have:=h.dev.wf.le;have:=h.fit;omega
theorem Yb(h:LogAt w v own D lb j off n):Calls prog 135 #[.pointer (some ⟨lb,0,none⟩)] w fun r w'=>r = .returned (.bool false)/\w=w':=by
 have c0:=h.c0;clear h
 go_enter func135,ntmps135
 go_wp2
 go_ret
 exact⟨rfl,rfl⟩
theorem Mi(h:LogAt w v own D lb j off n):Calls prog 136 #[.pointer (some ⟨lb,0,none⟩)] w fun r w'=>r = .returned (.int .i64 ((4*(n-1):Nat):Int))/\w=w':=by
 have c2:=h.c2;have hb:=h.bd;have h2:=h.n2
 have HN:=hid (Yb h);have e:(4:Int)*((n:Int)-1)=((4*(n-1):Nat):Int):=by omega
 have E:=hid e;clear h e
 go_enter func136,ntmps136
 go_wp2_with fail
 (with_reducible refine HN.out.mono ?_)
 rintro e w' ⟨rfl,rfl⟩;go_wp2_with fail
 go_ret
 exact⟨Xm E.out,rfl⟩
theorem Jp(h:LogAt w v own D lb j off n)(i:Nat)(hi:i<=100000):Calls prog 137 #[.pointer (some ⟨lb,0,none⟩),.int .i64 i] w fun r w'=>r = .returned (.int .u64 ((off+64+16*i:Nat):Int))/\w=w':=by
 have c1:=h.c1;have hb:=h.bd;clear h
 go_enter func137,ntmps137
 go_wp2_with fail
 go_ret
 exact⟨Xm (by omega),rfl⟩
theorem Yl(h:LogAt w v own D lb j off n)(o:Nat)(ho:o<18446744073709551616) :
  Calls prog 157 #[.pointer (some ⟨lb,0,none⟩),.int .u64 o] w fun r w'=>r = .returned (.bool (Qw (64*D.n) off n o))/\Below w.heap.size w w':=by
 have c0:=h.c0;have c1:=h.c1;have c2:=h.c2
 have hb:=h.bd;have hm1:=meth_Size ⟨v.tb j,0,none⟩;have HT:=hid (thrSize_any h.dev h.hj);have hres:∀ b,b=Qw (64*D.n) off n o->Ending.returned (.bool b) = .returned (.bool (Qw (64*D.n) off n o)):=fun b e=>by rw[e]
 have HR:=hid hres;clear hres
 clear h
 by_cases h8:o%8=0
 ·have b8:(((o:Int)%8) != 0)=false:=by simp;omega
  by_cases hs:o<64*D.n
  ·have hs':¬ ((D.n:Int)*64<=(o:Int)):=by omega
   by_cases hl:o<off
   ·have hl':(o:Int)<off:=by omega
    go_enter func157,ntmps157
    go_wp2_with fail
    (with_reducible refine HT.out.mono ?_)
    rintro e w' ⟨rfl,rfl⟩;go_wp2_with fail
    go_quiet (fail)
    go_wp2_with fail
    go_ret
    exact⟨HR.out _ (by unfold Qw;simp[h8,hs,hl]),(Qt.drewN w _).below⟩
   ·have hl':¬ (o:Int)<off:=by omega
    have hl2:(off:Int)<=o:=by omega
    go_enter func157,ntmps157
    go_wp2_with fail
    (with_reducible refine HT.out.mono ?_)
    rintro e w' ⟨rfl,rfl⟩;go_wp2_with fail
    go_quiet (fail)
    go_wp2_with fail
    go_ret
    exact⟨HR.out _ (by unfold Qw;rw[decide_eq_decide];omega),(Qt.drewN w _).below⟩
  ·have hs':(D.n:Int)*64<=(o:Int):=by omega
   go_enter func157,ntmps157
   go_wp2_with fail
   (with_reducible refine HT.out.mono ?_)
   rintro e w' ⟨rfl,rfl⟩;go_wp2_with fail
   go_ret
   exact⟨HR.out _ (by unfold Qw;simp[hs]),Below.refl _ _⟩
 ·have b8:(((o:Int)%8) != 0)=true:=by simp;omega
  go_enter func157,ntmps157
  go_wp2_with fail
  go_ret
  exact⟨HR.out _ (by unfold Qw;simp[h8]),Below.refl _ _⟩
end
end Ov

namespace Ov
theorem Nq(a:Addr)(w:World):(nilAhead 461 141 (.pointer (some a)) "Load").run prog w = .ok (some false) w:=by kernel_rfl
section
variable{w:World}{v:DV}{own:Nat->Option Qp}{D:Dev}{lb j off n:Nat}
theorem Yq(h:LogAt w v own D lb j off n)(k:Nat)(hk:k<=100000):Calls prog 159 #[.pointer (some ⟨lb,0,none⟩),.int .i64 k] w
  fun r w'=>∃ ov,r = .returned ov/\Acc w w.heap.size w' 73 3 ov (Qe [(off,(k:Int))]).length (Qd (Qe [(off,(k:Int))])):=by
 have c1:=h.c1;have hb:=h.bd;have HS:=hid (Xd (w:=w.alloc (.cells #[.int .u64 off,.int .u64 k] 140)) (.slice (some ⟨w.heap.size,0,none⟩) 1 1) [(off,(k:Int))] (by exact Ql.new w _ _ 2 1 rfl) (by simp) (fun e he=>by simp at he;subst he;simp only;omega));clear h
 go_enter func159,ntmps159
 go_wp2_with fail
 (with_reducible refine HS.out.mono ?_)
 rintro e w1 ⟨ov,rfl,a1⟩;have A1:=hid (a1.deeper (Qa _ _));clear a1 HS
 go_wp2_with fail
 go_ret
 exact⟨_,rfl,A1.out⟩
theorem Bp(h:LogAt w v own D lb j off n)(ho:D.off=false)(hvb:D.VB)(o:Nat)(h8:o%8=0)(hl:o<64*D.n) :
  Calls prog 300 #[.pointer (some ⟨v.tb j,0,none⟩),.int .u64 o] w fun r w'=>r = .returned (.int .u64 (((D.cur (o/8)).toNat:Nat):Int))/\w=w':=by
 have:=load_ok h.dev h.hj o ho h8 hl;rw[Int.toNat_of_nonneg (hvb.cur (o/8)).1];exact this
theorem Te(h:LogAt w v own D lb j off n)(ho:D.off=false)(hvb:D.VB):Calls prog 50 #[.pointer (some ⟨lb,0,none⟩)] w
  fun r w'=>∃ sv,r = .returned sv/\Acc w w.heap.size w' 140 2 sv (Qk D.cur off n).length (Qv (Qk D.cur off n)):=by
 have hb:=h.bd;have h2:=h.n2;have hfit:=h.fit;have h64:=h.o64
 have c0:=h.c0;have c1:=h.c1
 have hm1:=meth_Load ⟨v.tb j,0,none⟩;have hn1:=Nq ⟨v.tb j,0,none⟩
 have H:=hid h;have HV:=hid hvb;have HN:=hid (Yb h);have HL:=hid (fun wx (hx:LogAt wx v own D lb j off n)=>Bp hx ho hvb off (by omega) (by omega));obtain⟨k0,hi0,hz0,hz1,hz2⟩:=info_parts Xe;have I2:=hid (And.intro hi0 (And.intro hz0 (And.intro hz1 hz2)));clear hi0 hz0 hz1 hz2
 have hcb:=hvb.cur (off/8);clear h hvb;obtain⟨c,hc⟩:∃ c,(D.cur (off/8)).toNat=c:=⟨_,rfl⟩;have hcI:D.cur (off/8)=(c:Int):=by omega
 have hc64:c<18446744073709551616:=by omega
 have HC:Hid (Qip D.cur off n=if 4*(n-1)<c then 0 else c):=by
  show Qip D.cur off n=_
  unfold Qip;rw[hcI]
  by_cases e:4*(n-1)<c
  ·rw[if_pos (by omega),if_pos e]
  ·rw[if_neg (by omega),if_neg e];omega
 rw[hc]at HL;clear hcb hcI hc
 go_enter func50,ntmps50
 go_wp2_with fail
 (with_reducible refine HN.out.mono ?_)
 rintro e w' ⟨rfl,rfl⟩
 go_upto_region 4 with fail
 go_cut [4]from 14 to 22 (fun x wx=>x = .int .u64 (c:Int)/\Below w.heap.size w wx)
 case first=>
  go_region_with (go_at_call 300;refine(HL.out _ ?hd).mono ?_;(case hd=>first | exact(H.out.alloc _).drew | exact H.out.drew | exact H.out.alloc _ | exact H.out);rintro e w' ⟨rfl,rfl⟩)
  all_goals go_wp2_with fail
  all_goals go_meet
  all_goals exact⟨rfl,(Below.refl _ _).drew⟩
 case rest=>
  obtain⟨rfl,hbc⟩:=hcut;have LC:=hid (H.out.below hbc);have BC:=hid hbc
  have HCap:=hid (Mi LC.out);clear hbc HL HN c0 c1;have c0:=LC.out.c0;have c1:=LC.out.c1
  by_cases hgt:4*(n-1)<c
  ·have hgt':((4*(n-1):Nat):Int)<(c:Int):=by omega
   have HQ:Hid (Qk D.cur off n = []):=by show Qk D.cur off n = [];unfold Qk;rw[HC.out,if_pos hgt];rfl
   clear HC;go_wp2_with fail
   (with_reducible refine HCap.out.mono ?_)
   rintro e w' ⟨rfl,rfl⟩;go_wp2_with fail
   go_loopw [5,30] (fun s y wr=>s = .slice none 0 0/\y = .int .i64 0/\Below w.heap.size w wr) (fun _ _ _=>0)
   case atStart=>exact⟨rfl,rfl,BC.out⟩
   case round=>
    obtain⟨rfl,rfl,hb2⟩:=hrel;go_wp2_with fail
    go_ret
    exact⟨_,rfl,by rw[HQ.out];exact Acc.nil w _ _ _ _ hb2 hb2.size⟩
  ·have hgt':¬ ((4*(n-1):Nat):Int)<(c:Int):=by omega
   have HQ:Hid (Qk D.cur off n=Vs D.cur off c):=by show Qk D.cur off n=_;unfold Qk;rw[HC.out,if_neg hgt]
   clear HC;go_wp2_with fail
   (with_reducible refine HCap.out.mono ?_)
   rintro e w' ⟨rfl,rfl⟩;go_wp2_with fail
   go_loopw [5,30] (fun s y wr=>∃ k:Nat,k<=c/\y = .int .i64 k/\Acc w w.heap.size wr 140 2 s k (Qv (Vs D.cur off k))) (fun _ y _=>c-(intOf y).toNat)
   case atStart=>exact⟨0,by omega,rfl,Acc.nil w _ _ _ _ BC.out BC.out.size⟩
   case round=>
    obtain⟨k,hk,rfl,ha⟩:=hrel;obtain⟨sa,sc,hsv⟩:=ha.slice;subst hsv;have A:=hid ha;clear ha
    have LK:=hid (H.out.below A.out.bel)
    by_cases hlt:k<c
    ·have hlt':(k:Int)<c:=by omega
     have d0:=LK.out.c0;have HE:=hid (Jp LK.out k (by omega));have hq:off+64+16*k+8<64*D.n:=by omega
     have HL1:=hid (Bp LK.out ho HV.out (off+64+16*k) (by omega) (by omega));have HL2:=hid (Bp LK.out ho HV.out (off+64+16*k+8) (by omega) (by omega));have hv1:=(HV.out.cur ((off+64+16*k+8)/8));have e1:(off+64+16*k)/8=off/8+8+2*k:=by omega
     have e2:(off+64+16*k+8)/8=off/8+9+2*k:=by omega
     rw[e1]at HL1;rw[e2]at HL2 hv1
     have HT:Hid (Vs D.cur off (k+1)=Vs D.cur off k ++ [((D.cur (off/8+8+2*k)).toNat,((D.cur (off/8+9+2*k)).toNat:Int))]):=by
      show Vs D.cur off (k+1)=_
      rw[Ef,Int.toNat_of_nonneg hv1.1]
     generalize (D.cur (off/8+8+2*k)).toNat=ea at *
     generalize (D.cur (off/8+9+2*k)).toNat=ev at *
     obtain⟨q,hqq⟩:∃ q,off+64+16*k=q:=⟨_,rfl⟩;rw[hqq]at HE HL1 HL2 hq;have e3:((q+8:Nat):Int)=(q:Int)+8:=by omega
     rw[e3]at HL2;clear e1 e2 e3 hqq hv1;go_wp2_with fail
     (with_reducible refine HE.out.mono ?_)
     rintro e w' ⟨rfl,rfl⟩;go_wp2_with fail
     (with_reducible refine HL1.out.mono ?_)
     rintro e w' ⟨rfl,rfl⟩;go_wp2_with fail
     (with_reducible refine HL2.out.mono ?_)
     rintro e w' ⟨rfl,rfl⟩;go_wp2_with (at_builtin;refine Qc _ rfl _ _ 52 rfl 140 k0 _ 2 16 underlying52 I2.out.1 I2.out.2.1 I2.out.2.2.1 I2.out.2.2.2 rfl (by decide) _ k (Qv (Vs D.cur off k)) rfl (by exact A.out.own.alloc _) _ 1 (Qv [(ea,(ev:Int))]) rfl (by exact Ql.newAt _ _ _ 2 1 _ (by simp) rfl) (Xp _) (by unfold maxLen;omega) (by omega) ?_)
     intro v1 w3 o1 g1 b1 n1;have A1:=hid (A.out.next (Qa wr _) o1 g1 b1 (by omega));clear o1 g1 b1 n1;go_wp2_with fail
     go_roundw
     case rel=>exact⟨k+1,by omega,by go_num,A1.out.congr rfl (by rw[HT.out,Za])⟩
     case measure=>simp[intOf];omega
    ·obtain rfl:k=c:=by omega
     go_wp2_with fail
     go_ret
     exact⟨_,rfl,by rw[HQ.out];exact A.out.congr (Uf _ _ _).symm rfl⟩
theorem Vq(h:LogAt w v own D lb j off n)(ho:D.off=false)(he:D.err j=0)(hvb:D.VB):Calls prog 158 #[.pointer (some ⟨lb,0,none⟩)] w
  fun r w'=>∃ sv,r = .returned (.tuple #[sv,.int .i64 0])/\Acc w w.heap.size w' 140 2 sv (Qk D.cur off n).length (Qv (Qk D.cur off n)):=by
 have c0:=h.c0;have hm1:=meth_Err ⟨v.tb j,0,none⟩;have HN:=hid (Yb h);have HS:=hid (Te h ho hvb);have hE:=fun wx (hx:LogAt wx v own D lb j off n)=>err_any hx.dev hx.hj
 rw[he]at hE;have HE:=hid hE;have H:=hid h;clear h hE
 go_enter func158,ntmps158
 go_wp2_with fail
 (with_reducible refine HN.out.mono ?_)
 rintro e w' ⟨rfl,rfl⟩;go_wp2_with fail
 (with_reducible refine(HE.out _ H.out).mono ?_)
 rintro e w' ⟨rfl,rfl⟩;go_wp2_with fail
 (with_reducible refine HS.out.mono ?_)
 rintro e w1 ⟨sv,rfl,a1⟩;obtain⟨sa,sc,hsv⟩:=a1.slice;subst hsv;have A1:=hid a1;have L1:=hid (H.out.below a1.bel);clear a1;have c0:=L1.out.c0;go_wp2_with fail
 (with_reducible refine(HE.out _ L1.out).mono ?_)
 rintro e w' ⟨rfl,rfl⟩;go_wp2_with fail
 go_ret2
 exact⟨_,rfl,A1.out⟩
end
end Ov

namespace Ov
open Go.Maps
section
variable{w:World}{v:DV}{own:Nat->Option Qp}{D:Dev}{lb j off n:Nat}
theorem uPlan_live(h:LogAt w v own D lb j off n)(hof:D.off=false)(he:D.err j=0)(hvb:D.VB)(sv:Value)(offs:List Nat)(hs:Ql w 1 sv offs.length (Zw offs))(hl:offs.length<=1000)(h64:∀ o∈offs,o<18446744073709551616)(hgood:∀ o∈offs,Qw (64*D.n) off n o=true) :
  Calls prog 68 #[.pointer (some ⟨lb,0,none⟩),sv] w (Am w off n (Qk D.cur off n) (Vv D.cur ((Qk D.cur off n).map (·.1)) offs)):=by
 have HN:=hid (Yb h);have hbd:=h.bd;have hn2:=h.n2
 have H:=hid h;have HS:=hid hs;have H64:=hid h64;have HG:=hid hgood
 have HE:=hid (fun wx (hx:LogAt wx v own D lb j off n)=>Vq hx hof he hvb);have hER:=fun wx (hx:LogAt wx v own D lb j off n)=>err_any hx.dev hx.hj
 rw[he]at hER;have HER:=hid hER;have HLD:=hid (fun wx (hx:LogAt wx v own D lb j off n) o (ho:o∈offs)=>load_ok hx.dev hx.hj o hof (Kq (hgood o ho)).1 (Kq (hgood o ho)).2);have hm1:=meth_Load ⟨v.tb j,0,none⟩;have hm2:=meth_Err ⟨v.tb j,0,none⟩
 have hmm:=@run_makeMap prog;have HSB:Hid ((Qk D.cur off n).length<=4*(n-1)):=by show(Qk D.cur off n).length<=_;unfold Qk;rw[Uf];exact Ar _ _ _
 have HSV:Hid (∀ e∈Qk D.cur off n,e.1<18446744073709551616):=fun e he=>by
  unfold Qk Vs at he;obtain⟨i,_,rfl⟩:=List.mem_map.1 he;have:=hvb.cur (off/8+8+2*i);simp only;omega
 generalize Qk D.cur off n=S at *
 obtain⟨K0,hK0⟩:∃ K0,S.map (·.1)=K0:=⟨_,rfl⟩;rw[hK0];have HK0:=hid hK0;clear hK0
 have HFL:=hid (Ek D.cur K0);obtain⟨FF,hFF⟩:∃ FF,Vv D.cur K0 offs=FF:=⟨_,rfl⟩;rw[hFF];have HFF:=hid hFF;clear hFF
 clear h h64 hgood he hvb hER;obtain⟨k0,hi0,hz0,hz1,hz2⟩:=info_parts Xe;have I2:=hid (And.intro hi0 (And.intro hz0 (And.intro hz1 hz2)));clear hi0 hz0 hz1 hz2
 obtain⟨_,sa,sc,rfl,hsc,_⟩:=hs
 generalize hm:offs.length=m at *
 have HM:=hid hm;clear hm
 generalize hsl:S.length=s at *
 have HSL:=hid hsl;clear hsl
 have hsb:s<=4*(n-1):=HSB.out
 go_enter func68,ntmps68
 go_wp2_with fail
 (with_reducible refine HN.out.mono ?_)
 rintro e w' ⟨rfl,rfl⟩;go_wp2_with fail
 go_loopw [26] (fun y wr=>∃ k:Nat,k<=m/\y = .int .i64 k/\Below w.heap.size w wr) (fun y _=>m-(intOf y).toNat)
 case atStart=>exact⟨0,by omega,rfl,Below.refl _ _⟩
 case round=>
  obtain⟨k,hk,rfl,hb⟩:=hrel;have B:=hid hb;clear hb
  by_cases hlt:k<m
  ·have hk':(k:Int)<m:=by omega
   obtain⟨o,ho⟩:∃ o,offs[k]? = some o:=⟨_,List.getElem?_eq_getElem (by rw[HM.out];exact hlt)⟩;obtain⟨_,a',c',e',_,hE⟩:=HS.out.below B.out
   cases e'
   obtain⟨eb,eo,rfl,hE2⟩:=Zr hE (Ya ho);have c1:=hE2 _ _ (Ya ho);have hA:=Yl (H.out.below B.out) o (H64.out o (List.mem_of_getElem? ho));rw[HG.out o (List.mem_of_getElem? ho)]at hA;have HA:=hid hA;clear hE hE2 ho hA;go_wp2_with fail
   (with_reducible refine HA.out.mono ?_)
   rintro e w1 ⟨rfl,b1⟩;have B1:=hid (B.out.trans (b1.mono B.out.size));clear b1
   go_wp2_with fail
   go_roundw
   case rel=>exact⟨k+1,by omega,by go_num,B1.out⟩
   case measure=>simp[intOf];omega
  ·obtain rfl:k=m:=by omega
   have HE1:=hid (HE.out _ (H.out.below B.out));clear HE hlt;go_wp2_with fail
   (with_reducible refine HE1.out.mono ?_)
   rintro e w1 ⟨ov,rfl,a1⟩;have A1:Hid (Acc w w.heap.size w1 140 2 ov s (Qv S)):=⟨a1.own,fun g hg=>Nat.le_trans B.out.size (a1.new g hg),B.out.trans (a1.bel.mono B.out.size),Nat.le_trans B.out.size a1.lt⟩;clear a1 B HE1;obtain⟨oa,oc,hov⟩:=A1.out.slice;subst hov;have hm0:=World.ownsMap_made (H:=Unit) w1 prog 31 (plainElem prog 4);have M0:Hid (Cz w (w1.alloc (.map #[] 0)) (.slice oa s oc) S (.slice none 0 0) [] w1.heap.size []):=by
    have hlt:=A1.out.lt;refine⟨?_,Acc.nil w _ _ _ _ (A1.out.bel.trans ((Qa _ _).mono A1.out.bel.size)) (by simp;omega),⟨_,0,Nat.le_refl _,hm0,Qqz.nil⟩,A1.out.bel.size,fun e => ?_,by simp[Value.ownBlock],fun g _=>by simp[Value.ownBlock]⟩
    ·rw[HSL.out];exact A1.out.keep (Qa _ _)
    ·have:=A1.out.own.lt _ e;omega
   clear A1 hm0;go_wp2_with fail
   go_loopw [46] (fun y wr=>∃ i:Nat,i<=s/\y = .int .i64 i/\Cz w wr (.slice oa s oc) S (.slice none 0 0) [] w1.heap.size ((S.take i).map (·.1))) (fun y _=>s-(intOf y).toNat)
   case atStart=>exact⟨0,by omega,rfl,M0.out⟩
   case round=>
    obtain⟨i,hi,rfl,hM⟩:=hrel;have M:=hid hM;clear M0
    by_cases hlt2:i<s
    ·have hi':(i:Int)<s:=by omega
     obtain⟨e,he⟩:∃ e,S[i]? = some e:=⟨_,List.getElem?_eq_getElem (by rw[HSL.out];exact hlt2)⟩;obtain⟨_,a',c',e',_,hE⟩:=hM.o.rd;rw[HSL.out]at e'
     cases e'
     have hg:=Xr S i e he;obtain⟨eb,eo,rfl,hE2⟩:=Zr hE hg.1;have c1:=hE2 _ _ hg.1;have c2:=hE2 _ _ hg.2
     rw[<- Nat.add_assoc]at c2;have HT:=hid (Qy S i e he);have he64:=HSV.out e (List.mem_of_getElem? he);obtain⟨N,mm,hmK,hown,hset⟩:=(hM.keep (Qa wr (.cells #[.int .u64 e.1,.int .u64 e.2] 140))).m;have hmlen:mm<maxLen:=by rw[List.length_map,List.length_take]at hmK;unfold maxLen;omega
     have hkey:keyOf prog 31 (.int .u64 (e.1:Int))=some (.int .u64 (e.1:Int)):=keyOf_int_mk underlying31 (WalkArith.wf_u64 (by omega));have HX:=hid (And.intro hmK (And.intro hown hset));clear hE hE2 he hg hM hmK hset hown;obtain⟨e1,e2⟩:=e;simp only at c1 c2 he64 hkey HX;go_wp2_with (at_mapUpdate;refine wpList_mapUpdate_own _ rfl _ _ _ 246 rfl 31 4 Bm underlying246 _ w1.heap.size mm _ rfl HX.out.2.1 hmlen _ _ _ rfl rfl hkey _ [] (plainElem_bool underlying4 true) ?_;intro w3 o3 g3)
     have M3:Hid (Cz w w3 (.slice (some ⟨eb,eo,none⟩) s oc) S (.slice none 0 0) [] w1.heap.size ((S.take i).map (·.1) ++ [e1])):=
      (M.out.keep (Qa wr _)).put g3 HX.out.1 HX.out.2.1.isMap HX.out.2.2 o3
     clear o3 g3 HX M;go_wp2_with fail
     go_roundw
     case rel=>exact⟨i+1,by omega,by go_num,by rw[HT.out,List.map_append];exact M3.out⟩
     case measure=>simp[intOf];omega
    ·obtain rfl:i=s:=by omega
     rw[List.take_of_length_le (by rw[HSL.out];omega)]at M;clear hM;rw[HK0.out]at M;have hKl:K0.length<=20000:=by rw[<- HK0.out,List.length_map,HSL.out];omega
     have hm1:Cz w wr (.slice oa i oc) S (.slice none 0 0) [] w1.heap.size (K0++([]:List (Nat×Int)).map (·.1)):=by simpa using M.out
     have M1:=hid hm1;clear M hm1;go_wp2_with fail
     go_loopw [13,56] (fun fv y wr=>∃ (q:Nat) (F:List (Nat×Int)),q<=k/\y = .int .i64 q/\Vv D.cur K0 (offs.take q)=F/\Cz w wr (.slice oa i oc) S fv F w1.heap.size (K0++F.map (·.1))) (fun _ y _=>k-(intOf y).toNat)
     case atStart=>exact⟨0,[],by omega,rfl,rfl,M1.out⟩
     case round=>
      obtain⟨q,F,hq,rfl,hFq,hM⟩:=hrel;have HFQ:=hid hFq;clear hFq
      obtain⟨fa,fc,hfv⟩:=hM.f.slice;subst hfv;have M:=hid hM;have LG:=hid (H.out.below hM.o.bel);clear M1
      by_cases hlt3:q<k
      ·have hq':(q:Int)<k:=by omega
       obtain⟨o,ho⟩:∃ o,offs[q]? = some o:=⟨_,List.getElem?_eq_getElem (by rw[HM.out];exact hlt3)⟩;obtain⟨_,a',c',e',_,hE⟩:=HS.out.below hM.o.bel
       cases e'
       obtain⟨eb,eo,rfl,hE2⟩:=Zr hE (Ya ho);have c1:=hE2 _ _ (Ya ho);have ho64:=H64.out o (List.mem_of_getElem? ho);have hFs:Vv D.cur K0 (offs.take (q+1))=Xi D.cur K0 F o:=by rw[Qy offs q o ho,Ba,HFQ.out]
       have HFS:=hid hFs;have hfl:F.length<=q:=by have:=HFL.out (offs.take q);rw[List.length_take,HFQ.out]at this;omega
       have HLO:=hid (fun wx hx=>HLD.out wx hx o (List.mem_of_getElem? ho));obtain⟨N,mm,hmK,hown,hset⟩:=hM.m;have hmlen:mm<maxLen:=by rw[List.length_append,List.length_map]at hmK;unfold maxLen;omega
       have hlook:=Qhn hown hset o ho64;have hkey:keyOf prog 31 (.int .u64 (o:Int))=some (.int .u64 (o:Int)):=keyOf_int_mk underlying31 (WalkArith.wf_u64 (by omega));have HX:=hid (And.intro hmK (And.intro hown hset));clear hE hE2 ho hM hmK hset hown hFs
       by_cases hin:o∈K0++F.map (·.1)
       ·rw[decide_eq_true hin]at hlook
        have HIN:=hid hin;clear hin
        go_wp2_with fail
        go_roundw
        case rel=>exact⟨q+1,F,by omega,by go_num,by rw[HFS.out];unfold Xi;rw[if_pos HIN.out],M.out⟩
        case measure=>simp[intOf];omega
       ·rw[decide_eq_false hin]at hlook
        have HIN:=hid hin;clear hin
        go_wp2_with (at_mapUpdate;refine wpList_mapUpdate_own _ rfl _ _ _ 246 rfl 31 4 Bm underlying246 _ w1.heap.size mm _ rfl HX.out.2.1 hmlen _ _ _ rfl rfl hkey _ [] (plainElem_bool underlying4 true) ?_;intro w3 o3 g3;have M3:Hid (Cz w w3 (.slice oa i oc) S (.slice fa F.length fc) F w1.heap.size (K0++F.map (·.1) ++ [o])):=M.out.put g3 HX.out.1 HX.out.2.1.isMap HX.out.2.2 o3;have L3:=hid (H.out.below M3.out.o.bel);have d0:=L3.out.c0;clear o3 g3)
        clear HX M LG
        (with_reducible refine(HLO.out _ L3.out).mono ?_)
        rintro e w' ⟨rfl,rfl⟩;go_wp2_with (at_builtin;refine Qc _ rfl _ _ 52 rfl 140 k0 _ 2 16 underlying52 I2.out.1 I2.out.2.1 I2.out.2.2.1 I2.out.2.2.2 rfl (by decide) _ F.length (Qv F) rfl (by exact M3.out.f.own.alloc _) _ 1 (Qv [(o,D.cur (o/8))]) rfl (by exact Ql.newAt _ _ _ 2 1 _ (by simp) rfl) (Xp _) (by unfold maxLen;omega) (by omega) ?_)
        intro v1 w4 o1 g1 b1 n1;have M4:=hid (M3.out.app (Qa _ _) o1 rfl g1 b1 (by omega));clear o1 g1 b1 n1 M3
        go_wp2_with fail
        go_roundw
        case rel=>exact⟨q+1,F ++ [(o,D.cur (o/8))],by omega,by go_num,by rw[HFS.out];unfold Xi;rw[if_neg HIN.out],by rw[List.map_append,<- List.append_assoc];exact M4.out⟩
        case measure=>simp[intOf];omega
      ·obtain rfl:q=k:=by omega
       obtain rfl:F=FF:=by rw[<- HFQ.out,<- HFF.out,List.take_of_length_le (by rw[HM.out];omega)]
       have hfl:F.length<=q:=by have:=HFL.out offs;rw[HM.out,HFF.out]at this;exact this
       clear hM HFL HLD HS HM H64 HG HFQ HFF
       generalize hf:F.length=f at *
       have HF:=hid hf;clear hf
       have HCap:=hid (Mi LG.out);have d0:=LG.out.c0;go_wp2_with fail
       (with_reducible refine(HER.out _ LG.out).mono ?_)
       rintro e w' ⟨rfl,rfl⟩
       by_cases hfull:4*(n-1)<i+f
       ·have hfull':((4*(n-1):Nat):Int)<(i:Int)+f:=by omega
        go_wp2_with fail
        (with_reducible refine HCap.out.mono ?_)
        rintro e w' ⟨rfl,rfl⟩;go_wp2_with fail
        go_ret2
        exact .inl ⟨by rw[HSL.out,HF.out];exact hfull,rfl,M.out.o.bel⟩
       ·have hfull':¬ ((4*(n-1):Nat):Int)<(i:Int)+f:=by omega
        by_cases hf0:f=0
        ·have hb0:((f:Int)==0)=true:=by simp;omega
         have hFn:F = []:=List.eq_nil_of_length_eq_zero (by rw[HF.out];exact hf0);have HFN:=hid hFn;clear hf0 hFn;go_wp2_with fail
         (with_reducible refine HCap.out.mono ?_)
         rintro e w' ⟨rfl,rfl⟩;go_wp2_with fail
         go_ret2
         refine .inr ⟨by rw[HSL.out,HF.out];exact hfull,_,rfl,?_⟩
         rw[HFN.out];exact Acc.nil w _ _ _ _ M.out.o.bel M.out.o.bel.size
        ·have hb0:((f:Int)==0)=false:=by simp;omega
         have HF0:=hid hf0;clear hf0
         go_wp2_with fail
         (with_reducible refine HCap.out.mono ?_)
         rintro e w' ⟨rfl,rfl⟩;obtain⟨wc,hwc⟩:∃ x:World,x=wr:=⟨_,rfl⟩;subst hwc;have FR:=hid M.out.f.rd;have BW:=hid M.out.o.bel;clear M HCap d0;go_wp2_with fail
         go_loopw [18,100] (fun pv y wr=>∃ a:Nat,a<=f/\y = .int .i64 a/\Acc wc wc.heap.size wr 140 2 pv (2*a) (Qv (Qs (off+64+16*i) (F.take a)))) (fun _ y _=>f-(intOf y).toNat)
         case atStart=>exact⟨0,by omega,rfl,Acc.nil wc _ _ _ _ (Below.refl _ _) (Nat.le_refl _)⟩
         case round=>
          obtain⟨a,ha,rfl,hacc⟩:=hrel;obtain⟨pa,pc,hpv⟩:=hacc.slice;subst hpv;have A:=hid hacc;clear hacc
          by_cases hlt4:a<f
          ·have ha':(a:Int)<f:=by omega
           obtain⟨e,he⟩:∃ e,F[a]? = some e:=⟨_,List.getElem?_eq_getElem (by rw[HF.out];exact hlt4)⟩;obtain⟨_,a',c',e',_,hE⟩:=FR.out.below A.out.bel;rw[HF.out]at e'
           cases e'
           have hg:=Xr F a e he;obtain⟨eb,eo,rfl,hE2⟩:=Zr hE hg.1;have c1:=hE2 _ _ hg.1;have c2:=hE2 _ _ hg.2
           rw[<- Nat.add_assoc]at c2;have HT:=hid (Qy F a e he);clear hE hE2 he hg;obtain⟨e1,e2⟩:=e;simp only at c1 c2;have hEO:=fun o=>Jp ((LG.out.below A.out.bel).alloc o) (i+a) (by omega)
           rw[show((i+a:Nat):Int)=(i:Int)+a by omega]at hEO;obtain⟨t,ht⟩:∃ t,off+64+16*(i+a)=t:=⟨_,rfl⟩;rw[ht]at hEO;have ht64:t+8<18446744073709551616:=by omega
           have HTT:Hid (Qs (off+64+16*i) (F.take (a+1))=Qs (off+64+16*i) (F.take a) ++ [(t,(e1:Int))] ++ [(t+8,e2)]):=by
            show Qs (off+64+16*i) (F.take (a+1))=_
            rw[HT.out,Pf,List.length_take,HF.out,show min a f=a by omega,show off+64+16*i+16*a=t by omega,List.append_assoc];rfl
           have HEO:=hid hEO;have e8:(t:Int)+8=((t+8:Nat):Int):=by omega
           have E8:=hid e8;clear hEO ht e8;have hlw:=A.out.lt;have hne:(Value.slice pa (2*a) pc).ownBlock≠some wr.heap.size:=fun hh=>by have:=A.out.own.lt _ hh;omega
           have HNE:=hid hne;clear hne
           go_wp2_with fail
           (with_reducible refine(HEO.out _).mono ?_)
           rintro e w' ⟨rfl,rfl⟩;go_wp2_with (at_builtin;refine Qc _ rfl _ _ 52 rfl 140 k0 _ 2 16 underlying52 I2.out.1 I2.out.2.1 I2.out.2.2.1 I2.out.2.2.2 rfl (by decide) _ (2*a) (Qv (Qs (off+64+16*i) (F.take a))) rfl (by exact(A.out.own.alloc _).alloc _) _ 1 (Qv [(t,(e1:Int))]) rfl (by exact Ql.newAt _ _ _ 2 1 _ (by simp) rfl) (Xp _) (by unfold maxLen;omega) (by omega) ?_)
           intro v1 w4 o1 g1 b1 n1;have f1:w4.cell? ⟨wr.heap.size,1,none⟩=some (.int .u64 e2):=(Uj (Qa _ _) g1 (by simp) HNE.out 1).trans ((Blk.new wr _ _).cell rfl);have A1:=hid (A.out.next (Ze wr _ _) o1 g1 b1 (by omega));clear o1 g1 b1 n1
           obtain⟨va,vc,hv1⟩:=A1.out.slice;subst hv1;go_wp2_with (at_builtin;refine Qc _ rfl _ _ 52 rfl 140 k0 _ 2 16 underlying52 I2.out.1 I2.out.2.1 I2.out.2.2.1 I2.out.2.2.2 rfl (by decide) _ (2*a+1) (Qv (Qs (off+64+16*i) (F.take a))++Qv [(t,(e1:Int))]) rfl (by exact A1.out.own.alloc _) _ 1 [.int .u64 ((t:Int)+8),.int .u64 e2] rfl (by exact Ql.newAt _ _ _ 2 1 _ (by simp) rfl) (by simp[Value.oneCell']) (by unfold maxLen;omega) (by omega) ?_)
           intro v2 w5 o2 g2 b2 n2;have o2':Qj w5 140 2 v2 (2*a+1+1) (Qv (Qs (off+64+16*i) (F.take a))++Qv [(t,(e1:Int))] ++ [.int .u64 ((t:Int)+8),.int .u64 e2]):=by rw[List.append_assoc];exact o2
           have A2:=hid (A1.out.next (Qa w4 _) o2' g2 b2 (by omega));clear o2 o2' g2 b2 n2
           go_wp2_with fail
           go_roundw
           case rel=>exact⟨a+1,by omega,by go_num,A2.out.congr (by omega) (by rw[HTT.out,Za,Za,E8.out];rfl)⟩
           case measure=>simp[intOf];omega
          ·obtain rfl:a=f:=by omega
           have hFt:F.take a=F:=List.take_of_length_le (by rw[HF.out];omega);rw[hFt]at A;have hlenW:(Qs (off+64+16*i) F).length=2*a:=by rw[Rk,HF.out]
           have HST:=hid (Xd (w:=wr) (.slice pa (2*a) pc) (Qs (off+64+16*i) F) (by rw[hlenW];exact A.out.rd) (by rw[hlenW];omega) (fun e he=>by have:=Nt F _ e he;rw[HF.out]at this;omega));have HP:Hid (Jf off S.length F=Qe (Qs (off+64+16*i) F)++Qe [(off,((i+a:Nat):Int))]):=by
            show Jf off S.length F=_
            unfold Jf;rw[if_neg (fun e=>HF0.out (by rw[<- HF.out,e];rfl)),HSL.out,HF.out]
           have hst1:(Qe (Qs (off+64+16*i) F)).length<=4*a+1:=by
            have:=Ye ((Qs (off+64+16*i) F).map (·.1));unfold Qe;rw[List.length_append,List.length_map,hlenW];rw[List.length_map,hlenW]at this;omega
           have hst2:(Qe [(off,((i+a:Nat):Int))]).length<=3:=by
            have:=Ye ([(off,((i+a:Nat):Int))].map (·.1));unfold Qe;simp only[List.map_cons,List.map_nil,List.length_append,List.length_cons,List.length_nil]at this ⊢;omega
           have HSC:=hid (fun wx (hx:LogAt wx v own D lb j off n)=>Yq hx (i+a) (by omega));rw[show((i+a:Nat):Int)=(i:Int)+a by omega]at HSC HP hst2;clear hlenW hFt
           generalize Qe (Qs (off+64+16*i) F)=P1 at *
           generalize Qe [(off,(i:Int)+a)]=P2 at *
           have BA:=hid A.out.bel;clear A FR;go_wp2_with fail
           (with_reducible refine HST.out.mono ?_)
           rintro e w4 ⟨pv1,rfl,a4⟩;obtain⟨xa,xc,hx1⟩:=a4.slice;subst hx1;have A4:=hid a4;have L4:=hid (LG.out.below (BA.out.trans (a4.bel.mono BA.out.size)));clear a4 HST;go_wp2_with fail
           (with_reducible refine(HSC.out _ L4.out).mono ?_)
           rintro e w5 ⟨pv2,rfl,a5⟩;obtain⟨ya,yc,hy1⟩:=a5.slice;subst hy1;have HT2:=hid (Xx (w:=w5) _ _ P1 P2 (A4.out.keep a5.bel).rd a5.rd (by omega));have B5:Hid (Below w.heap.size w w5):=BW.out.trans ((BA.out.trans ((A4.out.bel.trans (a5.bel.mono A4.out.bel.size)).mono BA.out.size)).mono BW.out.size);clear a5 HSC A4;go_wp2_with fail
           (with_reducible refine HT2.out.mono ?_)
           rintro e w6 ⟨ov,rfl,a6⟩;have A6:=hid (a6.deeper B5.out);clear a6 HT2
           go_wp2_with fail
           go_ret2
           exact .inr ⟨by rw[HSL.out,HF.out];exact hfull,_,rfl,by rw[HP.out];exact A6.out⟩
end
end Ov

namespace Ov
open Go.Maps
section
variable{w:World}{v:DV}{own:Nat->Option Qp}{D:Dev}{lb j off n:Nat}
theorem uload_any(h:LogAt w v own D lb j off n)(hof:D.off=false)(he:D.err j=0)(hvb:D.VB):Calls prog 161 #[.pointer (some ⟨lb,0,none⟩)] w
  fun r w'=>∃ sv,r = .returned (.tuple #[sv,.bool (decide ((Qk D.cur off n).length=0)),.int .i64 0])/\Acc w w.heap.size w' 140 2 sv (Xo (64*D.n) off n (Qk D.cur off n)).length (Qv (Xo (64*D.n) off n (Qk D.cur off n))):=by
 have H:=hid h;have HE:=hid (Vq h hof he hvb);have hbd:=h.bd;have HSB:Hid ((Qk D.cur off n).length<=4*(n-1)):=by show(Qk D.cur off n).length<=_;unfold Qk;rw[Uf];exact Ar _ _ _
 have HSV:Hid (∀ e∈Qk D.cur off n,e.1<18446744073709551616):=fun e he=>by
  unfold Qk Vs at he;obtain⟨i,_,rfl⟩:=List.mem_map.1 he;have:=hvb.cur (off/8+8+2*i);simp only;omega
 generalize Qk D.cur off n=S at *
 clear h hvb;obtain⟨k0,hi0,hz0,hz1,hz2⟩:=info_parts Xe;have I2:=hid (And.intro hi0 (And.intro hz0 (And.intro hz1 hz2)));clear hi0 hz0 hz1 hz2
 generalize hsl:S.length=s at *
 have HSL:=hid hsl;clear hsl
 have hsb:s<=4*(n-1):=HSB.out;have HVL:=hid (fun k=>Lp (64*D.n) off n (S.take k))
 go_enter func161,ntmps161
 go_wp2_with fail
 (with_reducible refine HE.out.mono ?_)
 rintro e w1 ⟨ov,rfl,a1⟩;obtain⟨oa,oc,hov⟩:=a1.slice;subst hov;have A1:=hid a1;clear a1 HE
 go_wp2_with fail
 go_loopw [7,20] (fun vv y wr=>∃ (i:Nat) (V:List (Nat×Int)),i<=s/\y = .int .i64 i/\Xo (64*D.n) off n (S.take i)=V/\Acc w1 w1.heap.size wr 140 2 vv V.length (Qv V)) (fun _ y _=>s-(intOf y).toNat)
 case atStart=>exact⟨0,[],by omega,rfl,rfl,Acc.nil w1 _ _ _ _ (Below.refl _ _) (Nat.le_refl _)⟩
 case round=>
  obtain⟨i,V,hi,rfl,hV,ha⟩:=hrel;obtain⟨va,vc,hvv⟩:=ha.slice;subst hvv;have A:=hid ha;have HV:=hid hV;clear ha hV
  by_cases hlt:i<s
  ·have hi':(i:Int)<s:=by omega
   obtain⟨e,he⟩:∃ e,S[i]? = some e:=⟨_,List.getElem?_eq_getElem (by rw[HSL.out];exact hlt)⟩;obtain⟨_,a',c',e',_,hE⟩:=A1.out.rd.below A.out.bel
   cases e'
   have hg:=Xr S i e he;obtain⟨eb,eo,rfl,hE2⟩:=Zr hE hg.1;have c1:=hE2 _ _ hg.1;have c2:=hE2 _ _ hg.2
   rw[<- Nat.add_assoc]at c2;have HT:=hid (Qy S i e he);have he64:=HSV.out e (List.mem_of_getElem? he);have hvl:V.length<=20000:=by have:=HVL.out i;rw[HV.out,List.length_take]at this;omega
   clear hE hE2 he hg;have LG:=hid (fun o=>(H.out.below (A1.out.bel.trans (A.out.bel.mono A1.out.bel.size))).alloc o);obtain⟨e1,e2⟩:=e;simp only at c1 c2 he64;have HA:=hid (fun o=>Yl (LG.out o) e1 he64)
   cases hok:Qw (64*D.n) off n e1
   ·rw[hok]at HA
    have HO:Hid (Xo (64*D.n) off n (S.take (i+1))=V):=by
     show Xo (64*D.n) off n (S.take (i+1))=V
     rw[HT.out,Tt hok,HV.out]
    clear hok;go_wp2_with fail
    (with_reducible refine(HA.out _).mono ?_)
    rintro e w2 ⟨rfl,b2⟩;have A2:=hid (A.out.keep ((Qa wr _).trans (b2.mono (by simp))));clear b2
    go_wp2_with fail
    go_roundw
    case rel=>exact⟨i+1,V,by omega,by go_num,HO.out,A2.out⟩
    case measure=>simp[intOf];omega
   ·rw[hok]at HA
    have HO:Hid (Xo (64*D.n) off n (S.take (i+1))=V ++ [(e1,e2)]):=by
     show Xo (64*D.n) off n (S.take (i+1))=V ++ [(e1,e2)]
     rw[HT.out,Fl (e:=(e1,e2)) hok,HV.out]
    clear hok;go_wp2_with fail
    (with_reducible refine(HA.out _).mono ?_)
    rintro e w2 ⟨rfl,b2⟩;have f0:w2.cell? ⟨wr.heap.size,0,none⟩=some (.int .u64 e1):=Zj b2 ((Blk.new wr _ 140).cell (i:=0) rfl);have f1:w2.cell? ⟨wr.heap.size,1,none⟩=some (.int .u64 e2):=Zj b2 ((Blk.new wr _ 140).cell (i:=1) rfl);have A2:=hid (A.out.keep ((Qa wr _).trans (b2.mono (by simp))));clear b2
    go_wp2_with (at_builtin;refine Qc _ rfl _ _ 52 rfl 140 k0 _ 2 16 underlying52 I2.out.1 I2.out.2.1 I2.out.2.2.1 I2.out.2.2.2 rfl (by decide) _ V.length (Qv V) rfl (by exact A2.out.own.alloc _) _ 1 (Qv [(e1,e2)]) rfl (by exact Ql.newAt _ _ _ 2 1 _ (by simp) rfl) (Xp _) (by unfold maxLen;omega) (by omega) ?_)
    intro v1 w3 o1 g1 b1 n1;have A3:=hid (A2.out.next (Qa w2 _) o1 g1 b1 (by have:=A2.out.lt;omega));clear o1 g1 b1 n1
    go_wp2_with fail
    go_roundw
    case rel=>exact⟨i+1,V ++ [(e1,e2)],by omega,by go_num,HO.out,A3.out.congr (by simp) (by rw[Za])⟩
    case measure=>simp[intOf];omega
  ·obtain rfl:i=s:=by omega
   have HF:Hid (Xo (64*D.n) off n S=V):=by
    show Xo (64*D.n) off n S=V
    rw[<- HV.out,List.take_of_length_le (by rw[HSL.out];omega)]
   by_cases hi0:i=0
   ·have hb0:((i:Int)==0)=true:=by simp;omega
    have hd0:Hid (decide (i=0)=true):=by show decide (i=0)=true;simpa using hi0
    clear hi0;go_wp2_with fail
    go_ret3
    exact⟨_,by rw[hd0.out];rfl,by rw[HF.out];exact A.out.deeper A1.out.bel⟩
   ·have hb0:((i:Int)==0)=false:=by simp;omega
    have hd0:Hid (decide (i=0)=false):=by show decide (i=0)=false;simpa using hi0
    clear hi0;go_wp2_with fail
    go_ret3
    exact⟨_,by rw[hd0.out];rfl,by rw[HF.out];exact A.out.deeper A1.out.bel⟩
end
end Ov

namespace Ov
open Go.Maps
section
variable{w:World}{v:DV}{own:Nat->Option Qp}{D:Dev}{lb j off n:Nat}
theorem uPlanCommit_any(h:LogAt w v own D lb j off n)(S V:List (Nat×Int))(hL:Ak w lb S V)(hV:Quw V)(hVS:V.length<=S.length) :
  Calls prog 70 #[.pointer (some ⟨lb,0,none⟩)] w fun r w'=>∃ ov,r = .returned (.tuple #[ov,.int .i64 0])/\Acc w w.heap.size w' 73 3 ov (Zt off S V).length (Qd (Zt off S V)):=by
 have HL:=hid hL;have H:=hid h;have HV:=hid hV
 have hbd:=h.bd;have hvl:=hV.1;clear h hL hV;unfold Ak at HL
 by_cases hs0:S = []
 ·have HC:Hid (Zt off S V = []):=by show Zt off S V = [];unfold Zt;rw[if_pos hs0]
  have hd:decide (S.length=0)=true:=by simp[hs0]
  rw[hd]at HL;clear hs0 hd
  go_enter func70,ntmps70
  go_wp2_with fail
  (with_reducible refine HL.out.mono ?_)
  rintro e w1 ⟨sv,rfl,a1⟩;obtain⟨sa,sc,hsv⟩:=a1.slice;subst hsv;have B1:=hid a1.bel;clear a1
  go_wp2_with fail
  go_ret2
  exact⟨_,rfl,by rw[HC.out];exact Acc.nil w _ _ _ _ B1.out B1.out.size⟩
 ·have HC:Hid (Zt off S V=Zs (V.map (·.1))++Qe [(off,0)]):=by show Zt off S V=_;unfold Zt;rw[if_neg hs0]
  have hd:decide (S.length=0)=false:=by simpa using hs0
  rw[hd]at HL;clear hs0 hd;have HSC:=hid (fun wx (hx:LogAt wx v own D lb j off n)=>Yq hx 0 (by omega));rw[show((0:Nat):Int)=0 from rfl]at HSC;have h1:=Uo off 0;have hfl:=Ye (V.map (·.1));rw[List.length_map]at hfl
  by_cases hv0:V = []
  ·have HF:Hid (Zs (V.map (·.1)) = []):=by show Zs (V.map (·.1)) = [];subst hv0;rfl
   rw[hv0]at HL;clear hv0
   generalize Qe [(off,(0:Int))]=P2 at *
   go_enter func70,ntmps70
   go_wp2_with fail
   (with_reducible refine HL.out.mono ?_)
   rintro e w1 ⟨sv,rfl,a1⟩;obtain⟨sa,sc,hsv⟩:=a1.slice;subst hsv;have A1:=hid a1;clear a1
   rw[show([]:List (Nat×Int)).length=0 from rfl]at A1;rw[show([]:List (Nat×Int)).length=0 from rfl];have LG:=hid (H.out.below A1.out.bel);go_wp2_with fail
   (with_reducible refine(Hy sa sc).mono ?_)
   rintro e w' ⟨rfl,rfl⟩;go_wp2_with fail
   (with_reducible refine(HSC.out _ LG.out).mono ?_)
   rintro e w2 ⟨pv,rfl,a2⟩;obtain⟨pa,pc,hpv⟩:=a2.slice;subst hpv;have HT:=hid (Xx (w:=w2) (.slice none 0 0) _ [] P2 (Qj.nil w2 73 3).rd a2.rd (by simp;omega));have B2:=hid (A1.out.bel.trans (a2.bel.mono A1.out.bel.size));clear a2 HSC;go_wp2_with fail
   (with_reducible refine HT.out.mono ?_)
   rintro e w3 ⟨ov,rfl,a3⟩;have A3:=hid (a3.deeper B2.out);clear a3 HT
   go_wp2_with fail
   go_ret2
   exact⟨_,rfl,by rw[HC.out,HF.out];exact A3.out⟩
  ·have HG:=hid (Qd0 V hv0)
   have HDR:=hid (Cm V);have hgt:=HG.out.1;have hge:=HG.out.2;have HST:=hid (fun wx sv hx=>Xd (w:=wx) sv V hx (by have:=HV.out.1;omega) HV.out.2);have hsl:=Yk V
   generalize Qe [(off,(0:Int))]=P2 at *
   generalize Zs (V.map (·.1))=P1 at *
   generalize Qe V=P0 at *
   generalize hm:V.length=m at *
   have HM:=hid hm;clear hm hv0
   generalize hN:P0.length=N at *
   have HN:=hid hN;clear hN
   go_enter func70,ntmps70
   go_wp2_with fail
   (with_reducible refine HL.out.mono ?_)
   rintro e w1 ⟨sv,rfl,a1⟩;obtain⟨sa,sc,hsv⟩:=a1.slice;subst hsv;have A1:=hid a1;clear a1
   have HS1:=hid (HST.out _ _ A1.out.rd);clear HST;go_wp2_with fail
   (with_reducible refine HS1.out.mono ?_)
   rintro e w2 ⟨pv,rfl,a2⟩;have A2:=hid a2;obtain⟨b,o,c,hpv,hcap,_⟩:=Qga a2.rd (by
    intro e;have:=congrArg List.length e;rw[Xv,HN.out]at this;simp at this;omega)
   clear a2 HS1;subst hpv;have hmN:(m:Int)<=N:=by omega
   have hNc:(N:Int)<=c:=by omega
   have hcm:¬ c=m:=by omega
   have hcm':¬ (c:Int)=(m:Int):=by omega
   have hmc:(m:Int)<=c:=by omega
   have R2:Hid (Ql w2 3 (.slice (some ⟨b,o+m*3,none⟩) (N-m) (c-m)) (N-m) (Qd P1)):=by
    have:=A2.out.rd.dropG m (by omega);rw[if_neg hcm,Option.map_some,Addr.add_lit,HDR.out]at this;exact this
   have B12:=hid (A1.out.bel.trans (A2.out.bel.mono A1.out.bel.size));have LG:=hid (H.out.below B12.out);go_wp2_with fail
   (with_reducible refine(HSC.out _ LG.out).mono ?_)
   rintro e w3 ⟨qv,rfl,a3⟩;obtain⟨qa,qc,hqv⟩:=a3.slice;subst hqv;have hr:=R2.out.below a3.bel;rw[hge]at hr;have HT:=hid (Xx (w:=w3) _ _ P1 P2 hr a3.rd (by omega));have B3:=hid (B12.out.trans (a3.bel.mono B12.out.size));clear a3 HSC hr;go_wp2_with fail
   (with_reducible refine HT.out.mono ?_)
   rintro e w4 ⟨ov,rfl,a4⟩;have A4:=hid (a4.deeper B3.out);clear a4 HT
   go_wp2_with fail
   go_ret2
   exact⟨_,rfl,by rw[HC.out];exact A4.out⟩
end
end Ov

namespace Ov
open Go.Maps
section
variable{w:World}{v:DV}{own:Nat->Option Qp}{D:Dev}{lb j off n:Nat}
def OpenPostU(w:World)(v:DV)(own:Nat->Option Qp)(D:Dev)(j off n:Nat)(r:Ending)(w':World):Prop:=
 r = .returned (.tuple #[.pointer (some ⟨w.heap.size,0,none⟩),.int .i64 0])/\LogAt w' v own D w.heap.size j off n/\Below w.heap.size w w'
theorem uOpen_ok(h:IsDev w v own D)(hj:j<8)(x y:Nat)(h2:2<=y)(hr:x+y<=D.n) :
  Calls prog 49 #[.iface 141 (.pointer (some ⟨v.tb j,0,none⟩)),.int .i64 x,.int .i64 y] w (OpenPostU w v own D j (64*x) y):=by
 have hm1:=meth_Size ⟨v.tb j,0,none⟩;have HT:=hid (thrSize_any h hj);have hn:=h.wf.le;have H:=hid h;have hx0:¬ (x:Int)<0:=by omega
 have hy2:¬ (y:Int)<2:=by omega
 have hq:(D.n:Int)*64/64=D.n:=by omega
 have hyn':¬ (D.n:Int)<y:=by omega
 have hxn:¬ (D.n:Int)-y<x:=by omega
 have e64:(x:Int)*64=((64*x:Nat):Int):=by omega
 have E64:=hid e64;clear h e64
 go_enter func49,ntmps49
 go_wp2_with fail
 (with_reducible refine HT.out.mono ?_)
 rintro e w' ⟨rfl,rfl⟩;go_wp2_with fail
 go_ret2
 refine⟨rfl,⟨H.out.alloc _,?_,?_,hj,h2,by omega,by omega⟩,Qa _ _⟩
 ·have:=Blk.new w #[.iface 141 (.pointer (some ⟨v.tb j,0,none⟩)),.int .u64 ((64*x:Nat):Int),.int .i64 y] 211
  rw[<- E64.out]at this;have e3:=E64.out;rw[<- E64.out];exact this
 ·cases ho:own w.heap.size with
  | none=>rfl
  | some r=>have:=H.out.lt w.heap.size (by rw[ho];simp);omega
end
end Ov
end Go.Proofs.YtlhchkajjpefmaaGreatDoor
