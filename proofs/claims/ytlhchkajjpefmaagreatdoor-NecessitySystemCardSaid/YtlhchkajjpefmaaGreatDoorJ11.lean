import Derived.Test.YtlhchkajjpefmaaGreatDoorJ8
import Derived.Test.YtlhchkajjpefmaaGreatDoorJ7
import Derived.Laws.CopyRow
import Derived.Test.YtlhchkajjpefmaaGreatDoorJ10
import Derived.Test.YtlhchkajjpefmaaGreatDoorJ3
import Derived.Lib.AppendZerosOnto
import Derived.Lib.Walk
import Derived.Test.YtlhchkajjpefmaaGreatDoorJ4
import Derived.Deep.Cut
import Derived.Deep.CutRange
import Derived.Deep.RegionWith
import Derived.Deep.RegionHeld3
import Derived.Laws.Rows
import Derived.Laws.Tables
import Derived.Laws.ResultCell
import Derived.Laws.CopyOwn
set_option maxHeartbeats 16000000
set_option maxRecDepth 100000
namespace Go.Proofs.YtlhchkajjpefmaaGreatDoor
section
open Go.RowKit
attribute [local go_sem ↓] Go.wp_at_zero Go.wp_at_succ
theorem cmpL_none(xs:List Int):∀ k,k<xs.length→(∀ j,j<k→¬ xs[j+1]! = xs[j]!)→cmpL (xs.take (k+1))=xs.take (k+1):=by
 intro k
 induction k with
 | zero=>intro h _;exact cmpL_one xs h
 | succ k ih=>
  intro h hn;have e1:xs.take (k+1+1)=xs.take (k+1) ++ [xs[k+1]!]:=by
   rw[List.take_add_one (i:=k+1),List.getElem?_eq_getElem h,getElem!_pos xs (k+1) h];rfl
  rw[cmpL_take xs k h,if_neg (hn k (by omega)),ih (by omega) (fun j hj=>hn j (by omega)),e1]
theorem CmpMid.start{xs:List Int}{k:Nat}(hk:k+1<xs.length)(hn:∀ j,j<k→¬ xs[j+1]! = xs[j]!)(he:xs[k+1]! = xs[k]!):CmpMid xs xs (k+1+1) (k+1):=
 ⟨rfl,by rw[cmpL_take xs k hk,if_pos he,cmpL_none xs k (by omega) hn],fun _ _=>rfl,by omega,by omega⟩
theorem at0_get(l:List Int)(i:Nat)(h:i<l.length):at0 l i=l[i]!:=by simp[at0,List.getD,h]
section
variable{w:World}
theorem run_clearU(ty:TypeId){g o c i m:Nat}{ys:List Int}(h:WrU w g o c ys)(hi:i+m=ys.length)(h0:0<m) :
  ∃ w',(Builtin.clear_ #[56] ty #[.slice (some ⟨g,o+i,none⟩) m (c-i)]).run Tryz.prog w = .ok (.tuple #[]) w'∧OwnSl w' 31 1 (.slice (some ⟨g,o,none⟩) i c) i (intsU (ys.take i))∧Upd (fun k=>k=g) w w':=by
 rcases h.2 with ⟨e,_⟩ | ⟨g',o',cap,cur,e,hb,h1,h2,h3,h4⟩
 ·cases e
 ·cases e
  have hzl:(Builtin.zeroCells (Value.cells (.int .u64 0)) m).toList.length=m:=by simp[Builtin.zeroCells,Value.cells]
  have hz1:∀ u∈(Builtin.zeroCells (Value.cells (.int .u64 0)) m).toList,u.oneCell'=true:=by
   intro u hu;simp[Builtin.zeroCells,Value.cells,Nat.mod_one]at hu;rw[← hu.2];rfl
  have hst:=run_storeCells_at Tryz.prog g (o+i) 31 (Builtin.zeroCells (Value.cells (.int .u64 0)) m).toList 0 cur w hb (by rw[hzl];omega) hz1;obtain⟨m',rfl⟩:∃ m',m=m'+1:=⟨m-1,by omega⟩;refine⟨w.setRow g (cur.toList.take (o+i+0)++(Builtin.zeroCells (Value.cells (.int .u64 0)) (m'+1)).toList++cur.toList.drop (o+i+0+(Builtin.zeroCells (Value.cells (.int .u64 0)) (m'+1)).toList.length)).toArray,?_,?_,?_⟩
  ·simp[Builtin.clear_,run_underlying Tryz.underlying56,hst,Result.andThen]
  ·refine⟨by simp[intsU];omega,.inr ⟨g,o,c,_,rfl,setRow_heap w g cur _ 31 (0,0) hb,by omega,h2,?_,?_⟩⟩
   ·simp only[List.size_toArray,List.length_append,List.length_take,List.length_drop,Array.length_toList,hzl]
    omega
   ·simp only[Nat.add_zero,Nat.mul_one]
    have lo:(cur.toList.take (o+i)).length=o+i:=by rw[List.length_take,Array.length_toList];omega
    rw[List.append_assoc,List.drop_append_of_le_length (by omega),List.take_append_of_le_length (by rw[List.length_drop];omega)];rw[List.drop_take,List.take_take,show min i (o+i-o)=i by omega];have h5:=congrArg (List.take i) h4;rw[List.take_take,show min i (ys.length*1)=i by omega]at h5;rw[h5,intsU,intsU,List.map_take]
  ·exact⟨rfl,rfl,rfl,by simp[World.setRow],fun k _ hk=>setRow_other w g k _ hk⟩
theorem Upd.drewN{S:Nat→Prop}{a b:World}(h:Upd S a b)(n:Nat):Upd S a (b.drewN n):=⟨h.os,h.tape,h.output,h.size,h.block⟩
theorem WrU.rd2{g o c:Nat}{xs:List Int}(h:WrU w g o c xs)(j:Nat)(hj:j<xs.length):w.cell? ⟨g,o+j,none⟩=some (.int .u64 xs[j]!):=by
 rw[← at0_get xs j hj];exact h.cell j hj
def CmpPost(w:World)(g o c:Nat)(xs:List Int)(r:Ending)(w':World):Prop:=
 r = .returned (.slice (some ⟨g,o,none⟩) (cmpL xs).length c)∧OwnSl w' 31 1 (.slice (some ⟨g,o,none⟩) (cmpL xs).length c) (cmpL xs).length (intsU (cmpL xs))∧Upd (fun k=>k=g) w w'
structure CmpSt(w:World)(g o c:Nat)(xs:List Int)(q i:Nat)(wr:World):Prop where
 st:∃ ys,CmpMid xs ys q i∧WrU wr g o c ys∧Upd (fun k=>k=g) w wr
theorem CmpMid.fin{xs ys:List Int}{i:Nat}(h:CmpMid xs ys xs.length i):i=(cmpL xs).length∧ys.take i=cmpL xs:=by
 have h1:=h.pre;rw[List.take_length]at h1;have h2:=congrArg List.length h1;rw[List.length_take,h.len]at h2;have:=h.lt;exact⟨by omega,h1⟩
theorem CmpMid.keep'{xs ys:List Int}{q i:Nat}(h:CmpMid xs ys q i)(hq0:0<q)(hq:q<xs.length)(e:¬ xs[q]! = xs[q-1]!):CmpMid xs (ys.set i xs[q]!) (q+1) (i+1):=by
 obtain⟨p,rfl⟩:∃ p,q=p+1:=⟨q-1,by omega⟩;exact h.keep hq e
theorem CmpMid.skip'{xs ys:List Int}{q i:Nat}(h:CmpMid xs ys q i)(hq0:0<q)(hq:q<xs.length)(e:xs[q]! = xs[q-1]!):CmpMid xs ys (q+1) i:=by
 obtain⟨p,rfl⟩:∃ p,q=p+1:=⟨q-1,by omega⟩;exact h.skip hq e
theorem CmpMid.at{xs ys:List Int}{q i j:Nat}(h:CmpMid xs ys q i)(hj:q≤j+1)(hx:j<xs.length):ys[j]! = xs[j]!:=by
 have h1:=h.rest j hj;have h2:=h.len;rw[List.getElem?_eq_getElem hx,List.getElem?_eq_getElem (by omega)]at h1;rw[getElem!_pos ys j (by omega),getElem!_pos xs j hx];exact Option.some.inj h1
theorem compact_wr{g o c:Nat}{xs:List Int}(h:WrU w g o c xs)(hs:xs.length≤100000) :
  Calls Tryz.prog 193 #[.slice (some ⟨g,o,none⟩) xs.length c] w (CmpPost w g o c xs):=by
 have hc:=h.le.1;have hc2:c≤maxLen:=by
  rcases h.2 with ⟨e,_⟩ | ⟨g',o',cap,cur,e,hb,h1,h2,_⟩
  ·cases e
  ·cases e;exact h2
 unfold maxLen at hc2;have hg:=h.lt;have H:=Lib.hid h;clear h
 generalize hn:xs.length=n at *
 have HN:=Lib.hid hn;clear hn
 by_cases h2:n<2
 ·have h2':(n:Int)<2:=by omega
  have hcm:Hid (cmpL xs=xs):=by
   show cmpL xs=xs
   match xs,HN.out with
   | [],_=>rfl
   | [x],_=>rfl
   | x::y::l,e=>simp at e;omega
  go_enter Tryz.func193,Tryz.ntmps193
  go_wp2_with fail
  go_ret
  refine⟨?_,?_,Upd.refl _ _⟩
  ·rw[hcm.out,HN.out];rfl
  ·rw[hcm.out,HN.out];have:=H.out;unfold WrU at this;rw[HN.out]at this;exact this
 ·have h2':¬ (n:Int)<2:=by omega
  go_enter Tryz.func193,Tryz.ntmps193
  go_wp2_with fail
  go_loopw [3] (fun y wr=>∃ k:Nat,0<k∧k≤n∧y = .int .i64 k∧(∀ j,j+1<k→¬ xs[j+1]! = xs[j]!)∧Qt w wr) (fun y _=>n-(intOf y).toNat)
  case atStart=>exact⟨1,by omega,by omega,rfl,fun j hj=>by omega,Qt.refl w⟩
  case round=>
   obtain⟨k,hk0,hk,rfl,hne,q⟩:=hrel;obtain⟨na,rfl⟩:=q;have HNE:=Lib.hid hne;clear hne
   by_cases hlt:k<n
   ·have hk':(k:Int)<n:=by omega
    have d1:=H.out.rd2 k (by rw[HN.out];exact hlt);have d2:=H.out.rd2 (k-1) (by rw[HN.out];omega)
    have hi2:((k:Int)-1).toNat=k-1:=by omega
    have hi3:(0:Int)≤(k:Int)-1:=by omega
    have hi4:(1:Int)≤(k:Int):=by omega
    have hi6:(k:Int)-1<n:=by omega
    by_cases he:xs[k]! = xs[k-1]!
    ·have hb:(xs[k]! == xs[k-1]!)=true:=by simpa using he
     have M0:Hid (CmpMid xs xs (k+1) k):=by
      obtain⟨p,rfl⟩:∃ p,k=p+1:=⟨k-1,by omega⟩;exact CmpMid.start (by rw[HN.out];exact hlt) (fun j hj=>HNE.out j (by omega)) he
     generalize xs[k]! = xk at *
     generalize xs[k-1]! = xk1 at *
     clear he;have hck:¬ c=k:=by omega
     have hck':¬ (c:Int)=(k:Int):=by omega
     have hkc:(k:Int)≤c:=by omega
     have hkn:(k:Int)≤n:=by omega
     go_wp2_with fail
     go_quiet (fail)
     go_wp2_with fail
     obtain⟨wq,hwq⟩:∃ wq,wq=w.drewN (na+nq):=⟨_,rfl⟩;rw[← hwq];have S0:Hid (CmpSt w g o c xs (k+1) k wq):=by
      refine⟨⟨xs,M0.out,?_,?_⟩⟩
      ·rw[hwq];exact H.out.drewN _
      ·rw[hwq];exact(Upd.refl _ w).drewN _
     clear hwq d1 d2 hi2 hi3 hi4 hi6 hb M0
     go_loopw [3,5] (fun y z wr=>∃ i k2:Nat,y = .int .i64 i∧z = .int .i64 k2∧0<k2∧k+k2≤n∧CmpSt w g o c xs (k+k2) i wr) (fun _ z _=>n-(intOf z).toNat)
     case atStart=>exact⟨k,1,rfl,rfl,by omega,by omega,S0.out⟩
     case round=>
      obtain⟨i,k2,rfl,rfl,hk2,hkk,hst⟩:=hrel;obtain⟨ys,m1,w1,u1⟩:=hst.st;have M:=Lib.hid m1;have W:=Lib.hid w1;have U:=Lib.hid u1;clear m1 w1 u1 hst S0
      have hsub:((n-k:Nat):Int)=(n:Int)-k:=by omega
      have hwb:=W.out.lt;have hwf:=W.out.frozen
      by_cases hlt2:k2<n-k
      ·have hlt2':(k2:Int)<((n-k:Nat):Int):=by omega
       have e1:=W.out.rd2 (k+k2) (by rw[M.out.len,HN.out];omega);have e2:=W.out.rd2 (k+k2-1) (by rw[M.out.len,HN.out];omega)
       rw[M.out.at (by omega) (by rw[HN.out];omega)]at e1 e2;rw[show o+(k+k2)=o+k+k2 by omega]at e1;rw[show o+(k+k2-1)=o+k+(k2-1)by omega]at e2;have hj2:((k2:Int)-1).toNat=k2-1:=by omega
       have hj3:(0:Int)≤(k2:Int)-1:=by omega
       have hj4:(1:Int)≤(k2:Int):=by omega
       have hj6:(k2:Int)-1<((n-k:Nat):Int):=by omega
       have hin:(i:Int)<n:=by have:=M.out.lt;omega
       have hf1:=hwf (o+i)
       by_cases hx:xs[k+k2]! = xs[k+k2-1]!
       ·have hbx:(xs[k+k2]! != xs[k+k2-1]!)=false:=by simpa using hx
        have M2:=Lib.hid (M.out.skip' (by omega) (by rw[HN.out];omega) hx)
        generalize xs[k+k2]! = xa at *
        generalize xs[k+k2-1]! = xb at *
        clear hx;go_wp2_with fail
        go_quiet (fail)
        go_wp2_with fail
        go_roundw
        case rel=>exact⟨i,k2+1,rfl,by go_num,by omega,by omega,⟨ys,by rw[← Nat.add_assoc];exact M2.out,W.out.drewN _,U.out.drewN _⟩⟩
        case measure=>simp[intOf];omega
       ·have hbx:(xs[k+k2]! != xs[k+k2-1]!)=true:=by simpa using hx
        have M2:=Lib.hid (M.out.keep' (by omega) (by rw[HN.out];omega) hx);have W2:=Lib.hid (fun m=>(W.out.drewN m).set i (by rw[M.out.len,HN.out];omega) xs[k+k2]!)
        generalize xs[k+k2]! = xa at *
        generalize xs[k+k2-1]! = xb at *
        clear hx;have hgi:=W.out.cell i (by rw[M.out.len,HN.out];omega);go_wp2_with fail
        go_quiet (fail)
        go_wp2_with fail
        go_roundw
        case rel=>exact⟨i+1,k2+1,by go_num,by go_num,by omega,by omega,⟨_,by rw[← Nat.add_assoc];exact M2.out,W2.out _,(U.out.drewN _).setCell (fun _=>rfl) _⟩⟩
        case measure=>simp[intOf];omega
      ·obtain rfl:k2=n-k:=by omega
       have hsum:k+(n-k)=xs.length:=by rw[HN.out];omega
       rw[hsum]at M;have F:=Lib.hid M.out.fin;have hil:i<n:=by have:=M.out.lt;rw[HN.out]at this;exact this
       have hyl:Hid (i+(n-i)=ys.length):=by show i+(n-i)=ys.length;rw[M.out.len,HN.out];omega
       have hci:¬ c=i:=by omega
       have hci':¬ (c:Int)=(i:Int):=by omega
       have hic:(i:Int)≤c:=by omega
       have hin:(i:Int)≤n:=by omega
       clear hsum;obtain⟨w5,hr5,o5,u5⟩:=run_clearU 0 W.out hyl.out (by omega);have O5:=Lib.hid o5;have U5:=Lib.hid u5;clear o5 u5
       go_wp2_with fail
       go_ret
       refine⟨?_,?_,U.out.trans U5.out (fun _ _ h=>h)⟩
       ·rw[← F.out.1];rfl
       ·rw[← F.out.1,← F.out.2];exact O5.out
    ·have hb:(xs[k]! == xs[k-1]!)=false:=by simpa using he
     have HNX:Hid (∀ j,j+1<k+1→¬ xs[j+1]! = xs[j]!):=fun j hj=>by
      by_cases e:j+1=k
      ·subst e;exact he
      ·exact HNE.out j (by omega)
     clear he
     generalize xs[k]! = xk at *
     generalize xs[k-1]! = xk1 at *
     go_wp2_with fail
     go_quiet (fail)
     go_wp2_with fail
     go_roundw
     case rel=>exact⟨k+1,by omega,by omega,by go_num,HNX.out,⟨_,rfl⟩⟩
     case measure=>simp[intOf];omega
   ·obtain rfl:k=n:=by omega
    have hcm:Hid (cmpL xs=xs):=by
     show cmpL xs=xs
     have:=cmpL_none xs (k-1) (by rw[HN.out];omega) (fun j hj=>HNE.out j (by omega));rw[show k-1+1=k by omega,List.take_of_length_le (by rw[HN.out];omega)]at this;exact this
    go_wp2_with fail
    go_ret
    refine⟨?_,?_,(Upd.of_below (Qt.drewN w na).below)⟩
    ·rw[hcm.out,HN.out];rfl
    ·rw[hcm.out,HN.out];have:=H.out;unfold WrU at this;rw[HN.out]at this;exact this.kept (fun _ _=>rfl)
end
end
section
open Go.RowKit
section
variable{w:World}
theorem Acc.side{w wr w1:World}{B:Nat}{e:TypeId}{s n:Nat}{v lv:Value}{xs:List Value}(h:Acc w B wr e s v n xs)(hu:Upd (fun k=>lv.ownBlock=some k) wr w1)(hn:∀ g,lv.ownBlock=some g→B≤g)(hne:∀ g,v.ownBlock=some g→lv.ownBlock≠some g):Acc w B w1 e s v n xs:=
 ⟨h.own.upd hu hne,h.new,⟨hu.os.trans h.bel.os,hu.tape.trans h.bel.tape,hu.output.trans h.bel.output,Nat.le_trans h.bel.size hu.size,fun k hk=>by
  rw[hu.block k (Nat.lt_of_lt_of_le hk h.lt) (fun e=>by have:=hn k e;omega)];exact h.bel.block k hk⟩,Nat.le_trans h.lt hu.size⟩
theorem compactU_own(sv:Value)(xs:List Int)(h:OwnSl w 31 1 sv xs.length (intsU xs))(h0:0<xs.length)(hs:xs.length≤100000) :
  Calls Tryz.prog 193 #[sv] w fun r w'=>∃ a c,r = .returned (.slice a (cmpL xs).length c)∧OwnSl w' 31 1 (.slice a (cmpL xs).length c) (cmpL xs).length (intsU (cmpL xs))∧(∀ k,(Value.slice a (cmpL xs).length c).ownBlock=some k→sv.ownBlock=some k)∧Upd (fun k=>sv.ownBlock=some k) w w':=by
 rcases h.2 with ⟨rfl,hn⟩ | ⟨g,o,cap,cur,rfl,_⟩
 ·omega
 ·exact(compact_wr (g:=g) (o:=o) (c:=cap) (xs:=xs) h hs).mono fun r w' ⟨h1,h2,h3⟩=>⟨_,_,h1,h2,fun k hk=>hk,h3.mono (fun i _ hi=>by rw[hi];rfl)⟩
theorem mstart_any(o:Nat)(ho:o<18446744073709551616):Calls Tryz.prog 191 #[.int .u64 o] w fun r w'=>r = .returned (.int .u64 ((o-o%64:Nat):Int))∧w=w':=by
 have e:(o:Int)-(o:Int)%64=((o-o%64:Nat):Int):=by omega
 have E:=Lib.hid e;clear e
 go_enter Tryz.func191,Tryz.ntmps191
 go_wp2
 go_ret
 exact⟨ret_int (by first | exact E.out | (rw[← E.out])),rfl⟩
def startsI(offs:List Nat):List Int:=offs.map fun o=>((o-o%64:Nat):Int)
theorem startsI_snoc(l:List Nat)(o:Nat):startsI (l ++ [o])=startsI l ++ [((o-o%64:Nat):Int)]:=by simp[startsI]
theorem intsU_one(l:List Int):∀ u∈intsU l,u.oneCell'=true:=by intro u hu;simp[intsU]at hu;obtain⟨s,_,rfl⟩:=hu;rfl
theorem intsU_append(a b:List Int):intsU (a++b)=intsU a++intsU b:=by simp[intsU]
theorem mkLines(wx:World)(n:Nat)(hn:n≤1000000):(Instr.makeSlice 56 (.int .i64 0) (.int .i64 n)).run Tryz.prog wx = .ok (.slice (some ⟨wx.heap.size,0,none⟩) 0 n) (wx.alloc (.cells (madeCells #[.int .u64 0] n) 31)):=by
 obtain⟨i0,hi,hz0,hz1,hz2⟩:=info_parts infoU64;have:=run_make (P:=Tryz.prog) wx 56 31 i0 _ Tryz.underlying56 hi hz0 .i64 .i64 0 n (by omega) (by omega) (by rw[hz2];omega) (by omega);rw[hz1]at this;simpa [Value.cells]using this
theorem compact_lines{n:Nat}(sv:Value)(offs:List Nat)(ys:List Int)(h:OwnSl w 31 1 sv n (intsU ys))(hn:ys.length=n)(hp:ys.Perm (startsI offs))(ha:ascOn ys 0 n)(h0:0<n)(hs:n≤100000) :
  Calls Tryz.prog 193 #[sv] w fun r w'=>∃ a c,r = .returned (.slice a (linesL offs).length c)∧OwnSl w' 31 1 (.slice a (linesL offs).length c) (linesL offs).length (natsU ((linesL offs).map (64 * ·))) ∧
   (∀ k,(Value.slice a (linesL offs).length c).ownBlock=some k→sv.ownBlock=some k)∧Upd (fun k=>sv.ownBlock=some k) w w':=by
 subst hn;have hc:=lines_compact offs ys hp ha;have hlen:(cmpL ys).length=(linesL offs).length:=by rw[hc,List.length_map]
 have hcell:intsU (cmpL ys)=natsU ((linesL offs).map (64 * ·)):=by rw[hc];simp[intsU,natsU]
 have:=compactU_own sv ys h h0 hs;rw[hlen,hcell]at this;exact this
theorem flC_pos(offs:List Nat)(h:0<offs.length):linesL offs ≠ []:=fun e=>by
 obtain⟨o,ho⟩:∃ o,o∈offs:=by
  match offs,h with
  | o::l,_=>exact⟨o,by simp⟩
 have:=(linesL_mem offs (o/64)).2 ⟨o,ho,rfl⟩;rw[e]at this;simp at this
theorem stores_any(sv:Value)(ws:List (Nat×Int))(h:RdSl w 2 sv ws.length (flat ws))(hl:ws.length≤10000)(hb:∀ e∈ws,e.1<18446744073709551616) :
  Calls Tryz.prog 124 #[sv] w fun r w'=>∃ ov,r = .returned ov∧Acc w w.heap.size w' 73 3 ov (storesL ws).length (instrC (storesL ws)):=by
 have H:=Lib.hid h;have HB:=Lib.hid hb;clear hb;obtain⟨_,sa,sc,rfl,hsc,_⟩:=h;obtain⟨k0,hi0,hz0,hz1,hz2⟩:=info_parts infoInstr;have I2:=Lib.hid (And.intro hi0 (And.intro hz0 (And.intro hz1 hz2)));clear hi0 hz0 hz1 hz2
 obtain⟨i0,hi0,hz0,hz1,hz2⟩:=info_parts infoU64;have I:=Lib.hid (And.intro hi0 (And.intro hz0 (And.intro hz1 hz2)));clear hi0 hz0 hz1 hz2
 generalize hn:ws.length=n at *
 have HN:=Lib.hid hn;clear hn
 by_cases h0:n=0
 ·have hw:ws = []:=List.eq_nil_of_length_eq_zero (by rw[HN.out];exact h0)
  have hb0:((n:Int)==0)=true:=by simp;omega
  have HW:=Lib.hid hw;clear hw h0
  go_enter Tryz.func124,Tryz.ntmps124
  go_wp2_with fail
  go_ret
  exact⟨_,rfl,by rw[HW.out];exact Acc.nil w _ _ _ _ (Below.refl _ _) (Nat.le_refl _)⟩
 ·have hb0:((n:Int)==0)=false:=by simp;omega
  have hpos:0<n:=by omega
  clear h0;have hmk:=fun wx=>mkLines wx n (by omega)
  go_enter Tryz.func124,Tryz.ntmps124
  go_wp2_with fail
  have P0:Hid (Pair w w.heap.size (w.alloc (.cells (madeCells #[.int .u64 0] n) 31)) 73 3 (.slice none 0 0) 0 (instrC []) 31 1 (.slice (some ⟨w.heap.size,0,none⟩) 0 n) 0 (intsU [])):=by
   refine⟨Acc.nil w _ _ _ _ (below_alloc _ _) (by simp),⟨?_,fun g hg=>by simp[Value.ownBlock]at hg;omega,below_alloc _ _,by simp⟩,fun g hg=>by simp[Value.ownBlock]at hg⟩
   have:=OwnSl.new w (madeCells #[.int .u64 0] n) 31 1 0 n (by simp[madeCells]) (Nat.zero_le _) (by unfold maxLen;omega);simpa [intsU]using this
  go_loopw [3,4,17] (fun ov fv y wr=>∃ k:Nat,k≤n∧y = .int .i64 k∧Pair w w.heap.size wr 73 3 ov k (instrC (stC (ws.take k))) 31 1 fv k (intsU (startsI ((ws.take k).map (·.1))))) (fun _ _ y _=>n-(intOf y).toNat)
  case atStart=>exact⟨0,by omega,rfl,P0.out⟩
  case round=>
   obtain⟨k,hk,rfl,ha⟩:=hrel;obtain⟨oa,oc,hov⟩:=ha.a.slice;subst hov;obtain⟨fa,fc,hfv⟩:=ha.b.slice;subst hfv;have A:=Lib.hid ha;clear ha P0
   by_cases hlt2:k<n
   ·have hk':(k:Int)<n:=by omega
    obtain⟨e,he⟩:∃ e,ws[k]? = some e:=⟨_,List.getElem?_eq_getElem (by rw[HN.out];exact hlt2)⟩;obtain⟨_,a',c',e',_,hE⟩:=H.out.below A.out.a.bel
    cases e'
    have hg:=flat_get' ws k e he;obtain⟨eb,eo,rfl,hE2⟩:=rd_at hE hg.1;have c1:=hE2 _ _ hg.1;have c2:=hE2 _ _ hg.2
    rw[← Nat.add_assoc]at c2;have HT:=Lib.hid (take_snoc_get ws k e he);have hlt64:=HB.out e (List.mem_of_getElem? he);clear hE hE2 he hg;obtain⟨e1,e2⟩:=e;simp only at c1 c2 hlt64;have HM:=Lib.hid (fun wx=>mstart_any (w:=wx) e1 hlt64);have hne:(Value.slice oa k oc).ownBlock≠some wr.heap.size:=fun hh=>by have:=A.out.a.own.lt _ hh;omega
    have HNE:=Lib.hid hne;clear hne
    go_wp2_with (at_builtin;refine wpList_append_sl _ rfl _ _ 37 rfl 73 k0 _ 3 24 Tryz.underlying37 I2.out.1 I2.out.2.1 I2.out.2.2.1 I2.out.2.2.2 rfl (by decide) _ k (instrC (stC (ws.take k))) rfl (by exact(A.out.a.own.alloc _).alloc _) _ 1 (instrC [(1,e1,e2)]) rfl (by exact RdSl.newAt _ _ _ 3 1 _ (by simp) rfl) (instrC_one _) (by unfold maxLen;omega) (by omega) ?_)
    intro v1 w1 o1 g1 b1 n1;have d1:w1.cell? ⟨wr.heap.size,0,none⟩=some (.int .u64 (e1:Int)):=(kept_cell (below_alloc _ _) g1 (by simp) HNE.out 0).trans ((Blk.new wr _ _).cell rfl);have P1:=Lib.hid (A.out.left (below_twice wr _ _) o1 g1 b1 (by omega));clear o1 g1 b1 n1
    obtain⟨va,vc,hv1⟩:=P1.out.a.slice;subst hv1;go_wp2_with fail
    (with_reducible refine(HM.out _).mono ?_)
    rintro e w' ⟨rfl,rfl⟩;go_wp2_with (at_builtin;refine wpList_append_sl _ rfl _ _ 56 rfl 31 i0 _ 1 8 Tryz.underlying56 I.out.1 I.out.2.1 I.out.2.2.1 I.out.2.2.2 rfl (by decide) _ k (intsU (startsI ((ws.take k).map (·.1)))) rfl (by exact P1.out.b.own.alloc _) _ 1 (intsU [((e1-e1%64:Nat):Int)]) rfl (by exact RdSl.newAt _ _ _ 1 1 _ (by simp) rfl) (intsU_one _) (by unfold maxLen;omega) (by omega) ?_)
    intro v2 w2 o2 g2 b2 n2;have o2':OwnSl w2 31 1 v2 (k+1) (intsU (startsI ((ws.take k).map (·.1)))++intsU [((e1-e1%64:Nat):Int)]):=by rw[List.map_take];exact o2
    have P2:=Lib.hid ((P1.out.swap.left (below_alloc w1 _) o2' g2 b2 (by omega)).swap);clear o2 o2' g2 b2 n2
    go_wp2_with fail
    go_roundw
    case rel=>exact⟨k+1,by omega,by go_num,by rw[HT.out,stC_snoc,instrC_append,List.map_append,List.map_cons,List.map_nil,startsI_snoc,intsU_append];exact P2.out⟩
    case measure=>simp[intOf];omega
   ·obtain rfl:k=n:=by omega
    have hF:ws.take k=ws:=List.take_of_length_le (by rw[HN.out];omega);rw[hF]at A;clear hF hmk;have hml:(startsI (ws.map (·.1))).length=k:=by unfold startsI;rw[List.length_map,List.length_map,HN.out]
    have hS:=sortU_own (w:=wr) (.slice fa k fc) (startsI (ws.map (·.1))) (by rw[hml];exact A.out.b.own) (by rw[hml];omega);rw[hml]at hS;have HS:=Lib.hid hS;clear hS
    have HL:=Lib.hid (linesL_len (ws.map (·.1)));have hlen:(linesL (ws.map (·.1))).length≤k:=by have:=HL.out;rw[List.length_map,HN.out]at this;exact this
    have HP:=Lib.hid (flC_pos (ws.map (·.1)) (by rw[List.length_map,HN.out];exact hpos));have hbd:=linesL_bd (ws.map (·.1)) 288230376151711744 (fun o ho=>by
     obtain⟨e,he,rfl⟩:=List.mem_map.1 ho;have:=HB.out e he;omega)
    have HBD:=Lib.hid hbd;have HST:Hid (storesL ws=stC ws++(flC (linesL (ws.map (·.1))) ++ [(3,0,0)])):=by
     show storesL ws=_
     unfold storesL flushL;rw[if_neg HP.out];rfl
    have HC:=Lib.hid (fun ys (wx:World) h1 h2 h3 h4=>compact_lines (w:=wx) (n:=k) (.slice fa k fc) (ws.map (·.1)) ys h1 h2 h3 h4 hpos (by omega));clear hbd HL
    generalize linesL (ws.map (·.1))=L at *
    generalize hm:L.length=m at *
    have HM:=Lib.hid hm;clear hm
    go_wp2_with fail
    (with_reducible refine HS.out.mono ?_)
    rintro e w1 ⟨rfl,ys,m1,a1,o1,u1⟩;have hyl:ys.length=k:=by rw[m1.len,hml]
    have HC1:=Lib.hid (HC.out ys w1 o1 hyl m1.perm a1);have P1:=Lib.hid (A.out.a.side u1 A.out.b.new (fun g h1 h2=>A.out.ne g h1 h2));have hnew:=A.out.b.new;have hne:=A.out.ne
    clear o1 u1 m1 a1 hyl HS HC hml A;have NW:=Lib.hid (And.intro hnew hne);clear hnew hne
    go_wp2_with fail
    (with_reducible refine HC1.out.mono ?_)
    rintro e w2 ⟨ca,cc,rfl,o2,b2,u2⟩;have P2:=Lib.hid (P1.out.side u2 NW.out.1 (fun g h1 h2=>NW.out.2 g h1 h2));have O2:Hid (Pair w w.heap.size w2 73 3 (.slice oa k oc) k (instrC (stC ws)) 31 1 (.slice ca m cc) m (natsU (L.map (64 * ·)))):=
     ⟨P2.out,⟨o2,fun g hg=>NW.out.1 g (b2 g hg),P2.out.bel,P2.out.lt⟩,fun g h1 h2=>NW.out.2 g h1 (b2 g h2)⟩
    clear o2 b2 u2 P1 P2 NW HC1;go_wp2_with fail
    go_loopw [3,41] (fun ov y wr=>∃ j:Nat,j≤m∧y = .int .i64 j∧Pair w w.heap.size wr 73 3 ov (k+j) (instrC (stC ws++flC (L.take j))) 31 1 (.slice ca m cc) m (natsU (L.map (64 * ·)))) (fun _ y _=>m-(intOf y).toNat)
    case atStart=>exact⟨0,by omega,rfl,by simpa [flC]using O2.out⟩
    case round=>
     obtain⟨j,hj,rfl,ha⟩:=hrel;obtain⟨ra,rc,hrv⟩:=ha.a.slice;subst hrv;have A:=Lib.hid ha;clear ha O2
     by_cases hlt3:j<m
     ·have hj':(j:Int)<m:=by omega
      obtain⟨x,hx⟩:∃ x,L[j]? = some x:=⟨_,List.getElem?_eq_getElem (by rw[HM.out];exact hlt3)⟩;have hxb:=HBD.out x (List.mem_of_getElem? hx);have hx2:(natsU (L.map (64 * ·)))[j]? = some (.int .u64 ((64*x:Nat):Int)):=by simp[natsU,hx]
      obtain⟨_,a',c',e',_,hE⟩:=A.out.b.rd
      cases e'
      obtain⟨eb,eo,rfl,hE2⟩:=rd_at hE hx2;have c1:=hE2 _ _ hx2;have HT:=Lib.hid (take_snoc_get L j x hx);clear hE hE2 hx hx2;obtain⟨y,hy⟩:∃ y:Nat,64*x=y:=⟨_,rfl⟩;rw[hy]at c1;have HY:=Lib.hid hy;clear hy
      go_wp2_with (at_builtin;refine wpList_append_sl _ rfl _ _ 37 rfl 73 k0 _ 3 24 Tryz.underlying37 I2.out.1 I2.out.2.1 I2.out.2.2.1 I2.out.2.2.2 rfl (by decide) _ (k+j) (instrC (stC ws++flC (L.take j))) rfl (by exact A.out.a.own.alloc _) _ 1 (instrC [(2,y,0)]) rfl (by exact RdSl.newAt _ _ _ 3 1 _ (by simp) rfl) (instrC_one _) (by unfold maxLen;omega) (by omega) ?_)
      intro v1 w3 o1 g1 b1 n1;have P3:=Lib.hid (A.out.left (below_alloc wr _) o1 g1 b1 (by omega));clear o1 g1 b1 n1
      go_wp2_with fail
      go_roundw
      case rel=>exact⟨j+1,by omega,by go_num,by rw[HT.out,flC_snoc,HY.out,← List.append_assoc,instrC_append (stC ws++flC (L.take j))];exact P3.out⟩
      case measure=>simp[intOf];omega
     ·obtain rfl:j=m:=by omega
      have hF:L.take j=L:=List.take_of_length_le (by rw[HM.out];omega);rw[hF]at A;clear hF;go_wp2_with (at_builtin;refine wpList_append_sl _ rfl _ _ 37 rfl 73 k0 _ 3 24 Tryz.underlying37 I2.out.1 I2.out.2.1 I2.out.2.2.1 I2.out.2.2.2 rfl (by decide) _ (k+j) (instrC (stC ws++flC L)) rfl (by exact A.out.a.own.alloc _) _ 1 (instrC [(3,0,0)]) rfl (by exact RdSl.newAt _ _ _ 3 1 _ (by simp) rfl) (instrC_one _) (by unfold maxLen;omega) (by omega) ?_)
      intro v1 w3 o1 g1 b1 n1;have A1:=Lib.hid (A.out.a.next (below_alloc wr _) o1 g1 b1 (by omega));clear o1 g1 b1 n1
      go_wp2_with fail
      go_ret
      exact⟨_,rfl,by rw[HST.out,← List.append_assoc];exact A1.out.congr (by simp[stC,flC,HN.out,HM.out];omega) (by rw[instrC_append (stC ws++flC L)])⟩
end
end

section
open Go.RowKit
section
variable{w:World}
theorem grow_nil(n:Nat)(hn:n≤1000000):Calls Tryz.prog 208 #[.slice none 0 0,.int .i64 n] w fun r w'=>∃ v,r = .returned v∧Acc w w.heap.size w' 73 3 v 0 []:=by
 by_cases h0:n=0
 ·subst h0
  rw[show((0:Nat):Int)=0 from rfl]
  go_enter Tryz.func208,Tryz.ntmps208
  go_wp2_with fail
  go_ret
  exact⟨_,rfl,Acc.nil w _ _ _ _ (Below.refl _ _) (Nat.le_refl _)⟩
 ·obtain⟨i0,hi,hz0,hz1,hz2⟩:=info_parts infoInstr
  have hf:(Builtin.firstCells i0.size 0 (.slice none 0 0)).run Tryz.prog w.drew = .ok ([]:List Value).toArray w.drew:=run_firstCells_none w.drew i0.size 0 0 0;have hr:=fun ty=>Lib.run_append_grow_zeros (P:=Tryz.prog) w 37 3 ty 73 i0 _ .i64 .i64 Tryz.underlying37 Tryz.underlying3 hi hz0 none 0 0 [] hf n (by omega) (by rw[hz1];decide) (by omega) (by omega) (by rw[hz2];omega) (growslice_fits (by omega) (by rw[hz2];omega))
  have hge:=grownCap_ge w (0+n) 0 73;have hle:=grownCap_le_maxLen w (0+n) 0 73 (by unfold maxLen;omega)
  generalize grownCap w (0+n) 0 73=G at *
  have h1:¬ ((n:Int)<0):=by omega
  have h2:(0:Int)<n:=by omega
  have hle2:(0:Int)≤(n:Int):=by omega
  rw[Nat.zero_add]at hr hge;clear hf;have hle':=hle;unfold maxLen at hle'
  go_enter Tryz.func208,Tryz.ntmps208
  go_wp2_with (at_builtin;refine Lib.wpList_append_run _ rfl _ _ _ _ rfl _ _ rfl rfl _ _ (hr _) ?_)
  go_ret
  refine⟨_,rfl,?_⟩
  have hz:(Builtin.zeroCells #[.int .u8 0,.int .u64 0,.int .u64 0] n).size=n*3:=by simp[Builtin.zeroCells]
  have hz2:(Builtin.zeroCells #[.int .u8 0,.int .u64 0,.int .u64 0] (G-n)).size=(G-n)*3:=by simp[Builtin.zeroCells]
  refine⟨?_,fun g hg => ?_,?_,?_⟩
  ·have:=(OwnSl.new w (Builtin.zeroCells #[.int .u8 0,.int .u64 0,.int .u64 0] n++Builtin.zeroCells #[.int .u8 0,.int .u64 0,.int .u64 0] (G-n)) 73 3 0 G (by rw[Array.size_append,hz,hz2];omega) (Nat.zero_le _) hle).drew
   simpa using this
  ·simp[Value.ownBlock]at hg;omega
  ·exact below_alloc_drew w _
  ·simp[World.drew]
structure TwoP(w:World)(b:Nat)(pv qv:Value)(p q:List (Nat×Nat×Int)):Prop where
 c0:w.cell? ⟨b,0,none⟩=some pv
 c1:w.cell? ⟨b,1,none⟩=some qv
 p:RdSl w 3 pv p.length (instrC p)
 q:RdSl w 3 qv q.length (instrC q)
theorem TwoP.below{b:Nat}{pv qv:Value}{p q:List (Nat×Nat×Int)}{w':World}(h:TwoP w b pv qv p q)(hb:Below w.heap.size w w'):TwoP w' b pv qv p q:=
 ⟨cell_bel hb h.c0,cell_bel hb h.c1,h.p.below hb,h.q.below hb⟩
theorem concat_two(b:Nat)(pv qv:Value)(p q:List (Nat×Nat×Int))(h:TwoP w b pv qv p q)(hl:p.length+q.length≤100000) :
  Calls Tryz.prog 160 #[.slice (some ⟨b,0,none⟩) 2 2] w fun r w'=>∃ ov,r = .returned ov∧Acc w w.heap.size w' 73 3 ov (p++q).length (instrC (p++q)):=by
 have H:=Lib.hid h;obtain⟨c0,c1,⟨_,pa,pc,rfl,hpc,_⟩,⟨_,qa,qc,rfl,hqc,_⟩⟩:=h;obtain⟨k0,hi0,hz0,hz1,hz2⟩:=info_parts infoInstr;have I2:=Lib.hid (And.intro hi0 (And.intro hz0 (And.intro hz1 hz2)));clear hi0 hz0 hz1 hz2
 have HE:Hid ((p++q).length=p.length+q.length):=List.length_append
 generalize hn:p.length=n at *
 generalize hm:q.length=m at *
 have HN:=Lib.hid (And.intro hn hm);clear hn hm
 have HG:=Lib.hid (grow_nil (w:=w) (n+m) (by omega));have hs1:¬ (n:Int)<0:=by omega
 have hs2:¬ (n:Int)+m<0:=by omega
 have e01:((n+m:Nat):Int)=(n:Int)+m:=by omega
 rw[e01]at HG;clear e01
 go_enter Tryz.func160,Tryz.ntmps160
 go_wp2_with fail
 go_loop [3,11] (fun y z=>(z = .int .i64 0∧y = .int .i64 0)∨(z = .int .i64 1∧y = .int .i64 n)∨(z = .int .i64 2∧y = .int .i64 ((n:Int)+m))) (fun _ z=>2-(intOf z).toNat)
 case atStart=>exact .inl ⟨rfl,rfl⟩
 case round=>
  rcases hrel with ⟨rfl,rfl⟩ | ⟨rfl,rfl⟩ | ⟨rfl,rfl⟩
  ·go_wp2_with fail
   go_round
   case rel=>exact .inr (.inl ⟨rfl,by simp⟩)
   case measure=>simp[intOf]
  ·go_wp2_with fail
   go_round
   case rel=>exact .inr (.inr ⟨rfl,rfl⟩)
   case measure=>simp[intOf]
  ·go_wp2_with fail
   (with_reducible refine HG.out.mono ?_)
   rintro e w1 ⟨gv,rfl,a1⟩;have A1:=Lib.hid a1;have c0':=cell_bel a1.bel c0;have c1':=cell_bel a1.bel c1
   clear a1 HG c0 c1;go_wp2_with fail
   go_loopw [6,27] (fun v z wr=>(z = .int .i64 0∧Acc w w.heap.size wr 73 3 v 0 [])∨(z = .int .i64 1∧Acc w w.heap.size wr 73 3 v n (instrC p))∨(z = .int .i64 2∧Acc w w.heap.size wr 73 3 v (n+m) (instrC p++instrC q))) (fun _ z _=>2-(intOf z).toNat)
   case atStart=>exact .inl ⟨rfl,A1.out⟩
   case round=>
    clear A1
    rcases hrel with ⟨rfl,ha⟩ | ⟨rfl,ha⟩ | ⟨rfl,ha⟩
    ·have T:=Lib.hid (H.out.below ha.bel)
     obtain⟨va,vc,rfl⟩:=ha.slice;have A:=Lib.hid ha;clear ha
     have d0:=T.out.c0;have d1:=T.out.c1
     go_wp2_with (at_builtin;refine wpList_append_sl _ rfl _ _ 37 rfl 73 k0 _ 3 24 Tryz.underlying37 I2.out.1 I2.out.2.1 I2.out.2.2.1 I2.out.2.2.2 rfl (by decide) _ 0 [] rfl (by exact A.out.own) _ n (instrC p) rfl (by have:=T.out.p;rw[HN.out.1]at this;exact this) (instrC_one _) (by unfold maxLen;omega) (by omega) ?_)
     intro v1 w3 o1 g1 b1 n1;have o1':OwnSl w3 73 3 v1 (0+n) ([]++instrC p):=by rw[Nat.zero_add];exact o1
     have A2:=Lib.hid (A.out.next (Below.refl _ _) o1' g1 b1 (Nat.le_refl _));clear o1 o1' g1 b1 n1
     go_wp2_with fail
     go_roundw
     case rel=>exact .inr (.inl ⟨rfl,A2.out.congr (by omega) (by simp)⟩)
     case measure=>simp[intOf]
    ·have T:=Lib.hid (H.out.below ha.bel)
     obtain⟨va,vc,rfl⟩:=ha.slice;have A:=Lib.hid ha;clear ha
     have d0:=T.out.c0;have d1:=T.out.c1
     go_wp2_with (at_builtin;refine wpList_append_sl _ rfl _ _ 37 rfl 73 k0 _ 3 24 Tryz.underlying37 I2.out.1 I2.out.2.1 I2.out.2.2.1 I2.out.2.2.2 rfl (by decide) _ n (instrC p) rfl (by exact A.out.own) _ m (instrC q) rfl (by have:=T.out.q;rw[HN.out.2]at this;exact this) (instrC_one _) (by unfold maxLen;omega) (by omega) ?_)
     intro v1 w3 o1 g1 b1 n1;have A2:=Lib.hid (A.out.next (Below.refl _ _) o1 g1 b1 (Nat.le_refl _));clear o1 g1 b1 n1
     go_wp2_with fail
     go_roundw
     case rel=>exact .inr (.inr ⟨rfl,A2.out⟩)
     case measure=>simp[intOf]
    ·have A:=Lib.hid ha
     obtain⟨va,vc,rfl⟩:=ha.slice;clear ha;go_wp2_with fail
     go_ret
     exact⟨_,rfl,A.out.congr (by rw[List.length_append,HN.out.1,HN.out.2]) (by rw[instrC_append])⟩
theorem then_any(pv qv:Value)(p q:List (Nat×Nat×Int))(hp:RdSl w 3 pv p.length (instrC p))(hq:RdSl w 3 qv q.length (instrC q))(hl:p.length+q.length≤100000) :
  Calls Tryz.prog 69 #[pv,qv] w fun r w'=>∃ ov,r = .returned ov∧Acc w w.heap.size w' 73 3 ov (p++q).length (instrC (p++q)):=by
 have hT:TwoP (w.alloc (.cells #[pv,qv] 37)) w.heap.size pv qv p q:=⟨(Blk.new w _ _).cell rfl,(Blk.new w _ _).cell rfl,hp.alloc _,hq.alloc _⟩;have HC:=Lib.hid (concat_two _ _ _ _ _ hT hl);obtain⟨_,pa,pc,rfl,_,_⟩:=hp;obtain⟨_,qa,qc,rfl,_,_⟩:=hq;clear hT
 generalize p.length=n at *
 generalize q.length=m at *
 go_enter Tryz.func69,Tryz.ntmps69
 go_wp2_with fail
 (with_reducible refine HC.out.mono ?_)
 rintro e w1 ⟨ov,rfl,a1⟩;have A1:=Lib.hid (a1.deeper (below_alloc _ _));clear a1 HC
 go_wp2_with fail
 go_ret
 exact⟨_,rfl,A1.out⟩
end
end

section
open Go.RowKit Go.Maps
theorem flushL_ok(offs:List Nat)(h:∀ o∈offs,o<18446744073709551616):instrOk (flushL offs):=by
 intro e he;unfold flushL at he
 split at he
 ·simp at he
 ·rcases List.mem_append.1 he with h1 | h1
  ·obtain⟨l,hl,rfl⟩:=List.mem_map.1 h1
   have:=linesL_bd offs 288230376151711744 (fun o ho=>by have:=h o ho;omega) l hl;exact⟨by simp,by simp,by simp only;omega⟩
  ·simp at h1;subst h1;exact⟨by simp,by simp,by simp⟩
theorem storesL_ok(ws:List (Nat×Int))(h:∀ e∈ws,e.1<18446744073709551616):instrOk (storesL ws):=by
 intro e he;unfold storesL at he
 rcases List.mem_append.1 he with h1 | h1
 ·obtain⟨x,hx,rfl⟩:=List.mem_map.1 h1
  exact⟨by simp,by simp,h x hx⟩
 ·exact flushL_ok _ (fun o ho=>by obtain⟨x,hx,rfl⟩:=List.mem_map.1 ho;exact h x hx) e h1
theorem instrOk_append{a b:List (Nat×Nat×Int)}(ha:instrOk a)(hb:instrOk b):instrOk (a++b):=fun e he=>by
 rcases List.mem_append.1 he with h | h
 ·exact ha e h
 ·exact hb e h
theorem storesL_len(ws:List (Nat×Int)):(storesL ws).length≤2*ws.length+1:=by
 have:=flushL_len (ws.map (·.1));unfold storesL;rw[List.length_append,List.length_map];rw[List.length_map]at this;omega
section
variable{w:World}{v:DV}{own:Nat→Option Role}{D:Dev}{j:Nat}
theorem DPost.past{w1 w2:World}{D':Dev}(hb:Below w.heap.size w w1)(h:DPost v own w1 D' w2):DPost v own w D' w2:=DPost.next (fun _ _=>rfl) (Upd.of_below hb) h
theorem run_acc(h:IsDev w v own D)(hj:j<8){w1:World}{pv:Value}{P:List (Nat×Nat×Int)}(ha:Acc w w.heap.size w1 73 3 pv P.length (instrC P))(hi:instrOk P)(hl:P.length≤100000)(hx:D.exec+100000<4294967296) :
  Calls Tryz.prog 12 #[pv,.iface 40 (.pointer (some ⟨v.tb j,0,none⟩))] w1 fun r w'=>r = .returned (.int .i64 ((D.run j P).err j))∧DPost v own w (D.run j P) w':=
 (run_any (h.below ha.bel) hj pv P ha.rd (fun k hk=>by
  have:=ha.new k hk
  cases ho:own k with
  | none=>rfl
  | some r=>have:=h.lt k (by rw[ho];simp);omega) hi hl (by omega)).mono fun r w' hp=>⟨hp.1,hp.2.past ha.bel⟩
end
end

section
open Go.RowKit Go.Maps
attribute [local go_sem ↓] Go.wp_at_zero Go.wp_at_succ
def cpsA(a b:Sup)(g0 g1:Bool):Array Value:=
 #[.int .i64 a.ver,.int .i64 a.lin,.int .i64 a.redo,.int .i64 a.und,.int .i64 a.desc,.int .i64 a.que,.int .i64 a.tab,.int .u64 a.gen,
  .int .i64 b.ver,.int .i64 b.lin,.int .i64 b.redo,.int .i64 b.und,.int .i64 b.desc,.int .i64 b.que,.int .i64 b.tab,.int .u64 b.gen,.bool g0,.bool g1]
def nwB(a b:Sup)(g0 g1:Bool):Bool:=g1&&(!g0 || decide (a.gen<b.gen))
section
variable{w:World}{v:DV}{own:Nat→Option Role}{D:Dev}{j:Nat}
theorem linesOf_any(h:IsDev w v own D)(hj:j<8):Calls Tryz.prog 198 #[.iface 40 (.pointer (some ⟨v.tb j,0,none⟩))] w fun r w'=>r = .returned (.int .u64 D.n)∧w=w':=by
 have hm1:=meth_Size ⟨v.tb j,0,none⟩;have HT:=Lib.hid (thrSize_any h hj);have hq:(D.n:Int)*64/64=D.n:=by omega
 have hn:=h.wf.le;have hu:IntKind.u64.wrap (D.n:Int)=D.n:=IntWalk.u64_in _ (by omega);clear h
 go_enter Tryz.func198,Tryz.ntmps198
 go_wp2_with fail
 (with_reducible refine HT.out.mono ?_)
 rintro e w' ⟨rfl,rfl⟩;go_wp2_with fail
 go_ret
 exact⟨rfl,rfl⟩
theorem usable_any(h:IsDev w v own D)(hj:j<8)(hn:2≤D.n):Calls Tryz.prog 181 #[.iface 40 (.pointer (some ⟨v.tb j,0,none⟩))] w fun r w'=>r = .returned (.int .i64 (D.err j))∧w=w':=by
 have hm1:=meth_Err ⟨v.tb j,0,none⟩;have HT:=Lib.hid (linesOf_any h hj);have HE:=Lib.hid (err_any h hj);have hn':¬ (D.n:Int)<2:=by omega
 clear h
 go_enter Tryz.func181,Tryz.ntmps181
 go_wp2_with fail
 (with_reducible refine HT.out.mono ?_)
 rintro e w' ⟨rfl,rfl⟩;go_wp2_with fail
 (with_reducible refine HE.out.mono ?_)
 rintro e w' ⟨rfl,rfl⟩;go_wp2_with fail
 go_ret
 exact⟨rfl,rfl⟩
theorem newest_any(a b:Sup)(g0 g1:Bool)(nn:Nat)(gg:Bool)(h1:nn=if nwB a b g0 g1 then 1 else 0)(h2:gg=if nwB a b g0 g1 then true else g0) :
  Calls Tryz.prog 146 #[.agg (cpsA a b g0 g1)] w fun r w'=>r = .returned (.tuple #[.int .i64 nn,.bool gg])∧Below w.heap.size w w':=by
 obtain⟨av,al,ar,au,ad,aq,at',ag⟩:=a;obtain⟨bv,bl,br,bu,bd,bq,bt,bg⟩:=b;have HB:=Lib.hid (below_alloc w (.cells (cpsA ⟨av,al,ar,au,ad,aq,at',ag⟩ ⟨bv,bl,br,bu,bd,bq,bt,bg⟩ g0 g1) 220));unfold cpsA at *
 cases g1
 ·obtain rfl:nn=0:=h1
  obtain rfl:gg=g0:=h2
  go_enter Tryz.func146,Tryz.ntmps146
  go_wp2_with fail
  go_region
  all_goals go_wp2_with fail
  all_goals go_ret2
  all_goals exact⟨rfl,HB.out.drew⟩
 ·cases g0
  ·obtain rfl:nn=1:=h1
   obtain rfl:gg=true:=h2
   go_enter Tryz.func146,Tryz.ntmps146
   go_wp2_with fail
   go_ret2
   exact⟨rfl,HB.out⟩
  ·by_cases hg:ag<bg
   ·have hd:decide (ag<bg)=true:=by simpa using hg
    have hN:nwB ⟨av,al,ar,au,ad,aq,at',ag⟩ ⟨bv,bl,br,bu,bd,bq,bt,bg⟩ true true=true:=by unfold nwB;simp[hg]
    rw[hN]at h1 h2;obtain rfl:nn=1:=h1;obtain rfl:gg=true:=h2;clear hg hN
    go_enter Tryz.func146,Tryz.ntmps146
    go_wp2_with fail
    go_ret2
    exact⟨rfl,HB.out⟩
   ·have hd:decide (ag<bg)=false:=by simpa using hg
    have hN:nwB ⟨av,al,ar,au,ad,aq,at',ag⟩ ⟨bv,bl,br,bu,bd,bq,bt,bg⟩ true true=false:=by unfold nwB;simp[hg]
    rw[hN]at h1 h2;obtain rfl:nn=0:=h1;obtain rfl:gg=true:=h2;clear hg hN
    go_enter Tryz.func146,Tryz.ntmps146
    go_wp2_with fail
    go_region
    all_goals go_wp2_with fail
    all_goals go_ret2
    all_goals exact⟨rfl,HB.out.drew⟩
theorem program_any(hN:Nib w)(s:Sup)(hf:s.Fits)(i:Nat)(hi:i≤1):Calls Tryz.prog 147 #[.agg s.cells,.int .i64 i] w fun r w'=>∃ ov,r = .returned ov∧Acc w w.heap.size w' 73 3 ov (sbP s i).length (instrC (sbP s i)):=by
 have HE:=Lib.hid (fun wx (hx:Nib wx)=>encode_any hx s hf);have HNB:=Lib.hid hN;obtain⟨k0,hi0,hz0,hz1,hz2⟩:=info_parts infoWrite;have I2:=Lib.hid (And.intro hi0 (And.intro hz0 (And.intro hz1 hz2)));clear hi0 hz0 hz1 hz2
 obtain⟨o,ho⟩:∃ o,64*i=o:=⟨_,rfl⟩;have y1:(i:Int)*64=(o:Int):=by omega
 have ho64:o≤64:=by omega
 obtain⟨b0,b1,b2,b3,b4,b5,b6,b7,hb⟩:∃ b0 b1 b2 b3 b4 b5 b6 b7,s.words = [b0,b1,b2,b3,b4,b5,b6,b7]:=⟨_,_,_,_,_,_,_,_,rfl⟩;have HWS:Hid (sbWs s i = [(o+56,0),(o,(b0:Int)),(o+8,(b1:Int)),(o+16,(b2:Int)),(o+24,(b3:Int)),(o+32,(b4:Int)),(o+40,(b5:Int)),(o+48,(b6:Int)),(o+56,(b7:Int))]):=by
  show sbWs s i=_
  rw[sbWs_eq,hb,ho];rfl
 have HST:=Lib.hid (fun(wx:World) (sv:Value) (hx:RdSl wx 2 sv (sbWs s i).length (flat (sbWs s i)))=>stores_any sv (sbWs s i) hx (by rw[sbWs_eq];simp) (fun e he=>by have:=(sbWs_line s i (i+1) (by omega) e he).2.1;omega));have hP:sbP s i=storesL (sbWs s i):=rfl;rw[hb]at HE;rw[show wordsA [b0,b1,b2,b3,b4,b5,b6,b7] = #[.int .u64 (b0:Int),.int .u64 (b1:Int),.int .u64 (b2:Int),.int .u64 (b3:Int),.int .u64 (b4:Int),.int .u64 (b5:Int),.int .u64 (b6:Int),.int .u64 (b7:Int)]from rfl]at HE;rw[hP];rw[HWS.out]at HST ⊢;clear hP hf hb HWS hN ho hi;obtain⟨ver,lin,redo,und,desc,que,tab,gen⟩:=s;unfold Sup.cells at *
 go_enter Tryz.func147,Tryz.ntmps147
 go_wp2_with fail
 (with_reducible refine(HE.out _ (HNB.out.below (below_alloc _ _))).mono ?_)
 rintro e w1 ⟨rfl,b1'⟩;have B1:=Lib.hid ((below_alloc w (.cells #[.int .i64 ver,.int .i64 lin,.int .i64 redo,.int .i64 und,.int .i64 desc,.int .i64 que,.int .i64 tab,.int .u64 gen] 130)).trans (b1'.mono (by simp)));clear b1' HE;have hB:=B1.out.size;have A0:Hid (Acc w w.heap.size ((w1.alloc (.cells #[.int .u64 (b0:Int),.int .u64 (b1:Int),.int .u64 (b2:Int),.int .u64 (b3:Int),.int .u64 (b4:Int),.int .u64 (b5:Int),.int .u64 (b6:Int),.int .u64 (b7:Int)] 277)).alloc (.cells #[.int .u64 ((o:Int)+56),.int .u64 0] 140)) 140 2 (.slice (some ⟨w1.heap.size+1,0,none⟩) 1 1) 1 (flat [(o+56,0)])):=
  ⟨by have:=OwnSl.new (w1.alloc (.cells #[.int .u64 (b0:Int),.int .u64 (b1:Int),.int .u64 (b2:Int),.int .u64 (b3:Int),.int .u64 (b4:Int),.int .u64 (b5:Int),.int .u64 (b6:Int),.int .u64 (b7:Int)] 277)) #[.int .u64 ((o:Int)+56),.int .u64 0] 140 2 1 1 rfl (Nat.le_refl _) (by unfold maxLen;omega)
      simpa [flat]using this,
   fun g hg=>by simp[Value.ownBlock]at hg;omega,B1.out.trans ((below_twice w1 _ _).mono B1.out.size),by simp;omega⟩
 go_wp2_with fail
 go_loopw [7,20] (fun sv y wr=>∃ k:Nat,k≤8∧y = .int .i64 k∧Acc w w.heap.size wr 140 2 sv (k+1) (flat (([(o+56,0),(o,(b0:Int)),(o+8,(b1:Int)),(o+16,(b2:Int)),(o+24,(b3:Int)),(o+32,(b4:Int)),(o+40,(b5:Int)),(o+48,(b6:Int)),(o+56,(b7:Int))]:List (Nat×Int)).take (k+1)))) (fun _ y _=>8-(intOf y).toNat)
 case atStart=>exact⟨0,by omega,rfl,A0.out⟩
 case round=>
  clear A0;obtain⟨k,hk,rfl,ha⟩:=hrel;obtain⟨qa,qc,hov⟩:=ha.slice;subst hov;have A:=Lib.hid ha;clear ha
  by_cases hlt:k<8
  ·obtain⟨x,hx⟩:∃ x:Nat,x = [b0,b1,b2,b3,b4,b5,b6,b7].getD k 0:=⟨_,rfl⟩
   have HT:Hid (flat (([(o+56,0),(o,(b0:Int)),(o+8,(b1:Int)),(o+16,(b2:Int)),(o+24,(b3:Int)),(o+32,(b4:Int)),(o+40,(b5:Int)),(o+48,(b6:Int)),(o+56,(b7:Int))]:List (Nat×Int)).take (k+1+1))=flat (([(o+56,0),(o,(b0:Int)),(o+8,(b1:Int)),(o+16,(b2:Int)),(o+24,(b3:Int)),(o+32,(b4:Int)),(o+40,(b5:Int)),(o+48,(b6:Int)),(o+56,(b7:Int))]:List (Nat×Int)).take (k+1))++flat [(o+8*k,(x:Int))]):=by
    show flat _=_
    rw[← flat_append]
    congr 1
    subst hx;obtain rfl | rfl | rfl | rfl | rfl | rfl | rfl | rfl:k=0∨k=1∨k=2∨k=3∨k=4∨k=5∨k=6∨k=7:=by omega
    all_goals rfl
   have hk':(k:Int)<8:=by omega
   have hix:∀ wx,(Instr.index 277 (.agg #[.int .u64 (b0:Int),.int .u64 (b1:Int),.int .u64 (b2:Int),.int .u64 (b3:Int),.int .u64 (b4:Int),.int .u64 (b5:Int),.int .u64 (b6:Int),.int .u64 (b7:Int)]) (.int .i64 (k:Int))).run Tryz.prog wx = .ok (.int .u64 (x:Int)) wx:=by
    intro wx;subst hx;obtain rfl | rfl | rfl | rfl | rfl | rfl | rfl | rfl:k=0∨k=1∨k=2∨k=3∨k=4∨k=5∨k=6∨k=7:=by omega
    all_goals kernel_rfl
   obtain⟨t,ht⟩:∃ t,o+8*k=t:=⟨_,rfl⟩;have ht2:(o:Int)+(k:Int)*8=(t:Int):=by omega
   rw[ht]at HT;have htl:t<200:=by omega
   clear hx ht;go_wp2_with (at_builtin;refine wpList_append_sl _ rfl _ _ 52 rfl 140 k0 _ 2 16 Tryz.underlying52 I2.out.1 I2.out.2.1 I2.out.2.2.1 I2.out.2.2.2 rfl (by decide) _ (k+1) (flat (([(o+56,0),(o,(b0:Int)),(o+8,(b1:Int)),(o+16,(b2:Int)),(o+24,(b3:Int)),(o+32,(b4:Int)),(o+40,(b5:Int)),(o+48,(b6:Int)),(o+56,(b7:Int))]:List (Nat×Int)).take (k+1))) rfl (by exact A.out.own.alloc _) _ 1 (flat [(t,(x:Int))]) rfl (by exact RdSl.newAt _ _ _ 2 1 _ (by simp) rfl) (flat_one _) (by unfold maxLen;omega) (by omega) ?_)
   intro v1 w4 o1 g1 n1 m1;have A4:=Lib.hid (A.out.next (below_alloc wr _) o1 g1 n1 (by simp));clear o1 g1 n1 m1 A
   go_wp2_with fail
   go_roundw
   case rel=>exact⟨k+1,by omega,by go_num,A4.out.congr rfl HT.out.symm⟩
   case measure=>simp[intOf];omega
  ·obtain rfl:k=8:=by omega
   have HS:=Lib.hid (HST.out _ _ A.out.rd);go_wp2_with fail
   (with_reducible refine HS.out.mono ?_)
   rintro e w4 ⟨ov,rfl,a4⟩;have A4:=Lib.hid (a4.deeper A.out.bel);clear a4
   go_wp2_with fail
   go_ret
   exact⟨_,rfl,A4.out⟩
end
end
section
open Go.RowKit Go.Maps
attribute [local go_sem ↓] Go.wp_at_zero Go.wp_at_succ
theorem nilB_Load(a:Addr)(w:World):(nilAhead 461 40 (.pointer (some a)) "Load").run Tryz.prog w = .ok (some false) w:=by kernel_rfl
theorem Sup.ex(s:Sup):∃ z0 z1 z2 z3 z4 z5 z6 z7,s=⟨z0,z1,z2,z3,z4,z5,z6,z7⟩:=⟨_,_,_,_,_,_,_,_,rfl⟩
structure LdSt(w:World)(A:Array Value)(wr:World):Prop where
 res:Blk wr w.heap.size (cpsA Sup.zero Sup.zero false false) 220
 cps:Blk wr (w.heap.size+1) A 220
 bel:Below w.heap.size w wr
section
variable{w wr wz:World}{v:DV}{own:Nat→Option Role}{D:Dev}{j:Nat}{A:Array Value}
theorem LdSt.next(h:LdSt w A wr)(hb:Below wr.heap.size wr wz):LdSt w A wz:=⟨h.res.below hb,h.cps.below hb,h.bel.trans (hb.mono h.bel.size)⟩
theorem LdSt.set(h:LdSt w A wr)(k:Nat)(u:Value):LdSt w (A.setIfInBounds k u) (wr.setCell ⟨w.heap.size+1,k,none⟩ u):=⟨h.res.other (by simp) u,h.cps.set k u,h.bel.setCell (by simp) u⟩
theorem LdSt.start:LdSt w (cpsA Sup.zero Sup.zero false false) ((w.alloc (.cells (cpsA Sup.zero Sup.zero false false) 220)).alloc (.cells (cpsA Sup.zero Sup.zero false false) 220)):=by
 refine⟨(Blk.new w _ _).alloc _,?_,below_twice w _ _⟩
 have:=Blk.new (w.alloc (.cells (cpsA Sup.zero Sup.zero false false) 220)) (cpsA Sup.zero Sup.zero false false) 220;simpa using this
theorem cps_set0(a b:Sup)(g0 g1 g:Bool)(z0 z1 z2 z3 z4 z5 z6 z7:Int):(((((((((cpsA a b g0 g1).setIfInBounds 0 (.int .i64 z0)).setIfInBounds 1 (.int .i64 z1)).setIfInBounds 2 (.int .i64 z2)).setIfInBounds 3 (.int .i64 z3)).setIfInBounds 4 (.int .i64 z4)).setIfInBounds 5 (.int .i64 z5)).setIfInBounds 6 (.int .i64 z6)).setIfInBounds 7 (.int .u64 z7)).setIfInBounds 16 (.bool g)=cpsA ⟨z0,z1,z2,z3,z4,z5,z6,z7⟩ b g g1:=by
 simp[cpsA]
theorem cps_set1(a b:Sup)(g0 g1 g:Bool)(z0 z1 z2 z3 z4 z5 z6 z7:Int):(((((((((cpsA a b g0 g1).setIfInBounds 8 (.int .i64 z0)).setIfInBounds 9 (.int .i64 z1)).setIfInBounds 10 (.int .i64 z2)).setIfInBounds 11 (.int .i64 z3)).setIfInBounds 12 (.int .i64 z4)).setIfInBounds 13 (.int .i64 z5)).setIfInBounds 14 (.int .i64 z6)).setIfInBounds 15 (.int .u64 z7)).setIfInBounds 17 (.bool g)=cpsA a ⟨z0,z1,z2,z3,z4,z5,z6,z7⟩ g0 g:=by
 simp[cpsA]
theorem results_ct{P:Program}{fn:Func}{p u:Tmp}{ty:TypeId}(h:fn.results = #[.cell p ty,.tmp u])(tmps:Array Value)(wx:World)(g:Nat)(t:TypeId)(cs:Array Value)(d:TypeDesc)
  (hp:tmps.getD p undef = .pointer (some ⟨g,0,none⟩)) (hg:wx.heap[g]? = some (.cells cs t (0,0))) (hu:P.underlying ty=some d) (hd:(match d with | .struct _ | .array _ _=>true | _=>false)=true) (hi:(P.info? ty).map (·.size)=some cs.size)
  (x:Value) (hx:tmps.getD u undef=x):(results fn tmps).run P wx = .ok (.tuple #[.agg cs,x]) wx:=by
 rw[results_cell_tmp h,hp,hx];simp[asAddr,run_loadVar_row wx g t ty cs (0,0) d hg hu hd hi]
def ldA(C:Nat→Int)(n i:Nat):Array Value:=if i=0 then cpsA Sup.zero Sup.zero false false else if i=1 then cpsA (cpS C n 0) Sup.zero (cpG C n 0) false else cpsA (cpS C n 0) (cpS C n 1) (cpG C n 0) (cpG C n 1)
structure WdMid(wr0:World)(g:Nat)(F:Nat→Int)(k:Nat)(wr:World):Prop where
 row:Row wr g 8 277 (fun i => .int .u64 (if i<k then F i else 0))
 bel:Below g wr0 wr
theorem WdMid.start(F:Nat→Int):WdMid wr wr.heap.size F 0 (wr.alloc (.cells #[.int .u64 0,.int .u64 0,.int .u64 0,.int .u64 0,.int .u64 0,.int .u64 0,.int .u64 0,.int .u64 0] 277)):=
 ⟨Row.new wr _ _ _ _ (fun i hi=>by
  obtain rfl | rfl | rfl | rfl | rfl | rfl | rfl | rfl:i=0∨i=1∨i=2∨i=3∨i=4∨i=5∨i=6∨i=7:=by omega
  all_goals rfl),below_alloc wr _⟩
theorem WdMid.step{wr0:World}{g k:Nat}{F:Nat→Int}{x:Int}(h:WdMid wr0 g F k wr)(hx:F k=x):WdMid wr0 g F (k+1) (wr.setCell ⟨g,k,none⟩ (.int .u64 x)):=by
 subst hx;refine⟨(h.row.set k (.int .u64 (F k))).congr (fun i _ => ?_),h.bel.setCell (Nat.le_refl _) _⟩
 by_cases e:i=k
 ·subst e;simp
 ·simp only[if_neg e]
  by_cases e2:i<k
  ·rw[if_pos e2,if_pos (by omega)]
  ·rw[if_neg e2,if_neg (by omega)]
theorem sbload_any(hN:Nib w)(h:IsDev w v own D)(hj:j<8)(hof:D.off=false)(hvb:D.VB)(hn:2≤D.n) :
  Calls Tryz.prog 145 #[.iface 40 (.pointer (some ⟨v.tb j,0,none⟩))] w fun r w'=>r = .returned (.tuple #[.agg (ldA D.cur D.n 2),.int .i64 (D.err j)])∧Below w.heap.size w w':=by
 have hm1:=meth_Load ⟨v.tb j,0,none⟩;have hn1:=nilB_Load ⟨v.tb j,0,none⟩;have hm2:=meth_Err ⟨v.tb j,0,none⟩
 have H:=Lib.hid h;have HV:=Lib.hid hvb;have HNB:=Lib.hid hN
 have hn2:=h.wf.le;have HLO:=Lib.hid (fun wx (hx:IsDev wx v own D)=>linesOf_any hx hj);have HER:=Lib.hid (fun wx (hx:IsDev wx v own D)=>err_any hx hj);have HLD:=Lib.hid (fun wx (hx:IsDev wx v own D) (o:Nat) (h8:o%8=0) (hl:o<64*D.n)=>load_ok hx hj o hof h8 hl);have S0:=Lib.hid (LdSt.start (w:=w));have HDC:=Lib.hid (fun(wx:World) (hx:Nib wx) (i:Nat)=>decode_any hx (D.cur (8*i)).toNat (D.cur (8*i+1)).toNat (D.cur (8*i+2)).toNat (D.cur (8*i+3)).toNat (D.cur (8*i+4)).toNat (D.cur (8*i+5)).toNat (D.cur (8*i+6)).toNat (D.cur (8*i+7)).toNat D.n (by have:=hvb.cur (8*i+1);omega) (by have:=hvb.cur (8*i+2);omega) (by have:=hvb.cur (8*i+3);omega) (by omega));have HA0:Hid (ldA D.cur D.n 0=cpsA Sup.zero Sup.zero false false):=rfl;have HA1:Hid (ldA D.cur D.n 1=cpsA (cpS D.cur D.n 0) Sup.zero (cpG D.cur D.n 0) false):=rfl;clear h hN hvb
 go_enter Tryz.func145,Tryz.ntmps145
 go_wp2_with fail
 (with_reducible refine(HLO.out _ ((H.out.alloc _).alloc _)).mono ?_)
 rintro e w' ⟨rfl,rfl⟩;go_wp2_with fail
 go_loopw [11] (fun y wr=>∃ i:Nat,i≤2∧y = .int .i64 i∧LdSt w (ldA D.cur D.n i) wr) (fun y _=>2-(intOf y).toNat)
 case atStart=>exact⟨0,by omega,rfl,S0.out⟩
 case round=>
  clear S0;obtain⟨i,hi,rfl,hs⟩:=hrel;have S:=Lib.hid hs;clear hs
  by_cases hlt:i<2
  ·have hi':(i:Int)<2:=by omega
   have M0:=Lib.hid (WdMid.start (wr:=wr) (fun k=>D.cur (8*i+k)));have S1:=Lib.hid (S.out.next (below_alloc wr (.cells #[.int .u64 0,.int .u64 0,.int .u64 0,.int .u64 0,.int .u64 0,.int .u64 0,.int .u64 0,.int .u64 0] 277)));have hwsz:w.heap.size+1<wr.heap.size:=S.out.cps.lt;go_wp2_with fail
   go_loopw [14] (fun y wq=>∃ k:Nat,k≤8∧y = .int .i64 k∧WdMid wr wr.heap.size (fun k=>D.cur (8*i+k)) k wq) (fun y _=>8-(intOf y).toNat)
   case atStart=>exact⟨0,by omega,rfl,M0.out⟩
   case round=>
    clear M0 S1;obtain⟨k,hk,rfl,hM⟩:=hrel;rename World=>wq
    have M:=Lib.hid hM;have SQ:=Lib.hid (S.out.next (hM.bel))
    by_cases hlt2:k<8
    ·have hk':(k:Int)<8:=by omega
     have hcell:=hM.row.cell (i:=k) hlt2;have hfro:=hM.row.frozen k;have hgl:=hM.row.lt;have hLk:=fun wy hy=>HLD.out wy hy (64*i+8*k) (by omega) (by omega)
     rw[show(64*i+8*k)/8=8*i+k by omega]at hLk;obtain⟨x,hx⟩:∃ x,D.cur (8*i+k)=x:=⟨_,rfl⟩;rw[hx]at hLk;have HX:=Lib.hid hx;obtain⟨q,hq⟩:∃ q,64*i+8*k=q:=⟨_,rfl⟩;rw[hq]at hLk;have hq2:(i:Int)*64+(k:Int)*8=(q:Int):=by omega
     have HLK:=Lib.hid hLk;have hqb:q<200:=by omega
     generalize (if k<k then D.cur (8*i+k)else 0)=old at *
     clear hM hLk hx hq;go_wp2_with fail
     (with_reducible refine(HLK.out _ (H.out.below SQ.out.bel)).mono ?_)
     rintro e w' ⟨rfl,rfl⟩;go_wp2_with fail
     go_roundw
     case rel=>exact⟨k+1,by omega,by go_num,M.out.step HX.out⟩
     case measure=>simp[intOf];omega
    ·obtain rfl:k=8:=by omega
     have hrow:Row wq wr.heap.size 8 277 (fun q => .int .u64 (D.cur (8*i+q))):=hM.row.congr (fun q hq=>by rw[if_pos hq]);have hc:∀ q,q<8→wq.cell? ⟨wr.heap.size,q,none⟩=some (.int .u64 (((D.cur (8*i+q)).toNat:Nat):Int)):=fun q hq=>by
      rw[hrow.cell hq,Int.toNat_of_nonneg (HV.out.cur _).1]
     have c0:=hc 0 (by omega);have c1:=hc 1 (by omega);have c2:=hc 2 (by omega);have c3:=hc 3 (by omega)
     have c4:=hc 4 (by omega);have c5:=hc 5 (by omega);have c6:=hc 6 (by omega);have c7:=hc 7 (by omega)
     rw[Nat.add_zero]at c0;have HD:=Lib.hid (HDC.out wq (HNB.out.below SQ.out.bel) i);have hS:decoded [(D.cur (8*i)).toNat,(D.cur (8*i+1)).toNat,(D.cur (8*i+2)).toNat,(D.cur (8*i+3)).toNat,(D.cur (8*i+4)).toNat,(D.cur (8*i+5)).toNat,(D.cur (8*i+6)).toNat,(D.cur (8*i+7)).toNat] D.n=cpS D.cur D.n i:=rfl;have hG:goodB [(D.cur (8*i)).toNat,(D.cur (8*i+1)).toNat,(D.cur (8*i+2)).toNat,(D.cur (8*i+3)).toNat,(D.cur (8*i+4)).toNat,(D.cur (8*i+5)).toNat,(D.cur (8*i+6)).toNat,(D.cur (8*i+7)).toNat] D.n=cpG D.cur D.n i:=rfl;rw[hS,hG]at HD;have hL:ldA D.cur D.n (i+1)=if i=0 then cpsA (cpS D.cur D.n 0) Sup.zero (cpG D.cur D.n 0) false else cpsA (cpS D.cur D.n 0) (cpS D.cur D.n 1) (cpG D.cur D.n 0) (cpG D.cur D.n 1):=by
      unfold ldA;rw[if_neg (by omega)]
      by_cases h:i=0
      ·subst h;rfl
      ·rw[if_neg (by omega),if_neg h]
     have HL2:=Lib.hid hL
     generalize (D.cur (8*i)).toNat=a0 at *
     generalize (D.cur (8*i+1)).toNat=a1 at *
     generalize (D.cur (8*i+2)).toNat=a2 at *
     generalize (D.cur (8*i+3)).toNat=a3 at *
     generalize (D.cur (8*i+4)).toNat=a4 at *
     generalize (D.cur (8*i+5)).toNat=a5 at *
     generalize (D.cur (8*i+6)).toNat=a6 at *
     generalize (D.cur (8*i+7)).toNat=a7 at *
     rw[show wordsA [a0,a1,a2,a3,a4,a5,a6,a7] = #[.int .u64 (a0:Int),.int .u64 (a1:Int),.int .u64 (a2:Int),.int .u64 (a3:Int),.int .u64 (a4:Int),.int .u64 (a5:Int),.int .u64 (a6:Int),.int .u64 (a7:Int)]from rfl]at HD;clear hM hrow hc hL hS hG HLD M;go_wp2_with fail
     (with_reducible refine HD.out.mono ?_)
     rintro e w3 ⟨rfl,b3⟩;have S3:=Lib.hid (SQ.out.next b3);clear b3 HD c0 c1 c2 c3 c4 c5 c6 c7;obtain rfl | rfl:i=0∨i=1:=by omega
     ·have Q:=S3.out
      rw[HA0.out]at Q;have QH:=Lib.hid Q;have f0:=Q.cps.frozen 0;have f1:=Q.cps.frozen 1;have f2:=Q.cps.frozen 2;have f3:=Q.cps.frozen 3;have f4:=Q.cps.frozen 4;have f5:=Q.cps.frozen 5;have f6:=Q.cps.frozen 6;have f7:=Q.cps.frozen 7;have f16:=Q.cps.frozen 16
      have r0:=Q.cps.cell (i:=0) rfl;have r1:=Q.cps.cell (i:=1) rfl;have r2:=Q.cps.cell (i:=2) rfl;have r3:=Q.cps.cell (i:=3) rfl;have r4:=Q.cps.cell (i:=4) rfl;have r5:=Q.cps.cell (i:=5) rfl;have r6:=Q.cps.cell (i:=6) rfl;have r7:=Q.cps.cell (i:=7) rfl;have r16:=Q.cps.cell (i:=16) rfl
      obtain⟨z0,z1,z2,z3,z4,z5,z6,z7,hz⟩:=Sup.ex (cpS D.cur D.n 0);have HZ:=Lib.hid hz;have HL3:=HL2.out;rw[hz]at HL3;rw[hz,show(⟨z0,z1,z2,z3,z4,z5,z6,z7⟩:Sup).cells = #[.int .i64 z0,.int .i64 z1,.int .i64 z2,.int .i64 z3,.int .i64 z4,.int .i64 z5,.int .i64 z6,.int .u64 z7]from rfl,show((0:Nat):Int)=0 from rfl];have HL4:=Lib.hid HL3
      generalize cpG D.cur D.n 0=g at *
      clear Q hz HL3 S3 SQ S HL2;go_wp2_with fail
      go_roundw
      case rel=>
       have hq:=(((((((((QH.out.set 0 (.int .i64 z0)).set 1 (.int .i64 z1)).set 2 (.int .i64 z2)).set 3 (.int .i64 z3)).set 4 (.int .i64 z4)).set 5 (.int .i64 z5)).set 6 (.int .i64 z6)).set 7 (.int .u64 z7)).set 16 (.bool g));rw[cps_set0]at hq;refine⟨1,by omega,by go_num,?_⟩
       rw[HL4.out];exact hq
      case measure=>simp[intOf]
     ·have Q:=S3.out
      rw[HA1.out]at Q;have QH:=Lib.hid Q;have f8:=Q.cps.frozen 8;have f9:=Q.cps.frozen 9;have f10:=Q.cps.frozen 10;have f11:=Q.cps.frozen 11;have f12:=Q.cps.frozen 12;have f13:=Q.cps.frozen 13;have f14:=Q.cps.frozen 14;have f15:=Q.cps.frozen 15;have f17:=Q.cps.frozen 17
      have r8:=Q.cps.cell (i:=8) rfl;have r9:=Q.cps.cell (i:=9) rfl;have r10:=Q.cps.cell (i:=10) rfl;have r11:=Q.cps.cell (i:=11) rfl;have r12:=Q.cps.cell (i:=12) rfl;have r13:=Q.cps.cell (i:=13) rfl;have r14:=Q.cps.cell (i:=14) rfl;have r15:=Q.cps.cell (i:=15) rfl;have r17:=Q.cps.cell (i:=17) rfl
      obtain⟨z0,z1,z2,z3,z4,z5,z6,z7,hz⟩:=Sup.ex (cpS D.cur D.n 1);have HZ:=Lib.hid hz;have HL3:=HL2.out;rw[hz]at HL3;rw[hz,show(⟨z0,z1,z2,z3,z4,z5,z6,z7⟩:Sup).cells = #[.int .i64 z0,.int .i64 z1,.int .i64 z2,.int .i64 z3,.int .i64 z4,.int .i64 z5,.int .i64 z6,.int .u64 z7]from rfl,show((1:Nat):Int)=1 from rfl];have HL4:=Lib.hid HL3
      generalize cpG D.cur D.n 1=g at *
      clear Q hz HL3 S3 SQ S HL2;go_wp2_with fail
      go_roundw
      case rel=>
       have hq:=(((((((((QH.out.set 8 (.int .i64 z0)).set 9 (.int .i64 z1)).set 10 (.int .i64 z2)).set 11 (.int .i64 z3)).set 12 (.int .i64 z4)).set 13 (.int .i64 z5)).set 14 (.int .i64 z6)).set 15 (.int .u64 z7)).set 17 (.bool g));rw[cps_set1]at hq;refine⟨2,by omega,by go_num,?_⟩
       rw[HL4.out];exact hq
      case measure=>simp[intOf]
  ·obtain rfl:i=2:=by omega
   have QH:=S;have HSZ:Hid (18=(ldA D.cur D.n 2).size):=rfl;have HOC:Hid ((ldA D.cur D.n 2).all (·.oneCell')=true):=by show(cpsA _ _ _ _).all (·.oneCell')=true;simp[cpsA,Value.oneCell']
   have HSI:Hid ((Tryz.prog.info? 220).map (·.size)=some (ldA D.cur D.n 2).size):=by show _=_;rw[← HSZ.out];kernel_rfl
   clear S HA0 HA1 HDC HLD HLO
   generalize hAA:ldA D.cur D.n 2=A at *
   have HAA:=Lib.hid hAA;clear hAA
   go_upto_region 14 with fail
   refine wp_region_any (by kernel_rfl) ?_
   change wpAny _ _ _ _ _ _ _ (World.drew _)
   refine wpAny_take (i:=1) (v:=.iface 40 (.pointer (some ⟨v.tb j,0,none⟩))) rfl (by kernel_rfl) (by kernel_rfl) (by kernel_rfl) (fun _ _ _ h=>h) (Or.inl ⟨by kernel_rfl,fun w=>by go_simp⟩) ?_
   refine wpAny_ready (rs := [0,2]) (by kernel_rfl) (by simp) ?_
   refine AllReady.cons rfl (fun K hK => ?_) (AllReady.cons rfl (fun K hK => ?_) AllReady.nil)
   ·refine wp_load_row 220 (.tmp 4) rfl (w.heap.size+1) rfl 220 A (0,0) _ QH.out.cps.drew Tryz.underlying220 rfl HSI.out ?_
    refine hK _ _ ?_
    clear hK K;refine wpAny_ready (rs := [2]) (by kernel_rfl) (by simp) ?_
    refine AllReady.cons rfl (fun K hK => ?_) AllReady.nil
    go_simp
    (with_reducible refine(HER.out _ (H.out.below (QH.out.bel.drew))).mono ?_)
    rintro e w' ⟨rfl,rfl⟩
    go_simp
    refine hK _ _ ?_
    clear hK K;refine wpAny_ready (rs := [3]) (by kernel_rfl) (by simp) ?_
    refine AllReady.cons rfl (fun K hK => ?_) AllReady.nil
    refine wp_store_row 220 (.tmp 2) (.tmp 41) rfl w.heap.size A rfl rfl 220 (cpsA Sup.zero Sup.zero false false) QH.out.res.drew HSI.out HSZ.out HOC.out ?_
    refine hK _ _ ?_
    clear hK K;refine wpAny_ready (rs := [4]) (by kernel_rfl) (by simp) ?_
    refine AllReady.cons rfl (fun K hK => ?_) AllReady.nil
    go_simp
    refine hK _ _ ?_
    clear hK K;refine wpAny_done (by kernel_rfl) ?_ _
    go_wp2_with fail
    refine bodyPost_ret (v:=.tuple #[.agg A,.int .i64 (D.err j)]) (results_ct Tryz.results145 _ _ _ _ A _ rfl (setRow_heap _ _ _ A 220 (0,0) QH.out.res.drew) Tryz.underlying220 rfl HSI.out _ rfl) rfl ⟨by rw[HAA.out],below_setRow QH.out.bel.drew (Nat.le_refl _) A⟩
   ·go_simp
    (with_reducible refine(HER.out _ (H.out.below (QH.out.bel.drew))).mono ?_)
    rintro e w' ⟨rfl,rfl⟩
    go_simp
    refine hK _ _ ?_
    clear hK K;refine wpAny_ready (rs := [0]) (by kernel_rfl) (by simp) ?_
    refine AllReady.cons rfl (fun K hK => ?_) AllReady.nil
    refine wp_load_row 220 (.tmp 4) rfl (w.heap.size+1) rfl 220 A (0,0) _ QH.out.cps.drew Tryz.underlying220 rfl HSI.out ?_
    refine hK _ _ ?_
    clear hK K;refine wpAny_ready (rs := [3]) (by kernel_rfl) (by simp) ?_
    refine AllReady.cons rfl (fun K hK => ?_) AllReady.nil
    refine wp_store_row 220 (.tmp 2) (.tmp 41) rfl w.heap.size A rfl rfl 220 (cpsA Sup.zero Sup.zero false false) QH.out.res.drew HSI.out HSZ.out HOC.out ?_
    refine hK _ _ ?_
    clear hK K;refine wpAny_ready (rs := [4]) (by kernel_rfl) (by simp) ?_
    refine AllReady.cons rfl (fun K hK => ?_) AllReady.nil
    go_simp
    refine hK _ _ ?_
    clear hK K;refine wpAny_done (by kernel_rfl) ?_ _
    go_wp2_with fail
    refine bodyPost_ret (v:=.tuple #[.agg A,.int .i64 (D.err j)]) (results_ct Tryz.results145 _ _ _ _ A _ rfl (setRow_heap _ _ _ A 220 (0,0) QH.out.res.drew) Tryz.underlying220 rfl HSI.out _ rfl) rfl ⟨by rw[HAA.out],below_setRow QH.out.bel.drew (Nat.le_refl _) A⟩
end
end
end Go.Proofs.YtlhchkajjpefmaaGreatDoor
