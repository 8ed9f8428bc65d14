/- Lemmas and walks, part 32: each theorem says what it proves; no condition beside its own. -/
import Derived.Test.YtlhchkajjpefmaaGreatDoorK31
import Derived.Test.YtlhchkajjpefmaaGreatDoorTie
import Derived.LaidMore
import Derived.Lay
import Derived.Lib.SmallJoins
set_option maxHeartbeats 16000000
set_option maxRecDepth 100000
namespace Go.Proofs.YtlhchkajjpefmaaGreatDoor
open Lib(hid)
open Go.RowKit Go.Proofs.Tryz
section
open Go.ChangeShapes Go.WideShapes Go.ChangeAt Go.RowKit Go.Joins
def Gw:List (String×DataW Unit) := [("bedrock/crc.nibbles",Rows.laid_bedrock_crc_nibbles),("unicode/utf8.acceptRanges",Rows.laid_unicode_utf8_acceptRanges),("unicode/utf8.first",Rows.laid_unicode_utf8_first)]
def Q1t:List (DataW Unit):=(List.range 16).map fun i => .lit (.int .u32 (Qhs i:Nat))
theorem Qxx:(Rows.laid_bedrock_crc_nibbles:DataW Unit) = .agg Q1t:=by rfl
theorem Qoy{w:World}{base:Nat}{spare:Nat->Bool}{held:Bool}{fuel:Nat}{enc:TypeId×Value->Unit}{cs:List Value}{ps:List MemPlace}(h:DataW.trod enc prog w base spare held fuel 297 cs=some (.agg Q1t,ps))(i:Nat)(hi:i<16):cs[i]? = some (.int .u32 (Qhs i:Nat)):=by
 have c5:Tryz.prog.cellsOf 208=1:=by kernel_rfl
 obtain⟨xs,m,_,ex,hlen,hl,hel⟩:=DataW.trod_array underlying297 h;have e1:Q1t=xs.map (·.1):=DataW.agg.inj (Prod.mk.inj ex).1;have hk:=hel i hi;rw[c5,Nat.mul_one]at hk;have hcl:cs.length=16:=by rw[hlen];kernel_rfl
 obtain⟨c,hc⟩:∃ c,cs[i]? = some c:=⟨_,List.getElem?_eq_getElem (by omega)⟩;have ht:(cs.drop i).take 1 = [c]:=by
  rw[List.drop_eq_getElem_cons (by omega)];rw[List.getElem?_eq_getElem (by omega)]at hc;rw[Option.some.inj hc];rfl
 rw[ht]at hk;obtain⟨x,hx⟩:∃ x,xs[i]? = some x:=⟨_,List.getElem?_eq_getElem (by omega)⟩;rw[hx]at hk;obtain⟨z,a0,b0,_⟩:=DataW.trod_int underlying208 hk;have e2:Q1t[i]? = some (.lit (.int .u32 (Qhs i:Nat))):=by unfold Q1t;rw[List.getElem?_map,List.getElem?_range hi];rfl
 rw[e1,List.getElem?_map,hx]at e2;simp only[Option.map_some,Option.some.injEq]at e2;rw[hc]
 simp_all
theorem Kc{W:World}(h:laidMetH prog Gw W):Nib W:=by
 rw[MakeChecks.laidMetH_plain _ _ _ (by kernel_rfl)]at h;obtain⟨ps,⟨g,t,cs,fuel,p,q,hg,ht,hv,hd,_,_⟩,_,_⟩:=h;obtain rfl:=Option.some.inj ((show Tryz.prog.globalNamed "bedrock/crc.nibbles" = some 0 by kernel_rfl).symm.trans hg)
 obtain rfl:=Option.some.inj ((show(Tryz.prog.globals[0]?).map (·.type)=some 297 by kernel_rfl).symm.trans ht);rw[Qxx]at hd;exact fun i hi=>(World.var?_cell hg hv i).trans (by have:=Qoy hd i hi;simpa using this)
end
end Go.Proofs.YtlhchkajjpefmaaGreatDoor
