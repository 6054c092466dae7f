/- ChainFull: a part of its proof; conditions: its statement's. -/
import Derived.Test.YtefepnnfphdkpaaGreatD01
import Derived.Test.YtefepnnfphdkpaaGreatProg
import Derived.KernelRfl
import Derived.Test.YtefepnnfphdkpaaGreatD14
namespace Go.Proofs.YtefepnnfphdkpaaGreat.Am
open Go
theorem kC : bk Tryz.prog 3=some 1:=by kernel_rfl
theorem dS : b6 Tryz.prog 3=some false:=by kernel_rfl
theorem tG : zeroT Tryz.prog 3=some (.int .i64 0):=by kernel_rfl
theorem yf : bk Tryz.prog 4=some 1:=by kernel_rfl
theorem nU : b6 Tryz.prog 4=some false:=by kernel_rfl
theorem UE : bk Tryz.prog 5=some 1:=by kernel_rfl
theorem vG : b6 Tryz.prog 24=some false:=by kernel_rfl
theorem RT : bk Tryz.prog 26=some 1:=by kernel_rfl
theorem Ib : b6 Tryz.prog 26=some false:=by kernel_rfl
theorem kI : bk Tryz.prog 28=some 1:=by kernel_rfl
theorem bK : b6 Tryz.prog 28=some false:=by kernel_rfl
theorem oz : zeroT Tryz.prog 28=some .bn:=by kernel_rfl
theorem VU : bk Tryz.prog 30=some 1:=by kernel_rfl
theorem VV : b6 Tryz.prog 30=some false:=by kernel_rfl
theorem VW : zeroT Tryz.prog 30=some (.int .i64 0):=by kernel_rfl
theorem Mn : bk Tryz.prog 33=some 1:=by kernel_rfl
theorem mK : b6 Tryz.prog 33=some false:=by kernel_rfl
theorem VX : zeroT Tryz.prog 33=some .bn:=by kernel_rfl
theorem Ic : bk Tryz.prog 43=some 1:=by kernel_rfl
theorem nF : b6 Tryz.prog 43=some false:=by kernel_rfl
theorem RU : bk Tryz.prog 46=some 1:=by kernel_rfl
theorem BF : b6 Tryz.prog 46=some false:=by kernel_rfl
theorem ur : bk Tryz.prog 48=some 6:=by kernel_rfl
theorem BG : b6 Tryz.prog 48=some true:=by kernel_rfl
theorem Mo : zeroT Tryz.prog 48=some (.agg [(.int .i64 0),(.int .u64 0),(.int .u64 0),(.int .u64 0),.bn,.bn]):=by kernel_rfl
theorem vH (a b:Nat): fieldAddrV Tryz.prog 48 (.ptr a b) 0=some (.ptr a (b+0)):=by kernel_rfl
theorem RV (a b:Nat): fieldAddrV Tryz.prog 48 (.ptr a b) 1=some (.ptr a (b+1)):=by kernel_rfl
theorem RW (a b:Nat): fieldAddrV Tryz.prog 48 (.ptr a b) 2=some (.ptr a (b+2)):=by kernel_rfl
theorem RX (a b:Nat): fieldAddrV Tryz.prog 48 (.ptr a b) 3=some (.ptr a (b+3)):=by kernel_rfl
theorem RY (a b:Nat): fieldAddrV Tryz.prog 48 (.ptr a b) 4=some (.ptr a (b+4)):=by kernel_rfl
theorem rj (a b:Nat): fieldAddrV Tryz.prog 48 (.ptr a b) 5=some (.ptr a (b+5)):=by kernel_rfl
theorem Mp (ps:List (Nat×V)): buildV Tryz.prog 48 ps=(fillV (nth [(0,1),(1,1),(2,1),(3,1),(4,1),(5,1)]) ((.agg [(.int .i64 0),(.int .u64 0),(.int .u64 0),(.int .u64 0),.bn,.bn]):V).cells ps).map .agg:=by kernel_rfl
theorem mL : bk Tryz.prog 58=some 2:=by kernel_rfl
theorem Ie : zeroT Tryz.prog 58=some (.agg [(.int .i64 0),.bn]):=by kernel_rfl
theorem Ah (a b:Nat): fieldAddrV Tryz.prog 58 (.ptr a b) 0=some (.ptr a (b+0)):=by kernel_rfl
theorem vI (a b:Nat): fieldAddrV Tryz.prog 58 (.ptr a b) 1=some (.ptr a (b+1)):=by kernel_rfl
theorem VY (ps:List (Nat×V)): buildV Tryz.prog 58 ps=(fillV (nth [(0,1),(1,1)]) ((.agg [(.int .i64 0),.bn]):V).cells ps).map .agg:=by kernel_rfl
theorem sD : b6 Tryz.prog 62=some false:=by kernel_rfl
theorem Mq : b6 Tryz.prog 86=some false:=by kernel_rfl
theorem RZ : b6 Tryz.prog 99=some false:=by kernel_rfl
theorem mF : b6 Tryz.prog 109=some false:=by kernel_rfl
theorem Tr : bk Tryz.prog 111=some 3:=by kernel_rfl
theorem m_ (a b:Nat): fieldAddrV Tryz.prog 111 (.ptr a b) 0=some (.ptr a (b+0)):=by kernel_rfl
theorem oA (a b:Nat): fieldAddrV Tryz.prog 111 (.ptr a b) 1=some (.ptr a (b+1)):=by kernel_rfl
theorem xn (a b:Nat): fieldAddrV Tryz.prog 111 (.ptr a b) 2=some (.ptr a (b+2)):=by kernel_rfl
theorem Ts (ps:List (Nat×V)): buildV Tryz.prog 111 ps=(fillV (nth [(0,1),(1,1),(2,1)]) ((.agg [.cO,.jO,(.bool false)]):V).cells ps).map .agg:=by kernel_rfl
theorem xo : b6 Tryz.prog 112=some false:=by kernel_rfl
theorem xp (a b:Nat): fieldAddrV Tryz.prog 114 (.ptr a b) 0=some (.ptr a (b+0)):=by kernel_rfl
theorem Gz (a b:Nat): fieldAddrV Tryz.prog 114 (.ptr a b) 1=some (.ptr a (b+1)):=by kernel_rfl
theorem qH (a b:Nat): fieldAddrV Tryz.prog 114 (.ptr a b) 2=some (.ptr a (b+2)):=by kernel_rfl
theorem qI (a b:Nat): fieldAddrV Tryz.prog 114 (.ptr a b) 3=some (.ptr a (b+3)):=by kernel_rfl
theorem Tt (ps:List (Nat×V)): buildV Tryz.prog 114 ps=(fillV (nth [(0,1),(1,1),(2,1),(3,1),(4,1),(5,1)]) ((.agg [.cO,.cO,.cO,.cO,.bn,(.int .u64 0)]):V).cells ps).map .agg:=by kernel_rfl
theorem Ig : b6 Tryz.prog 145=some false:=by kernel_rfl
theorem Tu (a b l:Nat)(c:Cap)(k:IntKind)(n:Int): indexAddrV Tryz.prog 145 (.sl a b l c) (.int k n)=cond (decide (0≤n)&&decide (n<(l:Int))) (some (.ptr a (b+n.toNat*1))) none:=by kernel_rfl
theorem Tv : bk Tryz.prog 146=some 1:=by kernel_rfl
theorem Ih : b6 Tryz.prog 146=some false:=by kernel_rfl
theorem Tw : bk Tryz.prog 147=some 1:=by kernel_rfl
theorem Ps (a b:Nat): fieldAddrV Tryz.prog 149 (.ptr a b) 0=some (.ptr a (b+0)):=by kernel_rfl
theorem BH (a b:Nat): fieldAddrV Tryz.prog 149 (.ptr a b) 1=some (.ptr a (b+1)):=by kernel_rfl
theorem BI (a b:Nat): fieldAddrV Tryz.prog 149 (.ptr a b) 2=some (.ptr a (b+2)):=by kernel_rfl
theorem GB (a b:Nat): fieldAddrV Tryz.prog 149 (.ptr a b) 3=some (.ptr a (b+3)):=by kernel_rfl
theorem tH (a b:Nat): fieldAddrV Tryz.prog 149 (.ptr a b) 4=some (.ptr a (b+4)):=by kernel_rfl
theorem GC (a b:Nat): fieldAddrV Tryz.prog 149 (.ptr a b) 5=some (.ptr a (b+5)):=by kernel_rfl
theorem Pt (a b:Nat): fieldAddrV Tryz.prog 149 (.ptr a b) 6=some (.ptr a (b+6)):=by kernel_rfl
theorem xq (a b:Nat): fieldAddrV Tryz.prog 149 (.ptr a b) 7=some (.ptr a (b+7)):=by kernel_rfl
theorem xu (a b:Nat): fieldAddrV Tryz.prog 149 (.ptr a b) 8=some (.ptr a (b+8)):=by kernel_rfl
theorem nc (a b:Nat): fieldAddrV Tryz.prog 149 (.ptr a b) 9=some (.ptr a (b+9)):=by kernel_rfl
theorem Mr (a b:Nat): fieldAddrV Tryz.prog 149 (.ptr a b) 10=some (.ptr a (b+10)):=by kernel_rfl
theorem Ms (a b:Nat): fieldAddrV Tryz.prog 149 (.ptr a b) 11=some (.ptr a (b+11)):=by kernel_rfl
theorem Tx (ps:List (Nat×V)): buildV Tryz.prog 149 ps=(fillV (nth [(0,1),(1,1),(2,1),(3,1),(4,1),(5,1),(6,1),(7,1),(8,1),(9,1),(10,1),(11,1)]) ((.agg [(.int .i64 0),.bn,.bn,.jO,.bn,(.int .i64 0),.bn,(.int .i64 0),(.int .i64 0),(.bool false),.cO,.bn]):V).cells ps).map .agg:=by kernel_rfl
theorem Ii : bk Tryz.prog 151=some 2:=by kernel_rfl
theorem Ty : b6 Tryz.prog 151=some true:=by kernel_rfl
theorem Ij : zeroT Tryz.prog 151=some (.agg [(.int .i64 0),.bn]):=by kernel_rfl
theorem Pu (a b:Nat): fieldAddrV Tryz.prog 151 (.ptr a b) 1=some (.ptr a (b+1)):=by kernel_rfl
theorem Tz (ps:List (Nat×V)): buildV Tryz.prog 151 ps=(fillV (nth [(0,1),(1,1)]) ((.agg [(.int .i64 0),.bn]):V).cells ps).map .agg:=by kernel_rfl
theorem GD (a b:Nat): fieldAddrV Tryz.prog 155 (.ptr a b) 0=some (.ptr a (b+0)):=by kernel_rfl
theorem tI (a b:Nat): fieldAddrV Tryz.prog 155 (.ptr a b) 1=some (.ptr a (b+1)):=by kernel_rfl
theorem kq (a b:Nat): fieldAddrV Tryz.prog 155 (.ptr a b) 2=some (.ptr a (b+2)):=by kernel_rfl
theorem oB (a b:Nat): fieldAddrV Tryz.prog 155 (.ptr a b) 3=some (.ptr a (b+3)):=by kernel_rfl
theorem BJ (a b:Nat): fieldAddrV Tryz.prog 155 (.ptr a b) 4=some (.ptr a (b+4)):=by kernel_rfl
theorem Pv (a b:Nat): fieldAddrV Tryz.prog 155 (.ptr a b) 5=some (.ptr a (b+5)):=by kernel_rfl
theorem TA (ps:List (Nat×V)): buildV Tryz.prog 155 ps=(fillV (nth [(0,1),(1,1),(2,1),(3,1),(4,1),(5,1)]) ((.agg [.cO,(.int .u64 0),.bn,.bn,(.int .i64 0),(.int .u64 0)]):V).cells ps).map .agg:=by kernel_rfl
theorem br : bk Tryz.prog 163=some 1:=by kernel_rfl
theorem bU : b6 Tryz.prog 163=some true:=by kernel_rfl
theorem iR : zeroT Tryz.prog 163=some (.agg [.bn]):=by kernel_rfl
theorem fL (a b:Nat): fieldAddrV Tryz.prog 163 (.ptr a b) 0=some (.ptr a (b+0)):=by kernel_rfl
theorem xw (ps:List (Nat×V)): buildV Tryz.prog 163 ps=(fillV (nth [(0,1)]) ((.agg [.bn]):V).cells ps).map .agg:=by kernel_rfl
theorem TB : bk Tryz.prog 173=some 2:=by kernel_rfl
theorem TC : zeroT Tryz.prog 173=some (.agg [(.int .i64 0),.bn]):=by kernel_rfl
theorem Pw (a b:Nat): fieldAddrV Tryz.prog 173 (.ptr a b) 0=some (.ptr a (b+0)):=by kernel_rfl
theorem GF (a b:Nat): fieldAddrV Tryz.prog 173 (.ptr a b) 1=some (.ptr a (b+1)):=by kernel_rfl
theorem Of (ps:List (Nat×V)): buildV Tryz.prog 173 ps=(fillV (nth [(0,1),(1,1)]) ((.agg [(.int .i64 0),.bn]):V).cells ps).map .agg:=by kernel_rfl
theorem xx : bk Tryz.prog 180=some 4:=by kernel_rfl
theorem TD : b6 Tryz.prog 180=some true:=by kernel_rfl
theorem rZ : zeroT Tryz.prog 180=some (.agg [(.int .i64 0),(.int .i64 0),(.bool false),.bn]):=by kernel_rfl
theorem BK (a b:Nat): fieldAddrV Tryz.prog 180 (.ptr a b) 0=some (.ptr a (b+0)):=by kernel_rfl
theorem qJ (a b:Nat): fieldAddrV Tryz.prog 180 (.ptr a b) 1=some (.ptr a (b+1)):=by kernel_rfl
theorem GG (a b:Nat): fieldAddrV Tryz.prog 180 (.ptr a b) 2=some (.ptr a (b+2)):=by kernel_rfl
theorem qK (a b:Nat): fieldAddrV Tryz.prog 180 (.ptr a b) 3=some (.ptr a (b+3)):=by kernel_rfl
theorem Ik (ps:List (Nat×V)): buildV Tryz.prog 180 ps=(fillV (nth [(0,1),(1,1),(2,1),(3,1)]) ((.agg [(.int .i64 0),(.int .i64 0),(.bool false),.bn]):V).cells ps).map .agg:=by kernel_rfl
theorem nG : b6 Tryz.prog 185=some false:=by kernel_rfl
theorem TE (a b l:Nat)(c:Cap)(k:IntKind)(n:Int): indexAddrV Tryz.prog 185 (.sl a b l c) (.int k n)=cond (decide (0≤n)&&decide (n<(l:Int))) (some (.ptr a (b+n.toNat*5))) none:=by kernel_rfl
theorem Ai : b6 Tryz.prog 186=some false:=by kernel_rfl
theorem xy : b6 Tryz.prog 187=some false:=by kernel_rfl
theorem xz (a b:Nat): fieldAddrV Tryz.prog 189 (.ptr a b) 0=some (.ptr a (b+0)):=by kernel_rfl
theorem Px (a b:Nat): fieldAddrV Tryz.prog 189 (.ptr a b) 1=some (.ptr a (b+1)):=by kernel_rfl
theorem kr (a b:Nat): fieldAddrV Tryz.prog 189 (.ptr a b) 2=some (.ptr a (b+2)):=by kernel_rfl
theorem tJ (a b:Nat): fieldAddrV Tryz.prog 189 (.ptr a b) 3=some (.ptr a (b+3)):=by kernel_rfl
theorem qL (a b:Nat): fieldAddrV Tryz.prog 189 (.ptr a b) 4=some (.ptr a (b+4)):=by kernel_rfl
theorem BL (a b:Nat): fieldAddrV Tryz.prog 189 (.ptr a b) 5=some (.ptr a (b+5)):=by kernel_rfl
theorem TF (ps:List (Nat×V)): buildV Tryz.prog 189 ps=(fillV (nth [(0,1),(1,1),(2,1),(3,1),(4,1),(5,1)]) ((.agg [.cO,.cO,.bn,.jO,.jO,(.int .i64 0)]):V).cells ps).map .agg:=by kernel_rfl
theorem Aj : bk Tryz.prog 193=some 5:=by kernel_rfl
theorem TG : b6 Tryz.prog 193=some true:=by kernel_rfl
theorem TH : zeroT Tryz.prog 193=some (.agg [(.int .i64 0),.bn,(.int .i64 0),(.bool false),(.bool false)]):=by kernel_rfl
theorem nf (a b:Nat): fieldAddrV Tryz.prog 193 (.ptr a b) 0=some (.ptr a (b+0)):=by kernel_rfl
theorem xA (a b:Nat): fieldAddrV Tryz.prog 193 (.ptr a b) 1=some (.ptr a (b+1)):=by kernel_rfl
theorem oC (a b:Nat): fieldAddrV Tryz.prog 193 (.ptr a b) 2=some (.ptr a (b+2)):=by kernel_rfl
theorem BM (a b:Nat): fieldAddrV Tryz.prog 193 (.ptr a b) 3=some (.ptr a (b+3)):=by kernel_rfl
theorem BN (a b:Nat): fieldAddrV Tryz.prog 193 (.ptr a b) 4=some (.ptr a (b+4)):=by kernel_rfl
theorem C4 (ps:List (Nat×V)): buildV Tryz.prog 193 ps=(fillV (nth [(0,1),(1,1),(2,1),(3,1),(4,1)]) ((.agg [(.int .i64 0),.bn,(.int .i64 0),(.bool false),(.bool false)]):V).cells ps).map .agg:=by kernel_rfl
theorem xB : bk Tryz.prog 199=some 2:=by kernel_rfl
theorem Og : b6 Tryz.prog 199=some true:=by kernel_rfl
theorem xC : zeroT Tryz.prog 199=some (.agg [(.int .u64 0),(.bool false)]):=by kernel_rfl
theorem BO (a b:Nat): fieldAddrV Tryz.prog 199 (.ptr a b) 0=some (.ptr a (b+0)):=by kernel_rfl
theorem Py (cs:List V): nk Tryz.prog 199 (.agg cs) 0=nth cs 0:=by kernel_rfl
theorem GH (a b:Nat): fieldAddrV Tryz.prog 199 (.ptr a b) 1=some (.ptr a (b+1)):=by kernel_rfl
theorem TI (ps:List (Nat×V)): buildV Tryz.prog 199 ps=(fillV (nth [(0,1),(1,1)]) ((.agg [(.int .u64 0),(.bool false)]):V).cells ps).map .agg:=by kernel_rfl
theorem GI (a b:Nat): fieldAddrV Tryz.prog 210 (.ptr a b) 0=some (.ptr a (b+0)):=by kernel_rfl
theorem TJ (ps:List (Nat×V)): buildV Tryz.prog 210 ps=(fillV (nth [(0,1),(1,1)]) ((.agg [.jO,.jO]):V).cells ps).map .agg:=by kernel_rfl
theorem Oh (a b:Nat)(k:IntKind)(n:Int): indexAddrV Tryz.prog 227 (.ptr a b) (.int k n)=cond (decide (0≤n)&&decide (n<(512:Nat))) (some (.ptr a (b+n.toNat*1))) none:=by kernel_rfl
theorem TK : bk Tryz.prog 239=some 512:=by kernel_rfl
theorem TL : b6 Tryz.prog 239=some true:=by kernel_rfl
theorem TM (ps:List (Nat×V)): buildV Tryz.prog 244 ps=(fillV (fun i=>some (i*1,1)) ((.agg [(.int .u64 0),(.int .u64 0),(.int .u64 0)]):V).cells ps).map .agg:=by kernel_rfl
def slR (v:V)(a b:Nat): V:=match v with
 | .sl id off _ (.exact c)=>.sl id (cond (Nat.beq c a) off (off+a*1)) (b-a) (.exact (c-a))
 | .sl id off _ (.rest _ alt)=>.sl id (off+a*1) (b-a) (.rest 1 (cond (Nat.beq a 0) alt (cond (Nat.blt a b) (off+a*1) off)))
 | v=>v
theorem iS {h:H}{v:V}{l:List Nat}{a b:Nat}(hv:View h v l)(mh:a≤b)(hb:b≤l.length):
  sliceV Tryz.prog h 28 v (some a) (some b) none=some (slR v a b)∧View h (slR v a b) ((l.take b).drop a)∧∀i∈rowIds (slR v a b),i∈rowIds v:=by
 have aY:∀x∈(l.take b).drop a,x<256:=fun x hx=>hv.1 x (fY (gG hx))
 have hlen:((l.take b).drop a).length=b-a:=by simp; omega
 obtain ⟨hl,xP⟩:=hv
 rcases xP with ⟨rfl | ⟨ea,rfl⟩,rfl⟩ | ⟨id,off,cap,n,cs,st,rfl,hg,h1,h2,h3,h4⟩
 ·simp only [bG] at hb
  have:b=0:=by omega
  have:a=0:=by omega
  subst_vars
  refine ⟨?_,⟨by simp,.inl ⟨.inl rfl,by simp⟩⟩,fun i hi=>hi⟩
  simp only [sliceV,aJ,dM]
  rfl
 ·simp only [bG] at hb
  have:b=0:=by omega
  have:a=0:=by omega
  subst_vars
  refine ⟨?_,⟨by simp,.inl ⟨.inr ⟨ea,rfl⟩,by simp⟩⟩,fun i hi=>hi⟩
  simp only [sliceV,aJ,dM]
  rfl
 ·have I:∀o,o=off+a∨b-a=0→(cs.drop o).take (b-a)=ofBytes ((l.take b).drop a):=by
   intro o ho
   rcases sP (b-a) with hz | hz
   ·rw [hz,jz]
    have:(l.take b).drop a=[]:=j0 (by omega)
    rw [this]; rfl
   ·have pN:o=off+a:=by rcases ho with ho | ho; exact ho; omega
    subst pN
    have e1:ofBytes ((l.take b).drop a)=((ofBytes l).take b).drop a:=by simp [ofBytes,om,oh]
    rw [e1,←h3,qu,mX hb,qt,og]
  cases cap with
  | exact c =>
   have hc:l.length≤c:=h4
   refine ⟨?_,⟨aY,.inr ⟨id,_,_,n,cs,st,by rw [hlen]; rfl,hg,h1,?_,?_,?_⟩⟩,fun i hi=>by simpa [rowIds,slR] using hi⟩
   ·simp only [sliceV,slR,aJ,dM,dO]
    rw [show (Nat.ble a b&&Nat.ble b c)=true by rw [aH,aE,aE]; omega,af]
   ·rw [hlen]
    by_cases J:c=a
    ·rw [gT J,af]; omega
    ·rw [cV J,ay]; omega
   ·rw [hlen]
    by_cases J:c=a
    ·rw [gT J,af]; exact I off (.inr (by omega))
    ·rw [cV J,ay,cC]; exact I _ (.inl rfl)
   ·show _≤c-a
    rw [hlen]; omega
  | rest e alt =>
   have he:e=1:=h4
   subst he
   refine ⟨?_,⟨aY,.inr ⟨id,_,_,n,cs,st,by rw [hlen]; rfl,hg,h1,by rw [hlen]; omega,by rw [hlen,cC]; exact I _ (.inl rfl),rfl⟩⟩,fun i hi=>by simpa [rowIds,slR] using hi⟩
   simp only [sliceV,slR,aJ,dM,dO,dn]
   rw [show (true&&Nat.ble 1 1)=true from rfl,af]
   rw [show (Nat.ble a b&&(Nat.ble b l.length||Nat.ble b (jf h id off 1)))=true by rw [aH,j6,aE,aE]; exact ⟨mh,.inl hb⟩,af]
theorem jM {h:H}{v:V}{l:List Nat}{a:Nat}(hv:View h v l)(ha:a≤l.length):
  sliceV Tryz.prog h 28 v (some a) none none=some (slR v a l.length)∧View h (slR v a l.length) (l.drop a)∧∀i∈rowIds (slR v a l.length),i∈rowIds v:=by
 obtain ⟨I,h2,h3⟩:=iS hv ha (aD _)
 refine ⟨?_,by simpa using h2,h3⟩
 obtain ⟨_,J⟩:=hv
 rcases J with ⟨rfl | ⟨ea,rfl⟩,rfl⟩ | ⟨id,off,cap,n,cs,st,rfl,hg,g1,g2,g3,g4⟩
 ·simpa [sliceV,aJ,dM] using I
 ·simpa [sliceV,aJ,dM] using I
 ·rw [←I]
  simp only [sliceV,aJ,dM,mT,dO]
theorem dI {h:H}{v:V}{l:List Nat}{i b:Nat}(hv:View h v l)(hi:l[i]?=some b):
  ∃id off,indexAddrV Tryz.prog 28 v (.int .i64 (i:Int))=some (.ptr id off)∧loadV Tryz.prog h 5 (.ptr id off)=some (.int .u8 (b:Int)):=by
 obtain ⟨hl,I⟩:=hv
 have J:i<l.length:=(List.getElem?_eq_some_iff.1 hi).1
 rcases I with ⟨_,rfl⟩ | ⟨id,off,cap,n,cs,st,rfl,hg,h1,h2,h3,h4⟩
 ·simp at hi
 ·refine ⟨id,off+i*1,?_,?_⟩
  ·simp only [indexAddrV,aJ,dM,bZ]
   rw [show (decide ((0:Int)≤(i:Int))&&decide ((i:Int)<(l.length:Int)))=true by simp; omega,af]
  ·simp only [loadV,Gt,uL,hg,eW,cC]
   have e:=fo (fun q=>q[i]?) h3
   simp only [jx,jy,ax J] at e
   rw [e]
   simp [ofBytes,hi]
theorem View.cells {h:H}{v:V}{l:List Nat}(hv:View h v l): v.cells=[v]∧Am.storable v=true:=by
 obtain ⟨_,hv⟩:=hv
 rcases hv with ⟨rfl | ⟨I,rfl⟩,_⟩ | ⟨id,off,cap,n,cs,st,rfl,_⟩ <;> exact ⟨rfl,rfl⟩
def plain1 : V→Bool
 | .bool _ | .int _ _ | .str _ | .cO | .ptr _ _ | .bn | .sl _ _ _ _ | .jO | .map _ | .B5 | .mg | .qO _ _=>true
 | .fn (.func _) [] []=>true
 | _=>false
def R1 : V→Bool
 | .agg l=>l.all plain1
 | .aX l=>l.all plain1
 | .iface _ v=>plain1 v
 | v=>plain1 v
theorem Il (k:FloatKind): fkBeq k k=true:=by cases k <;> rfl
theorem DN : ∀l:List Nat,natsBeq l l=true:=fun l=>by rw [sC]; simp
theorem Mt (v:V)(h:plain1 v=true): v.beq v=true:=by
 cases v <;> simp [plain1,V.beq,cW,oL,yb,DN,Il] at h ⊢
 rename_i f a b
 cases f <;> cases a <;> cases b <;> simp [plain1,V.beq,V.beqL] at h ⊢
theorem Oi : ∀(l:List V),l.all plain1=true→V.beqL l l=true:=by
 intro l
 induction l with
 | nil=>intro _; rfl
 | cons v l I =>
  intro h
  simp only [iB,aH] at h
  simp only [V.beqL,Mt v h.1,af,I h.2]
theorem bP (v:V)(h:R1 v=true): v.beq v=true:=by
 cases v with
 | agg l=>exact Oi l h
 | aX l=>exact Oi l h
 | iface t v=>simp only [V.beq,dn,wU]; exact Mt v h
 | _=>exact Mt _ h
section
variable {P:Program} {h h':H} {S:List aq} {X:aq} {v w:V} {l m:List Nat}
theorem Im (s:Sat h (aU v l::X::S))(J:cT X (cY w m))(I:l.length+m.length≤140737488355328):
  ∃v' h',appendV Tryz.prog h #[28,28] v w=some (v',h')∧Sat h' (aU v' (l++m)::X::S):=by
 obtain ⟨v',h',e1,e2,e3,e4⟩:=vC s.wf (s.buf (k:=0) rfl) (s.aG (k:=1) rfl J) I
 exact ⟨v',h',e1,s.xm e3 e2 e4⟩
theorem Kc (s:Sat h S){c:Nat}(I:c<1073741824):
  ∃v h',makeSliceV Tryz.prog h 28 (.int .i64 0) (.int .i64 (c:Int))=some (v,h')∧Sat h' (aU v []::S):=by
 obtain ⟨v,h',J,e2,e3,e4⟩:=z8 s.wf I
 exact ⟨v,h',J,s.DM e3 e2 e4⟩
theorem Pz : ∀n:Nat,repeatL [V.int .u8 0] n=ofBytes (List.replicate n 0):=by
 intro n
 induction n with
 | zero=>rfl
 | succ n I=>simp only [repeatL,I,ofBytes,wO,cu]; rfl
theorem Ke (s:Sat h S){c:Nat}(J:c<1073741824):
  ∃v h',makeSliceV Tryz.prog h 28 (.int .i64 (c:Int)) (.int .i64 (c:Int))=some (v,h')∧Sat h' (aU v (List.replicate c 0)::S):=by
 obtain ⟨i,hi,i1,i2⟩:=BC
 have I:iN (h.new (.cells c (repeatL [.int .u8 0] c) false)) (.sl h.next 0 c (.exact c)) (List.replicate c 0):=by
  refine ⟨fun b I=>by have:=sJ I; omega,.inr (.inl ⟨h.next,[],c,by simp,?_,by simp⟩)⟩
  rw [gh,ax rfl,Pz,ff]
 refine ⟨.sl h.next 0 c (.exact c),h.new (.cells c (repeatL [.int .u8 0] c) false),?_,s.DM (c9.xj s.wf _) I fun i hi=>by simp [rowIds] at hi; omega⟩
 simp only [makeSliceV,aJ,hi,ow,i1,i2,V.cells,aN,bG,bZ,cC]
 rw [show (decide ((0:Int)≤(c:Int))&&decide ((c:Int)≤(c:Int))&&decide ((c:Int)<1073741824)&&Nat.ble 1 4096&&Nat.beq (0+1) 1&&Nat.ble 1 1)=true by simp; omega,af]
theorem Kf (s:Sat h S){b:Nat}(I:b<256): ∃v h',buildSliceV Tryz.prog h 28 1 [(0,.int .u8 b)]=some (v,h')∧Sat h' (aU v [b]::S):=by
 obtain ⟨v,h',J,e2,e3,e4⟩:=Cd s.wf I
 exact ⟨v,h',J,s.DM e3 e2 e4⟩
theorem Sat.eH (s:Sat h (aU v l::S))(hl:1≤l.length): ∃id c cap rest,v=.sl id 0 l.length cap∧Sat h (pt id (.cells c (ofBytes l++rest) false)::S)∧l.length+rest.length=c ∧
  (∀(h':H) (I:List Nat),I.length=l.length→(∀b∈I,b<256)→Sat h' (pt id (.cells c (ofBytes I++rest) false)::S)→Sat h' (aU v I::S)):=by
 obtain ⟨m,r,h1,h2,h3,a,b,g1,g2,g3,⟨gl,g4⟩,g5⟩:=s.ok
 rcases g4 with ⟨rfl,rfl⟩ | ⟨id,cs,c,rfl,hg,hc⟩ | ⟨id,rfl,hg,h5⟩
 ·simp at hl
 ·refine ⟨id,c,_,cs,rfl,⟨s.wf,m,r,h1,h2,h3,a,b,g1,g2,g3,hg,g5⟩,hc,fun h' I e1 e2 s'=>s'.hU ?_⟩
  intro m' r' hm
  exact ⟨e2,.inr (.inl ⟨id,cs,c,by rw [e1],hm,by omega⟩)⟩
 ·refine ⟨id,l.length,_,[],rfl,⟨s.wf,m,r,h1,h2,h3,a,b,g1,g2,g3,by rw [ff]; exact hg,g5⟩,by simp,fun h' I e1 e2 s'=>s'.hU ?_⟩
  intro m' r' hm
  have J:m' id=some (.cells l.length (ofBytes I++[]) false):=hm
  rw [ff] at J
  exact ⟨e2,.inr (.inr ⟨id,by rw [e1],by rw [e1]; exact J,by omega⟩)⟩
theorem FB (l:List Nat)(i b:Nat): (ofBytes l).set i (.int .u8 (b:Int))=ofBytes (l.set i b):=by simp [ofBytes,List.map_set]
theorem vJ (l:List Nat)(n:Nat): (ofBytes l).take n=ofBytes (l.take n):=by simp [ofBytes,oh]
theorem DO (l:List Nat)(n:Nat): (ofBytes l).drop n=ofBytes (l.drop n):=by simp [ofBytes,om]
theorem kR (s:Sat h (aU v l::S)){i b:Nat}(hi:i<l.length)(hb:b<256):
  ∃id off,indexAddrV Tryz.prog 28 v (.int .i64 (i:Int))=some (.ptr id off)∧∃h',gd Tryz.prog h 5 (.ptr id off) (.int .u8 (b:Int))=some h'∧Sat h' (aU v (l.set i b)::S):=by
 have hv:=(s.buf (k:=0) rfl).1
 obtain ⟨id,c,cap,rest,rfl,s1,hc,hf⟩:=s.eH (by omega)
 refine ⟨id,i,?_,?_⟩
 ·simp only [indexAddrV,aJ,dM,bZ]
  rw [show (decide ((0:Int)≤(i:Int))&&decide ((i:Int)<(l.length:Int)))=true by simp; omega,af]
  simp
 ·obtain ⟨h',e1,J⟩:=s1.iX (t:=5) (P:=Tryz.prog) (v:=.int .u8 (b:Int)) (k:=0) (off:=i) rfl dM (by simp [cG]; omega) (by omega) rfl rfl
  refine ⟨h',e1,hf h' (l.set i b) (by simp) (fun x I => ?_) ?_⟩
  ·rcases lT I with I | rfl
   ·exact hv x I
   ·exact hb
  ·have e3:(ofBytes l++rest).set i (.int .u8 (b:Int))=ofBytes (l.set i b)++rest:=by
    rw [List.set_append_left _ _ (by rw [cG]; exact hi),FB]
   rw [e3] at J
   exact J
def a_ (l:List Nat)(a:Nat)(m:List Nat): List Nat:=l.take a++(m++l.drop (a+m.length))
theorem cK {l m:List Nat}{a:Nat}(h:a+m.length≤l.length): (a_ l a m).length=l.length:=by simp [a_]; omega
theorem Cg {l m:List Nat}{a:Nat}(J:∀b∈l,b<256)(hm:∀b∈m,b<256): ∀b∈a_ l a m,b<256:=fun b I=>by
 simp only [a_,od] at I
 rcases I with I | I | I
 ·exact J b (fY I)
 ·exact hm b I
 ·exact J b (gG I)
theorem DP (s:Sat h (aU v l::X::S))(hX:cT X (cY w m)){a b:Nat}(mh:a<b)(hb:b≤l.length)(hm:1≤m.length):
  ∃h',copyV Tryz.prog h 28 (slR v a b) w=some (.int .i64 (min m.length (b-a):Nat),h')∧Sat h' (aU v (a_ l a (m.take (b-a)))::X::S):=by
 have hw:=s.aG (k:=1) rfl hX
 have Ch:=hw.1
 have hv:=(s.buf (k:=0) rfl).1
 obtain ⟨id,c,cap,rest,rfl,s1,hc,hf⟩:=s.eH (by omega)
 have kZ:∃yy,slR (.sl id 0 l.length cap) a b=.sl id a (b-a) yy:=by
  cases cap with
  | exact c =>
   refine ⟨.exact (c-a),?_⟩
   simp only [slR]
   by_cases XC:c=a
   ·obtain ⟨m',r,h1,h2,h3⟩:=s.at (k:=0) rfl
    rcases h3.2 with ⟨e,_⟩ | ⟨xY,cs',c',e,hg,UF⟩ | ⟨xY,e,_⟩
    ·cases e
    ·injection e with _ _ _ e4; injection e4 with e4; omega
    ·injection e with _ _ _ e4; cases e4
   ·rw [cV XC,ay,dA,cC]
  | rest e alt=>exact ⟨_,by simp only [slR,dA,cC]; rfl⟩
 obtain ⟨yy,kZ⟩:=kZ
 rw [kZ]
 have mA:=hw
 rcases mA.2 with ⟨_,rfl⟩ | ⟨vK,I,J,n2,R2,UG,rfl,yg,q1,q2,q3,q4⟩
 ·simp at hm
 ·have VZ:Nat.min m.length (b-a)=(m.take (b-a)).length:=by
   rw [fe]
   exact Nat.min_comm _ _
  have fU:rdN h vK I (Nat.min m.length (b-a)*1)=some (ofBytes (m.take (b-a))):=by
   have yh:View h (.sl vK I (m.take (b-a)).length J) (m.take (b-a)):=by
    refine ⟨fun x hx=>Ch x (fY hx),.inr ⟨vK,I,J,n2,R2,UG,rfl,yg,q1,?_,?_,?_⟩⟩
    ·have:(m.take (b-a)).length≤m.length:=by simp; omega
     omega
    ·rw [←vJ,←q3,qu,fe]
    ·cases J with
     | exact c2 =>
      simp only at q4 ⊢
      have:(m.take (b-a)).length≤m.length:=by simp; omega
      omega
     | rest e2 a2=>exact q4
   rw [cC,VZ]
   exact yh.rdN.2
  simp only [copyV,aJ,dM,fU]
  have hlen:(m.take (b-a)).length≤b-a:=by simp; omega
  have DQ:wrN h id a (ofBytes (m.take (b-a)))=some (h.put id (some (.cells c (ofBytes (a_ l a (m.take (b-a)))++rest) false))):=by
   simp only [wrN,s1.row (k:=0) rfl,cG]
   rw [aE.2 (by omega),af]
   congr 3
   have e0:(ofBytes l++rest).take a++(ofBytes (m.take (b-a))++(ofBytes l++rest).drop (a+(m.take (b-a)).length))=ofBytes (a_ l a (m.take (b-a)))++rest:=by
    rw [wJ (by rw [cG]; omega),AW (by rw [cG]; omega),vJ,DO]
    simp only [a_,sA,ep]
   cases Ak:(Nat.beq a 0&&Nat.beq (m.take (b-a)).length c) with
   | true =>
    simp only [aH,beq_iff] at Ak
    rw [af,←e0]
    obtain ⟨XD,XE⟩:=Ak
    subst XD
    have:(ofBytes l++rest).drop (0+(m.take (b-0)).length)=[]:=fI (by simp [cG] at XE ⊢; omega)
    rw [this]
    simp
   | false=>rw [ay,e0]
  rw [DQ]
  refine ⟨_,rfl,hf _ _ (cK (by omega)) (Cg hv (fun x hx=>Ch x (fY hx))) ?_⟩
  exact s1.put (k:=0) rfl
end
section
variable {P:Program} {h h':H} {S:List aq} {v w x:V} {cs ds:List V} {k:Nat}
theorem UH {t:TypeId}{id off n q:Nat}{st:Bool}(J:b6 P t=some true)(hs:bk P t=some q)(hg:T.get h.tr id=some (.cells n cs st))(hl:cs.length=n)(hb:off+q≤n):
  loadV P h t (.ptr id off)=some (.agg ((cs.drop off).take q)):=by
 simp only [loadV,J,hs,rdN,hg]
 rw [aE.2 hb,af]
 cases I:(Nat.beq off 0&&Nat.beq q n) with
 | true =>
  simp only [aH,beq_iff] at I
  obtain ⟨rfl,rfl⟩:=I
  simp [←hl]
 | false=>rfl
theorem Sat.Io {j:Nat}(s:Sat h S)(I:getA S j=some (.arr k v cs)): cs.all storable=true:=by
 obtain ⟨m,r,h1,h2,J⟩:=s.at I
 exact J.1
theorem Sat.kV {j:Nat}(s:Sat h S)(I:getA S j=some (.arr k v cs)): v.cells=[v]∧storable v=true∧v.beq v=true:=by
 obtain ⟨m,r,h1,h2,J⟩:=s.at I
 rcases J.2 with ⟨rfl,_⟩ | ⟨id,n,cap,N,rest,rfl,_⟩
 ·exact ⟨rfl,rfl,rfl⟩
 ·exact ⟨rfl,rfl,xk _ _ _ _⟩
theorem Sat.dJ {j n:Nat}{t e:TypeId}(s:Sat h S)(hj:getA S j=some (.arr k v cs))(hn:cs.length=n*k)(J:1≤k)(hu:P.underlying t=some (.slice e)): lenV P h t v=some (.int .i64 n):=by
 obtain ⟨m,r,h1,h2,h3⟩:=s.at hj
 rcases h3.2 with ⟨rfl,rfl⟩ | ⟨id,n',cap,N,rest,rfl,_,q,_⟩
 ·have:n=0:=by
   rcases sP n with I | I
   ·exact I
   ·have:=sZ I J
    simp at hn
    omega
  subst this
  simp only [lenV,hu]
  rfl
 ·have:n'=n:=F3 J (by omega)
  subst this
  simp only [lenV,hu]
theorem sE (z:List V)(n:Nat): (repeatL z n).length=n*z.length:=by
 induction n with
 | zero=>simp [repeatL]
 | succ n I=>simp only [repeatL,bD,I,Nat.succ_mul]; omega
theorem Al {z:List V}(I:z.all storable=true)(n:Nat): (repeatL z n).all storable=true:=by
 induction n with
 | zero=>rfl
 | succ n J=>simp only [repeatL,List.all_append,I,J,gK]
theorem oS (s:Sat h S){t e:TypeId}{i:TypeInfo}{z:V}{n c:Nat}(hu:P.underlying t=some (.slice e))(hi:P.info? e=some i)(hz:zeroT P e=some z)(hk:i.size=k)(hb:i.bytes≤4096)(J:z.cells.length=k)(I:z.cells.all storable=true)
 (h1:1≤k)(hn:n≤c)(hc:c<1073741824):
  ∃v h',makeSliceV P h t (.int .i64 (n:Int)) (.int .i64 (c:Int))=some (v,h')∧Sat h' (.arr k v (repeatL z.cells n)::S):=by
 refine ⟨.sl h.next 0 n (.exact c),h.new (.cells (c*k) (repeatL z.cells c) false),?_,(s.new _).hU fun m r hm => ?_⟩
 ·simp only [makeSliceV,hu,hi,hz,bZ,hk,J]
  rw [show (decide ((0:Int)≤(n:Int))&&decide ((n:Int)≤(c:Int))&&decide ((c:Int)<1073741824)&&Nat.ble i.bytes 4096&&Nat.beq k k&&Nat.ble 1 k)=true by
   rw [aE.2 hb,aE.2 h1,dn]; simp; omega,af]
 ·refine ⟨Al I n,.inr ⟨h.next,n,.exact c,c*k,repeatL z.cells (c-n),rfl,?_,by rw [sE,J],?_,Al I _,rfl,hn⟩⟩
  ·have:repeatL z.cells n++repeatL z.cells (c-n)=repeatL z.cells c:=by
    clear hm
    have:∀a b,repeatL z.cells a++repeatL z.cells b=repeatL z.cells (a+b):=fun a b=>by
     induction a with
     | zero=>simp [repeatL]
     | succ a ih=>rw [Nat.succ_add]; simp only [repeatL,ep,ih]
    rw [this,show n+(c-n)=c by omega]
   rw [this]; exact hm
  ·rw [sE,sE,J,←gM,show n+(c-n)=c by omega]
theorem PA {id off n:Nat}{I:List V}(hg:T.get h.tr id=some (.cells n cs false))(hl:cs.length=n)(hb:off+I.length≤n):
  wrN h id off I=some (h.put id (some (.cells n (cs.take off++(I++cs.drop (off+I.length))) false))):=by
 simp only [wrN,hg]
 rw [aE.2 hb,af]
 congr 3
 cases J:(Nat.beq off 0&&Nat.beq I.length n) with
 | true =>
  simp only [aH,beq_iff] at J
  obtain ⟨rfl,hn⟩:=J
  rw [af]
  have:cs.drop (0+I.length)=[]:=fI (by omega)
  rw [this]; simp
 | false=>rw [ay]
theorem tK {id off n q:Nat}{st:Bool}(J:T.get h.tr id=some (.cells n cs st))(hl:cs.length=n)(hb:off+q≤n): rdN h id off q=some ((cs.drop off).take q):=by
 simp only [rdN,J]
 rw [aE.2 hb,af]
 cases I:(Nat.beq off 0&&Nat.beq q n) with
 | true =>
  simp only [aH,beq_iff] at I
  obtain ⟨rfl,rfl⟩:=I
  simp [←hl]
 | false=>rfl
theorem fS (s:Sat h (.arr k v cs::.arr k w ds::S)){t e:TypeId}{i:TypeInfo}{z:V}(hu:P.underlying t=some (.slice e))(hi:P.info? e=some i)(hz:zeroT P e=some z)(hk:i.size=k)(hb:i.bytes≤4096)(hl:z.cells.length=k)
 (h1:1≤k)(eA:cs.length+ds.length≤1073741824):
  ∃v' h',appendV P h #[t,t] v w=some (v',h')∧Sat h' (.arr k v' (cs++ds)::.arr k w ds::S):=by
 have V0:=s.Io (j:=0) rfl
 have Mu:=s.Io (j:=1) rfl
 have lC:(cs++ds).all storable=true:=by rw [List.all_append,V0,Mu]; rfl
 -- what is appended
 have Br:∃m,srcV h k w=some (ds,m)∧ds.length=m*k:=by
  obtain ⟨m,r,q1,q2,q3⟩:=s.at (k:=1) rfl
  rcases q3.2 with ⟨rfl,rfl⟩ | ⟨id,n,cap,N,rest,rfl,J,e1,e2,e3,e4⟩
  ·exact ⟨0,rfl,by simp⟩
  ·refine ⟨n,?_,e1⟩
   simp only [srcV]
   rw [tK (q1 _ _ J) (by simp [e2]) (by omega)]
   rw [fg,←e1,mW rfl]
   rfl
 obtain ⟨m,Br,hm⟩:=Br
 have I:∀n:Nat,n*k=cs.length→jB (n+m) i.bytes=true:=fun n hn=>by
  have e1:(n+m)*k=cs.length+ds.length:=by rw [gM,hn,hm]
  have e2:n+m≤(n+m)*k:=Nat.le_mul_of_pos_right _ h1
  have e3:(n+m)*i.bytes≤(n+m)*4096:=Nat.mul_le_mul_left _ hb
  exact ue.2 ⟨by omega,by omega⟩
 have uf:∀(σ:H) (n:Nat) (T:List aq),Sat σ T→n*k=cs.length→1≤m→Sat (lX σ k cs ds (n+m)).2 (.arr k (lX σ k cs ds (n+m)).1 (cs++ds)::T):=by
  intro σ n T sT hn An
  refine (sT.new (.cells ((n+m)*k) (cs++ds) false)).hU fun a r ya=>⟨lC,.inr ⟨σ.next,n+m,.rest k 0,(n+m)*k,[],rfl,by rw [ff]; exact ya,by rw [bD,gM]; omega,by rw [bD,gM]; simp; omega,rfl,rfl,rfl,rfl,by omega⟩⟩
 unfold appendV
 simp only [hu,hi,hz,hk,hl,Br]
 rw [show (Nat.ble 1 k&&Nat.ble i.bytes 4096&&Nat.beq k k)=true by rw [aE.2 h1,aE.2 hb,dn]; rfl,af]
 cases y9:Nat.beq m 0 with
 | true =>
  have:m=0:=beq_iff.1 y9
  subst this
  have XF:ds=[]:=j0 (by simpa using hm)
  subst XF
  rw [af,ff]
  obtain ⟨m,r,q1,q2,q3⟩:=s.at (k:=0) rfl
  rcases q3.2 with ⟨rfl,rfl⟩ | ⟨id,n,cap,N,rest,rfl,J,e1,e2,e3,e4⟩
  ·exact ⟨_,_,rfl,s⟩
  ·exact ⟨_,_,rfl,s⟩
 | false =>
  have An:1≤m:=by
   rcases sP m with h0 | h0
   ·rw [gT h0] at y9; cases y9
   ·exact h0
  rw [ay]
  obtain ⟨a,r,q1,q2,q3⟩:=s.at (k:=0) rfl
  rcases q3.2 with ⟨rfl,rfl⟩ | ⟨id,n,cap,N,rest,rfl,J,e1,e2,e3,e4⟩
  ·have J:=I 0 (by simp)
   rw [dA] at J
   simp only [J,af]
   have:=uf h 0 (.arr k .bn []::.arr k w ds::S) s (by simp) An
   rw [dA] at this
   refine ⟨_,_,rfl,?_⟩
   exact (this.nD [1]).drop
  ·cases cap with
   | exact c =>
    obtain ⟨e4,e5⟩:=e4
    simp only [dA]
    have iV:(cs++rest).take cs.length=cs:=mW rfl
    cases hq:Nat.ble (n+m) c with
    | true =>
     have mu:=aE.1 hq
     rw [af]
     have eS:n*k+ds.length≤N:=by rw [hm,←gM,e4]; exact ql _ mu
     rw [PA (q1 _ _ J) (by simp [e2]) eS]
     simp only
     obtain ⟨m',r',p1,p2,p3,x1,x2,x3,x4,x5,⟨_,x6⟩,x7⟩:=s.ok
     have yC:x1 id=some (.cells N (cs++rest) false):=by
      rcases x6 with ⟨x6,_⟩ | ⟨xY,n',yy,N',Oj,x6,x8,x9,XG,_⟩
      ·cases x6
      ·injection x6 with y1 y2 y3 y4
       subst y1
       rw [x8]
       have:=p1 _ _ (x4 _ _ x8)
       rw [q1 _ _ J] at this
       injection this with this
       rw [this]
     have s0:Sat h (pt id (.cells N (cs++rest) false)::.arr k w ds::S):=⟨s.wf,m',r',p1,p2,p3,x1,x2,x3,x4,x5,yC,x7⟩
     have s1:=s0.put (k:=0) (o':=.cells N ((cs++rest).take (n*k)++(ds++(cs++rest).drop (n*k+ds.length))) false) rfl
     refine ⟨_,_,rfl,Sat.hU s1 fun a' ZV ha=>⟨lC,.inr ⟨id,n+m,.exact c,N,rest.drop ds.length,rfl,?_,by rw [bD,gM]; omega,by simp; omega,?_,e4,mu⟩⟩⟩
     ·have XH:a' id=some (.cells N ((cs++rest).take (n*k)++(ds++(cs++rest).drop (n*k+ds.length))) false):=ha
      rw [XH,←e1,iV,wQ,fI (by omega),Nat.add_sub_cancel_left,c_,ep]
     ·rw [ob] at e3 ⊢
      exact fun y hy=>e3 y (gG hy)
    | false =>
     rw [ay,I n e1.symm,af,tK (q1 _ _ J) (by simp [e2]) (by omega)]
     simp only
     rw [fg,←e1,iV]
     have:=uf h n _ s e1.symm An
     exact ⟨_,_,rfl,(this.nD [1]).drop⟩
   | rest e' alt =>
    obtain ⟨ek,rfl,rfl,e7⟩:=e4
    have ek:=ek.symm
    subst ek
    simp only [dn,af,ff,dA] at J e2 ⊢
    have Dh:jf h id 0 k=n:=by
     simp only [jf,q1 _ _ J]
     rw [j7,←e2]
     simp only [bG,iC,e1]
     exact A6 _ h1
    rw [Dh]
    rw [show Nat.ble (n+m) n=false by
     cases hq:Nat.ble (n+m) n with
     | true=>have:=aE.1 hq; omega
     | false=>rfl,ay,I n e1.symm,show Nat.ble 2 ((n+m)*k)=true from aE.2 (by
      have:2*1≤(n+m)*k:=sZ (by omega) h1
      omega),gK,af,tK (q1 _ _ J) (by simpa using e2) (by simp at e2; omega),q1 _ _ J]
    simp only
    obtain ⟨m',r',p1,p2,p3,x1,x2,x3,x4,x5,⟨_,x6⟩,x7⟩:=s.ok
    have yC:x1 id=some (.cells N cs false):=by
     rcases x6 with ⟨x6,_⟩ | ⟨xY,n',yy,N',Oj,x6,x8,x9,XG,_⟩
     ·cases x6
     ·injection x6 with y1 y2 y3 y4
      subst y1
      rw [x8]
      have:=p1 _ _ (x4 _ _ x8)
      rw [q1 _ _ J] at this
      injection this with this
      rw [this]
    have s0:Sat h (pt id (.cells N cs false)::.arr k w ds::S):=⟨s.wf,m',r',p1,p2,p3,x1,x2,x3,x4,x5,yC,x7⟩
    have:=uf (h.put id none) n _ s0.kill e1.symm An
    rw [fg,dG (by omega)]
    exact ⟨_,_,rfl,this⟩
end
section
variable {P:Program} {h h':H} {S:List aq} {v w x:V} {cs ds:List V} {k:Nat}
theorem Sat.iw {t:TypeId}{j id n:Nat}{l:List V}(s:Sat h S)(J:getA S j=some (pt id (.cells n cs false)))(hs:bk P t=some n)(hl:l.length=n)(I:l.all storable=true):
  ∃h₁,gd P h t (.ptr id 0) (.agg l)=some h₁∧Sat h₁ (setA S j (pt id (.cells n l false))):=by
 refine ⟨h.put id (some (.cells n l false)),?_,s.put J⟩
 simp only [gd,hs,V.cells,I,hl,dn,gK,af,wrN,s.row J]
 rw [aE.2 (by omega:0+n≤n),af]
theorem ku (s:Sat h S){t e:TypeId}{z:V}(hu:P.underlying t=some (.slice e))(hz:zeroT P e=some z)(hk:bk P e=some k)(J:z.cells.length=k)(h1:1≤k)(h2:k≤65536)(hx:x.cells.length=k)(I:x.cells.all storable=true):
  ∃v h',buildSliceV P h t 1 [(0,x)]=some (v,h')∧Sat h' (.arr k v x.cells::S):=by
 refine ⟨.sl h.next 0 1 (.exact 1),newRow h x.cells,?_,?_⟩
 ·simp only [buildSliceV,hu,hk,hz]
  rw [show (Nat.beq z.cells.length k&&Nat.ble (1*k) 65536&&Nat.ble 1 k)=true by rw [J,dn,aE.2 (by omega),aE.2 h1]; rfl,af]
  have e1:repeatL z.cells 1=z.cells:=by simp [repeatL]
  simp only [fillV,e1,hx,J,dn,wU]
  rw [aE.2 (by omega:0*k+k≤k),af]
  have e2:z.cells.take (0*k)++(x.cells++z.cells.drop (0*k+k))=x.cells:=by
   rw [qy,jz,c_,fI (by omega),ff]
  simp only [e2,I,af]
 ·refine (s.new _).hU fun m r hm=>⟨I,.inr ⟨h.next,1,.exact 1,k,[],rfl,?_,by omega,by simp; omega,rfl,by omega,aD _⟩⟩
  have hm:m h.next=some (.cells x.cells.length x.cells false):=hm
  rw [hm,hx,ff]
end
section
variable {P:Program} {h h':H} {S:List aq} {X:aq} {v w x:V} {l:List Nat} {k:Nat}
theorem gx.slice {m:PM}{a b:Nat}(hv:gx m v l)(mh:a≤b)(hb:b≤l.length): gx m (slR v a b) ((l.take b).drop a):=by
 have aY:∀x∈(l.take b).drop a,x<256:=fun x hx=>hv.1 x (fY (gG hx))
 have hlen:((l.take b).drop a).length=b-a:=by simp; omega
 obtain ⟨hl,xP⟩:=hv
 rcases xP with ⟨rfl | ⟨ea,rfl⟩,rfl⟩ | ⟨id,off,cap,n,cs,st,rfl,hg,h1,h2,h3,h4⟩
 ·simp at hb
  have:b=0:=by omega
  have:a=0:=by omega
  subst_vars
  exact ⟨by simp,.inl ⟨.inl rfl,by simp⟩⟩
 ·simp at hb
  have:b=0:=by omega
  have:a=0:=by omega
  subst_vars
  exact ⟨by simp,.inl ⟨.inr ⟨ea,rfl⟩,by simp⟩⟩
 ·have I:∀o,o=off+a∨b-a=0→(cs.drop o).take (b-a)=ofBytes ((l.take b).drop a):=by
   intro o ho
   rcases ho with rfl | h0
   ·have e:=fo (fun q=>(q.take b).drop a) h3
    simp only [ofBytes,←oh,←om] at e ⊢
    rw [←e,qu,mX hb,qt,og]
   ·rw [h0,jz]
    have:((l.take b).drop a)=[]:=j0 (by omega)
    rw [this]; rfl
  cases cap with
  | exact c =>
   have hc:l.length≤c:=h4
   refine ⟨aY,.inr ⟨id,_,_,n,cs,st,by rw [hlen]; rfl,hg,h1,?_,?_,?_⟩⟩
   ·rw [hlen]
    by_cases J:c=a
    ·rw [gT J,af]; omega
    ·rw [cV J,ay]; omega
   ·rw [hlen]
    by_cases J:c=a
    ·rw [gT J,af]; exact I _ (.inr (by omega))
    ·rw [cV J,ay,cC]; exact I _ (.inl rfl)
   ·show ((l.take b).drop a).length≤c-a
    rw [hlen]; omega
  | rest e alt =>
   have he:e=1:=h4
   subst he
   exact ⟨aY,.inr ⟨id,_,_,n,cs,st,by rw [hlen]; rfl,hg,h1,by rw [hlen]; omega,by rw [hlen,cC]; exact I _ (.inl rfl),rfl⟩⟩
theorem uu {a b:Nat}(hX:cT X (cY v l))(I:a≤b)(J:b≤l.length): cT X (cY (slR v a b) ((l.take b).drop a)):=fun m r hm =>
 (hX m r hm).imp (fun h=>gx.slice h I J) (fun h=>gx.slice h I J)
theorem GJ {a:Nat}(I:cT X (cY v l))(J:a≤l.length): cT X (cY (slR v a l.length) (l.drop a)):=by
 have:=uu I J (aD _)
 rwa [List.take_length] at this
theorem Sat.mB (s:Sat h S): Sat h (.arr k .bn []::S):=(s.gy aa).hU fun _ _ _=>⟨rfl,.inl ⟨rfl,rfl⟩⟩
theorem Sat.DR (s:Sat h S): Sat h (aU .bn []::S):=(s.gy aa).hU fun _ _ _=>⟨by simp,.inl ⟨rfl,rfl⟩⟩
theorem Sat.r5 (s:Sat h S): Sat h (Ae .bn []::S):=(s.gy aa).hU fun _ _ _=>⟨by simp,.inl ⟨.inl rfl,rfl⟩⟩
theorem Ci (s:Sat h S){t e:TypeId}{i:TypeInfo}{z:V}{n:Nat}(hu:P.underlying t=some (.slice e))(hi:P.info? e=some i)(I:zeroT P e=some z)(J:i.size=k)(hb:i.bytes≤4096)(hl:z.cells.length=k)
 (h1:1≤k)(hn:n<1073741824):
  ∃id h',makeSliceV P h t (.int .i64 (n:Int)) (.int .i64 (n:Int))=some (.sl id 0 n (.exact n),h')∧Sat h' (pt id (.cells (n*k) (repeatL z.cells n) false)::S):=by
 refine ⟨h.next,h.new (.cells (n*k) (repeatL z.cells n) false),?_,s.new _⟩
 simp only [makeSliceV,hu,hi,I,bZ,J,hl]
 rw [show (decide ((0:Int)≤(n:Int))&&decide ((n:Int)≤(n:Int))&&decide ((n:Int)<1073741824)&&Nat.ble i.bytes 4096&&Nat.beq k k&&Nat.ble 1 k)=true by
  rw [aE.2 hb,aE.2 h1,dn]; simp; omega,af]
theorem oD {h:H}{t e:TypeId}{i o n:Nat}{c:Cap}{v:V}(hv:v=.sl i o n c)(hu:P.underlying t=some (.slice e)): lenV P h t v=some (.int .i64 n):=by subst hv; exact Kb hu
theorem DS {E:List (Nat×V)}{c:Go.Call}{b:Builtin}{args:List V}{r:V}(I:c.callee=.builtin b)(J:lookArgs E c.args.toList=some args)(hf:builtinV P h b c.argTypes args=some (r,h')): opE P E h (.call c)=some (r,h'):=by
 simp only [opE,I,J,hf]
end
def slR3 (v:V)(a b m:Nat): V:=match v with
 | .sl id off _ _=>.sl id (cond (Nat.beq m a) off (off+a*1)) (b-a) (.exact (m-a))
 | v=>v
section
variable {P:Program} {h h':H} {S:List aq} {X:aq} {v w x:V} {l:List Nat} {k:Nat}
theorem gx.slice3 {m:PM}{a b c:Nat}(hv:gx m v l)(mh:a≤b)(hb:b≤c)(hc:c≤l.length)(hl:1≤l.length): gx m (slR3 v a b c) ((l.take b).drop a):=by
 have aY:∀x∈(l.take b).drop a,x<256:=fun x hx=>hv.1 x (fY (gG hx))
 have hlen:((l.take b).drop a).length=b-a:=by simp; omega
 obtain ⟨_,xP⟩:=hv
 rcases xP with ⟨_,rfl⟩ | ⟨id,off,cap,n,cs,st,rfl,hg,h1,h2,h3,h4⟩
 ·simp at hl
 ·have I:∀o,o=off+a∨b-a=0→(cs.drop o).take (b-a)=ofBytes ((l.take b).drop a):=by
   intro o ho
   rcases ho with rfl | h0
   ·have e:=fo (fun q=>(q.take b).drop a) h3
    simp only [ofBytes,←oh,←om] at e ⊢
    rw [←e,qu,mX (cg hb hc),qt,og]
   ·rw [h0,jz]
    have:((l.take b).drop a)=[]:=j0 (by omega)
    rw [this]; rfl
  refine ⟨aY,.inr ⟨id,_,_,n,cs,st,by rw [hlen]; rfl,hg,h1,?_,?_,?_⟩⟩
  ·rw [hlen]
   by_cases J:c=a
   ·rw [gT J,af]; omega
   ·rw [cV J,ay]; omega
  ·rw [hlen]
   by_cases J:c=a
   ·rw [gT J,af]; exact I _ (.inr (by omega))
   ·rw [cV J,ay,cC]; exact I _ (.inl rfl)
  ·show ((l.take b).drop a).length≤c-a
   rw [hlen]; omega
theorem Cj {a b c:Nat}(hX:cT X (cY v l))(I:a≤b)(J:b≤c)(hc:c≤l.length)(hl:1≤l.length): cT X (cY (slR3 v a b c) ((l.take b).drop a)):=fun m r hm =>
 (hX m r hm).imp (fun h=>gx.slice3 h I J hc hl) (fun h=>gx.slice3 h I J hc hl)
theorem yj {a b c:Nat}(hv:View h v l)(I:a≤b)(hb:b≤c)(hc:c≤l.length)(hl:1≤l.length): sliceV Tryz.prog h 28 v (some a) (some b) (some c)=some (slR3 v a b c):=by
 obtain ⟨_,J⟩:=hv
 rcases J with ⟨_,rfl⟩ | ⟨id,off,cap,n,cs,st,rfl,hg,h1,h2,h3,h4⟩
 ·simp at hl
 ·cases cap with
  | exact q =>
   have hq:l.length≤q:=h4
   simp only [sliceV,slR3,aJ,dM,dO]
   rw [show (Nat.ble a b&&Nat.ble b c&&Nat.ble c q)=true by rw [aH,aH,aE,aE,aE]; omega,af]
  | rest e alt =>
   have he:e=1:=h4
   subst he
   simp only [sliceV,slR3,aJ,dM,dO,dn]
   rw [show (true&&Nat.ble 1 1)=true from rfl,af]
   rw [show (Nat.ble a b&&Nat.ble b c&&(Nat.ble c l.length||Nat.ble c (jf h id off 1))&&Nat.blt 0 l.length)=true by
    rw [aH,aH,aH,j6,aE,aE,aE]
    exact ⟨⟨⟨I,hb⟩,.inl hc⟩,by rw [Nat.blt]; exact aE.2 (by omega)⟩,af]
theorem gZ (hv:View h v l)(I:1≤l.length): ∃id off cap,v=.sl id off l.length cap:=by
 rcases hv.2 with ⟨_,rfl⟩ | ⟨id,off,cap,_,_,_,rfl,_⟩
 ·simp at I
 ·exact ⟨id,off,cap,rfl⟩
theorem fB {k:IntKind}{n:Int}(I:0≤n): ij (some (V.int k n))=some (some n.toNat):=by
 simp only [ij,bndV,cZ I,af]
end
section
variable {P:Program} {h h':H} {S:List aq} {X:aq} {v w x:V} {cs:List V} {l m:List Nat} {k:Nat}
theorem R3 {t e:TypeId}{i q j:Nat}(s:Sat h S)(J:getA S j=some (.arr q v cs))(hi:i*q+q≤cs.length)(hq:1≤q)(hu:P.underlying t=some (.slice e))(I:bk P e=some q):
  ∃id off,indexAddrV P t v (.int .i64 (i:Int))=some (.ptr id off)∧(b6 P e=some true→loadV P h e (.ptr id off)=some (.agg ((cs.drop (i*q)).take q))):=by
 obtain ⟨m,r,h1,h2,h3⟩:=s.at J
 rcases h3.2 with ⟨_,rfl⟩ | ⟨id,n,cap,N,rest,rfl,hg,e1,e2,_⟩
 ·simp at hi; omega
 ·refine ⟨id,i*q,?_,fun ht => ?_⟩
  ·simp only [indexAddrV,hu,I,bZ]
   have:i<n:=by
    have h4:i*q+q=(i+1)*q:=by rw [gM,tc]
    rw [h4,e1] at hi
    exact Nat.lt_of_succ_le (F4 hi hq)
   rw [show (decide ((0:Int)≤(i:Int))&&decide ((i:Int)<(n:Int)))=true by simp; omega,af]
   simp
  ·rw [UH ht I (h1 _ _ hg) (by simp; omega) (by omega)]
   rw [AW (by omega),wJ (by simp; omega)]
theorem Sat.R4 (s:Sat h (aU v l::X::S))(hX:cT X (cY w m)): ∀i∈rowIds w,i∉rowIds v:=by
 intro i hi fF
 obtain ⟨a,r,h1,h2,h3,b,c,g1,g2,g3,g4,d,e,k1,k2,k3,k4,k5⟩:=s.ok
 have hb:=Gx g4 i fF
 have hw:∀q:PM,gx q w m→q i≠none:=fun q J=>by
  rcases J.2 with ⟨rfl | ⟨ea,rfl⟩,_⟩ | ⟨id,off,cap,n,cs,st,rfl,hg,_⟩
  ·simp [rowIds] at hi
  ·simp [rowIds] at hi
  ·simp [rowIds] at hi; subst hi; rw [hg]; simp
 rcases hX _ _ k4 with J | J
 ·have h4:=hw _ J
  cases hd:d i with
  | none=>exact h4 hd
  | some o =>
   rcases g1 i with I | I
   ·exact hb I
   ·rw [k2 _ _ hd] at I; cases I
 ·have h4:=hw _ J
  cases R5:b i with
  | none=>exact hb R5
  | some o =>
   rcases h3 i with I | I
   ·rw [g2 _ _ R5] at I; cases I
   ·exact h4 I
end
end Go.Proofs.YtefepnnfphdkpaaGreat.Am
