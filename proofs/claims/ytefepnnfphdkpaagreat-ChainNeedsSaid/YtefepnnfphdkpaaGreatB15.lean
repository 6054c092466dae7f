/- ChainNeeds: a part of its proof; conditions: its statement's. -/
import Derived.Test.YtefepnnfphdkpaaGreatB01
import Derived.Test.YtefepnnfphdkpaaGreatProg
import Derived.KernelRfl
import Derived.Test.YtefepnnfphdkpaaGreatB14
namespace Go.Proofs.YtefepnnfphdkpaaGreat.Am
open Go
theorem mh : br Tryz.prog 3=some 1:=by kernel_rfl
theorem eM : b6 Tryz.prog 3=some false:=by kernel_rfl
theorem wF : zeroT Tryz.prog 3=some (.int .i64 0):=by kernel_rfl
theorem wG : br Tryz.prog 4=some 1:=by kernel_rfl
theorem m6 : b6 Tryz.prog 4=some false:=by kernel_rfl
theorem R8 : br Tryz.prog 5=some 1:=by kernel_rfl
theorem ux : b6 Tryz.prog 24=some false:=by kernel_rfl
theorem Pv : br Tryz.prog 26=some 1:=by kernel_rfl
theorem Gq : b6 Tryz.prog 26=some false:=by kernel_rfl
theorem jX : br Tryz.prog 28=some 1:=by kernel_rfl
theorem bK : b6 Tryz.prog 28=some false:=by kernel_rfl
theorem nA : zeroT Tryz.prog 28=some .bu:=by kernel_rfl
theorem Tq : br Tryz.prog 30=some 1:=by kernel_rfl
theorem Tr : b6 Tryz.prog 30=some false:=by kernel_rfl
theorem Ts : zeroT Tryz.prog 30=some (.int .i64 0):=by kernel_rfl
theorem KD : br Tryz.prog 33=some 1:=by kernel_rfl
theorem lS : b6 Tryz.prog 33=some false:=by kernel_rfl
theorem Tt : zeroT Tryz.prog 33=some .bu:=by kernel_rfl
theorem Gr : br Tryz.prog 43=some 1:=by kernel_rfl
theorem mN : b6 Tryz.prog 43=some false:=by kernel_rfl
theorem Pw : br Tryz.prog 46=some 1:=by kernel_rfl
theorem Ar : b6 Tryz.prog 46=some false:=by kernel_rfl
theorem sR : br Tryz.prog 48=some 6:=by kernel_rfl
theorem As : b6 Tryz.prog 48=some true:=by kernel_rfl
theorem KE : zeroT Tryz.prog 48=some (.agg [(.int .i64 0),(.int .u64 0),(.int .u64 0),(.int .u64 0),.bu,.bu]):=by kernel_rfl
theorem uy (a b:Nat): fieldAddrV Tryz.prog 48 (.ptr a b) 0=some (.ptr a (b+0)):=by kernel_rfl
theorem Px (a b:Nat): fieldAddrV Tryz.prog 48 (.ptr a b) 1=some (.ptr a (b+1)):=by kernel_rfl
theorem Py (a b:Nat): fieldAddrV Tryz.prog 48 (.ptr a b) 2=some (.ptr a (b+2)):=by kernel_rfl
theorem Pz (a b:Nat): fieldAddrV Tryz.prog 48 (.ptr a b) 3=some (.ptr a (b+3)):=by kernel_rfl
theorem PA (a b:Nat): fieldAddrV Tryz.prog 48 (.ptr a b) 4=some (.ptr a (b+4)):=by kernel_rfl
theorem qb (a b:Nat): fieldAddrV Tryz.prog 48 (.ptr a b) 5=some (.ptr a (b+5)):=by kernel_rfl
theorem KF (ps:List (Nat×V)): buildV Tryz.prog 48 ps=(fillV (nth [(0,1),(1,1),(2,1),(3,1),(4,1),(5,1)]) ((.agg [(.int .i64 0),(.int .u64 0),(.int .u64 0),(.int .u64 0),.bu,.bu]):V).cells ps).map .agg:=by kernel_rfl
theorem rf : b6 Tryz.prog 62=some false:=by kernel_rfl
theorem KG : b6 Tryz.prog 86=some false:=by kernel_rfl
theorem PB : b6 Tryz.prog 99=some false:=by kernel_rfl
theorem lM : b6 Tryz.prog 109=some false:=by kernel_rfl
theorem QT : br Tryz.prog 111=some 3:=by kernel_rfl
theorem mj (a b:Nat): fieldAddrV Tryz.prog 111 (.ptr a b) 0=some (.ptr a (b+0)):=by kernel_rfl
theorem nC (a b:Nat): fieldAddrV Tryz.prog 111 (.ptr a b) 1=some (.ptr a (b+1)):=by kernel_rfl
theorem vH (a b:Nat): fieldAddrV Tryz.prog 111 (.ptr a b) 2=some (.ptr a (b+2)):=by kernel_rfl
theorem QU (ps:List (Nat×V)): buildV Tryz.prog 111 ps=(fillV (nth [(0,1),(1,1),(2,1)]) ((.agg [.cN,.jh,(.bool false)]):V).cells ps).map .agg:=by kernel_rfl
theorem vI : b6 Tryz.prog 112=some false:=by kernel_rfl
theorem vJ (a b:Nat): fieldAddrV Tryz.prog 114 (.ptr a b) 0=some (.ptr a (b+0)):=by kernel_rfl
theorem EW (a b:Nat): fieldAddrV Tryz.prog 114 (.ptr a b) 1=some (.ptr a (b+1)):=by kernel_rfl
theorem pI (a b:Nat): fieldAddrV Tryz.prog 114 (.ptr a b) 2=some (.ptr a (b+2)):=by kernel_rfl
theorem pJ (a b:Nat): fieldAddrV Tryz.prog 114 (.ptr a b) 3=some (.ptr a (b+3)):=by kernel_rfl
theorem QV (ps:List (Nat×V)): buildV Tryz.prog 114 ps=(fillV (nth [(0,1),(1,1),(2,1),(3,1),(4,1),(5,1)]) ((.agg [.cN,.cN,.cN,.cN,.bu,(.int .u64 0)]):V).cells ps).map .agg:=by kernel_rfl
theorem Gs : b6 Tryz.prog 145=some false:=by kernel_rfl
theorem QW (a b l:Nat)(c:Cap)(k:IntKind)(n:Int): indexAddrV Tryz.prog 145 (.sl a b l c) (.int k n)=cond (decide (0≤n)&&decide (n<(l:Int))) (some (.ptr a (b+n.toNat*1))) none:=by kernel_rfl
theorem QX : br Tryz.prog 146=some 1:=by kernel_rfl
theorem Gt : b6 Tryz.prog 146=some false:=by kernel_rfl
theorem QY : br Tryz.prog 147=some 1:=by kernel_rfl
theorem Nc (a b:Nat): fieldAddrV Tryz.prog 149 (.ptr a b) 0=some (.ptr a (b+0)):=by kernel_rfl
theorem Au (a b:Nat): fieldAddrV Tryz.prog 149 (.ptr a b) 1=some (.ptr a (b+1)):=by kernel_rfl
theorem Av (a b:Nat): fieldAddrV Tryz.prog 149 (.ptr a b) 2=some (.ptr a (b+2)):=by kernel_rfl
theorem EX (a b:Nat): fieldAddrV Tryz.prog 149 (.ptr a b) 3=some (.ptr a (b+3)):=by kernel_rfl
theorem r8 (a b:Nat): fieldAddrV Tryz.prog 149 (.ptr a b) 4=some (.ptr a (b+4)):=by kernel_rfl
theorem EY (a b:Nat): fieldAddrV Tryz.prog 149 (.ptr a b) 5=some (.ptr a (b+5)):=by kernel_rfl
theorem Nd (a b:Nat): fieldAddrV Tryz.prog 149 (.ptr a b) 6=some (.ptr a (b+6)):=by kernel_rfl
theorem vK (a b:Nat): fieldAddrV Tryz.prog 149 (.ptr a b) 7=some (.ptr a (b+7)):=by kernel_rfl
theorem vL (a b:Nat): fieldAddrV Tryz.prog 149 (.ptr a b) 8=some (.ptr a (b+8)):=by kernel_rfl
theorem mo (a b:Nat): fieldAddrV Tryz.prog 149 (.ptr a b) 9=some (.ptr a (b+9)):=by kernel_rfl
theorem KH (a b:Nat): fieldAddrV Tryz.prog 149 (.ptr a b) 10=some (.ptr a (b+10)):=by kernel_rfl
theorem KI (a b:Nat): fieldAddrV Tryz.prog 149 (.ptr a b) 11=some (.ptr a (b+11)):=by kernel_rfl
theorem QZ (ps:List (Nat×V)): buildV Tryz.prog 149 ps=(fillV (nth [(0,1),(1,1),(2,1),(3,1),(4,1),(5,1),(6,1),(7,1),(8,1),(9,1),(10,1),(11,1)]) ((.agg [(.int .i64 0),.bu,.bu,.jh,.bu,(.int .i64 0),.bu,(.int .i64 0),(.int .i64 0),(.bool false),.cN,.bu]):V).cells ps).map .agg:=by kernel_rfl
theorem Gu : br Tryz.prog 151=some 2:=by kernel_rfl
theorem Q0 : b6 Tryz.prog 151=some true:=by kernel_rfl
theorem Gv : zeroT Tryz.prog 151=some (.agg [(.int .i64 0),.bu]):=by kernel_rfl
theorem Nf (a b:Nat): fieldAddrV Tryz.prog 151 (.ptr a b) 1=some (.ptr a (b+1)):=by kernel_rfl
theorem Q1 (ps:List (Nat×V)): buildV Tryz.prog 151 ps=(fillV (nth [(0,1),(1,1)]) ((.agg [(.int .i64 0),.bu]):V).cells ps).map .agg:=by kernel_rfl
theorem EZ (a b:Nat): fieldAddrV Tryz.prog 155 (.ptr a b) 0=some (.ptr a (b+0)):=by kernel_rfl
theorem r9 (a b:Nat): fieldAddrV Tryz.prog 155 (.ptr a b) 1=some (.ptr a (b+1)):=by kernel_rfl
theorem jI (a b:Nat): fieldAddrV Tryz.prog 155 (.ptr a b) 2=some (.ptr a (b+2)):=by kernel_rfl
theorem nD (a b:Nat): fieldAddrV Tryz.prog 155 (.ptr a b) 3=some (.ptr a (b+3)):=by kernel_rfl
theorem Aw (a b:Nat): fieldAddrV Tryz.prog 155 (.ptr a b) 4=some (.ptr a (b+4)):=by kernel_rfl
theorem Ng (a b:Nat): fieldAddrV Tryz.prog 155 (.ptr a b) 5=some (.ptr a (b+5)):=by kernel_rfl
theorem Q2 (ps:List (Nat×V)): buildV Tryz.prog 155 ps=(fillV (nth [(0,1),(1,1),(2,1),(3,1),(4,1),(5,1)]) ((.agg [.cN,(.int .u64 0),.bu,.bu,(.int .i64 0),(.int .u64 0)]):V).cells ps).map .agg:=by kernel_rfl
theorem a_ : br Tryz.prog 163=some 1:=by kernel_rfl
theorem bO : b6 Tryz.prog 163=some true:=by kernel_rfl
theorem ik : zeroT Tryz.prog 163=some (.agg [.bu]):=by kernel_rfl
theorem fg (a b:Nat): fieldAddrV Tryz.prog 163 (.ptr a b) 0=some (.ptr a (b+0)):=by kernel_rfl
theorem vM (ps:List (Nat×V)): buildV Tryz.prog 163 ps=(fillV (nth [(0,1)]) ((.agg [.bu]):V).cells ps).map .agg:=by kernel_rfl
theorem Q3 : br Tryz.prog 173=some 2:=by kernel_rfl
theorem Q4 : zeroT Tryz.prog 173=some (.agg [(.int .i64 0),.bu]):=by kernel_rfl
theorem Nh (a b:Nat): fieldAddrV Tryz.prog 173 (.ptr a b) 0=some (.ptr a (b+0)):=by kernel_rfl
theorem E0 (a b:Nat): fieldAddrV Tryz.prog 173 (.ptr a b) 1=some (.ptr a (b+1)):=by kernel_rfl
theorem Mc (ps:List (Nat×V)): buildV Tryz.prog 173 ps=(fillV (nth [(0,1),(1,1)]) ((.agg [(.int .i64 0),.bu]):V).cells ps).map .agg:=by kernel_rfl
theorem vN : br Tryz.prog 180=some 4:=by kernel_rfl
theorem Q5 : b6 Tryz.prog 180=some true:=by kernel_rfl
theorem qL : zeroT Tryz.prog 180=some (.agg [(.int .i64 0),(.int .i64 0),(.bool false),.bu]):=by kernel_rfl
theorem Ax (a b:Nat): fieldAddrV Tryz.prog 180 (.ptr a b) 0=some (.ptr a (b+0)):=by kernel_rfl
theorem pK (a b:Nat): fieldAddrV Tryz.prog 180 (.ptr a b) 1=some (.ptr a (b+1)):=by kernel_rfl
theorem E3 (a b:Nat): fieldAddrV Tryz.prog 180 (.ptr a b) 2=some (.ptr a (b+2)):=by kernel_rfl
theorem pL (a b:Nat): fieldAddrV Tryz.prog 180 (.ptr a b) 3=some (.ptr a (b+3)):=by kernel_rfl
theorem Gw (ps:List (Nat×V)): buildV Tryz.prog 180 ps=(fillV (nth [(0,1),(1,1),(2,1),(3,1)]) ((.agg [(.int .i64 0),(.int .i64 0),(.bool false),.bu]):V).cells ps).map .agg:=by kernel_rfl
theorem mO : b6 Tryz.prog 185=some false:=by kernel_rfl
theorem Q6 (a b l:Nat)(c:Cap)(k:IntKind)(n:Int): indexAddrV Tryz.prog 185 (.sl a b l c) (.int k n)=cond (decide (0≤n)&&decide (n<(l:Int))) (some (.ptr a (b+n.toNat*5))) none:=by kernel_rfl
theorem yt : b6 Tryz.prog 186=some false:=by kernel_rfl
theorem vO : b6 Tryz.prog 187=some false:=by kernel_rfl
theorem vP (a b:Nat): fieldAddrV Tryz.prog 189 (.ptr a b) 0=some (.ptr a (b+0)):=by kernel_rfl
theorem Ni (a b:Nat): fieldAddrV Tryz.prog 189 (.ptr a b) 1=some (.ptr a (b+1)):=by kernel_rfl
theorem jJ (a b:Nat): fieldAddrV Tryz.prog 189 (.ptr a b) 2=some (.ptr a (b+2)):=by kernel_rfl
theorem r_ (a b:Nat): fieldAddrV Tryz.prog 189 (.ptr a b) 3=some (.ptr a (b+3)):=by kernel_rfl
theorem pM (a b:Nat): fieldAddrV Tryz.prog 189 (.ptr a b) 4=some (.ptr a (b+4)):=by kernel_rfl
theorem Ay (a b:Nat): fieldAddrV Tryz.prog 189 (.ptr a b) 5=some (.ptr a (b+5)):=by kernel_rfl
theorem Q7 (ps:List (Nat×V)): buildV Tryz.prog 189 ps=(fillV (nth [(0,1),(1,1),(2,1),(3,1),(4,1),(5,1)]) ((.agg [.cN,.cN,.bu,.jh,.jh,(.int .i64 0)]):V).cells ps).map .agg:=by kernel_rfl
theorem yu : br Tryz.prog 193=some 5:=by kernel_rfl
theorem Q8 : b6 Tryz.prog 193=some true:=by kernel_rfl
theorem Q9 : zeroT Tryz.prog 193=some (.agg [(.int .i64 0),.bu,(.int .i64 0),(.bool false),(.bool false)]):=by kernel_rfl
theorem mq (a b:Nat): fieldAddrV Tryz.prog 193 (.ptr a b) 0=some (.ptr a (b+0)):=by kernel_rfl
theorem vQ (a b:Nat): fieldAddrV Tryz.prog 193 (.ptr a b) 1=some (.ptr a (b+1)):=by kernel_rfl
theorem nE (a b:Nat): fieldAddrV Tryz.prog 193 (.ptr a b) 2=some (.ptr a (b+2)):=by kernel_rfl
theorem Az (a b:Nat): fieldAddrV Tryz.prog 193 (.ptr a b) 3=some (.ptr a (b+3)):=by kernel_rfl
theorem AA (a b:Nat): fieldAddrV Tryz.prog 193 (.ptr a b) 4=some (.ptr a (b+4)):=by kernel_rfl
theorem BR (ps:List (Nat×V)): buildV Tryz.prog 193 ps=(fillV (nth [(0,1),(1,1),(2,1),(3,1),(4,1)]) ((.agg [(.int .i64 0),.bu,(.int .i64 0),(.bool false),(.bool false)]):V).cells ps).map .agg:=by kernel_rfl
theorem vR : br Tryz.prog 199=some 2:=by kernel_rfl
theorem Me : b6 Tryz.prog 199=some true:=by kernel_rfl
theorem vS : zeroT Tryz.prog 199=some (.agg [(.int .u64 0),(.bool false)]):=by kernel_rfl
theorem AB (a b:Nat): fieldAddrV Tryz.prog 199 (.ptr a b) 0=some (.ptr a (b+0)):=by kernel_rfl
theorem Nj (cs:List V): mA Tryz.prog 199 (.agg cs) 0=nth cs 0:=by kernel_rfl
theorem E5 (a b:Nat): fieldAddrV Tryz.prog 199 (.ptr a b) 1=some (.ptr a (b+1)):=by kernel_rfl
theorem Q_ (ps:List (Nat×V)): buildV Tryz.prog 199 ps=(fillV (nth [(0,1),(1,1)]) ((.agg [(.int .u64 0),(.bool false)]):V).cells ps).map .agg:=by kernel_rfl
theorem E6 (a b:Nat): fieldAddrV Tryz.prog 210 (.ptr a b) 0=some (.ptr a (b+0)):=by kernel_rfl
theorem Ra (ps:List (Nat×V)): buildV Tryz.prog 210 ps=(fillV (nth [(0,1),(1,1)]) ((.agg [.jh,.jh]):V).cells ps).map .agg:=by kernel_rfl
theorem Mf (a b:Nat)(k:IntKind)(n:Int): indexAddrV Tryz.prog 227 (.ptr a b) (.int k n)=cond (decide (0≤n)&&decide (n<(512:Nat))) (some (.ptr a (b+n.toNat*1))) none:=by kernel_rfl
theorem Rb : br Tryz.prog 239=some 512:=by kernel_rfl
theorem Rc : b6 Tryz.prog 239=some true:=by kernel_rfl
theorem Re (ps:List (Nat×V)): buildV Tryz.prog 244 ps=(fillV (fun i=>some (i*1,1)) ((.agg [(.int .u64 0),(.int .u64 0),(.int .u64 0)]):V).cells ps).map .agg:=by kernel_rfl
def slR (v:V)(a b:Nat): V:=match v with
 | .sl id off _ (.exact c)=>.sl id (cond (Nat.beq c a) off (off+a*1)) (b-a) (.exact (c-a))
 | .sl id off _ (.rest _ alt)=>.sl id (off+a*1) (b-a) (.rest 1 (cond (Nat.beq a 0) alt (cond (Nat.blt a b) (off+a*1) off)))
 | v=>v
theorem iq {h:H}{v:V}{l:List Nat}{a b:Nat}(hv:View h v l)(mc:a≤b)(hb:b≤l.length):
  sliceV Tryz.prog h 28 v (some a) (some b) none=some (slR v a b)∧View h (slR v a b) ((l.take b).drop a)∧∀i∈rowIds (slR v a b),i∈rowIds v:=by
 have bk:∀x∈(l.take b).drop a,x<256:=fun x hx=>hv.1 x (fH (gw hx))
 have hlen:((l.take b).drop a).length=b-a:=by simp; omega
 obtain ⟨hl,tq⟩:=hv
 rcases tq with ⟨rfl | ⟨ea,rfl⟩,rfl⟩ | ⟨id,off,cap,n,cs,st,rfl,hg,h1,h2,h3,h4⟩
 ·simp only [bF] at hb
  have:b=0:=by omega
  have:a=0:=by omega
  subst_vars
  refine ⟨?_,⟨by simp,.inl ⟨.inl rfl,by simp⟩⟩,fun i hi=>hi⟩
  simp only [sliceV,aI,dA]
  rfl
 ·simp only [bF] at hb
  have:b=0:=by omega
  have:a=0:=by omega
  subst_vars
  refine ⟨?_,⟨by simp,.inl ⟨.inr ⟨ea,rfl⟩,by simp⟩⟩,fun i hi=>hi⟩
  simp only [sliceV,aI,dA]
  rfl
 ·have I:∀o,o=off+a∨b-a=0→(cs.drop o).take (b-a)=ofBytes ((l.take b).drop a):=by
   intro o ho
   rcases rH (b-a) with hz | hz
   ·rw [hz,j_]
    have:(l.take b).drop a=[]:=ju (by omega)
    rw [this]; rfl
   ·have qE:o=off+a:=by rcases ho with ho | ho; exact ho; omega
    subst qE
    have e1:ofBytes ((l.take b).drop a)=((ofBytes l).take b).drop a:=by simp [ofBytes,nk,nj]
    rw [e1,←h3,o5,lZ hb,oZ,ni]
  cases cap with
  | exact c =>
   have hc:l.length≤c:=h4
   refine ⟨?_,⟨bk,.inr ⟨id,_,_,n,cs,st,by rw [hlen]; rfl,hg,h1,?_,?_,?_⟩⟩,fun i hi=>by simpa [rowIds,slR] using hi⟩
   ·simp only [sliceV,slR,aI,dA,dV]
    rw [show (Nat.ble a b&&Nat.ble b c)=true by rw [aG,aE,aE]; omega,af]
   ·rw [hlen]
    by_cases J:c=a
    ·rw [gM J,af]; omega
    ·rw [cO J,ay]; omega
   ·rw [hlen]
    by_cases J:c=a
    ·rw [gM J,af]; exact I off (.inr (by omega))
    ·rw [cO J,ay,c6]; exact I _ (.inl rfl)
   ·show _≤c-a
    rw [hlen]; omega
  | rest e alt =>
   have he:e=1:=h4
   subst he
   refine ⟨?_,⟨bk,.inr ⟨id,_,_,n,cs,st,by rw [hlen]; rfl,hg,h1,by rw [hlen]; omega,by rw [hlen,c6]; exact I _ (.inl rfl),rfl⟩⟩,fun i hi=>by simpa [rowIds,slR] using hi⟩
   simp only [sliceV,slR,aI,dA,dV,dc]
   rw [show (true&&Nat.ble 1 1)=true from rfl,af]
   rw [show (Nat.ble a b&&(Nat.ble b l.length||Nat.ble b (iW h id off 1)))=true by rw [aG,kX,aE,aE]; exact ⟨mc,.inl hb⟩,af]
theorem jf {h:H}{v:V}{l:List Nat}{a:Nat}(hv:View h v l)(ha:a≤l.length):
  sliceV Tryz.prog h 28 v (some a) none none=some (slR v a l.length)∧View h (slR v a l.length) (l.drop a)∧∀i∈rowIds (slR v a l.length),i∈rowIds v:=by
 obtain ⟨I,h2,h3⟩:=iq hv ha (aD _)
 refine ⟨?_,by simpa using h2,h3⟩
 obtain ⟨_,J⟩:=hv
 rcases J with ⟨rfl | ⟨ea,rfl⟩,rfl⟩ | ⟨id,off,cap,n,cs,st,rfl,hg,g1,g2,g3,g4⟩
 ·simpa [sliceV,aI,dA] using I
 ·simpa [sliceV,aI,dA] using I
 ·rw [←I]
  simp only [sliceV,aI,dA,oX,dV]
theorem eB {h:H}{v:V}{l:List Nat}{i b:Nat}(hv:View h v l)(hi:l[i]?=some b):
  ∃id off,indexAddrV Tryz.prog 28 v (.int .i64 (i:Int))=some (.ptr id off)∧loadV Tryz.prog h 5 (.ptr id off)=some (.int .u8 (b:Int)):=by
 obtain ⟨hl,I⟩:=hv
 have J:i<l.length:=(List.getElem?_eq_some_iff.1 hi).1
 rcases I with ⟨_,rfl⟩ | ⟨id,off,cap,n,cs,st,rfl,hg,h1,h2,h3,h4⟩
 ·simp at hi
 ·refine ⟨id,off+i*1,?_,?_⟩
  ·simp only [indexAddrV,aI,dA,cW]
   rw [show (decide ((0:Int)≤(i:Int))&&decide ((i:Int)<(l.length:Int)))=true by simp; omega,af]
  ·simp only [loadV,ER,th,hg,fh,c6]
   have e:=eS (fun q=>q[i]?) h3
   simp only [jx,jy,ax J] at e
   rw [e]
   simp [ofBytes,hi]
theorem View.cells {h:H}{v:V}{l:List Nat}(I:View h v l): v.cells=[v]∧Am.storable v=true:=by
 obtain ⟨_,I⟩:=I
 rcases I with ⟨rfl | ⟨J,rfl⟩,_⟩ | ⟨id,off,cap,n,cs,st,rfl,_⟩ <;> exact ⟨rfl,rfl⟩
def plain1 : V→Bool
 | .bool _ | .int _ _ | .str _ | .cN | .ptr _ _ | .bu | .sl _ _ _ _ | .jh | .map _ | .AT | .lB | .pO _ _=>true
 | .fn (.func _) [] []=>true
 | _=>false
def PC : V→Bool
 | .agg l=>l.all plain1
 | .aX l=>l.all plain1
 | .iface _ v=>plain1 v
 | v=>plain1 v
theorem Gx (k:FloatKind): fkBeq k k=true:=by cases k <;> rfl
theorem Cx : ∀l:List Nat,natsBeq l l=true:=fun l=>by rw [wE]; simp
theorem KJ (v:V)(h:plain1 v=true): v.beq v=true:=by
 cases v <;> simp [plain1,V.beq,cQ,nM,wD,Cx,Gx] at h ⊢
 rename_i f a b
 cases f <;> cases a <;> cases b <;> simp [plain1,V.beq,V.beqL] at h ⊢
theorem Mg : ∀(l:List V),l.all plain1=true→V.beqL l l=true:=by
 intro l
 induction l with
 | nil=>intro _; rfl
 | cons v l I =>
  intro h
  simp only [iB,aG] at h
  simp only [V.beqL,KJ v h.1,af,I h.2]
theorem bT (v:V)(h:PC v=true): v.beq v=true:=by
 cases v with
 | agg l=>exact Mg l h
 | aX l=>exact Mg l h
 | iface t v=>simp only [V.beq,dc,vo]; exact KJ v h
 | _=>exact KJ _ h
section
variable {P:Program} {h h':H} {S:List aq} {X:aq} {v w:V} {l m:List Nat}
theorem Gy (s:Sat h (aP v l::X::S))(J:cI X (cL w m))(I:l.length+m.length≤140737488355328):
  ∃v' h',appendV Tryz.prog h #[28,28] v w=some (v',h')∧Sat h' (aP v' (l++m)::X::S):=by
 obtain ⟨v',h',e1,e2,e3,e4⟩:=uo s.wf (s.buf (k:=0) rfl) (s.aH (k:=1) rfl J) I
 exact ⟨v',h',e1,s.vG e3 e2 e4⟩
theorem IB (s:Sat h S){c:Nat}(I:c<1073741824):
  ∃v h',makeSliceV Tryz.prog h 28 (.int .i64 0) (.int .i64 (c:Int))=some (v,h')∧Sat h' (aP v []::S):=by
 obtain ⟨v,h',J,e2,e3,e4⟩:=yf s.wf I
 exact ⟨v,h',J,s.Cv e3 e2 e4⟩
theorem Nk : ∀n:Nat,repeatL [V.int .u8 0] n=ofBytes (List.replicate n 0):=by
 intro n
 induction n with
 | zero=>rfl
 | succ n I=>simp only [repeatL,I,ofBytes,rD,b8]; rfl
theorem IC (s:Sat h S){c:Nat}(J:c<1073741824):
  ∃v h',makeSliceV Tryz.prog h 28 (.int .i64 (c:Int)) (.int .i64 (c:Int))=some (v,h')∧Sat h' (aP v (List.replicate c 0)::S):=by
 obtain ⟨i,hi,i1,i2⟩:=Ap
 have I:ic (h.new (.cells c (repeatL [.int .u8 0] c) false)) (.sl h.next 0 c (.exact c)) (List.replicate c 0):=by
  refine ⟨fun b I=>by have:=ry I; omega,.inr (.inl ⟨h.next,[],c,by simp,?_,by simp⟩)⟩
  rw [gm,ax rfl,Nk,fJ]
 refine ⟨.sl h.next 0 c (.exact c),h.new (.cells c (repeatL [.int .u8 0] c) false),?_,s.Cv (cV.vF s.wf _) I fun i hi=>by simp [rowIds] at hi; omega⟩
 simp only [makeSliceV,aI,hi,nt,i1,i2,V.cells,aQ,bF,cW,c6]
 rw [show (decide ((0:Int)≤(c:Int))&&decide ((c:Int)≤(c:Int))&&decide ((c:Int)<1073741824)&&Nat.ble 1 4096&&Nat.beq (0+1) 1&&Nat.ble 1 1)=true by simp; omega,af]
theorem ID (s:Sat h S){b:Nat}(I:b<256): ∃v h',buildSliceV Tryz.prog h 28 1 [(0,.int .u8 b)]=some (v,h')∧Sat h' (aP v [b]::S):=by
 obtain ⟨v,h',J,e2,e3,e4⟩:=A5 s.wf I
 exact ⟨v,h',J,s.Cv e3 e2 e4⟩
theorem Sat.eo (s:Sat h (aP v l::S))(hl:1≤l.length): ∃id c cap rest,v=.sl id 0 l.length cap∧Sat h (pt id (.cells c (ofBytes l++rest) false)::S)∧l.length+rest.length=c ∧
  (∀(h':H) (I:List Nat),I.length=l.length→(∀b∈I,b<256)→Sat h' (pt id (.cells c (ofBytes I++rest) false)::S)→Sat h' (aP v I::S)):=by
 obtain ⟨m,r,h1,h2,h3,a,b,g1,g2,g3,⟨gl,g4⟩,g5⟩:=s.ok
 rcases g4 with ⟨rfl,rfl⟩ | ⟨id,cs,c,rfl,hg,hc⟩ | ⟨id,rfl,hg,h5⟩
 ·simp at hl
 ·refine ⟨id,c,_,cs,rfl,⟨s.wf,m,r,h1,h2,h3,a,b,g1,g2,g3,hg,g5⟩,hc,fun h' I e1 e2 s'=>s'.jH ?_⟩
  intro m' r' hm
  exact ⟨e2,.inr (.inl ⟨id,cs,c,by rw [e1],hm,by omega⟩)⟩
 ·refine ⟨id,l.length,_,[],rfl,⟨s.wf,m,r,h1,h2,h3,a,b,g1,g2,g3,by rw [fJ]; exact hg,g5⟩,by simp,fun h' I e1 e2 s'=>s'.jH ?_⟩
  intro m' r' hm
  have J:m' id=some (.cells l.length (ofBytes I++[]) false):=hm
  rw [fJ] at J
  exact ⟨e2,.inr (.inr ⟨id,by rw [e1],by rw [e1]; exact J,by omega⟩)⟩
theorem D1 (l:List Nat)(i b:Nat): (ofBytes l).set i (.int .u8 (b:Int))=ofBytes (l.set i b):=by simp [ofBytes,List.map_set]
theorem uz (l:List Nat)(n:Nat): (ofBytes l).take n=ofBytes (l.take n):=by simp [ofBytes,nj]
theorem Cy (l:List Nat)(n:Nat): (ofBytes l).drop n=ofBytes (l.drop n):=by simp [ofBytes,nk]
theorem kf (s:Sat h (aP v l::S)){i b:Nat}(hi:i<l.length)(hb:b<256):
  ∃id off,indexAddrV Tryz.prog 28 v (.int .i64 (i:Int))=some (.ptr id off)∧∃h',fM Tryz.prog h 5 (.ptr id off) (.int .u8 (b:Int))=some h'∧Sat h' (aP v (l.set i b)::S):=by
 have hv:=(s.buf (k:=0) rfl).1
 obtain ⟨id,c,cap,rest,rfl,s1,hc,hf⟩:=s.eo (by omega)
 refine ⟨id,i,?_,?_⟩
 ·simp only [indexAddrV,aI,dA,cW]
  rw [show (decide ((0:Int)≤(i:Int))&&decide ((i:Int)<(l.length:Int)))=true by simp; omega,af]
  simp
 ·obtain ⟨h',e1,J⟩:=s1.iw (t:=5) (P:=Tryz.prog) (v:=.int .u8 (b:Int)) (k:=0) (off:=i) rfl dA (by simp [cm]; omega) (by omega) rfl rfl
  refine ⟨h',e1,hf h' (l.set i b) (by simp) (fun x I => ?_) ?_⟩
  ·rcases kU I with I | rfl
   ·exact hv x I
   ·exact hb
  ·have e3:(ofBytes l++rest).set i (.int .u8 (b:Int))=ofBytes (l.set i b)++rest:=by
    rw [List.set_append_left _ _ (by rw [cm]; exact hi),D1]
   rw [e3] at J
   exact J
def aT (l:List Nat)(a:Nat)(m:List Nat): List Nat:=l.take a++(m++l.drop (a+m.length))
theorem ct {l m:List Nat}{a:Nat}(h:a+m.length≤l.length): (aT l a m).length=l.length:=by simp [aT]; omega
theorem A7 {l m:List Nat}{a:Nat}(J:∀b∈l,b<256)(hm:∀b∈m,b<256): ∀b∈aT l a m,b<256:=fun b I=>by
 simp only [aT,ng] at I
 rcases I with I | I | I
 ·exact J b (fH I)
 ·exact hm b I
 ·exact J b (gw I)
theorem Cz (s:Sat h (aP v l::X::S))(hX:cI X (cL w m)){a b:Nat}(mc:a<b)(hb:b≤l.length)(hm:1≤m.length):
  ∃h',copyV Tryz.prog h 28 (slR v a b) w=some (.int .i64 (min m.length (b-a):Nat),h')∧Sat h' (aP v (aT l a (m.take (b-a)))::X::S):=by
 have hw:=s.aH (k:=1) rfl hX
 have R9:=hw.1
 have hv:=(s.buf (k:=0) rfl).1
 obtain ⟨id,c,cap,rest,rfl,s1,hc,hf⟩:=s.eo (by omega)
 have kr:∃t_,slR (.sl id 0 l.length cap) a b=.sl id a (b-a) t_:=by
  cases cap with
  | exact c =>
   refine ⟨.exact (c-a),?_⟩
   simp only [slR]
   by_cases UT:c=a
   ·obtain ⟨m',r,h1,h2,h3⟩:=s.at (k:=0) rfl
    rcases h3.2 with ⟨e,_⟩ | ⟨wu,cs',c',e,hg,R_⟩ | ⟨wu,e,_⟩
    ·cases e
    ·injection e with _ _ _ e4; injection e4 with e4; omega
    ·injection e with _ _ _ e4; cases e4
   ·rw [cO UT,ay,dB,c6]
  | rest e alt=>exact ⟨_,by simp only [slR,dB,c6]; rfl⟩
 obtain ⟨t_,kr⟩:=kr
 rw [kr]
 have mK:=hw
 rcases mK.2 with ⟨_,rfl⟩ | ⟨CA,I,J,n2,PD,Sa,rfl,E7,q1,q2,q3,q4⟩
 ·simp at hm
 ·have Tu:Nat.min m.length (b-a)=(m.take (b-a)).length:=by
   rw [fc]
   exact Nat.min_comm _ _
  have fT:rdN h CA I (Nat.min m.length (b-a)*1)=some (ofBytes (m.take (b-a))):=by
   have yw:View h (.sl CA I (m.take (b-a)).length J) (m.take (b-a)):=by
    refine ⟨fun x hx=>R9 x (fH hx),.inr ⟨CA,I,J,n2,PD,Sa,rfl,E7,q1,?_,?_,?_⟩⟩
    ·have:(m.take (b-a)).length≤m.length:=by simp; omega
     omega
    ·rw [←uz,←q3,o5,fc]
    ·cases J with
     | exact c2 =>
      simp only at q4 ⊢
      have:(m.take (b-a)).length≤m.length:=by simp; omega
      omega
     | rest e2 a2=>exact q4
   rw [c6,Tu]
   exact yw.rdN.2
  simp only [copyV,aI,dA,fT]
  have hlen:(m.take (b-a)).length≤b-a:=by simp; omega
  have CD:wrN h id a (ofBytes (m.take (b-a)))=some (h.put id (some (.cells c (ofBytes (aT l a (m.take (b-a)))++rest) false))):=by
   simp only [wrN,s1.row (k:=0) rfl,cm]
   rw [aE.2 (by omega),af]
   congr 3
   have e0:(ofBytes l++rest).take a++(ofBytes (m.take (b-a))++(ofBytes l++rest).drop (a+(m.take (b-a)).length))=ofBytes (aT l a (m.take (b-a)))++rest:=by
    rw [vf (by rw [cm]; omega),Er (by rw [cm]; omega),uz,Cy]
    simp only [aT,q_,eO]
   cases CE:(Nat.beq a 0&&Nat.beq (m.take (b-a)).length c) with
   | true =>
    simp only [aG,beq_iff] at CE
    rw [af,←e0]
    obtain ⟨UU,UW⟩:=CE
    subst UU
    have:(ofBytes l++rest).drop (0+(m.take (b-0)).length)=[]:=gh (by simp [cm] at UW ⊢; omega)
    rw [this]
    simp
   | false=>rw [ay,e0]
  rw [CD]
  refine ⟨_,rfl,hf _ _ (ct (by omega)) (A7 hv (fun x hx=>R9 x (fH hx))) ?_⟩
  exact s1.put (k:=0) rfl
end
section
variable {P:Program} {h h':H} {S:List aq} {v w x:V} {cs ds:List V} {k:Nat}
theorem Sb {t:TypeId}{id off n q:Nat}{st:Bool}(J:b6 P t=some true)(hs:br P t=some q)(hg:T.get h.tr id=some (.cells n cs st))(hl:cs.length=n)(hb:off+q≤n):
  loadV P h t (.ptr id off)=some (.agg ((cs.drop off).take q)):=by
 simp only [loadV,J,hs,rdN,hg]
 rw [aE.2 hb,af]
 cases I:(Nat.beq off 0&&Nat.beq q n) with
 | true =>
  simp only [aG,beq_iff] at I
  obtain ⟨rfl,rfl⟩:=I
  simp [←hl]
 | false=>rfl
theorem Sat.Mh {j:Nat}(s:Sat h S)(I:getA S j=some (.arr k v cs)): cs.all storable=true:=by
 obtain ⟨m,r,h1,h2,J⟩:=s.at I
 exact J.1
theorem Sat.lC {j:Nat}(s:Sat h S)(I:getA S j=some (.arr k v cs)): v.cells=[v]∧storable v=true∧v.beq v=true:=by
 obtain ⟨m,r,h1,h2,J⟩:=s.at I
 rcases J.2 with ⟨rfl,_⟩ | ⟨id,n,cap,N,rest,rfl,_⟩
 ·exact ⟨rfl,rfl,rfl⟩
 ·exact ⟨rfl,rfl,BO _ _ _ _⟩
theorem Sat.iL {j n:Nat}{t e:TypeId}(s:Sat h S)(hj:getA S j=some (.arr k v cs))(hn:cs.length=n*k)(J:1≤k)(hu:P.underlying t=some (.slice e)): lenV P h t v=some (.int .i64 n):=by
 obtain ⟨m,r,h1,h2,h3⟩:=s.at hj
 rcases h3.2 with ⟨rfl,rfl⟩ | ⟨id,n',cap,N,rest,rfl,_,q,_⟩
 ·have:n=0:=by
   rcases rH n with I | I
   ·exact I
   ·have:=vn I J
    simp at hn
    omega
  subst this
  simp only [lenV,hu]
  rfl
 ·have:n'=n:=Nat.eq_of_mul_eq_mul_right J (by omega)
  subst this
  simp only [lenV,hu]
theorem ri (z:List V)(n:Nat): (repeatL z n).length=n*z.length:=by
 induction n with
 | zero=>simp [repeatL]
 | succ n I=>simp only [repeatL,bQ,I,Nat.succ_mul]; omega
theorem yx {z:List V}(I:z.all storable=true)(n:Nat): (repeatL z n).all storable=true:=by
 induction n with
 | zero=>rfl
 | succ n J=>simp only [repeatL,List.all_append,I,J,gW]
theorem uA (s:Sat h S){t e:TypeId}{i:TypeInfo}{z:V}{n c:Nat}(hu:P.underlying t=some (.slice e))(hi:P.info? e=some i)(hz:zeroT P e=some z)(hk:i.size=k)(hb:i.bytes≤4096)(J:z.cells.length=k)(I:z.cells.all storable=true)
 (h1:1≤k)(hn:n≤c)(hc:c<1073741824):
  ∃v h',makeSliceV P h t (.int .i64 (n:Int)) (.int .i64 (c:Int))=some (v,h')∧Sat h' (.arr k v (repeatL z.cells n)::S):=by
 refine ⟨.sl h.next 0 n (.exact c),h.new (.cells (c*k) (repeatL z.cells c) false),?_,(s.new _).jH fun m r hm => ?_⟩
 ·simp only [makeSliceV,hu,hi,hz,cW,hk,J]
  rw [show (decide ((0:Int)≤(n:Int))&&decide ((n:Int)≤(c:Int))&&decide ((c:Int)<1073741824)&&Nat.ble i.bytes 4096&&Nat.beq k k&&Nat.ble 1 k)=true by
   rw [aE.2 hb,aE.2 h1,dc]; simp; omega,af]
 ·refine ⟨yx I n,.inr ⟨h.next,n,.exact c,c*k,repeatL z.cells (c-n),rfl,?_,by rw [ri,J],?_,yx I _,rfl,hn⟩⟩
  ·have:repeatL z.cells n++repeatL z.cells (c-n)=repeatL z.cells c:=by
    clear hm
    have:∀a b,repeatL z.cells a++repeatL z.cells b=repeatL z.cells (a+b):=fun a b=>by
     induction a with
     | zero=>simp [repeatL]
     | succ a ih=>rw [Nat.succ_add]; simp only [repeatL,eO,ih]
    rw [this,show n+(c-n)=c by omega]
   rw [this]; exact hm
  ·rw [ri,ri,J,←iT,show n+(c-n)=c by omega]
theorem Nl {id off n:Nat}{I:List V}(hg:T.get h.tr id=some (.cells n cs false))(hl:cs.length=n)(hb:off+I.length≤n):
  wrN h id off I=some (h.put id (some (.cells n (cs.take off++(I++cs.drop (off+I.length))) false))):=by
 simp only [wrN,hg]
 rw [aE.2 hb,af]
 congr 3
 cases J:(Nat.beq off 0&&Nat.beq I.length n) with
 | true =>
  simp only [aG,beq_iff] at J
  obtain ⟨rfl,hn⟩:=J
  rw [af]
  have:cs.drop (0+I.length)=[]:=gh (by omega)
  rw [this]; simp
 | false=>rw [ay]
theorem yy {id off n q:Nat}{st:Bool}(J:T.get h.tr id=some (.cells n cs st))(hl:cs.length=n)(hb:off+q≤n): rdN h id off q=some ((cs.drop off).take q):=by
 simp only [rdN,J]
 rw [aE.2 hb,af]
 cases I:(Nat.beq off 0&&Nat.beq q n) with
 | true =>
  simp only [aG,beq_iff] at I
  obtain ⟨rfl,rfl⟩:=I
  simp [←hl]
 | false=>rfl
theorem gI (s:Sat h (.arr k v cs::.arr k w ds::S)){t e:TypeId}{i:TypeInfo}{z:V}(hu:P.underlying t=some (.slice e))(hi:P.info? e=some i)(hz:zeroT P e=some z)(hk:i.size=k)(hb:i.bytes≤4096)(hl:z.cells.length=k)
 (h1:1≤k)(er:cs.length+ds.length≤1073741824):
  ∃v' h',appendV P h #[t,t] v w=some (v',h')∧Sat h' (.arr k v' (cs++ds)::.arr k w ds::S):=by
 have Tv:=s.Mh (j:=0) rfl
 have KK:=s.Mh (j:=1) rfl
 have ot:(cs++ds).all storable=true:=by rw [List.all_append,Tv,KK]; rfl
 -- what is appended
 have Ae:∃m,srcV h k w=some (ds,m)∧ds.length=m*k:=by
  obtain ⟨m,r,q1,q2,q3⟩:=s.at (k:=1) rfl
  rcases q3.2 with ⟨rfl,rfl⟩ | ⟨id,n,cap,N,rest,rfl,J,e1,e2,e3,e4⟩
  ·exact ⟨0,rfl,by simp⟩
  ·refine ⟨n,?_,e1⟩
   simp only [srcV]
   rw [yy (q1 _ _ J) (by simp [e2]) (by omega)]
   rw [eR,←e1,nh rfl]
   rfl
 obtain ⟨m,Ae,hm⟩:=Ae
 have I:∀n:Nat,n*k=cs.length→j0 (n+m) i.bytes=true:=fun n hn=>by
  have e1:(n+m)*k=cs.length+ds.length:=by rw [iT,hn,hm]
  have e2:n+m≤(n+m)*k:=Nat.le_mul_of_pos_right _ h1
  have e3:(n+m)*i.bytes≤(n+m)*4096:=Nat.mul_le_mul_left _ hb
  exact sH.2 ⟨by omega,by omega⟩
 have sI:∀(σ:H) (n:Nat) (T:List aq),Sat σ T→n*k=cs.length→1≤m→Sat (kZ σ k cs ds (n+m)).2 (.arr k (kZ σ k cs ds (n+m)).1 (cs++ds)::T):=by
  intro σ n T sT hn wH
  refine (sT.new (.cells ((n+m)*k) (cs++ds) false)).jH fun a r A2=>⟨ot,.inr ⟨σ.next,n+m,.rest k 0,(n+m)*k,[],rfl,by rw [fJ]; exact A2,by rw [bQ,iT]; omega,by rw [bQ,iT]; simp; omega,rfl,rfl,rfl,rfl,by omega⟩⟩
 unfold appendV
 simp only [hu,hi,hz,hk,hl,Ae]
 rw [show (Nat.ble 1 k&&Nat.ble i.bytes 4096&&Nat.beq k k)=true by rw [aE.2 h1,aE.2 hb,dc]; rfl,af]
 cases xE:Nat.beq m 0 with
 | true =>
  have:m=0:=beq_iff.1 xE
  subst this
  have UX:ds=[]:=ju (by simpa using hm)
  subst UX
  rw [af,fJ]
  obtain ⟨m,r,q1,q2,q3⟩:=s.at (k:=0) rfl
  rcases q3.2 with ⟨rfl,rfl⟩ | ⟨id,n,cap,N,rest,rfl,J,e1,e2,e3,e4⟩
  ·exact ⟨_,_,rfl,s⟩
  ·exact ⟨_,_,rfl,s⟩
 | false =>
  have wH:1≤m:=by
   rcases rH m with h0 | h0
   ·rw [gM h0] at xE; cases xE
   ·exact h0
  rw [ay]
  obtain ⟨a,r,q1,q2,q3⟩:=s.at (k:=0) rfl
  rcases q3.2 with ⟨rfl,rfl⟩ | ⟨id,n,cap,N,rest,rfl,J,e1,e2,e3,e4⟩
  ·have J:=I 0 (by simp)
   rw [dB] at J
   simp only [J,af]
   have:=sI h 0 (.arr k .bu []::.arr k w ds::S) s (by simp) wH
   rw [dB] at this
   refine ⟨_,_,rfl,?_⟩
   exact (this.mM [1]).drop
  ·cases cap with
   | exact c =>
    obtain ⟨e4,e5⟩:=e4
    simp only [dB]
    have jN:(cs++rest).take cs.length=cs:=nh rfl
    cases hq:Nat.ble (n+m) c with
    | true =>
     have mF:=aE.1 hq
     rw [af]
     have fF:n*k+ds.length≤N:=by rw [hm,←iT,e4]; exact oT _ mF
     rw [Nl (q1 _ _ J) (by simp [e2]) fF]
     simp only
     obtain ⟨m',r',p1,p2,p3,x1,x2,x3,x4,x5,⟨_,x6⟩,x7⟩:=s.ok
     have wX:x1 id=some (.cells N (cs++rest) false):=by
      rcases x6 with ⟨x6,_⟩ | ⟨wu,n',t_,N',Mi,x6,x8,x9,UY,_⟩
      ·cases x6
      ·injection x6 with y1 y2 y3 y4
       subst y1
       rw [x8]
       have:=p1 _ _ (x4 _ _ x8)
       rw [q1 _ _ J] at this
       injection this with this
       rw [this]
     have s0:Sat h (pt id (.cells N (cs++rest) false)::.arr k w ds::S):=⟨s.wf,m',r',p1,p2,p3,x1,x2,x3,x4,x5,wX,x7⟩
     have s1:=s0.put (k:=0) (o':=.cells N ((cs++rest).take (n*k)++(ds++(cs++rest).drop (n*k+ds.length))) false) rfl
     refine ⟨_,_,rfl,Sat.jH s1 fun a' WY ha=>⟨ot,.inr ⟨id,n+m,.exact c,N,rest.drop ds.length,rfl,?_,by rw [bQ,iT]; omega,by simp; omega,?_,e4,mF⟩⟩⟩
     ·have UZ:a' id=some (.cells N ((cs++rest).take (n*k)++(ds++(cs++rest).drop (n*k+ds.length))) false):=ha
      rw [UZ,←e1,jN,vl,gh (by omega),Nat.add_sub_cancel_left,c5,eO]
     ·rw [oY] at e3 ⊢
      exact fun y hy=>e3 y (gw hy)
    | false =>
     rw [ay,I n e1.symm,af,yy (q1 _ _ J) (by simp [e2]) (by omega)]
     simp only
     rw [eR,←e1,jN]
     have:=sI h n _ s e1.symm wH
     exact ⟨_,_,rfl,(this.mM [1]).drop⟩
   | rest e' alt =>
    obtain ⟨ek,rfl,rfl,e7⟩:=e4
    have ek:=ek.symm
    subst ek
    simp only [dc,af,fJ,dB] at J e2 ⊢
    have B5:iW h id 0 k=n:=by
     simp only [iW,q1 _ _ J]
     rw [jA,←e2]
     simp only [bF,iC,e1]
     exact zD _ h1
    rw [B5]
    rw [show Nat.ble (n+m) n=false by
     cases hq:Nat.ble (n+m) n with
     | true=>have:=aE.1 hq; omega
     | false=>rfl,ay,I n e1.symm,show Nat.ble 2 ((n+m)*k)=true from aE.2 (by
      have:2*1≤(n+m)*k:=vn (by omega) h1
      omega),gW,af,yy (q1 _ _ J) (by simpa using e2) (by simp at e2; omega),q1 _ _ J]
    simp only
    obtain ⟨m',r',p1,p2,p3,x1,x2,x3,x4,x5,⟨_,x6⟩,x7⟩:=s.ok
    have wX:x1 id=some (.cells N cs false):=by
     rcases x6 with ⟨x6,_⟩ | ⟨wu,n',t_,N',Mi,x6,x8,x9,UY,_⟩
     ·cases x6
     ·injection x6 with y1 y2 y3 y4
      subst y1
      rw [x8]
      have:=p1 _ _ (x4 _ _ x8)
      rw [q1 _ _ J] at this
      injection this with this
      rw [this]
    have s0:Sat h (pt id (.cells N cs false)::.arr k w ds::S):=⟨s.wf,m',r',p1,p2,p3,x1,x2,x3,x4,x5,wX,x7⟩
    have:=sI (h.put id none) n _ s0.kill e1.symm wH
    rw [eR,eD (by omega)]
    exact ⟨_,_,rfl,this⟩
end
section
variable {P:Program} {h h':H} {S:List aq} {v w x:V} {cs ds:List V} {k:Nat}
theorem Sat.gQ {t:TypeId}{j id n:Nat}{l:List V}(s:Sat h S)(J:getA S j=some (pt id (.cells n cs false)))(hs:br P t=some n)(hl:l.length=n)(I:l.all storable=true):
  ∃h₁,fM P h t (.ptr id 0) (.agg l)=some h₁∧Sat h₁ (setA S j (pt id (.cells n l false))):=by
 refine ⟨h.put id (some (.cells n l false)),?_,s.put J⟩
 simp only [fM,hs,V.cells,I,hl,dc,gW,af,wrN,s.row J]
 rw [aE.2 (by omega:0+n≤n),af]
theorem kg (s:Sat h S){t e:TypeId}{z:V}(hu:P.underlying t=some (.slice e))(hz:zeroT P e=some z)(hk:br P e=some k)(J:z.cells.length=k)(h1:1≤k)(h2:k≤65536)(hx:x.cells.length=k)(I:x.cells.all storable=true):
  ∃v h',buildSliceV P h t 1 [(0,x)]=some (v,h')∧Sat h' (.arr k v x.cells::S):=by
 refine ⟨.sl h.next 0 1 (.exact 1),newRow h x.cells,?_,?_⟩
 ·simp only [buildSliceV,hu,hk,hz]
  rw [show (Nat.beq z.cells.length k&&Nat.ble (1*k) 65536&&Nat.ble 1 k)=true by rw [J,dc,aE.2 (by omega),aE.2 h1]; rfl,af]
  have e1:repeatL z.cells 1=z.cells:=by simp [repeatL]
  simp only [fillV,e1,hx,J,dc,vo]
  rw [aE.2 (by omega:0*k+k≤k),af]
  have e2:z.cells.take (0*k)++(x.cells++z.cells.drop (0*k+k))=x.cells:=by
   rw [vq,j_,c5,gh (by omega),fJ]
  simp only [e2,I,af]
 ·refine (s.new _).jH fun m r hm=>⟨I,.inr ⟨h.next,1,.exact 1,k,[],rfl,?_,by omega,by simp; omega,rfl,by omega,aD _⟩⟩
  have hm:m h.next=some (.cells x.cells.length x.cells false):=hm
  rw [hm,hx,fJ]
end
section
variable {P:Program} {h h':H} {S:List aq} {X:aq} {v w x:V} {l:List Nat} {k:Nat}
theorem fW.slice {m:PM}{a b:Nat}(hv:fW m v l)(mc:a≤b)(hb:b≤l.length): fW m (slR v a b) ((l.take b).drop a):=by
 have bk:∀x∈(l.take b).drop a,x<256:=fun x hx=>hv.1 x (fH (gw hx))
 have hlen:((l.take b).drop a).length=b-a:=by simp; omega
 obtain ⟨hl,tq⟩:=hv
 rcases tq with ⟨rfl | ⟨ea,rfl⟩,rfl⟩ | ⟨id,off,cap,n,cs,st,rfl,hg,h1,h2,h3,h4⟩
 ·simp at hb
  have:b=0:=by omega
  have:a=0:=by omega
  subst_vars
  exact ⟨by simp,.inl ⟨.inl rfl,by simp⟩⟩
 ·simp at hb
  have:b=0:=by omega
  have:a=0:=by omega
  subst_vars
  exact ⟨by simp,.inl ⟨.inr ⟨ea,rfl⟩,by simp⟩⟩
 ·have I:∀o,o=off+a∨b-a=0→(cs.drop o).take (b-a)=ofBytes ((l.take b).drop a):=by
   intro o ho
   rcases ho with rfl | h0
   ·have e:=eS (fun q=>(q.take b).drop a) h3
    simp only [ofBytes,←nj,←nk] at e ⊢
    rw [←e,o5,lZ hb,oZ,ni]
   ·rw [h0,j_]
    have:((l.take b).drop a)=[]:=ju (by omega)
    rw [this]; rfl
  cases cap with
  | exact c =>
   have hc:l.length≤c:=h4
   refine ⟨bk,.inr ⟨id,_,_,n,cs,st,by rw [hlen]; rfl,hg,h1,?_,?_,?_⟩⟩
   ·rw [hlen]
    by_cases J:c=a
    ·rw [gM J,af]; omega
    ·rw [cO J,ay]; omega
   ·rw [hlen]
    by_cases J:c=a
    ·rw [gM J,af]; exact I _ (.inr (by omega))
    ·rw [cO J,ay,c6]; exact I _ (.inl rfl)
   ·show ((l.take b).drop a).length≤c-a
    rw [hlen]; omega
  | rest e alt =>
   have he:e=1:=h4
   subst he
   exact ⟨bk,.inr ⟨id,_,_,n,cs,st,by rw [hlen]; rfl,hg,h1,by rw [hlen]; omega,by rw [hlen,c6]; exact I _ (.inl rfl),rfl⟩⟩
theorem sS {a b:Nat}(hX:cI X (cL v l))(I:a≤b)(J:b≤l.length): cI X (cL (slR v a b) ((l.take b).drop a)):=fun m r hm =>
 (hX m r hm).imp (fun h=>fW.slice h I J) (fun h=>fW.slice h I J)
theorem E8 {a:Nat}(I:cI X (cL v l))(J:a≤l.length): cI X (cL (slR v a l.length) (l.drop a)):=by
 have:=sS I J (aD _)
 rwa [List.take_length] at this
theorem Sat.qc (s:Sat h S): Sat h (.arr k .bu []::S):=(s.iP aa).jH fun _ _ _=>⟨rfl,.inl ⟨rfl,rfl⟩⟩
theorem Sat.CF (s:Sat h S): Sat h (aP .bu []::S):=(s.iP aa).jH fun _ _ _=>⟨by simp,.inl ⟨rfl,rfl⟩⟩
theorem Sat.qM (s:Sat h S): Sat h (yn .bu []::S):=(s.iP aa).jH fun _ _ _=>⟨by simp,.inl ⟨.inl rfl,rfl⟩⟩
theorem A8 (s:Sat h S){t e:TypeId}{i:TypeInfo}{z:V}{n:Nat}(hu:P.underlying t=some (.slice e))(hi:P.info? e=some i)(I:zeroT P e=some z)(J:i.size=k)(hb:i.bytes≤4096)(hl:z.cells.length=k)
 (h1:1≤k)(hn:n<1073741824):
  ∃id h',makeSliceV P h t (.int .i64 (n:Int)) (.int .i64 (n:Int))=some (.sl id 0 n (.exact n),h')∧Sat h' (pt id (.cells (n*k) (repeatL z.cells n) false)::S):=by
 refine ⟨h.next,h.new (.cells (n*k) (repeatL z.cells n) false),?_,s.new _⟩
 simp only [makeSliceV,hu,hi,I,cW,J,hl]
 rw [show (decide ((0:Int)≤(n:Int))&&decide ((n:Int)≤(n:Int))&&decide ((n:Int)<1073741824)&&Nat.ble i.bytes 4096&&Nat.beq k k&&Nat.ble 1 k)=true by
  rw [aE.2 hb,aE.2 h1,dc]; simp; omega,af]
theorem nF {h:H}{t e:TypeId}{i o n:Nat}{c:Cap}{v:V}(I:v=.sl i o n c)(hu:P.underlying t=some (.slice e)): lenV P h t v=some (.int .i64 n):=by subst I; exact Pt hu
theorem Gz {E:List (Nat×V)}{c:Go.Call}{b:Builtin}{args:List V}{r:V}(I:c.callee=.builtin b)(J:lookArgs E c.args.toList=some args)(hf:builtinV P h b c.argTypes args=some (r,h')): opE P E h (.call c)=some (r,h'):=by
 simp only [opE,I,J,hf]
end
def slR3 (v:V)(a b m:Nat): V:=match v with
 | .sl id off _ _=>.sl id (cond (Nat.beq m a) off (off+a*1)) (b-a) (.exact (m-a))
 | v=>v
section
variable {P:Program} {h h':H} {S:List aq} {X:aq} {v w x:V} {l:List Nat} {k:Nat}
theorem fW.slice3 {m:PM}{a b c:Nat}(hv:fW m v l)(mc:a≤b)(hb:b≤c)(hc:c≤l.length)(hl:1≤l.length): fW m (slR3 v a b c) ((l.take b).drop a):=by
 have bk:∀x∈(l.take b).drop a,x<256:=fun x hx=>hv.1 x (fH (gw hx))
 have hlen:((l.take b).drop a).length=b-a:=by simp; omega
 obtain ⟨_,tq⟩:=hv
 rcases tq with ⟨_,rfl⟩ | ⟨id,off,cap,n,cs,st,rfl,hg,h1,h2,h3,h4⟩
 ·simp at hl
 ·have I:∀o,o=off+a∨b-a=0→(cs.drop o).take (b-a)=ofBytes ((l.take b).drop a):=by
   intro o ho
   rcases ho with rfl | h0
   ·have e:=eS (fun q=>(q.take b).drop a) h3
    simp only [ofBytes,←nj,←nk] at e ⊢
    rw [←e,o5,lZ (cy hb hc),oZ,ni]
   ·rw [h0,j_]
    have:((l.take b).drop a)=[]:=ju (by omega)
    rw [this]; rfl
  refine ⟨bk,.inr ⟨id,_,_,n,cs,st,by rw [hlen]; rfl,hg,h1,?_,?_,?_⟩⟩
  ·rw [hlen]
   by_cases J:c=a
   ·rw [gM J,af]; omega
   ·rw [cO J,ay]; omega
  ·rw [hlen]
   by_cases J:c=a
   ·rw [gM J,af]; exact I _ (.inr (by omega))
   ·rw [cO J,ay,c6]; exact I _ (.inl rfl)
  ·show ((l.take b).drop a).length≤c-a
   rw [hlen]; omega
theorem A9 {a b c:Nat}(hX:cI X (cL v l))(I:a≤b)(J:b≤c)(hc:c≤l.length)(hl:1≤l.length): cI X (cL (slR3 v a b c) ((l.take b).drop a)):=fun m r hm =>
 (hX m r hm).imp (fun h=>fW.slice3 h I J hc hl) (fun h=>fW.slice3 h I J hc hl)
theorem wI {a b c:Nat}(hv:View h v l)(I:a≤b)(hb:b≤c)(hc:c≤l.length)(hl:1≤l.length): sliceV Tryz.prog h 28 v (some a) (some b) (some c)=some (slR3 v a b c):=by
 obtain ⟨_,J⟩:=hv
 rcases J with ⟨_,rfl⟩ | ⟨id,off,cap,n,cs,st,rfl,hg,h1,h2,h3,h4⟩
 ·simp at hl
 ·cases cap with
  | exact q =>
   have hq:l.length≤q:=h4
   simp only [sliceV,slR3,aI,dA,dV]
   rw [show (Nat.ble a b&&Nat.ble b c&&Nat.ble c q)=true by rw [aG,aG,aE,aE,aE]; omega,af]
  | rest e alt =>
   have he:e=1:=h4
   subst he
   simp only [sliceV,slR3,aI,dA,dV,dc]
   rw [show (true&&Nat.ble 1 1)=true from rfl,af]
   rw [show (Nat.ble a b&&Nat.ble b c&&(Nat.ble c l.length||Nat.ble c (iW h id off 1))&&Nat.blt 0 l.length)=true by
    rw [aG,aG,aG,kX,aE,aE,aE]
    exact ⟨⟨⟨I,hb⟩,.inl hc⟩,by rw [Nat.blt]; exact aE.2 (by omega)⟩,af]
theorem gD (I:View h v l)(J:1≤l.length): ∃id off cap,v=.sl id off l.length cap:=by
 rcases I.2 with ⟨_,rfl⟩ | ⟨id,off,cap,_,_,_,rfl,_⟩
 ·simp at J
 ·exact ⟨id,off,cap,rfl⟩
theorem eV {k:IntKind}{n:Int}(I:0≤n): gL (some (V.int k n))=some (some n.toNat):=by
 simp only [gL,bndV,dr I,af]
end
section
variable {P:Program} {h h':H} {S:List aq} {X:aq} {v w x:V} {cs:List V} {l m:List Nat} {k:Nat}
theorem PE {t e:TypeId}{i q j:Nat}(s:Sat h S)(J:getA S j=some (.arr q v cs))(hi:i*q+q≤cs.length)(hq:1≤q)(hu:P.underlying t=some (.slice e))(I:br P e=some q):
  ∃id off,indexAddrV P t v (.int .i64 (i:Int))=some (.ptr id off)∧(b6 P e=some true→loadV P h e (.ptr id off)=some (.agg ((cs.drop (i*q)).take q))):=by
 obtain ⟨m,r,h1,h2,h3⟩:=s.at J
 rcases h3.2 with ⟨_,rfl⟩ | ⟨id,n,cap,N,rest,rfl,hg,e1,e2,_⟩
 ·simp at hi; omega
 ·refine ⟨id,i*q,?_,fun ht => ?_⟩
  ·simp only [indexAddrV,hu,I,cW]
   have:i<n:=by
    have h4:i*q+q=(i+1)*q:=by rw [iT,Nat.one_mul]
    rw [h4,e1] at hi
    exact Nat.lt_of_succ_le (Nat.le_of_mul_le_mul_right hi hq)
   rw [show (decide ((0:Int)≤(i:Int))&&decide ((i:Int)<(n:Int)))=true by simp; omega,af]
   simp
  ·rw [Sb ht I (h1 _ _ hg) (by simp; omega) (by omega)]
   rw [Er (by omega),vf (by simp; omega)]
theorem Sat.PF (s:Sat h (aP v l::X::S))(hX:cI X (cL w m)): ∀i∈rowIds w,i∉rowIds v:=by
 intro i hi ie
 obtain ⟨a,r,h1,h2,h3,b,c,g1,g2,g3,g4,d,e,k1,k2,k3,k4,k5⟩:=s.ok
 have hb:=EU g4 i ie
 have hw:∀q:PM,fW q w m→q i≠none:=fun q J=>by
  rcases J.2 with ⟨rfl | ⟨ea,rfl⟩,_⟩ | ⟨id,off,cap,n,cs,st,rfl,hg,_⟩
  ·simp [rowIds] at hi
  ·simp [rowIds] at hi
  ·simp [rowIds] at hi; subst hi; rw [hg]; simp
 rcases hX _ _ k4 with J | J
 ·have h4:=hw _ J
  cases hd:d i with
  | none=>exact h4 hd
  | some o =>
   rcases g1 i with I | I
   ·exact hb I
   ·rw [k2 _ _ hd] at I; cases I
 ·have h4:=hw _ J
  cases PG:b i with
  | none=>exact hb PG
  | some o =>
   rcases h3 i with I | I
   ·rw [g2 _ _ PG] at I; cases I
   ·exact h4 I
end
end Go.Proofs.YtefepnnfphdkpaaGreat.Am
