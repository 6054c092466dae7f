/- SpaceAll: a part of its proof; conditions: its statement's. -/
import Derived.Test.YtefepnnfphdkpaaGreatA01
import Derived.Test.YtefepnnfphdkpaaGreatProg
import Derived.KernelRfl
import Derived.Test.YtefepnnfphdkpaaGreatA14
namespace Go.Proofs.YtefepnnfphdkpaaGreat.Am
open Go
theorem lD : bh Tryz.prog 3=some 1:=by kernel_rfl
theorem eG : bS Tryz.prog 3=some false:=by kernel_rfl
theorem AY : zeroT Tryz.prog 3=some (.int .i64 0):=by kernel_rfl
theorem rT : bh Tryz.prog 4=some 1:=by kernel_rfl
theorem mJ : bS Tryz.prog 4=some false:=by kernel_rfl
theorem Uk : zeroT Tryz.prog 4=some (.bool false):=by kernel_rfl
theorem RB : bh Tryz.prog 5=some 1:=by kernel_rfl
theorem uq : bS Tryz.prog 24=some false:=by kernel_rfl
theorem Ph : bh Tryz.prog 26=some 1:=by kernel_rfl
theorem F6 : bS Tryz.prog 26=some false:=by kernel_rfl
theorem kz : bh Tryz.prog 28=some 1:=by kernel_rfl
theorem cy : bS Tryz.prog 28=some false:=by kernel_rfl
theorem og : zeroT Tryz.prog 28=some .bq:=by kernel_rfl
theorem SQ : bh Tryz.prog 33=some 1:=by kernel_rfl
theorem wN : bS Tryz.prog 33=some false:=by kernel_rfl
theorem F7 : bh Tryz.prog 43=some 1:=by kernel_rfl
theorem mK : bS Tryz.prog 43=some false:=by kernel_rfl
theorem Pj : bh Tryz.prog 46=some 1:=by kernel_rfl
theorem Ad : bS Tryz.prog 46=some false:=by kernel_rfl
theorem sO : bh Tryz.prog 48=some 6:=by kernel_rfl
theorem Ae : bS Tryz.prog 48=some true:=by kernel_rfl
theorem Kn : zeroT Tryz.prog 48=some (.agg [(.int .i64 0),(.int .u64 0),(.int .u64 0),(.int .u64 0),.bq,.bq]):=by kernel_rfl
theorem ur (a b:Nat): fieldAddrV Tryz.prog 48 (.ptr a b) 0=some (.ptr a (b+0)):=by kernel_rfl
theorem Pk (a b:Nat): fieldAddrV Tryz.prog 48 (.ptr a b) 1=some (.ptr a (b+1)):=by kernel_rfl
theorem Pm (a b:Nat): fieldAddrV Tryz.prog 48 (.ptr a b) 2=some (.ptr a (b+2)):=by kernel_rfl
theorem Pn (a b:Nat): fieldAddrV Tryz.prog 48 (.ptr a b) 3=some (.ptr a (b+3)):=by kernel_rfl
theorem Po (a b:Nat): fieldAddrV Tryz.prog 48 (.ptr a b) 4=some (.ptr a (b+4)):=by kernel_rfl
theorem qa (a b:Nat): fieldAddrV Tryz.prog 48 (.ptr a b) 5=some (.ptr a (b+5)):=by kernel_rfl
theorem Ko (ps:List (Nat×V)): buildV Tryz.prog 48 ps=(fillV (nth [(0,1),(1,1),(2,1),(3,1),(4,1),(5,1)]) ((.agg [(.int .i64 0),(.int .u64 0),(.int .u64 0),(.int .u64 0),.bq,.bq]):V).cells ps).map .agg:=by kernel_rfl
theorem SR : bh Tryz.prog 50=some 1:=by kernel_rfl
theorem sP : bS Tryz.prog 50=some false:=by kernel_rfl
theorem SS (a b:Nat)(k:IntKind)(n:Int): indexAddrV Tryz.prog 51 (.ptr a b) (.int k n)=cond (decide (0≤n)&&decide (n<(16:Nat))) (some (.ptr a (b+n.toNat*1))) none:=by kernel_rfl
theorem Ci : bh Tryz.prog 53=some 17:=by kernel_rfl
theorem F8 : bS Tryz.prog 53=some true:=by kernel_rfl
theorem Pp : zeroT Tryz.prog 53=some (.agg [.bq,(.int .i64 0),(.int .i64 0),(.int .i64 0),(.int .i64 0),(.int .i64 0),(.int .i64 0),(.int .i64 0),(.int .i64 0),(.int .i64 0),(.int .i64 0),(.int .i64 0),(.int .i64 0),(.int .i64 0),(.int .i64 0),(.int .i64 0),(.int .i64 0)]):=by kernel_rfl
theorem mL (a b:Nat): fieldAddrV Tryz.prog 53 (.ptr a b) 0=some (.ptr a (b+0)):=by kernel_rfl
theorem Pq (a b:Nat): fieldAddrV Tryz.prog 53 (.ptr a b) 1=some (.ptr a (b+1)):=by kernel_rfl
theorem qS : bS Tryz.prog 62=some false:=by kernel_rfl
theorem Kp : bS Tryz.prog 86=some false:=by kernel_rfl
theorem lJ : bS Tryz.prog 109=some false:=by kernel_rfl
theorem Qr : bh Tryz.prog 111=some 3:=by kernel_rfl
theorem mc (a b:Nat): fieldAddrV Tryz.prog 111 (.ptr a b) 0=some (.ptr a (b+0)):=by kernel_rfl
theorem nr (a b:Nat): fieldAddrV Tryz.prog 111 (.ptr a b) 1=some (.ptr a (b+1)):=by kernel_rfl
theorem vA (a b:Nat): fieldAddrV Tryz.prog 111 (.ptr a b) 2=some (.ptr a (b+2)):=by kernel_rfl
theorem Qs (ps:List (Nat×V)): buildV Tryz.prog 111 ps=(fillV (nth [(0,1),(1,1),(2,1)]) ((.agg [.cL,.jj,(.bool false)]):V).cells ps).map .agg:=by kernel_rfl
theorem vB : bS Tryz.prog 112=some false:=by kernel_rfl
theorem vC (a b:Nat): fieldAddrV Tryz.prog 114 (.ptr a b) 0=some (.ptr a (b+0)):=by kernel_rfl
theorem EJ (a b:Nat): fieldAddrV Tryz.prog 114 (.ptr a b) 1=some (.ptr a (b+1)):=by kernel_rfl
theorem pH (a b:Nat): fieldAddrV Tryz.prog 114 (.ptr a b) 2=some (.ptr a (b+2)):=by kernel_rfl
theorem pI (a b:Nat): fieldAddrV Tryz.prog 114 (.ptr a b) 3=some (.ptr a (b+3)):=by kernel_rfl
theorem Qt (ps:List (Nat×V)): buildV Tryz.prog 114 ps=(fillV (nth [(0,1),(1,1),(2,1),(3,1),(4,1),(5,1)]) ((.agg [.cL,.cL,.cL,.cL,.bq,(.int .u64 0)]):V).cells ps).map .agg:=by kernel_rfl
theorem F9 : bS Tryz.prog 145=some false:=by kernel_rfl
theorem Qu (a b l:Nat)(c:Cap)(k:IntKind)(n:Int): indexAddrV Tryz.prog 145 (.sl a b l c) (.int k n)=cond (decide (0≤n)&&decide (n<(l:Int))) (some (.ptr a (b+n.toNat*1))) none:=by kernel_rfl
theorem Qv : bh Tryz.prog 146=some 1:=by kernel_rfl
theorem F_ : bS Tryz.prog 146=some false:=by kernel_rfl
theorem Qw : bh Tryz.prog 147=some 1:=by kernel_rfl
theorem MR (a b:Nat): fieldAddrV Tryz.prog 149 (.ptr a b) 0=some (.ptr a (b+0)):=by kernel_rfl
theorem Af (a b:Nat): fieldAddrV Tryz.prog 149 (.ptr a b) 1=some (.ptr a (b+1)):=by kernel_rfl
theorem Ag (a b:Nat): fieldAddrV Tryz.prog 149 (.ptr a b) 2=some (.ptr a (b+2)):=by kernel_rfl
theorem EK (a b:Nat): fieldAddrV Tryz.prog 149 (.ptr a b) 3=some (.ptr a (b+3)):=by kernel_rfl
theorem rU (a b:Nat): fieldAddrV Tryz.prog 149 (.ptr a b) 4=some (.ptr a (b+4)):=by kernel_rfl
theorem EM (a b:Nat): fieldAddrV Tryz.prog 149 (.ptr a b) 5=some (.ptr a (b+5)):=by kernel_rfl
theorem MS (a b:Nat): fieldAddrV Tryz.prog 149 (.ptr a b) 6=some (.ptr a (b+6)):=by kernel_rfl
theorem vD (a b:Nat): fieldAddrV Tryz.prog 149 (.ptr a b) 7=some (.ptr a (b+7)):=by kernel_rfl
theorem vE (a b:Nat): fieldAddrV Tryz.prog 149 (.ptr a b) 8=some (.ptr a (b+8)):=by kernel_rfl
theorem me (a b:Nat): fieldAddrV Tryz.prog 149 (.ptr a b) 9=some (.ptr a (b+9)):=by kernel_rfl
theorem Kq (a b:Nat): fieldAddrV Tryz.prog 149 (.ptr a b) 10=some (.ptr a (b+10)):=by kernel_rfl
theorem Kr (a b:Nat): fieldAddrV Tryz.prog 149 (.ptr a b) 11=some (.ptr a (b+11)):=by kernel_rfl
theorem Qx (ps:List (Nat×V)): buildV Tryz.prog 149 ps=(fillV (nth [(0,1),(1,1),(2,1),(3,1),(4,1),(5,1),(6,1),(7,1),(8,1),(9,1),(10,1),(11,1)]) ((.agg [(.int .i64 0),.bq,.bq,.jj,.bq,(.int .i64 0),.bq,(.int .i64 0),(.int .i64 0),(.bool false),.cL,.bq]):V).cells ps).map .agg:=by kernel_rfl
theorem Ga : bh Tryz.prog 151=some 2:=by kernel_rfl
theorem Qy : bS Tryz.prog 151=some true:=by kernel_rfl
theorem Gb : zeroT Tryz.prog 151=some (.agg [(.int .i64 0),.bq]):=by kernel_rfl
theorem MT (a b:Nat): fieldAddrV Tryz.prog 151 (.ptr a b) 1=some (.ptr a (b+1)):=by kernel_rfl
theorem Qz (ps:List (Nat×V)): buildV Tryz.prog 151 ps=(fillV (nth [(0,1),(1,1)]) ((.agg [(.int .i64 0),.bq]):V).cells ps).map .agg:=by kernel_rfl
theorem EN (a b:Nat): fieldAddrV Tryz.prog 155 (.ptr a b) 0=some (.ptr a (b+0)):=by kernel_rfl
theorem rV (a b:Nat): fieldAddrV Tryz.prog 155 (.ptr a b) 1=some (.ptr a (b+1)):=by kernel_rfl
theorem jE (a b:Nat): fieldAddrV Tryz.prog 155 (.ptr a b) 2=some (.ptr a (b+2)):=by kernel_rfl
theorem nt (a b:Nat): fieldAddrV Tryz.prog 155 (.ptr a b) 3=some (.ptr a (b+3)):=by kernel_rfl
theorem Ah (a b:Nat): fieldAddrV Tryz.prog 155 (.ptr a b) 4=some (.ptr a (b+4)):=by kernel_rfl
theorem MU (a b:Nat): fieldAddrV Tryz.prog 155 (.ptr a b) 5=some (.ptr a (b+5)):=by kernel_rfl
theorem QA (ps:List (Nat×V)): buildV Tryz.prog 155 ps=(fillV (nth [(0,1),(1,1),(2,1),(3,1),(4,1),(5,1)]) ((.agg [.cL,(.int .u64 0),.bq,.bq,(.int .i64 0),(.int .u64 0)]):V).cells ps).map .agg:=by kernel_rfl
theorem aW : bh Tryz.prog 163=some 1:=by kernel_rfl
theorem bM : bS Tryz.prog 163=some true:=by kernel_rfl
theorem h_ : zeroT Tryz.prog 163=some (.agg [.bq]):=by kernel_rfl
theorem fe (a b:Nat): fieldAddrV Tryz.prog 163 (.ptr a b) 0=some (.ptr a (b+0)):=by kernel_rfl
theorem vF (ps:List (Nat×V)): buildV Tryz.prog 163 ps=(fillV (nth [(0,1)]) ((.agg [.bq]):V).cells ps).map .agg:=by kernel_rfl
theorem vG : bh Tryz.prog 180=some 4:=by kernel_rfl
theorem QB : bS Tryz.prog 180=some true:=by kernel_rfl
theorem qF : zeroT Tryz.prog 180=some (.agg [(.int .i64 0),(.int .i64 0),(.bool false),.bq]):=by kernel_rfl
theorem Ai (a b:Nat): fieldAddrV Tryz.prog 180 (.ptr a b) 0=some (.ptr a (b+0)):=by kernel_rfl
theorem pJ (a b:Nat): fieldAddrV Tryz.prog 180 (.ptr a b) 1=some (.ptr a (b+1)):=by kernel_rfl
theorem EO (a b:Nat): fieldAddrV Tryz.prog 180 (.ptr a b) 2=some (.ptr a (b+2)):=by kernel_rfl
theorem pK (a b:Nat): fieldAddrV Tryz.prog 180 (.ptr a b) 3=some (.ptr a (b+3)):=by kernel_rfl
theorem Gc (ps:List (Nat×V)): buildV Tryz.prog 180 ps=(fillV (nth [(0,1),(1,1),(2,1),(3,1)]) ((.agg [(.int .i64 0),(.int .i64 0),(.bool false),.bq]):V).cells ps).map .agg:=by kernel_rfl
theorem mM : bS Tryz.prog 185=some false:=by kernel_rfl
theorem QC (a b l:Nat)(c:Cap)(k:IntKind)(n:Int): indexAddrV Tryz.prog 185 (.sl a b l c) (.int k n)=cond (decide (0≤n)&&decide (n<(l:Int))) (some (.ptr a (b+n.toNat*5))) none:=by kernel_rfl
theorem yl : bS Tryz.prog 186=some false:=by kernel_rfl
theorem vH : bS Tryz.prog 187=some false:=by kernel_rfl
theorem vI (a b:Nat): fieldAddrV Tryz.prog 189 (.ptr a b) 0=some (.ptr a (b+0)):=by kernel_rfl
theorem MV (a b:Nat): fieldAddrV Tryz.prog 189 (.ptr a b) 1=some (.ptr a (b+1)):=by kernel_rfl
theorem jF (a b:Nat): fieldAddrV Tryz.prog 189 (.ptr a b) 2=some (.ptr a (b+2)):=by kernel_rfl
theorem rW (a b:Nat): fieldAddrV Tryz.prog 189 (.ptr a b) 3=some (.ptr a (b+3)):=by kernel_rfl
theorem pL (a b:Nat): fieldAddrV Tryz.prog 189 (.ptr a b) 4=some (.ptr a (b+4)):=by kernel_rfl
theorem Aj (a b:Nat): fieldAddrV Tryz.prog 189 (.ptr a b) 5=some (.ptr a (b+5)):=by kernel_rfl
theorem QD (ps:List (Nat×V)): buildV Tryz.prog 189 ps=(fillV (nth [(0,1),(1,1),(2,1),(3,1),(4,1),(5,1)]) ((.agg [.cL,.cL,.bq,.jj,.jj,(.int .i64 0)]):V).cells ps).map .agg:=by kernel_rfl
theorem ym : bh Tryz.prog 193=some 5:=by kernel_rfl
theorem QE : bS Tryz.prog 193=some true:=by kernel_rfl
theorem QF : zeroT Tryz.prog 193=some (.agg [(.int .i64 0),.bq,(.int .i64 0),(.bool false),(.bool false)]):=by kernel_rfl
theorem mg (a b:Nat): fieldAddrV Tryz.prog 193 (.ptr a b) 0=some (.ptr a (b+0)):=by kernel_rfl
theorem vJ (a b:Nat): fieldAddrV Tryz.prog 193 (.ptr a b) 1=some (.ptr a (b+1)):=by kernel_rfl
theorem nu (a b:Nat): fieldAddrV Tryz.prog 193 (.ptr a b) 2=some (.ptr a (b+2)):=by kernel_rfl
theorem Ak (a b:Nat): fieldAddrV Tryz.prog 193 (.ptr a b) 3=some (.ptr a (b+3)):=by kernel_rfl
theorem Al (a b:Nat): fieldAddrV Tryz.prog 193 (.ptr a b) 4=some (.ptr a (b+4)):=by kernel_rfl
theorem BB (ps:List (Nat×V)): buildV Tryz.prog 193 ps=(fillV (nth [(0,1),(1,1),(2,1),(3,1),(4,1)]) ((.agg [(.int .i64 0),.bq,(.int .i64 0),(.bool false),(.bool false)]):V).cells ps).map .agg:=by kernel_rfl
theorem vK : bh Tryz.prog 199=some 2:=by kernel_rfl
theorem L1 : bS Tryz.prog 199=some true:=by kernel_rfl
theorem vL : zeroT Tryz.prog 199=some (.agg [(.int .u64 0),(.bool false)]):=by kernel_rfl
theorem An (a b:Nat): fieldAddrV Tryz.prog 199 (.ptr a b) 0=some (.ptr a (b+0)):=by kernel_rfl
theorem MW (cs:List V): mw Tryz.prog 199 (.agg cs) 0=nth cs 0:=by kernel_rfl
theorem EP (a b:Nat): fieldAddrV Tryz.prog 199 (.ptr a b) 1=some (.ptr a (b+1)):=by kernel_rfl
theorem QG (ps:List (Nat×V)): buildV Tryz.prog 199 ps=(fillV (nth [(0,1),(1,1)]) ((.agg [(.int .u64 0),(.bool false)]):V).cells ps).map .agg:=by kernel_rfl
theorem ER (a b:Nat): fieldAddrV Tryz.prog 210 (.ptr a b) 0=some (.ptr a (b+0)):=by kernel_rfl
theorem QH (ps:List (Nat×V)): buildV Tryz.prog 210 ps=(fillV (nth [(0,1),(1,1)]) ((.agg [.jj,.jj]):V).cells ps).map .agg:=by kernel_rfl
theorem L2 (a b:Nat)(k:IntKind)(n:Int): indexAddrV Tryz.prog 227 (.ptr a b) (.int k n)=cond (decide (0≤n)&&decide (n<(512:Nat))) (some (.ptr a (b+n.toNat*1))) none:=by kernel_rfl
theorem QI : bh Tryz.prog 239=some 512:=by kernel_rfl
theorem QJ : bS Tryz.prog 239=some true:=by kernel_rfl
theorem QK (ps:List (Nat×V)): buildV Tryz.prog 244 ps=(fillV (fun i=>some (i*1,1)) ((.agg [(.int .u64 0),(.int .u64 0),(.int .u64 0)]):V).cells ps).map .agg:=by kernel_rfl
def slR (v:V)(a b:Nat): V:=match v with
 | .sl id off _ (.exact c)=>.sl id (cond (Nat.beq c a) off (off+a*1)) (b-a) (.exact (c-a))
 | .sl id off _ (.rest _ alt)=>.sl id (off+a*1) (b-a) (.rest 1 (cond (Nat.beq a 0) alt (cond (Nat.blt a b) (off+a*1) off)))
 | v=>v
theorem ic {h:H}{v:V}{l:List Nat}{a b:Nat}(hv:View h v l)(l8:a≤b)(hb:b≤l.length):
  sliceV Tryz.prog h 28 v (some a) (some b) none=some (slR v a b)∧View h (slR v a b) ((l.take b).drop a)∧∀i∈rowIds (slR v a b),i∈rowIds v:=by
 have br:∀x∈(l.take b).drop a,x<256:=fun x hx=>hv.1 x (gm (gj hx))
 have hlen:((l.take b).drop a).length=b-a:=by simp; omega
 obtain ⟨hl,ot⟩:=hv
 rcases ot with ⟨rfl | ⟨ea,rfl⟩,rfl⟩ | ⟨id,off,cap,n,cs,st,rfl,hg,h1,h2,h3,h4⟩
 ·simp only [bR] at hb
  have:b=0:=by omega
  have:a=0:=by omega
  subst_vars
  refine ⟨?_,⟨by simp,.inl ⟨.inl rfl,by simp⟩⟩,fun i hi=>hi⟩
  simp only [sliceV,aM,dK]
  rfl
 ·simp only [bR] at hb
  have:b=0:=by omega
  have:a=0:=by omega
  subst_vars
  refine ⟨?_,⟨by simp,.inl ⟨.inr ⟨ea,rfl⟩,by simp⟩⟩,fun i hi=>hi⟩
  simp only [sliceV,aM,dK]
  rfl
 ·have I:∀o,o=off+a∨b-a=0→(cs.drop o).take (b-a)=ofBytes ((l.take b).drop a):=by
   intro o ho
   rcases rq (b-a) with hz | hz
   ·rw [hz,jx]
    have:(l.take b).drop a=[]:=js (by omega)
    rw [this]; rfl
   ·have rQ:o=off+a:=by rcases ho with ho | ho; exact ho; omega
    subst rQ
    have e1:ofBytes ((l.take b).drop a)=((ofBytes l).take b).drop a:=by simp [ofBytes,lY,lX]
    rw [e1,←h3,rD,o5 hb,o6,ng]
  cases cap with
  | exact c =>
   have hc:l.length≤c:=h4
   refine ⟨?_,⟨br,.inr ⟨id,_,_,n,cs,st,by rw [hlen]; rfl,hg,h1,?_,?_,?_⟩⟩,fun i hi=>by simpa [rowIds,slR] using hi⟩
   ·simp only [sliceV,slR,aM,dK,dy]
    rw [show (Nat.ble a b&&Nat.ble b c)=true by rw [aG,aB,aB]; omega,af]
   ·rw [hlen]
    by_cases J:c=a
    ·rw [gr J,af]; omega
    ·rw [cE J,ay]; omega
   ·rw [hlen]
    by_cases J:c=a
    ·rw [gr J,af]; exact I off (.inr (by omega))
    ·rw [cE J,ay,cq]; exact I _ (.inl rfl)
   ·show _≤c-a
    rw [hlen]; omega
  | rest e alt =>
   have he:e=1:=h4
   subst he
   refine ⟨?_,⟨br,.inr ⟨id,_,_,n,cs,st,by rw [hlen]; rfl,hg,h1,by rw [hlen]; omega,by rw [hlen,cq]; exact I _ (.inl rfl),rfl⟩⟩,fun i hi=>by simpa [rowIds,slR] using hi⟩
   simp only [sliceV,slR,aM,dK,dy,dm]
   rw [show (true&&Nat.ble 1 1)=true from rfl,af]
   rw [show (Nat.ble a b&&(Nat.ble b l.length||Nat.ble b (iV h id off 1)))=true by rw [aG,kN,aB,aB]; exact ⟨l8,.inl hb⟩,af]
theorem jg {h:H}{v:V}{l:List Nat}{a:Nat}(hv:View h v l)(ha:a≤l.length):
  sliceV Tryz.prog h 28 v (some a) none none=some (slR v a l.length)∧View h (slR v a l.length) (l.drop a)∧∀i∈rowIds (slR v a l.length),i∈rowIds v:=by
 obtain ⟨I,h2,h3⟩:=ic hv ha (aE _)
 refine ⟨?_,by simpa using h2,h3⟩
 obtain ⟨_,J⟩:=hv
 rcases J with ⟨rfl | ⟨ea,rfl⟩,rfl⟩ | ⟨id,off,cap,n,cs,st,rfl,hg,g1,g2,g3,g4⟩
 ·simpa [sliceV,aM,dK] using I
 ·simpa [sliceV,aM,dK] using I
 ·rw [←I]
  simp only [sliceV,aM,dK,jV,dy]
theorem c7 {h:H}{v:V}{l:List Nat}{i b:Nat}(hv:View h v l)(hi:l[i]?=some b):
  ∃id off,indexAddrV Tryz.prog 28 v (.int .i64 (i:Int))=some (.ptr id off)∧loadV Tryz.prog h 5 (.ptr id off)=some (.int .u8 (b:Int)):=by
 obtain ⟨hl,I⟩:=hv
 have J:i<l.length:=(List.getElem?_eq_some_iff.1 hi).1
 rcases I with ⟨_,rfl⟩ | ⟨id,off,cap,n,cs,st,rfl,hg,h1,h2,h3,h4⟩
 ·simp at hi
 ·refine ⟨id,off+i*1,?_,?_⟩
  ·simp only [indexAddrV,aM,dK,cg]
   rw [show (decide ((0:Int)≤(i:Int))&&decide ((i:Int)<(l.length:Int)))=true by simp; omega,af]
  ·simp only [loadV,EB,th,hg,eE,cq]
   have e:=eB (fun q=>q[i]?) h3
   simp only [iP,ju,aq J] at e
   rw [e]
   simp [ofBytes,hi]
theorem View.cells {h:H}{v:V}{l:List Nat}(hv:View h v l): v.cells=[v]∧Am.storable v=true:=by
 obtain ⟨_,hv⟩:=hv
 rcases hv with ⟨rfl | ⟨I,rfl⟩,_⟩ | ⟨id,off,cap,n,cs,st,rfl,_⟩ <;> exact ⟨rfl,rfl⟩
def plain1 : V→Bool
 | .bool _ | .int _ _ | .str _ | .cL | .ptr _ _ | .bq | .sl _ _ _ _ | .jj | .map _ | .AK | .k9 | .pO _ _=>true
 | .fn (.func _) [] []=>true
 | _=>false
def Pr : V→Bool
 | .agg l=>l.all plain1
 | .aX l=>l.all plain1
 | .iface _ v=>plain1 v
 | v=>plain1 v
theorem Gd (k:FloatKind): fkBeq k k=true:=by cases k <;> rfl
theorem Cj : ∀l:List Nat,natsBeq l l=true:=fun l=>by rw [wo]; simp
theorem Ks (v:V)(h:plain1 v=true): v.beq v=true:=by
 cases v <;> simp [plain1,V.beq,c6,nK,wm,Cj,Gd] at h ⊢
 rename_i f a b
 cases f <;> cases a <;> cases b <;> simp [plain1,V.beq,V.beqL] at h ⊢
theorem L3 : ∀(l:List V),l.all plain1=true→V.beqL l l=true:=by
 intro l
 induction l with
 | nil=>intro _; rfl
 | cons v l I =>
  intro h
  simp only [iQ,aG] at h
  simp only [V.beqL,Ks v h.1,af,I h.2]
theorem bP (v:V)(h:Pr v=true): v.beq v=true:=by
 cases v with
 | agg l=>exact L3 l h
 | aX l=>exact L3 l h
 | iface t v=>simp only [V.beq,dm,vl]; exact Ks v h
 | _=>exact Ks _ h
section
variable {P:Program} {h h':H} {S:List au} {X:au} {v w:V} {l m:List Nat}
theorem Ge (s:Sat h (bg v l::X::S))(J:cN X (cQ w m))(I:l.length+m.length≤140737488355328):
  ∃v' h',appendV Tryz.prog h #[28,28] v w=some (v',h')∧Sat h' (bg v' (l++m)::X::S):=by
 obtain ⟨v',h',e1,e2,e3,e4⟩:=uj s.wf (s.buf (k:=0) rfl) (s.aK (k:=1) rfl J) I
 exact ⟨v',h',e1,s.vz e3 e2 e4⟩
theorem Ib (s:Sat h S){c:Nat}(I:c<1073741824):
  ∃v h',makeSliceV Tryz.prog h 28 (.int .i64 0) (.int .i64 (c:Int))=some (v,h')∧Sat h' (bg v []::S):=by
 obtain ⟨v,h',J,e2,e3,e4⟩:=xX s.wf I
 exact ⟨v,h',J,s.Cg e3 e2 e4⟩
theorem MX : ∀n:Nat,repeatL [V.int .u8 0] n=ofBytes (List.replicate n 0):=by
 intro n
 induction n with
 | zero=>rfl
 | succ n I=>simp only [repeatL,I,ofBytes,oT,bX]; rfl
theorem Ic (s:Sat h S){c:Nat}(J:c<1073741824):
  ∃v h',makeSliceV Tryz.prog h 28 (.int .i64 (c:Int)) (.int .i64 (c:Int))=some (v,h')∧Sat h' (bg v (List.replicate c 0)::S):=by
 obtain ⟨i,hi,i1,i2⟩:=Ab
 have I:gZ (h.new (.cells c (repeatL [.int .u8 0] c) false)) (.sl h.next 0 c (.exact c)) (List.replicate c 0):=by
  refine ⟨fun b I=>by have:=qY I; omega,.inr (.inl ⟨h.next,[],c,by simp,?_,by simp⟩)⟩
  rw [fJ,aq rfl,MX,fH]
 refine ⟨.sl h.next 0 c (.exact c),h.new (.cells c (repeatL [.int .u8 0] c) false),?_,s.Cg (cV.vy s.wf _) I fun i hi=>by simp [rowIds] at hi; omega⟩
 simp only [makeSliceV,aM,hi,p9,i1,i2,V.cells,bf,bR,cg,cq]
 rw [show (decide ((0:Int)≤(c:Int))&&decide ((c:Int)≤(c:Int))&&decide ((c:Int)<1073741824)&&Nat.ble 1 4096&&Nat.beq (0+1) 1&&Nat.ble 1 1)=true by simp; omega,af]
theorem Ie (s:Sat h S){b:Nat}(I:b<256): ∃v h',buildSliceV Tryz.prog h 28 1 [(0,.int .u8 b)]=some (v,h')∧Sat h' (bg v [b]::S):=by
 obtain ⟨v,h',J,e2,e3,e4⟩:=AW s.wf I
 exact ⟨v,h',J,s.Cg e3 e2 e4⟩
theorem Sat.eo (s:Sat h (bg v l::S))(hl:1≤l.length): ∃id c cap rest,v=.sl id 0 l.length cap∧Sat h (pt id (.cells c (ofBytes l++rest) false)::S)∧l.length+rest.length=c ∧
  (∀(h':H) (I:List Nat),I.length=l.length→(∀b∈I,b<256)→Sat h' (pt id (.cells c (ofBytes I++rest) false)::S)→Sat h' (bg v I::S)):=by
 obtain ⟨m,r,h1,h2,h3,a,b,g1,g2,g3,⟨gl,g4⟩,g5⟩:=s.ok
 rcases g4 with ⟨rfl,rfl⟩ | ⟨id,cs,c,rfl,hg,hc⟩ | ⟨id,rfl,hg,h5⟩
 ·simp at hl
 ·refine ⟨id,c,_,cs,rfl,⟨s.wf,m,r,h1,h2,h3,a,b,g1,g2,g3,hg,g5⟩,hc,fun h' I e1 e2 s'=>s'.gR ?_⟩
  intro m' r' hm
  exact ⟨e2,.inr (.inl ⟨id,cs,c,by rw [e1],hm,by omega⟩)⟩
 ·refine ⟨id,l.length,_,[],rfl,⟨s.wf,m,r,h1,h2,h3,a,b,g1,g2,g3,by rw [fH]; exact hg,g5⟩,by simp,fun h' I e1 e2 s'=>s'.gR ?_⟩
  intro m' r' hm
  have J:m' id=some (.cells l.length (ofBytes I++[]) false):=hm
  rw [fH] at J
  exact ⟨e2,.inr (.inr ⟨id,by rw [e1],by rw [e1]; exact J,by omega⟩)⟩
theorem DO (l:List Nat)(i b:Nat): (ofBytes l).set i (.int .u8 (b:Int))=ofBytes (l.set i b):=by simp [ofBytes,List.map_set]
theorem uu (l:List Nat)(n:Nat): (ofBytes l).take n=ofBytes (l.take n):=by simp [ofBytes,lX]
theorem Ck (l:List Nat)(n:Nat): (ofBytes l).drop n=ofBytes (l.drop n):=by simp [ofBytes,lY]
theorem lE (s:Sat h (bg v l::S)){i b:Nat}(hi:i<l.length)(hb:b<256):
  ∃id off,indexAddrV Tryz.prog 28 v (.int .i64 (i:Int))=some (.ptr id off)∧∃h',fR Tryz.prog h 5 (.ptr id off) (.int .u8 (b:Int))=some h'∧Sat h' (bg v (l.set i b)::S):=by
 have hv:=(s.buf (k:=0) rfl).1
 obtain ⟨id,c,cap,rest,rfl,s1,hc,hf⟩:=s.eo (by omega)
 refine ⟨id,i,?_,?_⟩
 ·simp only [indexAddrV,aM,dK,cg]
  rw [show (decide ((0:Int)≤(i:Int))&&decide ((i:Int)<(l.length:Int)))=true by simp; omega,af]
  simp
 ·obtain ⟨h',e1,J⟩:=s1.je (t:=5) (P:=Tryz.prog) (v:=.int .u8 (b:Int)) (k:=0) (off:=i) rfl dK (by simp [bZ]; omega) (by omega) rfl rfl
  refine ⟨h',e1,hf h' (l.set i b) (by simp) (fun x I => ?_) ?_⟩
  ·rcases jS I with I | rfl
   ·exact hv x I
   ·exact hb
  ·have e3:(ofBytes l++rest).set i (.int .u8 (b:Int))=ofBytes (l.set i b)++rest:=by
    rw [yX _ _ (by rw [bZ]; exact hi),DO]
   rw [e3] at J
   exact J
def aR (l:List Nat)(a:Nat)(m:List Nat): List Nat:=l.take a++(m++l.drop (a+m.length))
theorem cm {l m:List Nat}{a:Nat}(h:a+m.length≤l.length): (aR l a m).length=l.length:=by simp [aR]; omega
theorem AZ {l m:List Nat}{a:Nat}(J:∀b∈l,b<256)(hm:∀b∈m,b<256): ∀b∈aR l a m,b<256:=fun b I=>by
 simp only [aR,lV] at I
 rcases I with I | I | I
 ·exact J b (gm I)
 ·exact hm b I
 ·exact J b (gj I)
theorem Cl (s:Sat h (bg v l::X::S))(hX:cN X (cQ w m)){a b:Nat}(l8:a<b)(hb:b≤l.length)(hm:1≤m.length):
  ∃h',copyV Tryz.prog h 28 (slR v a b) w=some (.int .i64 (min m.length (b-a):Nat),h')∧Sat h' (bg v (aR l a (m.take (b-a)))::X::S):=by
 have hw:=s.aK (k:=1) rfl hX
 have RC:=hw.1
 have hv:=(s.buf (k:=0) rfl).1
 obtain ⟨id,c,cap,rest,rfl,s1,hc,hf⟩:=s.eo (by omega)
 have j9:∃tY,slR (.sl id 0 l.length cap) a b=.sl id a (b-a) tY:=by
  cases cap with
  | exact c =>
   refine ⟨.exact (c-a),?_⟩
   simp only [slR]
   by_cases Ul:c=a
   ·obtain ⟨m',r,h1,h2,h3⟩:=s.at (k:=0) rfl
    rcases h3.2 with ⟨e,_⟩ | ⟨tX,cs',c',e,hg,RD⟩ | ⟨tX,e,_⟩
    ·cases e
    ·injection e with _ _ _ e4; injection e4 with e4; omega
    ·injection e with _ _ _ e4; cases e4
   ·rw [cE Ul,ay,dH,cq]
  | rest e alt=>exact ⟨_,by simp only [slR,dH,cq]; rfl⟩
 obtain ⟨tY,j9⟩:=j9
 rw [j9]
 have nQ:=hw
 rcases nQ.2 with ⟨_,rfl⟩ | ⟨uw,I,J,n2,Ps,RE,rfl,ES,q1,q2,q3,q4⟩
 ·simp at hm
 ·have SU:Nat.min m.length (b-a)=(m.take (b-a)).length:=by
   rw [gM]
   exact Nat.min_comm _ _
  have gh:rdN h uw I (Nat.min m.length (b-a)*1)=some (ofBytes (m.take (b-a))):=by
   have tC:View h (.sl uw I (m.take (b-a)).length J) (m.take (b-a)):=by
    refine ⟨fun x hx=>RC x (gm hx),.inr ⟨uw,I,J,n2,Ps,RE,rfl,ES,q1,?_,?_,?_⟩⟩
    ·have:(m.take (b-a)).length≤m.length:=by simp; omega
     omega
    ·rw [←uu,←q3,rD,gM]
    ·cases J with
     | exact c2 =>
      simp only at q4 ⊢
      have:(m.take (b-a)).length≤m.length:=by simp; omega
      omega
     | rest e2 a2=>exact q4
   rw [cq,SU]
   exact tC.rdN.2
  simp only [copyV,aM,dK,gh]
  have hlen:(m.take (b-a)).length≤b-a:=by simp; omega
  have Cm:wrN h id a (ofBytes (m.take (b-a)))=some (h.put id (some (.cells c (ofBytes (aR l a (m.take (b-a)))++rest) false))):=by
   simp only [wrN,s1.row (k:=0) rfl,bZ]
   rw [aB.2 (by omega),af]
   congr 3
   have e0:(ofBytes l++rest).take a++(ofBytes (m.take (b-a))++(ofBytes l++rest).drop (a+(m.take (b-a)).length))=ofBytes (aR l a (m.take (b-a)))++rest:=by
    rw [oQ (by rw [bZ]; omega),yU (by rw [bZ]; omega),uu,Ck]
    simp only [aR,qR,eZ]
   cases Cn:(Nat.beq a 0&&Nat.beq (m.take (b-a)).length c) with
   | true =>
    simp only [aG,beq_iff] at Cn
    rw [af,←e0]
    obtain ⟨Um,Un⟩:=Cn
    subst Um
    have:(ofBytes l++rest).drop (0+(m.take (b-0)).length)=[]:=fY (by simp [bZ] at Un ⊢; omega)
    rw [this]
    simp
   | false=>rw [ay,e0]
  rw [Cm]
  refine ⟨_,rfl,hf _ _ (cm (by omega)) (AZ hv (fun x hx=>RC x (gm hx))) ?_⟩
  exact s1.put (k:=0) rfl
end
section
variable {P:Program} {h h':H} {S:List au} {v w x:V} {cs ds:List V} {k:Nat}
theorem RF {t:TypeId}{id off n q:Nat}{st:Bool}(J:bS P t=some true)(hs:bh P t=some q)(hg:T.get h.tr id=some (.cells n cs st))(hl:cs.length=n)(hb:off+q≤n):
  loadV P h t (.ptr id off)=some (.agg ((cs.drop off).take q)):=by
 simp only [loadV,J,hs,rdN,hg]
 rw [aB.2 hb,af]
 cases I:(Nat.beq off 0&&Nat.beq q n) with
 | true =>
  simp only [aG,beq_iff] at I
  obtain ⟨rfl,rfl⟩:=I
  simp [←hl]
 | false=>rfl
theorem Sat.Ao (s:Sat h (.arr k v cs::S))(I:cs≠[]): ∃id n cap N rest,v=.sl id 0 n cap∧cs.length=n*k∧N=cs.length+rest.length∧Sat h (pt id (.cells N (cs++rest) false)::S) ∧
  (∀(h':H) (cs':List V) (S':List au),cs'.length=cs.length→cs'.all storable=true→Sat h' (pt id (.cells N (cs'++rest) false)::S')→Sat h' (.arr k v cs'::S')):=by
 obtain ⟨m,r,J,h2,h3,a,b,g1,g2,g3,⟨gl,g4⟩,g5⟩:=s.ok
 rcases g4 with ⟨_,e⟩ | ⟨id,n,cap,N,rest,rfl,hg,q1,q2,q3,q4⟩
 ·exact absurd e I
 ·refine ⟨id,n,cap,N,rest,rfl,q1,q2.symm,⟨s.wf,m,r,J,h2,h3,a,b,g1,g2,g3,hg,g5⟩,fun h' cs' S' e1 e2 s'=>s'.gR ?_⟩
  intro m' r' hm
  exact ⟨e2,.inr ⟨id,n,cap,N,rest,rfl,hm,by omega,by omega,q3,q4⟩⟩
theorem Sat.Gf {j:Nat}(s:Sat h S)(I:getA S j=some (.arr k v cs)): cs.all storable=true:=by
 obtain ⟨m,r,h1,h2,J⟩:=s.at I
 exact J.1
theorem Sat.ny {j:Nat}(s:Sat h S)(I:getA S j=some (.arr k v cs)): v.cells=[v]∧storable v=true∧v.beq v=true:=by
 obtain ⟨m,r,h1,h2,J⟩:=s.at I
 rcases J.2 with ⟨rfl,_⟩ | ⟨id,n,cap,N,rest,rfl,_⟩
 ·exact ⟨rfl,rfl,rfl⟩
 ·exact ⟨rfl,rfl,ya _ _ _ _⟩
theorem Sat.gI {j n:Nat}{t e:TypeId}(s:Sat h S)(hj:getA S j=some (.arr k v cs))(hn:cs.length=n*k)(J:1≤k)(hu:P.underlying t=some (.slice e)): lenV P h t v=some (.int .i64 n):=by
 obtain ⟨m,r,h1,h2,h3⟩:=s.at hj
 rcases h3.2 with ⟨rfl,rfl⟩ | ⟨id,n',cap,N,rest,rfl,_,q,_⟩
 ·have:n=0:=by
   rcases rq n with I | I
   ·exact I
   ·have:=vj I J
    simp at hn
    omega
  subst this
  simp only [lenV,hu]
  rfl
 ·have:n'=n:=Nat.eq_of_mul_eq_mul_right J (by omega)
  subst this
  simp only [lenV,hu]
theorem qT (z:List V)(n:Nat): (repeatL z n).length=n*z.length:=by
 induction n with
 | zero=>simp [repeatL]
 | succ n I=>simp only [repeatL,bK,I,Nat.succ_mul]; omega
theorem yn {z:List V}(I:z.all storable=true)(n:Nat): (repeatL z n).all storable=true:=by
 induction n with
 | zero=>rfl
 | succ n J=>simp only [repeatL,List.all_append,I,J,eN]
theorem ux (s:Sat h S){t e:TypeId}{i:TypeInfo}{z:V}{n c:Nat}(hu:P.underlying t=some (.slice e))(hi:P.info? e=some i)(hz:zeroT P e=some z)(hk:i.size=k)(hb:i.bytes≤4096)(J:z.cells.length=k)(I:z.cells.all storable=true)
 (h1:1≤k)(hn:n≤c)(hc:c<1073741824):
  ∃v h',makeSliceV P h t (.int .i64 (n:Int)) (.int .i64 (c:Int))=some (v,h')∧Sat h' (.arr k v (repeatL z.cells n)::S):=by
 refine ⟨.sl h.next 0 n (.exact c),h.new (.cells (c*k) (repeatL z.cells c) false),?_,(s.new _).gR fun m r hm => ?_⟩
 ·simp only [makeSliceV,hu,hi,hz,cg,hk,J]
  rw [show (decide ((0:Int)≤(n:Int))&&decide ((n:Int)≤(c:Int))&&decide ((c:Int)<1073741824)&&Nat.ble i.bytes 4096&&Nat.beq k k&&Nat.ble 1 k)=true by
   rw [aB.2 hb,aB.2 h1,dm]; simp; omega,af]
 ·refine ⟨yn I n,.inr ⟨h.next,n,.exact c,c*k,repeatL z.cells (c-n),rfl,?_,by rw [qT,J],?_,yn I _,rfl,hn⟩⟩
  ·have:repeatL z.cells n++repeatL z.cells (c-n)=repeatL z.cells c:=by
    clear hm
    have:∀a b,repeatL z.cells a++repeatL z.cells b=repeatL z.cells (a+b):=fun a b=>by
     induction a with
     | zero=>simp [repeatL]
     | succ a ih=>rw [Nat.succ_add]; simp only [repeatL,eZ,ih]
    rw [this,show n+(c-n)=c by omega]
   rw [this]; exact hm
  ·rw [qT,qT,J,←iS,show n+(c-n)=c by omega]
theorem MY {id off n:Nat}{I:List V}(hg:T.get h.tr id=some (.cells n cs false))(hl:cs.length=n)(hb:off+I.length≤n):
  wrN h id off I=some (h.put id (some (.cells n (cs.take off++(I++cs.drop (off+I.length))) false))):=by
 simp only [wrN,hg]
 rw [aB.2 hb,af]
 congr 3
 cases J:(Nat.beq off 0&&Nat.beq I.length n) with
 | true =>
  simp only [aG,beq_iff] at J
  obtain ⟨rfl,hn⟩:=J
  rw [af]
  have:cs.drop (0+I.length)=[]:=fY (by omega)
  rw [this]; simp
 | false=>rw [ay]
theorem yo {id off n q:Nat}{st:Bool}(J:T.get h.tr id=some (.cells n cs st))(hl:cs.length=n)(hb:off+q≤n): rdN h id off q=some ((cs.drop off).take q):=by
 simp only [rdN,J]
 rw [aB.2 hb,af]
 cases I:(Nat.beq off 0&&Nat.beq q n) with
 | true =>
  simp only [aG,beq_iff] at I
  obtain ⟨rfl,rfl⟩:=I
  simp [←hl]
 | false=>rfl
theorem ie (s:Sat h (.arr k v cs::.arr k w ds::S)){t e:TypeId}{i:TypeInfo}{z:V}(hu:P.underlying t=some (.slice e))(hi:P.info? e=some i)(hz:zeroT P e=some z)(hk:i.size=k)(hb:i.bytes≤4096)(hl:z.cells.length=k)
 (h1:1≤k)(dW:cs.length+ds.length≤1073741824):
  ∃v' h',appendV P h #[t,t] v w=some (v',h')∧Sat h' (.arr k v' (cs++ds)::.arr k w ds::S):=by
 have SV:=s.Gf (j:=0) rfl
 have Kt:=s.Gf (j:=1) rfl
 have lN:(cs++ds).all storable=true:=by rw [List.all_append,SV,Kt]; rfl
 -- what is appended
 have sD:∃m,srcV h k w=some (ds,m)∧ds.length=m*k:=by
  obtain ⟨m,r,q1,q2,q3⟩:=s.at (k:=1) rfl
  rcases q3.2 with ⟨rfl,rfl⟩ | ⟨id,n,cap,N,rest,rfl,J,e1,e2,e3,e4⟩
  ·exact ⟨0,rfl,by simp⟩
  ·refine ⟨n,?_,e1⟩
   simp only [srcV]
   rw [yo (q1 _ _ J) (by simp [e2]) (by omega)]
   rw [ej,←e1,nf rfl]
   rfl
 obtain ⟨m,sD,hm⟩:=sD
 have I:∀n:Nat,n*k=cs.length→iW (n+m) i.bytes=true:=fun n hn=>by
  have e1:(n+m)*k=cs.length+ds.length:=by rw [iS,hn,hm]
  have e2:n+m≤(n+m)*k:=Nat.le_mul_of_pos_right _ h1
  have e3:(n+m)*i.bytes≤(n+m)*4096:=Nat.mul_le_mul_left _ hb
  exact sC.2 ⟨by omega,by omega⟩
 have sE:∀(σ:H) (n:Nat) (T:List au),Sat σ T→n*k=cs.length→1≤m→Sat (j7 σ k cs ds (n+m)).2 (.arr k (j7 σ k cs ds (n+m)).1 (cs++ds)::T):=by
  intro σ n T sT hn A0
  refine (sT.new (.cells ((n+m)*k) (cs++ds) false)).gR fun a r AT=>⟨lN,.inr ⟨σ.next,n+m,.rest k 0,(n+m)*k,[],rfl,by rw [fH]; exact AT,by rw [bK,iS]; omega,by rw [bK,iS]; simp; omega,rfl,rfl,rfl,rfl,by omega⟩⟩
 unfold appendV
 simp only [hu,hi,hz,hk,hl,sD]
 rw [show (Nat.ble 1 k&&Nat.ble i.bytes 4096&&Nat.beq k k)=true by rw [aB.2 h1,aB.2 hb,dm]; rfl,af]
 cases xq:Nat.beq m 0 with
 | true =>
  have:m=0:=beq_iff.1 xq
  subst this
  have Uo:ds=[]:=js (by simpa using hm)
  subst Uo
  rw [af,fH]
  obtain ⟨m,r,q1,q2,q3⟩:=s.at (k:=0) rfl
  rcases q3.2 with ⟨rfl,rfl⟩ | ⟨id,n,cap,N,rest,rfl,J,e1,e2,e3,e4⟩
  ·exact ⟨_,_,rfl,s⟩
  ·exact ⟨_,_,rfl,s⟩
 | false =>
  have A0:1≤m:=by
   rcases rq m with h0 | h0
   ·rw [gr h0] at xq; cases xq
   ·exact h0
  rw [ay]
  obtain ⟨a,r,q1,q2,q3⟩:=s.at (k:=0) rfl
  rcases q3.2 with ⟨rfl,rfl⟩ | ⟨id,n,cap,N,rest,rfl,J,e1,e2,e3,e4⟩
  ·have J:=I 0 (by simp)
   rw [dH] at J
   simp only [J,af]
   have:=sE h 0 (.arr k .bq []::.arr k w ds::S) s (by simp) A0
   rw [dH] at this
   refine ⟨_,_,rfl,?_⟩
   exact (this.mH [1]).drop
  ·cases cap with
   | exact c =>
    obtain ⟨e4,e5⟩:=e4
    simp only [dH]
    have j8:(cs++rest).take cs.length=cs:=nf rfl
    cases hq:Nat.ble (n+m) c with
    | true =>
     have mC:=aB.1 hq
     rw [af]
     have eU:n*k+ds.length≤N:=by rw [hm,←iS,e4]; exact oR _ mC
     rw [MY (q1 _ _ J) (by simp [e2]) eU]
     simp only
     obtain ⟨m',r',p1,p2,p3,x1,x2,x3,x4,x5,⟨_,x6⟩,x7⟩:=s.ok
     have wM:x1 id=some (.cells N (cs++rest) false):=by
      rcases x6 with ⟨x6,_⟩ | ⟨tX,n',tY,N',L4,x6,x8,x9,Up,_⟩
      ·cases x6
      ·injection x6 with y1 y2 y3 y4
       subst y1
       rw [x8]
       have:=p1 _ _ (x4 _ _ x8)
       rw [q1 _ _ J] at this
       injection this with this
       rw [this]
     have s0:Sat h (pt id (.cells N (cs++rest) false)::.arr k w ds::S):=⟨s.wf,m',r',p1,p2,p3,x1,x2,x3,x4,x5,wM,x7⟩
     have s1:=s0.put (k:=0) (o':=.cells N ((cs++rest).take (n*k)++(ds++(cs++rest).drop (n*k+ds.length))) false) rfl
     refine ⟨_,_,rfl,Sat.gR s1 fun a' Wo ha=>⟨lN,.inr ⟨id,n+m,.exact c,N,rest.drop ds.length,rfl,?_,by rw [bK,iS]; omega,by simp; omega,?_,e4,mC⟩⟩⟩
     ·have Uq:a' id=some (.cells N ((cs++rest).take (n*k)++(ds++(cs++rest).drop (n*k+ds.length))) false):=ha
      rw [Uq,←e1,j8,vh,fY (by omega),Nat.add_sub_cancel_left,dh,eZ]
     ·rw [m_] at e3 ⊢
      exact fun y hy=>e3 y (gj hy)
    | false =>
     rw [ay,I n e1.symm,af,yo (q1 _ _ J) (by simp [e2]) (by omega)]
     simp only
     rw [ej,←e1,j8]
     have:=sE h n _ s e1.symm A0
     exact ⟨_,_,rfl,(this.mH [1]).drop⟩
   | rest e' alt =>
    obtain ⟨ek,rfl,rfl,e7⟩:=e4
    have ek:=ek.symm
    subst ek
    simp only [dm,af,fH,dH] at J e2 ⊢
    have BQ:iV h id 0 k=n:=by
     simp only [iV,q1 _ _ J]
     rw [iy,←e2]
     simp only [bR,gq,e1]
     exact y7 _ h1
    rw [BQ]
    rw [show Nat.ble (n+m) n=false by
     cases hq:Nat.ble (n+m) n with
     | true=>have:=aB.1 hq; omega
     | false=>rfl,ay,I n e1.symm,show Nat.ble 2 ((n+m)*k)=true from aB.2 (by
      have:2*1≤(n+m)*k:=vj (by omega) h1
      omega),eN,af,yo (q1 _ _ J) (by simpa using e2) (by simp at e2; omega),q1 _ _ J]
    simp only
    obtain ⟨m',r',p1,p2,p3,x1,x2,x3,x4,x5,⟨_,x6⟩,x7⟩:=s.ok
    have wM:x1 id=some (.cells N cs false):=by
     rcases x6 with ⟨x6,_⟩ | ⟨tX,n',tY,N',L4,x6,x8,x9,Up,_⟩
     ·cases x6
     ·injection x6 with y1 y2 y3 y4
      subst y1
      rw [x8]
      have:=p1 _ _ (x4 _ _ x8)
      rw [q1 _ _ J] at this
      injection this with this
      rw [this]
    have s0:Sat h (pt id (.cells N cs false)::.arr k w ds::S):=⟨s.wf,m',r',p1,p2,p3,x1,x2,x3,x4,x5,wM,x7⟩
    have:=sE (h.put id none) n _ s0.kill e1.symm A0
    rw [ej,eA (by omega)]
    exact ⟨_,_,rfl,this⟩
end
section
variable {P:Program} {h h':H} {S:List au} {v w x:V} {cs ds:List V} {k:Nat}
theorem Sat.ik {t:TypeId}{j id n:Nat}{l:List V}(s:Sat h S)(J:getA S j=some (pt id (.cells n cs false)))(hs:bh P t=some n)(hl:l.length=n)(I:l.all storable=true):
  ∃h₁,fR P h t (.ptr id 0) (.agg l)=some h₁∧Sat h₁ (setA S j (pt id (.cells n l false))):=by
 refine ⟨h.put id (some (.cells n l false)),?_,s.put J⟩
 simp only [fR,hs,V.cells,I,hl,dm,eN,af,wrN,s.row J]
 rw [aB.2 (by omega:0+n≤n),af]
theorem kU (s:Sat h S){t e:TypeId}{z:V}(hu:P.underlying t=some (.slice e))(hz:zeroT P e=some z)(hk:bh P e=some k)(J:z.cells.length=k)(h1:1≤k)(h2:k≤65536)(hx:x.cells.length=k)(I:x.cells.all storable=true):
  ∃v h',buildSliceV P h t 1 [(0,x)]=some (v,h')∧Sat h' (.arr k v x.cells::S):=by
 refine ⟨.sl h.next 0 1 (.exact 1),newRow h x.cells,?_,?_⟩
 ·simp only [buildSliceV,hu,hk,hz]
  rw [show (Nat.beq z.cells.length k&&Nat.ble (1*k) 65536&&Nat.ble 1 k)=true by rw [J,dm,aB.2 (by omega),aB.2 h1]; rfl,af]
  have e1:repeatL z.cells 1=z.cells:=by simp [repeatL]
  simp only [fillV,e1,hx,J,dm,vl]
  rw [aB.2 (by omega:0*k+k≤k),af]
  have e2:z.cells.take (0*k)++(x.cells++z.cells.drop (0*k+k))=x.cells:=by
   rw [o8,jx,dh,fY (by omega),fH]
  simp only [e2,I,af]
 ·refine (s.new _).gR fun m r hm=>⟨I,.inr ⟨h.next,1,.exact 1,k,[],rfl,?_,by omega,by simp; omega,rfl,by omega,aE _⟩⟩
  have hm:m h.next=some (.cells x.cells.length x.cells false):=hm
  rw [hm,hx,fH]
end
section
variable {P:Program} {h h':H} {S:List au} {X:au} {v w x:V} {l:List Nat} {k:Nat}
theorem fS.slice {m:PM}{a b:Nat}(hv:fS m v l)(l8:a≤b)(hb:b≤l.length): fS m (slR v a b) ((l.take b).drop a):=by
 have br:∀x∈(l.take b).drop a,x<256:=fun x hx=>hv.1 x (gm (gj hx))
 have hlen:((l.take b).drop a).length=b-a:=by simp; omega
 obtain ⟨hl,ot⟩:=hv
 rcases ot with ⟨rfl | ⟨ea,rfl⟩,rfl⟩ | ⟨id,off,cap,n,cs,st,rfl,hg,h1,h2,h3,h4⟩
 ·simp at hb
  have:b=0:=by omega
  have:a=0:=by omega
  subst_vars
  exact ⟨by simp,.inl ⟨.inl rfl,by simp⟩⟩
 ·simp at hb
  have:b=0:=by omega
  have:a=0:=by omega
  subst_vars
  exact ⟨by simp,.inl ⟨.inr ⟨ea,rfl⟩,by simp⟩⟩
 ·have I:∀o,o=off+a∨b-a=0→(cs.drop o).take (b-a)=ofBytes ((l.take b).drop a):=by
   intro o ho
   rcases ho with rfl | h0
   ·have e:=eB (fun q=>(q.take b).drop a) h3
    simp only [ofBytes,←lX,←lY] at e ⊢
    rw [←e,rD,o5 hb,o6,ng]
   ·rw [h0,jx]
    have:((l.take b).drop a)=[]:=js (by omega)
    rw [this]; rfl
  cases cap with
  | exact c =>
   have hc:l.length≤c:=h4
   refine ⟨br,.inr ⟨id,_,_,n,cs,st,by rw [hlen]; rfl,hg,h1,?_,?_,?_⟩⟩
   ·rw [hlen]
    by_cases J:c=a
    ·rw [gr J,af]; omega
    ·rw [cE J,ay]; omega
   ·rw [hlen]
    by_cases J:c=a
    ·rw [gr J,af]; exact I _ (.inr (by omega))
    ·rw [cE J,ay,cq]; exact I _ (.inl rfl)
   ·show ((l.take b).drop a).length≤c-a
    rw [hlen]; omega
  | rest e alt =>
   have he:e=1:=h4
   subst he
   exact ⟨br,.inr ⟨id,_,_,n,cs,st,by rw [hlen]; rfl,hg,h1,by rw [hlen]; omega,by rw [hlen,cq]; exact I _ (.inl rfl),rfl⟩⟩
theorem sQ {a b:Nat}(hX:cN X (cQ v l))(I:a≤b)(J:b≤l.length): cN X (cQ (slR v a b) ((l.take b).drop a)):=fun m r hm =>
 (hX m r hm).imp (fun h=>fS.slice h I J) (fun h=>fS.slice h I J)
theorem ET {a:Nat}(I:cN X (cQ v l))(J:a≤l.length): cN X (cQ (slR v a l.length) (l.drop a)):=by
 have:=sQ I J (aE _)
 rwa [List.take_length] at this
theorem Sat.mN (s:Sat h S): Sat h (.arr k .bq []::S):=(s.hO aa).gR fun _ _ _=>⟨rfl,.inl ⟨rfl,rfl⟩⟩
theorem Sat.Ig (s:Sat h S): Sat h (bg .bq []::S):=(s.hO aa).gR fun _ _ _=>⟨by simp,.inl ⟨rfl,rfl⟩⟩
theorem Sat.oJ (s:Sat h S): Sat h (yf .bq []::S):=(s.hO aa).gR fun _ _ _=>⟨by simp,.inl ⟨.inl rfl,rfl⟩⟩
theorem A1 (s:Sat h S){t e:TypeId}{i:TypeInfo}{z:V}{n:Nat}(hu:P.underlying t=some (.slice e))(hi:P.info? e=some i)(I:zeroT P e=some z)(J:i.size=k)(hb:i.bytes≤4096)(hl:z.cells.length=k)
 (h1:1≤k)(hn:n<1073741824):
  ∃id h',makeSliceV P h t (.int .i64 (n:Int)) (.int .i64 (n:Int))=some (.sl id 0 n (.exact n),h')∧Sat h' (pt id (.cells (n*k) (repeatL z.cells n) false)::S):=by
 refine ⟨h.next,h.new (.cells (n*k) (repeatL z.cells n) false),?_,s.new _⟩
 simp only [makeSliceV,hu,hi,I,cg,J,hl]
 rw [show (decide ((0:Int)≤(n:Int))&&decide ((n:Int)≤(n:Int))&&decide ((n:Int)<1073741824)&&Nat.ble i.bytes 4096&&Nat.beq k k&&Nat.ble 1 k)=true by
  rw [aB.2 hb,aB.2 h1,dm]; simp; omega,af]
theorem nA {h:H}{t e:TypeId}{i o n:Nat}{c:Cap}{v:V}(hv:v=.sl i o n c)(hu:P.underlying t=some (.slice e)): lenV P h t v=some (.int .i64 n):=by subst hv; exact Ia hu
theorem SW {E:List (Nat×V)}{c:Go.Call}{b:Builtin}{args:List V}{r:V}(I:c.callee=.builtin b)(J:lookArgs E c.args.toList=some args)(hf:builtinV P h b c.argTypes args=some (r,h')): opE P E h (.call c)=some (r,h'):=by
 simp only [opE,I,J,hf]
end
def slR3 (v:V)(a b m:Nat): V:=match v with
 | .sl id off _ _=>.sl id (cond (Nat.beq m a) off (off+a*1)) (b-a) (.exact (m-a))
 | v=>v
section
variable {P:Program} {h h':H} {S:List au} {X:au} {v w x:V} {l:List Nat} {k:Nat}
theorem fS.slice3 {m:PM}{a b c:Nat}(hv:fS m v l)(l8:a≤b)(hb:b≤c)(hc:c≤l.length)(hl:1≤l.length): fS m (slR3 v a b c) ((l.take b).drop a):=by
 have br:∀x∈(l.take b).drop a,x<256:=fun x hx=>hv.1 x (gm (gj hx))
 have hlen:((l.take b).drop a).length=b-a:=by simp; omega
 obtain ⟨_,ot⟩:=hv
 rcases ot with ⟨_,rfl⟩ | ⟨id,off,cap,n,cs,st,rfl,hg,h1,h2,h3,h4⟩
 ·simp at hl
 ·have I:∀o,o=off+a∨b-a=0→(cs.drop o).take (b-a)=ofBytes ((l.take b).drop a):=by
   intro o ho
   rcases ho with rfl | h0
   ·have e:=eB (fun q=>(q.take b).drop a) h3
    simp only [ofBytes,←lX,←lY] at e ⊢
    rw [←e,rD,o5 (b5 hb hc),o6,ng]
   ·rw [h0,jx]
    have:((l.take b).drop a)=[]:=js (by omega)
    rw [this]; rfl
  refine ⟨br,.inr ⟨id,_,_,n,cs,st,by rw [hlen]; rfl,hg,h1,?_,?_,?_⟩⟩
  ·rw [hlen]
   by_cases J:c=a
   ·rw [gr J,af]; omega
   ·rw [cE J,ay]; omega
  ·rw [hlen]
   by_cases J:c=a
   ·rw [gr J,af]; exact I _ (.inr (by omega))
   ·rw [cE J,ay,cq]; exact I _ (.inl rfl)
  ·show ((l.take b).drop a).length≤c-a
   rw [hlen]; omega
theorem A2 {a b c:Nat}(hX:cN X (cQ v l))(I:a≤b)(J:b≤c)(hc:c≤l.length)(hl:1≤l.length): cN X (cQ (slR3 v a b c) ((l.take b).drop a)):=fun m r hm =>
 (hX m r hm).imp (fun h=>fS.slice3 h I J hc hl) (fun h=>fS.slice3 h I J hc hl)
theorem wq {a b c:Nat}(hv:View h v l)(I:a≤b)(hb:b≤c)(hc:c≤l.length)(hl:1≤l.length): sliceV Tryz.prog h 28 v (some a) (some b) (some c)=some (slR3 v a b c):=by
 obtain ⟨_,J⟩:=hv
 rcases J with ⟨_,rfl⟩ | ⟨id,off,cap,n,cs,st,rfl,hg,h1,h2,h3,h4⟩
 ·simp at hl
 ·cases cap with
  | exact q =>
   have hq:l.length≤q:=h4
   simp only [sliceV,slR3,aM,dK,dy]
   rw [show (Nat.ble a b&&Nat.ble b c&&Nat.ble c q)=true by rw [aG,aG,aB,aB,aB]; omega,af]
  | rest e alt =>
   have he:e=1:=h4
   subst he
   simp only [sliceV,slR3,aM,dK,dy,dm]
   rw [show (true&&Nat.ble 1 1)=true from rfl,af]
   rw [show (Nat.ble a b&&Nat.ble b c&&(Nat.ble c l.length||Nat.ble c (iV h id off 1))&&Nat.blt 0 l.length)=true by
    rw [aG,aG,aG,kN,aB,aB,aB]
    exact ⟨⟨⟨I,hb⟩,.inl hc⟩,by rw [Nat.blt]; exact aB.2 (by omega)⟩,af]
theorem gw (hv:View h v l)(I:1≤l.length): ∃id off cap,v=.sl id off l.length cap:=by
 rcases hv.2 with ⟨_,rfl⟩ | ⟨id,off,cap,_,_,_,rfl,_⟩
 ·simp at I
 ·exact ⟨id,off,cap,rfl⟩
theorem dZ {k:IntKind}{n:Int}(I:0≤n): gD (some (V.int k n))=some (some n.toNat):=by
 simp only [gD,bndV,cK I,af]
end
section
variable {P:Program} {h h':H} {S:List au} {X:au} {v w x:V} {cs:List V} {l m:List Nat} {k:Nat}
theorem Pt {t e:TypeId}{i q j:Nat}(s:Sat h S)(J:getA S j=some (.arr q v cs))(hi:i*q+q≤cs.length)(hq:1≤q)(hu:P.underlying t=some (.slice e))(I:bh P e=some q):
  ∃id off,indexAddrV P t v (.int .i64 (i:Int))=some (.ptr id off)∧(bS P e=some true→loadV P h e (.ptr id off)=some (.agg ((cs.drop (i*q)).take q))):=by
 obtain ⟨m,r,h1,h2,h3⟩:=s.at J
 rcases h3.2 with ⟨_,rfl⟩ | ⟨id,n,cap,N,rest,rfl,hg,e1,e2,_⟩
 ·simp at hi; omega
 ·refine ⟨id,i*q,?_,fun ht => ?_⟩
  ·simp only [indexAddrV,hu,I,cg]
   have:i<n:=by
    have h4:i*q+q=(i+1)*q:=by rw [iS,Nat.one_mul]
    rw [h4,e1] at hi
    exact Nat.lt_of_succ_le (Nat.le_of_mul_le_mul_right hi hq)
   rw [show (decide ((0:Int)≤(i:Int))&&decide ((i:Int)<(n:Int)))=true by simp; omega,af]
   simp
  ·rw [RF ht I (h1 _ _ hg) (by simp; omega) (by omega)]
   rw [yU (by omega),oQ (by simp; omega)]
theorem Sat.Pu (s:Sat h (bg v l::X::S))(hX:cN X (cQ w m)): ∀i∈rowIds w,i∉rowIds v:=by
 intro i hi iq
 obtain ⟨a,r,h1,h2,h3,b,c,g1,g2,g3,g4,d,e,k1,k2,k3,k4,k5⟩:=s.ok
 have hb:=EG g4 i iq
 have hw:∀q:PM,fS q w m→q i≠none:=fun q J=>by
  rcases J.2 with ⟨rfl | ⟨ea,rfl⟩,_⟩ | ⟨id,off,cap,n,cs,st,rfl,hg,_⟩
  ·simp [rowIds] at hi
  ·simp [rowIds] at hi
  ·simp [rowIds] at hi; subst hi; rw [hg]; simp
 rcases hX _ _ k4 with J | J
 ·have h4:=hw _ J
  cases hd:d i with
  | none=>exact h4 hd
  | some o =>
   rcases g1 i with I | I
   ·exact hb I
   ·rw [k2 _ _ hd] at I; cases I
 ·have h4:=hw _ J
  cases Pv:b i with
  | none=>exact hb Pv
  | some o =>
   rcases h3 i with I | I
   ·rw [g2 _ _ Pv] at I; cases I
   ·exact h4 I
end
end Go.Proofs.YtefepnnfphdkpaaGreat.Am
