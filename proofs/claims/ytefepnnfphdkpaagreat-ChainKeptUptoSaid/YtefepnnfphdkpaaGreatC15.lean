/- ChainKept: a part of its proof; conditions: its statement's. -/
import Derived.Test.YtefepnnfphdkpaaGreatC01
import Derived.Test.YtefepnnfphdkpaaGreatProg
import Derived.KernelRfl
import Derived.Test.YtefepnnfphdkpaaGreatC14
namespace Go.Proofs.YtefepnnfphdkpaaGreat.Am
open Go
theorem kf : bj Tryz.prog 3=some 1:=by kernel_rfl
theorem dY : bZ Tryz.prog 3=some false:=by kernel_rfl
theorem uo : zeroT Tryz.prog 3=some (.int .i64 0):=by kernel_rfl
theorem xp : bj Tryz.prog 4=some 1:=by kernel_rfl
theorem nD : bZ Tryz.prog 4=some false:=by kernel_rfl
theorem Q5 : bj Tryz.prog 5=some 1:=by kernel_rfl
theorem WA : zeroT Tryz.prog 5=some (.int .u8 0):=by kernel_rfl
theorem va : bZ Tryz.prog 24=some false:=by kernel_rfl
theorem Q6 : bj Tryz.prog 26=some 1:=by kernel_rfl
theorem Hq : bZ Tryz.prog 26=some false:=by kernel_rfl
theorem ko : bj Tryz.prog 28=some 1:=by kernel_rfl
theorem bN : bZ Tryz.prog 28=some false:=by kernel_rfl
theorem n4 : zeroT Tryz.prog 28=some .bp:=by kernel_rfl
theorem UU : bj Tryz.prog 30=some 1:=by kernel_rfl
theorem UW : bZ Tryz.prog 30=some false:=by kernel_rfl
theorem UX : zeroT Tryz.prog 30=some (.int .i64 0):=by kernel_rfl
theorem LJ : bj Tryz.prog 33=some 1:=by kernel_rfl
theorem mq : bZ Tryz.prog 33=some false:=by kernel_rfl
theorem UY : zeroT Tryz.prog 33=some .bp:=by kernel_rfl
theorem Hr : bj Tryz.prog 43=some 1:=by kernel_rfl
theorem nf : bZ Tryz.prog 43=some false:=by kernel_rfl
theorem Q7 : bj Tryz.prog 46=some 1:=by kernel_rfl
theorem Ba : bZ Tryz.prog 46=some false:=by kernel_rfl
theorem tP : bj Tryz.prog 48=some 6:=by kernel_rfl
theorem Bb : bZ Tryz.prog 48=some true:=by kernel_rfl
theorem LK : zeroT Tryz.prog 48=some (.agg [(.int .i64 0),(.int .u64 0),(.int .u64 0),(.int .u64 0),.bp,.bp]):=by kernel_rfl
theorem vb (a b:Nat): fieldAddrV Tryz.prog 48 (.ptr a b) 0=some (.ptr a (b+0)):=by kernel_rfl
theorem Q8 (a b:Nat): fieldAddrV Tryz.prog 48 (.ptr a b) 1=some (.ptr a (b+1)):=by kernel_rfl
theorem Q9 (a b:Nat): fieldAddrV Tryz.prog 48 (.ptr a b) 2=some (.ptr a (b+2)):=by kernel_rfl
theorem Q_ (a b:Nat): fieldAddrV Tryz.prog 48 (.ptr a b) 3=some (.ptr a (b+3)):=by kernel_rfl
theorem Ra (a b:Nat): fieldAddrV Tryz.prog 48 (.ptr a b) 4=some (.ptr a (b+4)):=by kernel_rfl
theorem qC (a b:Nat): fieldAddrV Tryz.prog 48 (.ptr a b) 5=some (.ptr a (b+5)):=by kernel_rfl
theorem LL (ps:List (Nat×V)): buildV Tryz.prog 48 ps=(fillV (nth [(0,1),(1,1),(2,1),(3,1),(4,1),(5,1)]) ((.agg [(.int .i64 0),(.int .u64 0),(.int .u64 0),(.int .u64 0),.bp,.bp]):V).cells ps).map .agg:=by kernel_rfl
theorem Ht : bj Tryz.prog 58=some 2:=by kernel_rfl
theorem Rb : zeroT Tryz.prog 58=some (.agg [(.int .i64 0),.bp]):=by kernel_rfl
theorem De (a b:Nat): fieldAddrV Tryz.prog 58 (.ptr a b) 0=some (.ptr a (b+0)):=by kernel_rfl
theorem Jy (a b:Nat): fieldAddrV Tryz.prog 58 (.ptr a b) 1=some (.ptr a (b+1)):=by kernel_rfl
theorem UZ (ps:List (Nat×V)): buildV Tryz.prog 58 ps=(fillV (nth [(0,1),(1,1)]) ((.agg [(.int .i64 0),.bp]):V).cells ps).map .agg:=by kernel_rfl
theorem rY : bZ Tryz.prog 62=some false:=by kernel_rfl
theorem LM : bZ Tryz.prog 86=some false:=by kernel_rfl
theorem Rc : bZ Tryz.prog 99=some false:=by kernel_rfl
theorem me : bZ Tryz.prog 109=some false:=by kernel_rfl
theorem Sx : bj Tryz.prog 111=some 3:=by kernel_rfl
theorem mM (a b:Nat): fieldAddrV Tryz.prog 111 (.ptr a b) 0=some (.ptr a (b+0)):=by kernel_rfl
theorem n_ (a b:Nat): fieldAddrV Tryz.prog 111 (.ptr a b) 1=some (.ptr a (b+1)):=by kernel_rfl
theorem wE (a b:Nat): fieldAddrV Tryz.prog 111 (.ptr a b) 2=some (.ptr a (b+2)):=by kernel_rfl
theorem Sy (ps:List (Nat×V)): buildV Tryz.prog 111 ps=(fillV (nth [(0,1),(1,1),(2,1)]) ((.agg [.cU,.jC,(.bool false)]):V).cells ps).map .agg:=by kernel_rfl
theorem wF : bZ Tryz.prog 112=some false:=by kernel_rfl
theorem wG (a b:Nat): fieldAddrV Tryz.prog 114 (.ptr a b) 0=some (.ptr a (b+0)):=by kernel_rfl
theorem FU (a b:Nat): fieldAddrV Tryz.prog 114 (.ptr a b) 1=some (.ptr a (b+1)):=by kernel_rfl
theorem qd (a b:Nat): fieldAddrV Tryz.prog 114 (.ptr a b) 2=some (.ptr a (b+2)):=by kernel_rfl
theorem qf (a b:Nat): fieldAddrV Tryz.prog 114 (.ptr a b) 3=some (.ptr a (b+3)):=by kernel_rfl
theorem Sz (ps:List (Nat×V)): buildV Tryz.prog 114 ps=(fillV (nth [(0,1),(1,1),(2,1),(3,1),(4,1),(5,1)]) ((.agg [.cU,.cU,.cU,.cU,.bp,(.int .u64 0)]):V).cells ps).map .agg:=by kernel_rfl
theorem Hu : bZ Tryz.prog 145=some false:=by kernel_rfl
theorem SB (a b l:Nat)(c:Cap)(k:IntKind)(n:Int): indexAddrV Tryz.prog 145 (.sl a b l c) (.int k n)=cond (decide (0≤n)&&decide (n<(l:Int))) (some (.ptr a (b+n.toNat*1))) none:=by kernel_rfl
theorem SC : bj Tryz.prog 146=some 1:=by kernel_rfl
theorem Hv : bZ Tryz.prog 146=some false:=by kernel_rfl
theorem SD : bj Tryz.prog 147=some 1:=by kernel_rfl
theorem OD (a b:Nat): fieldAddrV Tryz.prog 149 (.ptr a b) 0=some (.ptr a (b+0)):=by kernel_rfl
theorem Bc (a b:Nat): fieldAddrV Tryz.prog 149 (.ptr a b) 1=some (.ptr a (b+1)):=by kernel_rfl
theorem Bd (a b:Nat): fieldAddrV Tryz.prog 149 (.ptr a b) 2=some (.ptr a (b+2)):=by kernel_rfl
theorem FW (a b:Nat): fieldAddrV Tryz.prog 149 (.ptr a b) 3=some (.ptr a (b+3)):=by kernel_rfl
theorem sU (a b:Nat): fieldAddrV Tryz.prog 149 (.ptr a b) 4=some (.ptr a (b+4)):=by kernel_rfl
theorem FX (a b:Nat): fieldAddrV Tryz.prog 149 (.ptr a b) 5=some (.ptr a (b+5)):=by kernel_rfl
theorem OE (a b:Nat): fieldAddrV Tryz.prog 149 (.ptr a b) 6=some (.ptr a (b+6)):=by kernel_rfl
theorem wH (a b:Nat): fieldAddrV Tryz.prog 149 (.ptr a b) 7=some (.ptr a (b+7)):=by kernel_rfl
theorem wI (a b:Nat): fieldAddrV Tryz.prog 149 (.ptr a b) 8=some (.ptr a (b+8)):=by kernel_rfl
theorem mN (a b:Nat): fieldAddrV Tryz.prog 149 (.ptr a b) 9=some (.ptr a (b+9)):=by kernel_rfl
theorem LN (a b:Nat): fieldAddrV Tryz.prog 149 (.ptr a b) 10=some (.ptr a (b+10)):=by kernel_rfl
theorem LO (a b:Nat): fieldAddrV Tryz.prog 149 (.ptr a b) 11=some (.ptr a (b+11)):=by kernel_rfl
theorem SE (ps:List (Nat×V)): buildV Tryz.prog 149 ps=(fillV (nth [(0,1),(1,1),(2,1),(3,1),(4,1),(5,1),(6,1),(7,1),(8,1),(9,1),(10,1),(11,1)]) ((.agg [(.int .i64 0),.bp,.bp,.jC,.bp,(.int .i64 0),.bp,(.int .i64 0),(.int .i64 0),(.bool false),.cU,.bp]):V).cells ps).map .agg:=by kernel_rfl
theorem Hw : bj Tryz.prog 151=some 2:=by kernel_rfl
theorem SF : bZ Tryz.prog 151=some true:=by kernel_rfl
theorem Hx : zeroT Tryz.prog 151=some (.agg [(.int .i64 0),.bp]):=by kernel_rfl
theorem OF (a b:Nat): fieldAddrV Tryz.prog 151 (.ptr a b) 1=some (.ptr a (b+1)):=by kernel_rfl
theorem SG (ps:List (Nat×V)): buildV Tryz.prog 151 ps=(fillV (nth [(0,1),(1,1)]) ((.agg [(.int .i64 0),.bp]):V).cells ps).map .agg:=by kernel_rfl
theorem FY (a b:Nat): fieldAddrV Tryz.prog 155 (.ptr a b) 0=some (.ptr a (b+0)):=by kernel_rfl
theorem sV (a b:Nat): fieldAddrV Tryz.prog 155 (.ptr a b) 1=some (.ptr a (b+1)):=by kernel_rfl
theorem j5 (a b:Nat): fieldAddrV Tryz.prog 155 (.ptr a b) 2=some (.ptr a (b+2)):=by kernel_rfl
theorem oa (a b:Nat): fieldAddrV Tryz.prog 155 (.ptr a b) 3=some (.ptr a (b+3)):=by kernel_rfl
theorem Be (a b:Nat): fieldAddrV Tryz.prog 155 (.ptr a b) 4=some (.ptr a (b+4)):=by kernel_rfl
theorem OG (a b:Nat): fieldAddrV Tryz.prog 155 (.ptr a b) 5=some (.ptr a (b+5)):=by kernel_rfl
theorem SH (ps:List (Nat×V)): buildV Tryz.prog 155 ps=(fillV (nth [(0,1),(1,1),(2,1),(3,1),(4,1),(5,1)]) ((.agg [.cU,(.int .u64 0),.bp,.bp,(.int .i64 0),(.int .u64 0)]):V).cells ps).map .agg:=by kernel_rfl
theorem bn : bj Tryz.prog 163=some 1:=by kernel_rfl
theorem bT : bZ Tryz.prog 163=some true:=by kernel_rfl
theorem iI : zeroT Tryz.prog 163=some (.agg [.bp]):=by kernel_rfl
theorem fG (a b:Nat): fieldAddrV Tryz.prog 163 (.ptr a b) 0=some (.ptr a (b+0)):=by kernel_rfl
theorem wJ (ps:List (Nat×V)): buildV Tryz.prog 163 ps=(fillV (nth [(0,1)]) ((.agg [.bp]):V).cells ps).map .agg:=by kernel_rfl
theorem SI : bj Tryz.prog 173=some 2:=by kernel_rfl
theorem SJ : zeroT Tryz.prog 173=some (.agg [(.int .i64 0),.bp]):=by kernel_rfl
theorem OH (a b:Nat): fieldAddrV Tryz.prog 173 (.ptr a b) 0=some (.ptr a (b+0)):=by kernel_rfl
theorem FZ (a b:Nat): fieldAddrV Tryz.prog 173 (.ptr a b) 1=some (.ptr a (b+1)):=by kernel_rfl
theorem Nu (ps:List (Nat×V)): buildV Tryz.prog 173 ps=(fillV (nth [(0,1),(1,1)]) ((.agg [(.int .i64 0),.bp]):V).cells ps).map .agg:=by kernel_rfl
theorem wK : bj Tryz.prog 180=some 4:=by kernel_rfl
theorem SK : bZ Tryz.prog 180=some true:=by kernel_rfl
theorem rF : zeroT Tryz.prog 180=some (.agg [(.int .i64 0),(.int .i64 0),(.bool false),.bp]):=by kernel_rfl
theorem Bf (a b:Nat): fieldAddrV Tryz.prog 180 (.ptr a b) 0=some (.ptr a (b+0)):=by kernel_rfl
theorem qg (a b:Nat): fieldAddrV Tryz.prog 180 (.ptr a b) 1=some (.ptr a (b+1)):=by kernel_rfl
theorem F0 (a b:Nat): fieldAddrV Tryz.prog 180 (.ptr a b) 2=some (.ptr a (b+2)):=by kernel_rfl
theorem qh (a b:Nat): fieldAddrV Tryz.prog 180 (.ptr a b) 3=some (.ptr a (b+3)):=by kernel_rfl
theorem Hy (ps:List (Nat×V)): buildV Tryz.prog 180 ps=(fillV (nth [(0,1),(1,1),(2,1),(3,1)]) ((.agg [(.int .i64 0),(.int .i64 0),(.bool false),.bp]):V).cells ps).map .agg:=by kernel_rfl
theorem ng : bZ Tryz.prog 185=some false:=by kernel_rfl
theorem SL (a b l:Nat)(c:Cap)(k:IntKind)(n:Int): indexAddrV Tryz.prog 185 (.sl a b l c) (.int k n)=cond (decide (0≤n)&&decide (n<(l:Int))) (some (.ptr a (b+n.toNat*5))) none:=by kernel_rfl
theorem zD : bZ Tryz.prog 186=some false:=by kernel_rfl
theorem wL : bZ Tryz.prog 187=some false:=by kernel_rfl
theorem wM (a b:Nat): fieldAddrV Tryz.prog 189 (.ptr a b) 0=some (.ptr a (b+0)):=by kernel_rfl
theorem OI (a b:Nat): fieldAddrV Tryz.prog 189 (.ptr a b) 1=some (.ptr a (b+1)):=by kernel_rfl
theorem j6 (a b:Nat): fieldAddrV Tryz.prog 189 (.ptr a b) 2=some (.ptr a (b+2)):=by kernel_rfl
theorem sW (a b:Nat): fieldAddrV Tryz.prog 189 (.ptr a b) 3=some (.ptr a (b+3)):=by kernel_rfl
theorem qi (a b:Nat): fieldAddrV Tryz.prog 189 (.ptr a b) 4=some (.ptr a (b+4)):=by kernel_rfl
theorem Bg (a b:Nat): fieldAddrV Tryz.prog 189 (.ptr a b) 5=some (.ptr a (b+5)):=by kernel_rfl
theorem SM (ps:List (Nat×V)): buildV Tryz.prog 189 ps=(fillV (nth [(0,1),(1,1),(2,1),(3,1),(4,1),(5,1)]) ((.agg [.cU,.cU,.bp,.jC,.jC,(.int .i64 0)]):V).cells ps).map .agg:=by kernel_rfl
theorem zE : bj Tryz.prog 193=some 5:=by kernel_rfl
theorem SN : bZ Tryz.prog 193=some true:=by kernel_rfl
theorem SO : zeroT Tryz.prog 193=some (.agg [(.int .i64 0),.bp,(.int .i64 0),(.bool false),(.bool false)]):=by kernel_rfl
theorem mO (a b:Nat): fieldAddrV Tryz.prog 193 (.ptr a b) 0=some (.ptr a (b+0)):=by kernel_rfl
theorem wN (a b:Nat): fieldAddrV Tryz.prog 193 (.ptr a b) 1=some (.ptr a (b+1)):=by kernel_rfl
theorem ob (a b:Nat): fieldAddrV Tryz.prog 193 (.ptr a b) 2=some (.ptr a (b+2)):=by kernel_rfl
theorem Bh (a b:Nat): fieldAddrV Tryz.prog 193 (.ptr a b) 3=some (.ptr a (b+3)):=by kernel_rfl
theorem Bi (a b:Nat): fieldAddrV Tryz.prog 193 (.ptr a b) 4=some (.ptr a (b+4)):=by kernel_rfl
theorem Cz (ps:List (Nat×V)): buildV Tryz.prog 193 ps=(fillV (nth [(0,1),(1,1),(2,1),(3,1),(4,1)]) ((.agg [(.int .i64 0),.bp,(.int .i64 0),(.bool false),(.bool false)]):V).cells ps).map .agg:=by kernel_rfl
theorem wO : bj Tryz.prog 199=some 2:=by kernel_rfl
theorem Nv : bZ Tryz.prog 199=some true:=by kernel_rfl
theorem wP : zeroT Tryz.prog 199=some (.agg [(.int .u64 0),(.bool false)]):=by kernel_rfl
theorem Bj (a b:Nat): fieldAddrV Tryz.prog 199 (.ptr a b) 0=some (.ptr a (b+0)):=by kernel_rfl
theorem OJ (cs:List V): mU Tryz.prog 199 (.agg cs) 0=nth cs 0:=by kernel_rfl
theorem F1 (a b:Nat): fieldAddrV Tryz.prog 199 (.ptr a b) 1=some (.ptr a (b+1)):=by kernel_rfl
theorem SP (ps:List (Nat×V)): buildV Tryz.prog 199 ps=(fillV (nth [(0,1),(1,1)]) ((.agg [(.int .u64 0),(.bool false)]):V).cells ps).map .agg:=by kernel_rfl
theorem F2 (a b:Nat): fieldAddrV Tryz.prog 210 (.ptr a b) 0=some (.ptr a (b+0)):=by kernel_rfl
theorem SQ (ps:List (Nat×V)): buildV Tryz.prog 210 ps=(fillV (nth [(0,1),(1,1)]) ((.agg [.jC,.jC]):V).cells ps).map .agg:=by kernel_rfl
theorem Nw (a b:Nat)(k:IntKind)(n:Int): indexAddrV Tryz.prog 227 (.ptr a b) (.int k n)=cond (decide (0≤n)&&decide (n<(512:Nat))) (some (.ptr a (b+n.toNat*1))) none:=by kernel_rfl
theorem SR : bj Tryz.prog 239=some 512:=by kernel_rfl
theorem SS : bZ Tryz.prog 239=some true:=by kernel_rfl
theorem SU (ps:List (Nat×V)): buildV Tryz.prog 244 ps=(fillV (fun i=>some (i*1,1)) ((.agg [(.int .u64 0),(.int .u64 0),(.int .u64 0)]):V).cells ps).map .agg:=by kernel_rfl
def slR (v:V)(a b:Nat): V:=match v with
 | .sl id off _ (.exact c)=>.sl id (cond (Nat.beq c a) off (off+a*1)) (b-a) (.exact (c-a))
 | .sl id off _ (.rest _ alt)=>.sl id (off+a*1) (b-a) (.rest 1 (cond (Nat.beq a 0) alt (cond (Nat.blt a b) (off+a*1) off)))
 | v=>v
theorem gV {h:H}{v:V}{l:List Nat}{a b:Nat}(hv:View h v l)(mJ:a≤b)(hb:b≤l.length):
  sliceV Tryz.prog h 28 v (some a) (some b) none=some (slR v a b)∧View h (slR v a b) ((l.take b).drop a)∧∀i∈rowIds (slR v a b),i∈rowIds v:=by
 have a_:∀x∈(l.take b).drop a,x<256:=fun x hx=>hv.1 x (fC (gI hx))
 have hlen:((l.take b).drop a).length=b-a:=by simp; omega
 obtain ⟨hl,sL⟩:=hv
 rcases sL with ⟨rfl | ⟨ea,rfl⟩,rfl⟩ | ⟨id,off,cap,n,cs,st,rfl,hg,h1,h2,h3,h4⟩
 ·simp only [bB] at hb
  have:b=0:=by omega
  have:a=0:=by omega
  subst_vars
  refine ⟨?_,⟨by simp,.inl ⟨.inl rfl,by simp⟩⟩,fun i hi=>hi⟩
  simp only [sliceV,aG,c5]
  rfl
 ·simp only [bB] at hb
  have:b=0:=by omega
  have:a=0:=by omega
  subst_vars
  refine ⟨?_,⟨by simp,.inl ⟨.inr ⟨ea,rfl⟩,by simp⟩⟩,fun i hi=>hi⟩
  simp only [sliceV,aG,c5]
  rfl
 ·have I:∀o,o=off+a∨b-a=0→(cs.drop o).take (b-a)=ofBytes ((l.take b).drop a):=by
   intro o ho
   rcases sr (b-a) with hz | hz
   ·rw [hz,jT]
    have:(l.take b).drop a=[]:=jO (by omega)
    rw [this]; rfl
   ·have rq:o=off+a:=by rcases ho with ho | ho; exact ho; omega
    subst rq
    have e1:ofBytes ((l.take b).drop a)=((ofBytes l).take b).drop a:=by simp [ofBytes,nR,nQ]
    rw [e1,←h3,pT,mD hb,pS,nP]
  cases cap with
  | exact c =>
   have hc:l.length≤c:=h4
   refine ⟨?_,⟨a_,.inr ⟨id,_,_,n,cs,st,by rw [hlen]; rfl,hg,h1,?_,?_,?_⟩⟩,fun i hi=>by simpa [rowIds,slR] using hi⟩
   ·simp only [sliceV,slR,aG,c5,dB]
    rw [show (Nat.ble a b&&Nat.ble b c)=true by rw [aI,aE,aE]; omega,af]
   ·rw [hlen]
    by_cases J:c=a
    ·rw [gY J,af]; omega
    ·rw [cT J,ay]; omega
   ·rw [hlen]
    by_cases J:c=a
    ·rw [gY J,af]; exact I off (.inr (by omega))
    ·rw [cT J,ay,cq]; exact I _ (.inl rfl)
   ·show _≤c-a
    rw [hlen]; omega
  | rest e alt =>
   have he:e=1:=h4
   subst he
   refine ⟨?_,⟨a_,.inr ⟨id,_,_,n,cs,st,by rw [hlen]; rfl,hg,h1,by rw [hlen]; omega,by rw [hlen,cq]; exact I _ (.inl rfl),rfl⟩⟩,fun i hi=>by simpa [rowIds,slR] using hi⟩
   simp only [sliceV,slR,aG,c5,dB,c_]
   rw [show (true&&Nat.ble 1 1)=true from rfl,af]
   rw [show (Nat.ble a b&&(Nat.ble b l.length||Nat.ble b (iA h id off 1)))=true by rw [aI,jS,aE,aE]; exact ⟨mJ,.inl hb⟩,af]
theorem jz {h:H}{v:V}{l:List Nat}{a:Nat}(hv:View h v l)(ha:a≤l.length):
  sliceV Tryz.prog h 28 v (some a) none none=some (slR v a l.length)∧View h (slR v a l.length) (l.drop a)∧∀i∈rowIds (slR v a l.length),i∈rowIds v:=by
 obtain ⟨I,h2,h3⟩:=gV hv ha (aD _)
 refine ⟨?_,by simpa using h2,h3⟩
 obtain ⟨_,J⟩:=hv
 rcases J with ⟨rfl | ⟨ea,rfl⟩,rfl⟩ | ⟨id,off,cap,n,cs,st,rfl,hg,g1,g2,g3,g4⟩
 ·simpa [sliceV,aG,c5] using I
 ·simpa [sliceV,aG,c5] using I
 ·rw [←I]
  simp only [sliceV,aG,c5,lE,dB]
theorem LP {h:H}{v:V}{l:List Nat}{b:Nat}(hv:View h v l)(hb:b≤l.length):
  sliceV Tryz.prog h 28 v none (some b) none=some (slR v 0 b)∧View h (slR v 0 b) (l.take b)∧∀i∈rowIds (slR v 0 b),i∈rowIds v:=by
 obtain ⟨I,h2,h3⟩:=gV hv (dR b) hb
 refine ⟨?_,by simpa using h2,h3⟩
 obtain ⟨_,J⟩:=hv
 rcases J with ⟨rfl | ⟨ea,rfl⟩,rfl⟩ | ⟨id,off,cap,n,cs,st,rfl,hg,g1,g2,g3,g4⟩
 ·simpa [sliceV,aG,c5] using I
 ·simpa [sliceV,aG,c5] using I
 ·rw [←I]
  simp only [sliceV,aG,c5,lE,dB]
theorem dN {h:H}{v:V}{l:List Nat}{i b:Nat}(hv:View h v l)(hi:l[i]?=some b):
  ∃id off,indexAddrV Tryz.prog 28 v (.int .i64 (i:Int))=some (.ptr id off)∧loadV Tryz.prog h 5 (.ptr id off)=some (.int .u8 (b:Int)):=by
 obtain ⟨hl,I⟩:=hv
 have J:i<l.length:=(List.getElem?_eq_some_iff.1 hi).1
 rcases I with ⟨_,rfl⟩ | ⟨id,off,cap,n,cs,st,rfl,hg,h1,h2,h3,h4⟩
 ·simp at hi
 ·refine ⟨id,off+i*1,?_,?_⟩
  ·simp only [indexAddrV,aG,c5,ck]
   rw [show (decide ((0:Int)≤(i:Int))&&decide ((i:Int)<(l.length:Int)))=true by simp; omega,af]
  ·simp only [loadV,FO,ue,hg,eW,cq]
   have e:=fb (fun q=>q[i]?) h3
   simp only [jj,jk,au J] at e
   rw [e]
   simp [ofBytes,hi]
theorem View.cells {h:H}{v:V}{l:List Nat}(hv:View h v l): v.cells=[v]∧Am.storable v=true:=by
 obtain ⟨_,hv⟩:=hv
 rcases hv with ⟨rfl | ⟨I,rfl⟩,_⟩ | ⟨id,off,cap,n,cs,st,rfl,_⟩ <;> exact ⟨rfl,rfl⟩
def plain1 : V→Bool
 | .bool _ | .int _ _ | .str _ | .cU | .ptr _ _ | .bp | .sl _ _ _ _ | .jC | .map _ | .BC | .lT | .ql _ _=>true
 | .fn (.func _) [] []=>true
 | _=>false
def Re : V→Bool
 | .agg l=>l.all plain1
 | .bh l=>l.all plain1
 | .iface _ v=>plain1 v
 | v=>plain1 v
theorem Hz (k:FloatKind): fkBeq k k=true:=by cases k <;> rfl
theorem Df : ∀l:List Nat,natsBeq l l=true:=fun l=>by rw [rX]; simp
theorem LQ (v:V)(h:plain1 v=true): v.beq v=true:=by
 cases v <;> simp [plain1,V.beq,cY,ou,xo,Df,Hz] at h ⊢
 rename_i f a b
 cases f <;> cases a <;> cases b <;> simp [plain1,V.beq,V.beqL] at h ⊢
theorem Nx : ∀(l:List V),l.all plain1=true→V.beqL l l=true:=by
 intro l
 induction l with
 | nil=>intro _; rfl
 | cons v l I =>
  intro h
  simp only [ij,aI] at h
  simp only [V.beqL,LQ v h.1,af,I h.2]
theorem bS (v:V)(h:Re v=true): v.beq v=true:=by
 cases v with
 | agg l=>exact Nx l h
 | bh l=>exact Nx l h
 | iface t v=>simp only [V.beq,c_,v7]; exact LQ v h
 | _=>exact LQ _ h
section
variable {P:Program} {h h':H} {S:List aq} {X:aq} {v w:V} {l m:List Nat}
theorem HA (s:Sat h (aR v l::X::S))(J:cO X (cR w m))(I:l.length+m.length≤140737488355328):
  ∃v' h',appendV Tryz.prog h #[28,28] v w=some (v',h')∧Sat h' (aR v' (l++m)::X::S):=by
 obtain ⟨v',h',e1,e2,e3,e4⟩:=u5 s.wf (s.buf (k:=0) rfl) (s.aH (k:=1) rfl J) I
 exact ⟨v',h',e1,s.wD e3 e2 e4⟩
theorem Jz (s:Sat h S){c:Nat}(I:c<1073741824):
  ∃v h',makeSliceV Tryz.prog h 28 (.int .i64 0) (.int .i64 (c:Int))=some (v,h')∧Sat h' (aR v []::S):=by
 obtain ⟨v,h',J,e2,e3,e4⟩:=yZ s.wf I
 exact ⟨v,h',J,s.Dc e3 e2 e4⟩
theorem OK : ∀n:Nat,repeatL [V.int .u8 0] n=ofBytes (List.replicate n 0):=by
 intro n
 induction n with
 | zero=>rfl
 | succ n I=>simp only [repeatL,I,ofBytes,sj,cm]; rfl
theorem JA (s:Sat h S){c:Nat}(J:c<1073741824):
  ∃v h',makeSliceV Tryz.prog h 28 (.int .i64 (c:Int)) (.int .i64 (c:Int))=some (v,h')∧Sat h' (aR v (List.replicate c 0)::S):=by
 obtain ⟨i,hi,i1,i2⟩:=A9
 have I:iu (h.new (.cells c (repeatL [.int .u8 0] c) false)) (.sl h.next 0 c (.exact c)) (List.replicate c 0):=by
  refine ⟨fun b I=>by have:=r_ I; omega,.inr (.inl ⟨h.next,[],c,by simp,?_,by simp⟩)⟩
  rw [fW,au rfl,OK,fD]
 refine ⟨.sl h.next 0 c (.exact c),h.new (.cells c (repeatL [.int .u8 0] c) false),?_,s.Dc (c9.wC s.wf _) I fun i hi=>by simp [rowIds] at hi; omega⟩
 simp only [makeSliceV,aG,hi,nX,i1,i2,V.cells,aO,bB,ck,cq]
 rw [show (decide ((0:Int)≤(c:Int))&&decide ((c:Int)≤(c:Int))&&decide ((c:Int)<1073741824)&&Nat.ble 1 4096&&Nat.beq (0+1) 1&&Nat.ble 1 1)=true by simp; omega,af]
theorem JB (s:Sat h S){b:Nat}(I:b<256): ∃v h',buildSliceV Tryz.prog h 28 1 [(0,.int .u8 b)]=some (v,h')∧Sat h' (aR v [b]::S):=by
 obtain ⟨v,h',J,e2,e3,e4⟩:=BP s.wf I
 exact ⟨v,h',J,s.Dc e3 e2 e4⟩
theorem Sat.eF (s:Sat h (aR v l::S))(hl:1≤l.length): ∃id c cap rest,v=.sl id 0 l.length cap∧Sat h (pt id (.cells c (ofBytes l++rest) false)::S)∧l.length+rest.length=c ∧
  (∀(h':H) (I:List Nat),I.length=l.length→(∀b∈I,b<256)→Sat h' (pt id (.cells c (ofBytes I++rest) false)::S)→Sat h' (aR v I::S)):=by
 obtain ⟨m,r,h1,h2,h3,a,b,g1,g2,g3,⟨gl,g4⟩,g5⟩:=s.ok
 rcases g4 with ⟨rfl,rfl⟩ | ⟨id,cs,c,rfl,hg,hc⟩ | ⟨id,rfl,hg,h5⟩
 ·simp at hl
 ·refine ⟨id,c,_,cs,rfl,⟨s.wf,m,r,h1,h2,h3,a,b,g1,g2,g3,hg,g5⟩,hc,fun h' I e1 e2 s'=>s'.hU ?_⟩
  intro m' r' hm
  exact ⟨e2,.inr (.inl ⟨id,cs,c,by rw [e1],hm,by omega⟩)⟩
 ·refine ⟨id,l.length,_,[],rfl,⟨s.wf,m,r,h1,h2,h3,a,b,g1,g2,g3,by rw [fD]; exact hg,g5⟩,by simp,fun h' I e1 e2 s'=>s'.hU ?_⟩
  intro m' r' hm
  have J:m' id=some (.cells l.length (ofBytes I++[]) false):=hm
  rw [fD] at J
  exact ⟨e2,.inr (.inr ⟨id,by rw [e1],by rw [e1]; exact J,by omega⟩)⟩
theorem EV (l:List Nat)(i b:Nat): (ofBytes l).set i (.int .u8 (b:Int))=ofBytes (l.set i b):=by simp [ofBytes,List.map_set]
theorem vc (l:List Nat)(n:Nat): (ofBytes l).take n=ofBytes (l.take n):=by simp [ofBytes,nQ]
theorem Dg (l:List Nat)(n:Nat): (ofBytes l).drop n=ofBytes (l.drop n):=by simp [ofBytes,nR]
theorem iN (s:Sat h (aR v l::S)){i b:Nat}(hi:i<l.length)(hb:b<256):
  ∃id off,indexAddrV Tryz.prog 28 v (.int .i64 (i:Int))=some (.ptr id off)∧∃h',fH Tryz.prog h 5 (.ptr id off) (.int .u8 (b:Int))=some h'∧Sat h' (aR v (l.set i b)::S):=by
 have hv:=(s.buf (k:=0) rfl).1
 obtain ⟨id,c,cap,rest,rfl,s1,hc,hf⟩:=s.eF (by omega)
 refine ⟨id,i,?_,?_⟩
 ·simp only [indexAddrV,aG,c5,ck]
  rw [show (decide ((0:Int)≤(i:Int))&&decide ((i:Int)<(l.length:Int)))=true by simp; omega,af]
  simp
 ·obtain ⟨h',e1,J⟩:=s1.iF (t:=5) (P:=Tryz.prog) (v:=.int .u8 (b:Int)) (k:=0) (off:=i) rfl c5 (by simp [cC]; omega) (by omega) rfl rfl
  refine ⟨h',e1,hf h' (l.set i b) (by simp) (fun x I => ?_) ?_⟩
  ·rcases kB I with I | rfl
   ·exact hv x I
   ·exact hb
  ·have e3:(ofBytes l++rest).set i (.int .u8 (b:Int))=ofBytes (l.set i b)++rest:=by
    rw [Aw _ _ (by rw [cC]; exact hi),EV]
   rw [e3] at J
   exact J
def aZ (l:List Nat)(a:Nat)(m:List Nat): List Nat:=l.take a++(m++l.drop (a+m.length))
theorem cH {l m:List Nat}{a:Nat}(h:a+m.length≤l.length): (aZ l a m).length=l.length:=by simp [aZ]; omega
theorem BR {l m:List Nat}{a:Nat}(J:∀b∈l,b<256)(hm:∀b∈m,b<256): ∀b∈aZ l a m,b<256:=fun b I=>by
 simp only [aZ,nN] at I
 rcases I with I | I | I
 ·exact J b (fC I)
 ·exact hm b I
 ·exact J b (gI I)
theorem Dh (s:Sat h (aR v l::X::S))(hX:cO X (cR w m)){a b:Nat}(mJ:a<b)(hb:b≤l.length)(hm:1≤m.length):
  ∃h',copyV Tryz.prog h 28 (slR v a b) w=some (.int .i64 (min m.length (b-a):Nat),h')∧Sat h' (aR v (aZ l a (m.take (b-a)))::X::S):=by
 have hw:=s.aH (k:=1) rfl hX
 have BS:=hw.1
 have hv:=(s.buf (k:=0) rfl).1
 obtain ⟨id,c,cap,rest,rfl,s1,hc,hf⟩:=s.eF (by omega)
 have kI:∃xI,slR (.sl id 0 l.length cap) a b=.sl id a (b-a) xI:=by
  cases cap with
  | exact c =>
   refine ⟨.exact (c-a),?_⟩
   simp only [slR]
   by_cases WB:c=a
   ·obtain ⟨m',r,h1,h2,h3⟩:=s.at (k:=0) rfl
    rcases h3.2 with ⟨e,_⟩ | ⟨xj,cs',c',e,hg,TM⟩ | ⟨xj,e,_⟩
    ·cases e
    ·injection e with _ _ _ e4; injection e4 with e4; omega
    ·injection e with _ _ _ e4; cases e4
   ·rw [cT WB,ay,dJ,cq]
  | rest e alt=>exact ⟨_,by simp only [slR,dJ,cq]; rfl⟩
 obtain ⟨xI,kI⟩:=kI
 rw [kI]
 have m8:=hw
 rcases m8.2 with ⟨_,rfl⟩ | ⟨ve,I,J,n2,Rf,TN,rfl,F3,q1,q2,q3,q4⟩
 ·simp at hm
 ·have U0:Nat.min m.length (b-a)=(m.take (b-a)).length:=by
   rw [e_]
   exact Nat.min_comm _ _
  have gh:rdN h ve I (Nat.min m.length (b-a)*1)=some (ofBytes (m.take (b-a))):=by
   have xq:View h (.sl ve I (m.take (b-a)).length J) (m.take (b-a)):=by
    refine ⟨fun x hx=>BS x (fC hx),.inr ⟨ve,I,J,n2,Rf,TN,rfl,F3,q1,?_,?_,?_⟩⟩
    ·have:(m.take (b-a)).length≤m.length:=by simp; omega
     omega
    ·rw [←vc,←q3,pT,e_]
    ·cases J with
     | exact c2 =>
      simp only at q4 ⊢
      have:(m.take (b-a)).length≤m.length:=by simp; omega
      omega
     | rest e2 a2=>exact q4
   rw [cq,U0]
   exact xq.rdN.2
  simp only [copyV,aG,c5,gh]
  have hlen:(m.take (b-a)).length≤b-a:=by simp; omega
  have Di:wrN h id a (ofBytes (m.take (b-a)))=some (h.put id (some (.cells c (ofBytes (aZ l a (m.take (b-a)))++rest) false))):=by
   simp only [wrN,s1.row (k:=0) rfl,cC]
   rw [aE.2 (by omega),af]
   congr 3
   have e0:(ofBytes l++rest).take a++(ofBytes (m.take (b-a))++(ofBytes l++rest).drop (a+(m.take (b-a)).length))=ofBytes (aZ l a (m.take (b-a)))++rest:=by
    rw [r7 (by rw [cC]; omega),Fp (by rw [cC]; omega),vc,Dg]
    simp only [aZ,rW,eu]
   cases Dj:(Nat.beq a 0&&Nat.beq (m.take (b-a)).length c) with
   | true =>
    simp only [aI,beq_iff] at Dj
    rw [af,←e0]
    obtain ⟨WD,WE⟩:=Dj
    subst WD
    have:(ofBytes l++rest).drop (0+(m.take (b-0)).length)=[]:=gy (by simp [cC] at WE ⊢; omega)
    rw [this]
    simp
   | false=>rw [ay,e0]
  rw [Di]
  refine ⟨_,rfl,hf _ _ (cH (by omega)) (BR hv (fun x hx=>BS x (fC hx))) ?_⟩
  exact s1.put (k:=0) rfl
end
section
variable {P:Program} {h h':H} {S:List aq} {v w x:V} {cs ds:List V} {k:Nat}
theorem TO {t:TypeId}{id off n q:Nat}{st:Bool}(J:bZ P t=some true)(hs:bj P t=some q)(hg:T.get h.tr id=some (.cells n cs st))(hl:cs.length=n)(hb:off+q≤n):
  loadV P h t (.ptr id off)=some (.agg ((cs.drop off).take q)):=by
 simp only [loadV,J,hs,rdN,hg]
 rw [aE.2 hb,af]
 cases I:(Nat.beq off 0&&Nat.beq q n) with
 | true =>
  simp only [aI,beq_iff] at I
  obtain ⟨rfl,rfl⟩:=I
  simp [←hl]
 | false=>rfl
theorem Sat.OL (s:Sat h (.arr k v cs::S))(I:cs≠[]): ∃id n cap N rest,v=.sl id 0 n cap∧cs.length=n*k∧N=cs.length+rest.length∧Sat h (pt id (.cells N (cs++rest) false)::S) ∧
  (∀(h':H) (cs':List V) (S':List aq),cs'.length=cs.length→cs'.all storable=true→Sat h' (pt id (.cells N (cs'++rest) false)::S')→Sat h' (.arr k v cs'::S')):=by
 obtain ⟨m,r,J,h2,h3,a,b,g1,g2,g3,⟨gl,g4⟩,g5⟩:=s.ok
 rcases g4 with ⟨_,e⟩ | ⟨id,n,cap,N,rest,rfl,hg,q1,q2,q3,q4⟩
 ·exact absurd e I
 ·refine ⟨id,n,cap,N,rest,rfl,q1,q2.symm,⟨s.wf,m,r,J,h2,h3,a,b,g1,g2,g3,hg,g5⟩,fun h' cs' S' e1 e2 s'=>s'.hU ?_⟩
  intro m' r' hm
  exact ⟨e2,.inr ⟨id,n,cap,N,rest,rfl,hm,by omega,by omega,q3,q4⟩⟩
theorem Sat.HB {j:Nat}(s:Sat h S)(I:getA S j=some (.arr k v cs)): cs.all storable=true:=by
 obtain ⟨m,r,h1,h2,J⟩:=s.at I
 exact J.1
theorem Sat.kY {j:Nat}(s:Sat h S)(I:getA S j=some (.arr k v cs)): v.cells=[v]∧storable v=true∧v.beq v=true:=by
 obtain ⟨m,r,h1,h2,J⟩:=s.at I
 rcases J.2 with ⟨rfl,_⟩ | ⟨id,n,cap,N,rest,rfl,_⟩
 ·exact ⟨rfl,rfl,rfl⟩
 ·exact ⟨rfl,rfl,Cx _ _ _ _⟩
theorem Sat.dF {j n:Nat}{t e:TypeId}(s:Sat h S)(hj:getA S j=some (.arr k v cs))(hn:cs.length=n*k)(J:1≤k)(hu:P.underlying t=some (.slice e)): lenV P h t v=some (.int .i64 n):=by
 obtain ⟨m,r,h1,h2,h3⟩:=s.at hj
 rcases h3.2 with ⟨rfl,rfl⟩ | ⟨id,n',cap,N,rest,rfl,_,q,_⟩
 ·have:n=0:=by
   rcases sr n with I | I
   ·exact I
   ·have:=vY I J
    simp at hn
    omega
  subst this
  simp only [lenV,hu]
  rfl
 ·have:n'=n:=Fq J (by omega)
  subst this
  simp only [lenV,hu]
theorem rZ (z:List V)(n:Nat): (repeatL z n).length=n*z.length:=by
 induction n with
 | zero=>simp [repeatL]
 | succ n I=>simp only [repeatL,bD,I,Nat.succ_mul]; omega
theorem zG {z:List V}(I:z.all storable=true)(n:Nat): (repeatL z n).all storable=true:=by
 induction n with
 | zero=>rfl
 | succ n J=>simp only [repeatL,List.all_append,I,J,gB]
theorem rG (s:Sat h S){t e:TypeId}{i:TypeInfo}{z:V}{n c:Nat}(hu:P.underlying t=some (.slice e))(hi:P.info? e=some i)(hz:zeroT P e=some z)(hk:i.size=k)(hb:i.bytes≤4096)(J:z.cells.length=k)(I:z.cells.all storable=true)
 (h1:1≤k)(hn:n≤c)(hc:c<1073741824):
  ∃v h',makeSliceV P h t (.int .i64 (n:Int)) (.int .i64 (c:Int))=some (v,h')∧Sat h' (.arr k v (repeatL z.cells n)::S):=by
 refine ⟨.sl h.next 0 n (.exact c),h.new (.cells (c*k) (repeatL z.cells c) false),?_,(s.new _).hU fun m r hm => ?_⟩
 ·simp only [makeSliceV,hu,hi,hz,ck,hk,J]
  rw [show (decide ((0:Int)≤(n:Int))&&decide ((n:Int)≤(c:Int))&&decide ((c:Int)<1073741824)&&Nat.ble i.bytes 4096&&Nat.beq k k&&Nat.ble 1 k)=true by
   rw [aE.2 hb,aE.2 h1,c_]; simp; omega,af]
 ·refine ⟨zG I n,.inr ⟨h.next,n,.exact c,c*k,repeatL z.cells (c-n),rfl,?_,by rw [rZ,J],?_,zG I _,rfl,hn⟩⟩
  ·have:repeatL z.cells n++repeatL z.cells (c-n)=repeatL z.cells c:=by
    clear hm
    have:∀a b,repeatL z.cells a++repeatL z.cells b=repeatL z.cells (a+b):=fun a b=>by
     induction a with
     | zero=>simp [repeatL]
     | succ a ih=>rw [Nat.succ_add]; simp only [repeatL,eu,ih]
    rw [this,show n+(c-n)=c by omega]
   rw [this]; exact hm
  ·rw [rZ,rZ,J,←gL,show n+(c-n)=c by omega]
theorem OM {id off n:Nat}{I:List V}(hg:T.get h.tr id=some (.cells n cs false))(hl:cs.length=n)(hb:off+I.length≤n):
  wrN h id off I=some (h.put id (some (.cells n (cs.take off++(I++cs.drop (off+I.length))) false))):=by
 simp only [wrN,hg]
 rw [aE.2 hb,af]
 congr 3
 cases J:(Nat.beq off 0&&Nat.beq I.length n) with
 | true =>
  simp only [aI,beq_iff] at J
  obtain ⟨rfl,hn⟩:=J
  rw [af]
  have:cs.drop (0+I.length)=[]:=gy (by omega)
  rw [this]; simp
 | false=>rw [ay]
theorem zH {id off n q:Nat}{st:Bool}(J:T.get h.tr id=some (.cells n cs st))(hl:cs.length=n)(hb:off+q≤n): rdN h id off q=some ((cs.drop off).take q):=by
 simp only [rdN,J]
 rw [aE.2 hb,af]
 cases I:(Nat.beq off 0&&Nat.beq q n) with
 | true =>
  simp only [aI,beq_iff] at I
  obtain ⟨rfl,rfl⟩:=I
  simp [←hl]
 | false=>rfl
theorem fP (s:Sat h (.arr k v cs::.arr k w ds::S)){t e:TypeId}{i:TypeInfo}{z:V}(hu:P.underlying t=some (.slice e))(hi:P.info? e=some i)(hz:zeroT P e=some z)(hk:i.size=k)(hb:i.bytes≤4096)(hl:z.cells.length=k)
 (h1:1≤k)(eC:cs.length+ds.length≤1073741824):
  ∃v' h',appendV P h #[t,t] v w=some (v',h')∧Sat h' (.arr k v' (cs++ds)::.arr k w ds::S):=by
 have U1:=s.HB (j:=0) rfl
 have LR:=s.HB (j:=1) rfl
 have kT:(cs++ds).all storable=true:=by rw [List.all_append,U1,LR]; rfl
 -- what is appended
 have AZ:∃m,srcV h k w=some (ds,m)∧ds.length=m*k:=by
  obtain ⟨m,r,q1,q2,q3⟩:=s.at (k:=1) rfl
  rcases q3.2 with ⟨rfl,rfl⟩ | ⟨id,n,cap,N,rest,rfl,J,e1,e2,e3,e4⟩
  ·exact ⟨0,rfl,by simp⟩
  ·refine ⟨n,?_,e1⟩
   simp only [srcV]
   rw [zH (q1 _ _ J) (by simp [e2]) (by omega)]
   rw [eS,←e1,nO rfl]
   rfl
 obtain ⟨m,AZ,hm⟩:=AZ
 have I:∀n:Nat,n*k=cs.length→ku (n+m) i.bytes=true:=fun n hn=>by
  have e1:(n+m)*k=cs.length+ds.length:=by rw [gL,hn,hm]
  have e2:n+m≤(n+m)*k:=Nat.le_mul_of_pos_right _ h1
  have e3:(n+m)*i.bytes≤(n+m)*4096:=Nat.mul_le_mul_left _ hb
  exact tG.2 ⟨by omega,by omega⟩
 have tH:∀(σ:H) (n:Nat) (T:List aq),Sat σ T→n*k=cs.length→1≤m→Sat (lH σ k cs ds (n+m)).2 (.arr k (lH σ k cs ds (n+m)).1 (cs++ds)::T):=by
  intro σ n T sT hn zI
  refine (sT.new (.cells ((n+m)*k) (cs++ds) false)).hU fun a r BM=>⟨kT,.inr ⟨σ.next,n+m,.rest k 0,(n+m)*k,[],rfl,by rw [fD]; exact BM,by rw [bD,gL]; omega,by rw [bD,gL]; simp; omega,rfl,rfl,rfl,rfl,by omega⟩⟩
 unfold appendV
 simp only [hu,hi,hz,hk,hl,AZ]
 rw [show (Nat.ble 1 k&&Nat.ble i.bytes 4096&&Nat.beq k k)=true by rw [aE.2 h1,aE.2 hb,c_]; rfl,af]
 cases yy:Nat.beq m 0 with
 | true =>
  have:m=0:=beq_iff.1 yy
  subst this
  have WG:ds=[]:=jO (by simpa using hm)
  subst WG
  rw [af,fD]
  obtain ⟨m,r,q1,q2,q3⟩:=s.at (k:=0) rfl
  rcases q3.2 with ⟨rfl,rfl⟩ | ⟨id,n,cap,N,rest,rfl,J,e1,e2,e3,e4⟩
  ·exact ⟨_,_,rfl,s⟩
  ·exact ⟨_,_,rfl,s⟩
 | false =>
  have zI:1≤m:=by
   rcases sr m with h0 | h0
   ·rw [gY h0] at yy; cases yy
   ·exact h0
  rw [ay]
  obtain ⟨a,r,q1,q2,q3⟩:=s.at (k:=0) rfl
  rcases q3.2 with ⟨rfl,rfl⟩ | ⟨id,n,cap,N,rest,rfl,J,e1,e2,e3,e4⟩
  ·have J:=I 0 (by simp)
   rw [dJ] at J
   simp only [J,af]
   have:=tH h 0 (.arr k .bp []::.arr k w ds::S) s (by simp) zI
   rw [dJ] at this
   refine ⟨_,_,rfl,?_⟩
   exact (this.m9 [1]).drop
  ·cases cap with
   | exact c =>
    obtain ⟨e4,e5⟩:=e4
    simp only [dJ]
    have js:(cs++rest).take cs.length=cs:=nO rfl
    cases hq:Nat.ble (n+m) c with
    | true =>
     have mZ:=aE.1 hq
     rw [af]
     have fg:n*k+ds.length≤N:=by rw [hm,←gL,e4]; exact pM _ mZ
     rw [OM (q1 _ _ J) (by simp [e2]) fg]
     simp only
     obtain ⟨m',r',p1,p2,p3,x1,x2,x3,x4,x5,⟨_,x6⟩,x7⟩:=s.ok
     have xN:x1 id=some (.cells N (cs++rest) false):=by
      rcases x6 with ⟨x6,_⟩ | ⟨xj,n',xI,N',Ny,x6,x8,x9,WH,_⟩
      ·cases x6
      ·injection x6 with y1 y2 y3 y4
       subst y1
       rw [x8]
       have:=p1 _ _ (x4 _ _ x8)
       rw [q1 _ _ J] at this
       injection this with this
       rw [this]
     have s0:Sat h (pt id (.cells N (cs++rest) false)::.arr k w ds::S):=⟨s.wf,m',r',p1,p2,p3,x1,x2,x3,x4,x5,xN,x7⟩
     have s1:=s0.put (k:=0) (o':=.cells N ((cs++rest).take (n*k)++(ds++(cs++rest).drop (n*k+ds.length))) false) rfl
     refine ⟨_,_,rfl,Sat.hU s1 fun a' YY ha=>⟨kT,.inr ⟨id,n+m,.exact c,N,rest.drop ds.length,rfl,?_,by rw [bD,gL]; omega,by simp; omega,?_,e4,mZ⟩⟩⟩
     ·have WI:a' id=some (.cells N ((cs++rest).take (n*k)++(ds++(cs++rest).drop (n*k+ds.length))) false):=ha
      rw [WI,←e1,js,vU,gy (by omega),Nat.add_sub_cancel_left,cV,eu]
     ·rw [nM] at e3 ⊢
      exact fun y hy=>e3 y (gI hy)
    | false =>
     rw [ay,I n e1.symm,af,zH (q1 _ _ J) (by simp [e2]) (by omega)]
     simp only
     rw [eS,←e1,js]
     have:=tH h n _ s e1.symm zI
     exact ⟨_,_,rfl,(this.m9 [1]).drop⟩
   | rest e' alt =>
    obtain ⟨ek,rfl,rfl,e7⟩:=e4
    have ek:=ek.symm
    subst ek
    simp only [c_,af,fD,dJ] at J e2 ⊢
    have CO:iA h id 0 k=n:=by
     simp only [iA,q1 _ _ J]
     rw [jU,←e2]
     simp only [bB,ik,e1]
     exact AD _ h1
    rw [CO]
    rw [show Nat.ble (n+m) n=false by
     cases hq:Nat.ble (n+m) n with
     | true=>have:=aE.1 hq; omega
     | false=>rfl,ay,I n e1.symm,show Nat.ble 2 ((n+m)*k)=true from aE.2 (by
      have:2*1≤(n+m)*k:=vY (by omega) h1
      omega),gB,af,zH (q1 _ _ J) (by simpa using e2) (by simp at e2; omega),q1 _ _ J]
    simp only
    obtain ⟨m',r',p1,p2,p3,x1,x2,x3,x4,x5,⟨_,x6⟩,x7⟩:=s.ok
    have xN:x1 id=some (.cells N cs false):=by
     rcases x6 with ⟨x6,_⟩ | ⟨xj,n',xI,N',Ny,x6,x8,x9,WH,_⟩
     ·cases x6
     ·injection x6 with y1 y2 y3 y4
      subst y1
      rw [x8]
      have:=p1 _ _ (x4 _ _ x8)
      rw [q1 _ _ J] at this
      injection this with this
      rw [this]
    have s0:Sat h (pt id (.cells N cs false)::.arr k w ds::S):=⟨s.wf,m',r',p1,p2,p3,x1,x2,x3,x4,x5,xN,x7⟩
    have:=tH (h.put id none) n _ s0.kill e1.symm zI
    rw [eS,dO (by omega)]
    exact ⟨_,_,rfl,this⟩
end
section
variable {P:Program} {h h':H} {S:List aq} {v w x:V} {cs ds:List V} {k:Nat}
theorem Sat.hG {t:TypeId}{j id n:Nat}{l:List V}(s:Sat h S)(J:getA S j=some (pt id (.cells n cs false)))(hs:bj P t=some n)(hl:l.length=n)(I:l.all storable=true):
  ∃h₁,fH P h t (.ptr id 0) (.agg l)=some h₁∧Sat h₁ (setA S j (pt id (.cells n l false))):=by
 refine ⟨h.put id (some (.cells n l false)),?_,s.put J⟩
 simp only [fH,hs,V.cells,I,hl,c_,gB,af,wrN,s.row J]
 rw [aE.2 (by omega:0+n≤n),af]
theorem j7 (s:Sat h S){t e:TypeId}{z:V}(hu:P.underlying t=some (.slice e))(hz:zeroT P e=some z)(hk:bj P e=some k)(J:z.cells.length=k)(h1:1≤k)(h2:k≤65536)(hx:x.cells.length=k)(I:x.cells.all storable=true):
  ∃v h',buildSliceV P h t 1 [(0,x)]=some (v,h')∧Sat h' (.arr k v x.cells::S):=by
 refine ⟨.sl h.next 0 1 (.exact 1),newRow h x.cells,?_,?_⟩
 ·simp only [buildSliceV,hu,hk,hz]
  rw [show (Nat.beq z.cells.length k&&Nat.ble (1*k) 65536&&Nat.ble 1 k)=true by rw [J,c_,aE.2 (by omega),aE.2 h1]; rfl,af]
  have e1:repeatL z.cells 1=z.cells:=by simp [repeatL]
  simp only [fillV,e1,hx,J,c_,v7]
  rw [aE.2 (by omega:0*k+k≤k),af]
  have e2:z.cells.take (0*k)++(x.cells++z.cells.drop (0*k+k))=x.cells:=by
   rw [sF,jT,cV,gy (by omega),fD]
  simp only [e2,I,af]
 ·refine (s.new _).hU fun m r hm=>⟨I,.inr ⟨h.next,1,.exact 1,k,[],rfl,?_,by omega,by simp; omega,rfl,by omega,aD _⟩⟩
  have hm:m h.next=some (.cells x.cells.length x.cells false):=hm
  rw [hm,hx,fD]
end
section
variable {P:Program} {h h':H} {S:List aq} {X:aq} {v w x:V} {l:List Nat} {k:Nat}
theorem gn.slice {m:PM}{a b:Nat}(hv:gn m v l)(mJ:a≤b)(hb:b≤l.length): gn m (slR v a b) ((l.take b).drop a):=by
 have a_:∀x∈(l.take b).drop a,x<256:=fun x hx=>hv.1 x (fC (gI hx))
 have hlen:((l.take b).drop a).length=b-a:=by simp; omega
 obtain ⟨hl,sL⟩:=hv
 rcases sL with ⟨rfl | ⟨ea,rfl⟩,rfl⟩ | ⟨id,off,cap,n,cs,st,rfl,hg,h1,h2,h3,h4⟩
 ·simp at hb
  have:b=0:=by omega
  have:a=0:=by omega
  subst_vars
  exact ⟨by simp,.inl ⟨.inl rfl,by simp⟩⟩
 ·simp at hb
  have:b=0:=by omega
  have:a=0:=by omega
  subst_vars
  exact ⟨by simp,.inl ⟨.inr ⟨ea,rfl⟩,by simp⟩⟩
 ·have I:∀o,o=off+a∨b-a=0→(cs.drop o).take (b-a)=ofBytes ((l.take b).drop a):=by
   intro o ho
   rcases ho with rfl | h0
   ·have e:=fb (fun q=>(q.take b).drop a) h3
    simp only [ofBytes,←nQ,←nR] at e ⊢
    rw [←e,pT,mD hb,pS,nP]
   ·rw [h0,jT]
    have:((l.take b).drop a)=[]:=jO (by omega)
    rw [this]; rfl
  cases cap with
  | exact c =>
   have hc:l.length≤c:=h4
   refine ⟨a_,.inr ⟨id,_,_,n,cs,st,by rw [hlen]; rfl,hg,h1,?_,?_,?_⟩⟩
   ·rw [hlen]
    by_cases J:c=a
    ·rw [gY J,af]; omega
    ·rw [cT J,ay]; omega
   ·rw [hlen]
    by_cases J:c=a
    ·rw [gY J,af]; exact I _ (.inr (by omega))
    ·rw [cT J,ay,cq]; exact I _ (.inl rfl)
   ·show ((l.take b).drop a).length≤c-a
    rw [hlen]; omega
  | rest e alt =>
   have he:e=1:=h4
   subst he
   exact ⟨a_,.inr ⟨id,_,_,n,cs,st,by rw [hlen]; rfl,hg,h1,by rw [hlen]; omega,by rw [hlen,cq]; exact I _ (.inl rfl),rfl⟩⟩
theorem qD {a b:Nat}(hX:cO X (cR v l))(I:a≤b)(J:b≤l.length): cO X (cR (slR v a b) ((l.take b).drop a)):=fun m r hm =>
 (hX m r hm).imp (fun h=>gn.slice h I J) (fun h=>gn.slice h I J)
theorem F4 {a:Nat}(I:cO X (cR v l))(J:a≤l.length): cO X (cR (slR v a l.length) (l.drop a)):=by
 have:=qD I J (aD _)
 rwa [List.take_length] at this
theorem SV {b:Nat}(I:cO X (cR v l))(J:b≤l.length): cO X (cR (slR v 0 b) (l.take b)):=by
 have:=qD I (dR b) J
 rwa [eS] at this
theorem Sat.l7 (s:Sat h S): Sat h (.arr k .bp []::S):=(s.gp aa).hU fun _ _ _=>⟨rfl,.inl ⟨rfl,rfl⟩⟩
theorem Sat.Dl (s:Sat h S): Sat h (aR .bp []::S):=(s.gp aa).hU fun _ _ _=>⟨by simp,.inl ⟨rfl,rfl⟩⟩
theorem Sat.rH (s:Sat h S): Sat h (y_ .bp []::S):=(s.gp aa).hU fun _ _ _=>⟨by simp,.inl ⟨.inl rfl,rfl⟩⟩
theorem BT (s:Sat h S){t e:TypeId}{i:TypeInfo}{z:V}{n:Nat}(hu:P.underlying t=some (.slice e))(hi:P.info? e=some i)(I:zeroT P e=some z)(J:i.size=k)(hb:i.bytes≤4096)(hl:z.cells.length=k)
 (h1:1≤k)(hn:n<1073741824):
  ∃id h',makeSliceV P h t (.int .i64 (n:Int)) (.int .i64 (n:Int))=some (.sl id 0 n (.exact n),h')∧Sat h' (pt id (.cells (n*k) (repeatL z.cells n) false)::S):=by
 refine ⟨h.next,h.new (.cells (n*k) (repeatL z.cells n) false),?_,s.new _⟩
 simp only [makeSliceV,hu,hi,I,ck,J,hl]
 rw [show (decide ((0:Int)≤(n:Int))&&decide ((n:Int)≤(n:Int))&&decide ((n:Int)<1073741824)&&Nat.ble i.bytes 4096&&Nat.beq k k&&Nat.ble 1 k)=true by
  rw [aE.2 hb,aE.2 h1,c_]; simp; omega,af]
theorem oc {h:H}{t e:TypeId}{i o n:Nat}{c:Cap}{v:V}(hv:v=.sl i o n c)(hu:P.underlying t=some (.slice e)): lenV P h t v=some (.int .i64 n):=by subst hv; exact zy hu
theorem Dm {E:List (Nat×V)}{c:Go.Call}{b:Builtin}{args:List V}{r:V}(I:c.callee=.builtin b)(J:lookArgs E c.args.toList=some args)(hf:builtinV P h b c.argTypes args=some (r,h')): opE P E h (.call c)=some (r,h'):=by
 simp only [opE,I,J,hf]
end
def slR3 (v:V)(a b m:Nat): V:=match v with
 | .sl id off _ _=>.sl id (cond (Nat.beq m a) off (off+a*1)) (b-a) (.exact (m-a))
 | v=>v
section
variable {P:Program} {h h':H} {S:List aq} {X:aq} {v w x:V} {l:List Nat} {k:Nat}
theorem gn.slice3 {m:PM}{a b c:Nat}(hv:gn m v l)(mJ:a≤b)(hb:b≤c)(hc:c≤l.length)(hl:1≤l.length): gn m (slR3 v a b c) ((l.take b).drop a):=by
 have a_:∀x∈(l.take b).drop a,x<256:=fun x hx=>hv.1 x (fC (gI hx))
 have hlen:((l.take b).drop a).length=b-a:=by simp; omega
 obtain ⟨_,sL⟩:=hv
 rcases sL with ⟨_,rfl⟩ | ⟨id,off,cap,n,cs,st,rfl,hg,h1,h2,h3,h4⟩
 ·simp at hl
 ·have I:∀o,o=off+a∨b-a=0→(cs.drop o).take (b-a)=ofBytes ((l.take b).drop a):=by
   intro o ho
   rcases ho with rfl | h0
   ·have e:=fb (fun q=>(q.take b).drop a) h3
    simp only [ofBytes,←nQ,←nR] at e ⊢
    rw [←e,pT,mD (cn hb hc),pS,nP]
   ·rw [h0,jT]
    have:((l.take b).drop a)=[]:=jO (by omega)
    rw [this]; rfl
  refine ⟨a_,.inr ⟨id,_,_,n,cs,st,by rw [hlen]; rfl,hg,h1,?_,?_,?_⟩⟩
  ·rw [hlen]
   by_cases J:c=a
   ·rw [gY J,af]; omega
   ·rw [cT J,ay]; omega
  ·rw [hlen]
   by_cases J:c=a
   ·rw [gY J,af]; exact I _ (.inr (by omega))
   ·rw [cT J,ay,cq]; exact I _ (.inl rfl)
  ·show ((l.take b).drop a).length≤c-a
   rw [hlen]; omega
theorem BU {a b c:Nat}(hX:cO X (cR v l))(I:a≤b)(J:b≤c)(hc:c≤l.length)(hl:1≤l.length): cO X (cR (slR3 v a b c) ((l.take b).drop a)):=fun m r hm =>
 (hX m r hm).imp (fun h=>gn.slice3 h I J hc hl) (fun h=>gn.slice3 h I J hc hl)
theorem xu {a b c:Nat}(hv:View h v l)(I:a≤b)(hb:b≤c)(hc:c≤l.length)(hl:1≤l.length): sliceV Tryz.prog h 28 v (some a) (some b) (some c)=some (slR3 v a b c):=by
 obtain ⟨_,J⟩:=hv
 rcases J with ⟨_,rfl⟩ | ⟨id,off,cap,n,cs,st,rfl,hg,h1,h2,h3,h4⟩
 ·simp at hl
 ·cases cap with
  | exact q =>
   have hq:l.length≤q:=h4
   simp only [sliceV,slR3,aG,c5,dB]
   rw [show (Nat.ble a b&&Nat.ble b c&&Nat.ble c q)=true by rw [aI,aI,aE,aE,aE]; omega,af]
  | rest e alt =>
   have he:e=1:=h4
   subst he
   simp only [sliceV,slR3,aG,c5,dB,c_]
   rw [show (true&&Nat.ble 1 1)=true from rfl,af]
   rw [show (Nat.ble a b&&Nat.ble b c&&(Nat.ble c l.length||Nat.ble c (iA h id off 1))&&Nat.blt 0 l.length)=true by
    rw [aI,aI,aI,jS,aE,aE,aE]
    exact ⟨⟨⟨I,hb⟩,.inl hc⟩,by rw [Nat.blt]; exact aE.2 (by omega)⟩,af]
theorem gP (hv:View h v l)(I:1≤l.length): ∃id off cap,v=.sl id off l.length cap:=by
 rcases hv.2 with ⟨_,rfl⟩ | ⟨id,off,cap,_,_,_,rfl,_⟩
 ·simp at I
 ·exact ⟨id,off,cap,rfl⟩
theorem eX {k:IntKind}{n:Int}(I:0≤n): gN (some (V.int k n))=some (some n.toNat):=by
 simp only [gN,bndV,dy I,af]
end
section
variable {P:Program} {h h':H} {S:List aq} {X:aq} {v w x:V} {cs:List V} {l m:List Nat} {k:Nat}
theorem Rg {t e:TypeId}{i q j:Nat}(s:Sat h S)(J:getA S j=some (.arr q v cs))(hi:i*q+q≤cs.length)(hq:1≤q)(hu:P.underlying t=some (.slice e))(I:bj P e=some q):
  ∃id off,indexAddrV P t v (.int .i64 (i:Int))=some (.ptr id off)∧(bZ P e=some true→loadV P h e (.ptr id off)=some (.agg ((cs.drop (i*q)).take q))):=by
 obtain ⟨m,r,h1,h2,h3⟩:=s.at J
 rcases h3.2 with ⟨_,rfl⟩ | ⟨id,n,cap,N,rest,rfl,hg,e1,e2,_⟩
 ·simp at hi; omega
 ·refine ⟨id,i*q,?_,fun ht => ?_⟩
  ·simp only [indexAddrV,hu,I,ck]
   have:i<n:=by
    have h4:i*q+q=(i+1)*q:=by rw [gL,wg]
    rw [h4,e1] at hi
    exact Nat.lt_of_succ_le (Fs hi hq)
   rw [show (decide ((0:Int)≤(i:Int))&&decide ((i:Int)<(n:Int)))=true by simp; omega,af]
   simp
  ·rw [TO ht I (h1 _ _ hg) (by simp; omega) (by omega)]
   rw [Fp (by omega),r7 (by simp; omega)]
theorem Sat.Rh (s:Sat h (aR v l::X::S))(hX:cO X (cR w m)): ∀i∈rowIds w,i∉rowIds v:=by
 intro i hi gi
 obtain ⟨a,r,h1,h2,h3,b,c,g1,g2,g3,g4,d,e,k1,k2,k3,k4,k5⟩:=s.ok
 have hb:=FR g4 i gi
 have hw:∀q:PM,gn q w m→q i≠none:=fun q J=>by
  rcases J.2 with ⟨rfl | ⟨ea,rfl⟩,_⟩ | ⟨id,off,cap,n,cs,st,rfl,hg,_⟩
  ·simp [rowIds] at hi
  ·simp [rowIds] at hi
  ·simp [rowIds] at hi; subst hi; rw [hg]; simp
 rcases hX _ _ k4 with J | J
 ·have h4:=hw _ J
  cases hd:d i with
  | none=>exact h4 hd
  | some o =>
   rcases g1 i with I | I
   ·exact hb I
   ·rw [k2 _ _ hd] at I; cases I
 ·have h4:=hw _ J
  cases Ri:b i with
  | none=>exact hb Ri
  | some o =>
   rcases h3 i with I | I
   ·rw [g2 _ _ Ri] at I; cases I
   ·exact h4 I
end
end Go.Proofs.YtefepnnfphdkpaaGreat.Am
