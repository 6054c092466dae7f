/- AtomSame: a part of its proof; conditions: its statement's. -/
import Derived.Test.YtconhghphklfjaaGreatS01
import Derived.Test.YtconhghphklfjaaGreatProg
import Derived.KernelRfl
import Derived.Test.YtconhghphklfjaaGreatS14
namespace Go.Proofs.YtconhghphklfjaaGreat.Am
open Go
theorem jK : bF Tryz.prog 3=some 1:=by kernel_rfl
theorem c7 : cj Tryz.prog 3=some false:=by kernel_rfl
theorem EE : zeroT Tryz.prog 3=some (.int .i64 0):=by kernel_rfl
theorem xN : bF Tryz.prog 4=some 1:=by kernel_rfl
theorem jV : cj Tryz.prog 4=some false:=by kernel_rfl
theorem Yc : zeroT Tryz.prog 4=some (.bool false):=by kernel_rfl
theorem Ry : bF Tryz.prog 5=some 1:=by kernel_rfl
theorem Yd : zeroT Tryz.prog 5=some (.int .u8 0):=by kernel_rfl
theorem Rz : bF Tryz.prog 9=some 1:=by kernel_rfl
theorem Ye : cj Tryz.prog 9=some false:=by kernel_rfl
theorem RA : zeroT Tryz.prog 9=some (.str []):=by kernel_rfl
theorem jQ : cj Tryz.prog 23=some false:=by kernel_rfl
theorem Bn : cj Tryz.prog 24=some false:=by kernel_rfl
theorem Vb : bF Tryz.prog 27=some 1:=by kernel_rfl
theorem GC : cj Tryz.prog 27=some false:=by kernel_rfl
theorem Zz : zeroT Tryz.prog 28=some (.int .i64 0):=by kernel_rfl
theorem jy : bF Tryz.prog 32=some 1:=by kernel_rfl
theorem bL : cj Tryz.prog 32=some false:=by kernel_rfl
theorem yw : zeroT Tryz.prog 32=some .bA:=by kernel_rfl
theorem qT : bF Tryz.prog 35=some 1:=by kernel_rfl
theorem fX : cj Tryz.prog 35=some false:=by kernel_rfl
theorem Vc : zeroT Tryz.prog 35=some (.int .u64 0):=by kernel_rfl
theorem Lb : bF Tryz.prog 38=some 1:=by kernel_rfl
theorem tW : cj Tryz.prog 38=some false:=by kernel_rfl
theorem gy : bF Tryz.prog 40=some 6:=by kernel_rfl
theorem ni : cj Tryz.prog 40=some true:=by kernel_rfl
theorem qU : zeroT Tryz.prog 40=some (.agg [(.int .i64 0),(.int .u64 0),(.int .u64 0),(.int .u64 0),.bA,.bA]):=by kernel_rfl
theorem tX (a b:Nat): fieldAddrV Tryz.prog 40 (.ptr a b) 0=some (.ptr a (b+0)):=by kernel_rfl
theorem M9 (a b:Nat): fieldAddrV Tryz.prog 40 (.ptr a b) 1=some (.ptr a (b+1)):=by kernel_rfl
theorem M_ (a b:Nat): fieldAddrV Tryz.prog 40 (.ptr a b) 2=some (.ptr a (b+2)):=by kernel_rfl
theorem Na (a b:Nat): fieldAddrV Tryz.prog 40 (.ptr a b) 3=some (.ptr a (b+3)):=by kernel_rfl
theorem yx (a b:Nat): fieldAddrV Tryz.prog 40 (.ptr a b) 4=some (.ptr a (b+4)):=by kernel_rfl
theorem mO (a b:Nat): fieldAddrV Tryz.prog 40 (.ptr a b) 5=some (.ptr a (b+5)):=by kernel_rfl
theorem wK (ps:List (Nat×V)): buildV Tryz.prog 40 ps=(fillV (nth [(0,1),(1,1),(2,1),(3,1),(4,1),(5,1)]) ((.agg [(.int .i64 0),(.int .u64 0),(.int .u64 0),(.int .u64 0),.bA,.bA]):V).cells ps).map .agg:=by kernel_rfl
theorem nj : cj Tryz.prog 44=some false:=by kernel_rfl
theorem r9 : bF Tryz.prog 54=some 4:=by kernel_rfl
theorem Lc : cj Tryz.prog 54=some true:=by kernel_rfl
theorem qV : zeroT Tryz.prog 54=some (.agg [(.int .i64 0),(.int .i64 0),(.bool false),.bA]):=by kernel_rfl
theorem qd (a b:Nat): fieldAddrV Tryz.prog 54 (.ptr a b) 0=some (.ptr a (b+0)):=by kernel_rfl
theorem rN (a b:Nat): fieldAddrV Tryz.prog 54 (.ptr a b) 1=some (.ptr a (b+1)):=by kernel_rfl
theorem yy (a b:Nat): fieldAddrV Tryz.prog 54 (.ptr a b) 2=some (.ptr a (b+2)):=by kernel_rfl
theorem om (a b:Nat): fieldAddrV Tryz.prog 54 (.ptr a b) 3=some (.ptr a (b+3)):=by kernel_rfl
theorem Pz (ps:List (Nat×V)): buildV Tryz.prog 54 ps=(fillV (nth [(0,1),(1,1),(2,1),(3,1)]) ((.agg [(.int .i64 0),(.int .i64 0),(.bool false),.bA]):V).cells ps).map .agg:=by kernel_rfl
theorem PA : cj Tryz.prog 60=some false:=by kernel_rfl
theorem Vd : bF Tryz.prog 62=some 4:=by kernel_rfl
theorem Ve : cj Tryz.prog 62=some true:=by kernel_rfl
theorem yz (a b:Nat): fieldAddrV Tryz.prog 62 (.ptr a b) 0=some (.ptr a (b+0)):=by kernel_rfl
theorem GD (a b:Nat): fieldAddrV Tryz.prog 62 (.ptr a b) 1=some (.ptr a (b+1)):=by kernel_rfl
theorem GF (a b:Nat): fieldAddrV Tryz.prog 62 (.ptr a b) 2=some (.ptr a (b+2)):=by kernel_rfl
theorem Cf (a b:Nat): fieldAddrV Tryz.prog 62 (.ptr a b) 3=some (.ptr a (b+3)):=by kernel_rfl
theorem u_ : cj Tryz.prog 77=some false:=by kernel_rfl
theorem rO (a b:Nat): fieldAddrV Tryz.prog 85 (.ptr a b) 0=some (.ptr a (b+0)):=by kernel_rfl
theorem kY (a b:Nat): fieldAddrV Tryz.prog 85 (.ptr a b) 1=some (.ptr a (b+1)):=by kernel_rfl
theorem oo (a b:Nat): fieldAddrV Tryz.prog 85 (.ptr a b) 2=some (.ptr a (b+2)):=by kernel_rfl
theorem tY (a b:Nat): fieldAddrV Tryz.prog 85 (.ptr a b) 3=some (.ptr a (b+3)):=by kernel_rfl
theorem GG (a b:Nat): fieldAddrV Tryz.prog 85 (.ptr a b) 4=some (.ptr a (b+4)):=by kernel_rfl
theorem Cg (a b:Nat): fieldAddrV Tryz.prog 85 (.ptr a b) 5=some (.ptr a (b+5)):=by kernel_rfl
theorem Vf (ps:List (Nat×V)): buildV Tryz.prog 85 ps=(fillV (nth [(0,1),(1,1),(2,1),(3,1),(4,1),(5,1)]) ((.agg [.cD,.cD,.cD,.cD,.bA,(.int .u64 0)]):V).cells ps).map .agg:=by kernel_rfl
theorem l_ : cj Tryz.prog 86=some false:=by kernel_rfl
theorem ZA : bF Tryz.prog 88=some 3:=by kernel_rfl
theorem tZ (a b:Nat): fieldAddrV Tryz.prog 88 (.ptr a b) 0=some (.ptr a (b+0)):=by kernel_rfl
theorem t_ (a b:Nat): fieldAddrV Tryz.prog 88 (.ptr a b) 1=some (.ptr a (b+1)):=by kernel_rfl
theorem GH (a b:Nat): fieldAddrV Tryz.prog 88 (.ptr a b) 2=some (.ptr a (b+2)):=by kernel_rfl
theorem ZB (ps:List (Nat×V)): buildV Tryz.prog 88 ps=(fillV (nth [(0,1),(1,1),(2,1)]) ((.agg [.cD,.lB,(.bool false)]):V).cells ps).map .agg:=by kernel_rfl
theorem PB : bF Tryz.prog 98=some 1:=by kernel_rfl
theorem qf : cj Tryz.prog 98=some false:=by kernel_rfl
theorem pF (a b:Nat): fieldAddrV Tryz.prog 111 (.ptr a b) 0=some (.ptr a (b+0)):=by kernel_rfl
theorem gz (a b:Nat): fieldAddrV Tryz.prog 111 (.ptr a b) 1=some (.ptr a (b+1)):=by kernel_rfl
theorem eD (a b:Nat): fieldAddrV Tryz.prog 111 (.ptr a b) 2=some (.ptr a (b+2)):=by kernel_rfl
theorem iS (a b:Nat): fieldAddrV Tryz.prog 111 (.ptr a b) 3=some (.ptr a (b+3)):=by kernel_rfl
theorem pG (a b:Nat): fieldAddrV Tryz.prog 111 (.ptr a b) 4=some (.ptr a (b+4)):=by kernel_rfl
theorem pH (a b:Nat): fieldAddrV Tryz.prog 111 (.ptr a b) 5=some (.ptr a (b+5)):=by kernel_rfl
theorem RB (ps:List (Nat×V)): buildV Tryz.prog 111 ps=(fillV (nth [(0,1),(1,1),(2,1),(3,1),(4,1),(5,1)]) ((.agg [.cD,(.int .u64 0),.bA,.bA,(.int .i64 0),(.int .u64 0)]):V).cells ps).map .agg:=by kernel_rfl
theorem rE : cj Tryz.prog 119=some false:=by kernel_rfl
theorem RC (a b l:Nat)(c:Cap)(k:IntKind)(n:Int): indexAddrV Tryz.prog 119 (.sl a b l c) (.int k n)=cond (decide (0≤n)&&decide (n<(l:Int))) (some (.ptr a (b+n.toNat*1))) none:=by kernel_rfl
theorem RD : bF Tryz.prog 120=some 1:=by kernel_rfl
theorem Ch : cj Tryz.prog 120=some false:=by kernel_rfl
theorem WM : bF Tryz.prog 121=some 1:=by kernel_rfl
theorem FJ : cj Tryz.prog 121=some false:=by kernel_rfl
theorem JS (a b:Nat): fieldAddrV Tryz.prog 123 (.ptr a b) 0=some (.ptr a (b+0)):=by kernel_rfl
theorem mV (a b:Nat): fieldAddrV Tryz.prog 123 (.ptr a b) 1=some (.ptr a (b+1)):=by kernel_rfl
theorem tA (a b:Nat): fieldAddrV Tryz.prog 123 (.ptr a b) 2=some (.ptr a (b+2)):=by kernel_rfl
theorem Ao (a b:Nat): fieldAddrV Tryz.prog 123 (.ptr a b) 3=some (.ptr a (b+3)):=by kernel_rfl
theorem jd (a b:Nat): fieldAddrV Tryz.prog 123 (.ptr a b) 4=some (.ptr a (b+4)):=by kernel_rfl
theorem nM (a b:Nat): fieldAddrV Tryz.prog 123 (.ptr a b) 5=some (.ptr a (b+5)):=by kernel_rfl
theorem vO (a b:Nat): fieldAddrV Tryz.prog 123 (.ptr a b) 6=some (.ptr a (b+6)):=by kernel_rfl
theorem Ap (a b:Nat): fieldAddrV Tryz.prog 123 (.ptr a b) 7=some (.ptr a (b+7)):=by kernel_rfl
theorem Aq (a b:Nat): fieldAddrV Tryz.prog 123 (.ptr a b) 8=some (.ptr a (b+8)):=by kernel_rfl
theorem je (a b:Nat): fieldAddrV Tryz.prog 123 (.ptr a b) 9=some (.ptr a (b+9)):=by kernel_rfl
theorem ua (a b:Nat): fieldAddrV Tryz.prog 123 (.ptr a b) 10=some (.ptr a (b+10)):=by kernel_rfl
theorem Bo (a b:Nat): fieldAddrV Tryz.prog 123 (.ptr a b) 11=some (.ptr a (b+11)):=by kernel_rfl
theorem WN (ps:List (Nat×V)): buildV Tryz.prog 123 ps=(fillV (nth [(0,1),(1,1),(2,1),(3,1),(4,1),(5,1),(6,1),(7,1),(8,1),(9,1),(10,1),(11,1)]) ((.agg [(.int .i64 0),.bA,.bA,.lB,.bA,(.int .i64 0),.bA,(.int .i64 0),(.int .i64 0),(.bool false),.cD,.bA]):V).cells ps).map .agg:=by kernel_rfl
theorem Ci : bF Tryz.prog 125=some 2:=by kernel_rfl
theorem RE : cj Tryz.prog 125=some true:=by kernel_rfl
theorem FK : zeroT Tryz.prog 125=some (.agg [(.int .i64 0),.bA]):=by kernel_rfl
theorem DQ (a b:Nat): fieldAddrV Tryz.prog 125 (.ptr a b) 0=some (.ptr a (b+0)):=by kernel_rfl
theorem DR (a b:Nat): fieldAddrV Tryz.prog 125 (.ptr a b) 1=some (.ptr a (b+1)):=by kernel_rfl
theorem WO (ps:List (Nat×V)): buildV Tryz.prog 125 ps=(fillV (nth [(0,1),(1,1)]) ((.agg [(.int .i64 0),.bA]):V).cells ps).map .agg:=by kernel_rfl
theorem Ld : bF Tryz.prog 130=some 2:=by kernel_rfl
theorem WQ : cj Tryz.prog 130=some true:=by kernel_rfl
theorem FL : zeroT Tryz.prog 130=some (.agg [(.int .i64 0),(.int .u64 0)]):=by kernel_rfl
theorem SS (a b:Nat): fieldAddrV Tryz.prog 130 (.ptr a b) 1=some (.ptr a (b+1)):=by kernel_rfl
theorem WS (ps:List (Nat×V)): buildV Tryz.prog 130 ps=(fillV (nth [(0,1),(1,1)]) ((.agg [(.int .i64 0),(.int .u64 0)]):V).cells ps).map .agg:=by kernel_rfl
theorem RF : bF Tryz.prog 134=some 2:=by kernel_rfl
theorem WT : cj Tryz.prog 134=some true:=by kernel_rfl
theorem WU : zeroT Tryz.prog 134=some (.agg [(.int .i64 0),.bA]):=by kernel_rfl
theorem tB (a b:Nat): fieldAddrV Tryz.prog 134 (.ptr a b) 0=some (.ptr a (b+0)):=by kernel_rfl
theorem Ar (a b:Nat): fieldAddrV Tryz.prog 134 (.ptr a b) 1=some (.ptr a (b+1)):=by kernel_rfl
theorem wL : cj Tryz.prog 136=some false:=by kernel_rfl
theorem oC : cj Tryz.prog 137=some false:=by kernel_rfl
theorem WV (a b l:Nat)(c:Cap)(k:IntKind)(n:Int): indexAddrV Tryz.prog 137 (.sl a b l c) (.int k n)=cond (decide (0≤n)&&decide (n<(l:Int))) (some (.ptr a (b+n.toNat*5))) none:=by kernel_rfl
theorem rF : cj Tryz.prog 138=some false:=by kernel_rfl
theorem vP (a b:Nat): fieldAddrV Tryz.prog 140 (.ptr a b) 0=some (.ptr a (b+0)):=by kernel_rfl
theorem SU (a b:Nat): fieldAddrV Tryz.prog 140 (.ptr a b) 1=some (.ptr a (b+1)):=by kernel_rfl
theorem kQ (a b:Nat): fieldAddrV Tryz.prog 140 (.ptr a b) 2=some (.ptr a (b+2)):=by kernel_rfl
theorem qW (a b:Nat): fieldAddrV Tryz.prog 140 (.ptr a b) 3=some (.ptr a (b+3)):=by kernel_rfl
theorem mW (a b:Nat): fieldAddrV Tryz.prog 140 (.ptr a b) 4=some (.ptr a (b+4)):=by kernel_rfl
theorem DS (a b:Nat): fieldAddrV Tryz.prog 140 (.ptr a b) 5=some (.ptr a (b+5)):=by kernel_rfl
theorem WW (ps:List (Nat×V)): buildV Tryz.prog 140 ps=(fillV (nth [(0,1),(1,1),(2,1),(3,1),(4,1),(5,1)]) ((.agg [.cD,.cD,.bA,.lB,.lB,(.int .i64 0)]):V).cells ps).map .agg:=by kernel_rfl
theorem uM : bF Tryz.prog 143=some 2:=by kernel_rfl
theorem Le : cj Tryz.prog 143=some true:=by kernel_rfl
theorem wM : zeroT Tryz.prog 143=some (.agg [(.int .u64 0),(.bool false)]):=by kernel_rfl
theorem DT (a b:Nat): fieldAddrV Tryz.prog 143 (.ptr a b) 0=some (.ptr a (b+0)):=by kernel_rfl
theorem JT (cs:List V): rJ Tryz.prog 143 (.agg cs) 0=nth cs 0:=by kernel_rfl
theorem DU (a b:Nat): fieldAddrV Tryz.prog 143 (.ptr a b) 1=some (.ptr a (b+1)):=by kernel_rfl
theorem WX (ps:List (Nat×V)): buildV Tryz.prog 143 ps=(fillV (nth [(0,1),(1,1)]) ((.agg [(.int .u64 0),(.bool false)]):V).cells ps).map .agg:=by kernel_rfl
theorem dV : bF Tryz.prog 146=some 1:=by kernel_rfl
theorem gA : cj Tryz.prog 146=some true:=by kernel_rfl
theorem oD : zeroT Tryz.prog 146=some (.agg [.bA]):=by kernel_rfl
theorem pI (a b:Nat): fieldAddrV Tryz.prog 146 (.ptr a b) 0=some (.ptr a (b+0)):=by kernel_rfl
theorem Cj (ps:List (Nat×V)): buildV Tryz.prog 146 ps=(fillV (nth [(0,1)]) ((.agg [.bA]):V).cells ps).map .agg:=by kernel_rfl
theorem RG (a b:Nat)(k:IntKind)(n:Int): indexAddrV Tryz.prog 147 (.ptr a b) (.int k n)=cond (decide (0≤n)&&decide (n<(512:Nat))) (some (.ptr a (b+n.toNat*1))) none:=by kernel_rfl
theorem WY : bF Tryz.prog 151=some 512:=by kernel_rfl
theorem WZ : cj Tryz.prog 151=some true:=by kernel_rfl
theorem Ck : bF Tryz.prog 167=some 5:=by kernel_rfl
theorem W5 : cj Tryz.prog 167=some true:=by kernel_rfl
theorem W6 : zeroT Tryz.prog 167=some (.agg [(.int .i64 0),.bA,(.int .i64 0),(.bool false),(.bool false)]):=by kernel_rfl
theorem pJ (a b:Nat): fieldAddrV Tryz.prog 167 (.ptr a b) 0=some (.ptr a (b+0)):=by kernel_rfl
theorem As (a b:Nat): fieldAddrV Tryz.prog 167 (.ptr a b) 1=some (.ptr a (b+1)):=by kernel_rfl
theorem qX (a b:Nat): fieldAddrV Tryz.prog 167 (.ptr a b) 2=some (.ptr a (b+2)):=by kernel_rfl
theorem DV (a b:Nat): fieldAddrV Tryz.prog 167 (.ptr a b) 3=some (.ptr a (b+3)):=by kernel_rfl
theorem DW (a b:Nat): fieldAddrV Tryz.prog 167 (.ptr a b) 4=some (.ptr a (b+4)):=by kernel_rfl
theorem FM (ps:List (Nat×V)): buildV Tryz.prog 167 ps=(fillV (nth [(0,1),(1,1),(2,1),(3,1),(4,1)]) ((.agg [(.int .i64 0),.bA,(.int .i64 0),(.bool false),(.bool false)]):V).cells ps).map .agg:=by kernel_rfl
theorem RH : cj Tryz.prog 179=some false:=by kernel_rfl
theorem pK (a b:Nat): fieldAddrV Tryz.prog 181 (.ptr a b) 0=some (.ptr a (b+0)):=by kernel_rfl
theorem JU (a b:Nat): fieldAddrV Tryz.prog 181 (.ptr a b) 1=some (.ptr a (b+1)):=by kernel_rfl
theorem RJ (ps:List (Nat×V)): buildV Tryz.prog 181 ps=(fillV (nth [(0,1),(1,1)]) ((.agg [.lB,.lB]):V).cells ps).map .agg:=by kernel_rfl
theorem W7 (a b l:Nat)(c:Cap)(k:IntKind)(n:Int): indexAddrV Tryz.prog 186 (.sl a b l c) (.int k n)=cond (decide (0≤n)&&decide (n<(l:Int))) (some (.ptr a (b+n.toNat*1))) none:=by kernel_rfl
theorem mc (a b:Nat): fieldAddrV Tryz.prog 202 (.ptr a b) 0=some (.ptr a (b+0)):=by kernel_rfl
theorem W8 (ps:List (Nat×V)): buildV Tryz.prog 202 ps=(fillV (nth [(0,1)]) ((.agg [.bA]):V).cells ps).map .agg:=by kernel_rfl
theorem W9 (ps:List (Nat×V)): buildV Tryz.prog 205 ps=(fillV (fun i=>some (i*1,1)) ((.agg [(.int .u64 0),(.int .u64 0),(.int .u64 0)]):V).cells ps).map .agg:=by kernel_rfl
theorem Lf : bF Tryz.prog 219=some 1:=by kernel_rfl
theorem Lh : cj Tryz.prog 219=some false:=by kernel_rfl
theorem W_ (ps:List (Nat×V)): buildV Tryz.prog 220 ps=(fillV (fun i=>some (i*1,1)) ((.agg [.cD,.cD,.cD]):V).cells ps).map .agg:=by kernel_rfl
def slR (v:V)(a b:Nat): V:=match v with
 | .sl id off _ (.exact c)=>.sl id (cond (Nat.beq c a) off (off+a*1)) (b-a) (.exact (c-a))
 | .sl id off _ (.rest _ alt)=>.sl id (off+a*1) (b-a) (.rest 1 (cond (Nat.beq a 0) alt (cond (Nat.blt a b) (off+a*1) off)))
 | v=>v
theorem iF {h:H}{v:V}{l:List Nat}{a b:Nat}(hv:View h v l)(pq:a≤b)(hb:b≤l.length):
  sliceV Tryz.prog h 32 v (some a) (some b) none=some (slR v a b)∧View h (slR v a b) ((l.take b).drop a)∧∀i∈rowIds (slR v a b),i∈rowIds v:=by
 have U:∀x∈(l.take b).drop a,x<256:=fun x hx=>hv.1 x (gr (ij hx))
 have hlen:((l.take b).drop a).length=b-a:=by simp; omega
 obtain ⟨hl,tJ⟩:=hv
 rcases tJ with ⟨rfl | ⟨ea,rfl⟩,rfl⟩ | ⟨id,off,cap,n,cs,st,rfl,hg,h1,h2,h3,h4⟩
 ·simp only [bY] at hb
  have:b=0:=by omega
  have:a=0:=by omega
  subst_vars
  refine ⟨?_,⟨by simp,.inl ⟨.inl rfl,by simp⟩⟩,fun i hi=>hi⟩
  simp only [sliceV,aS,fK]
  rfl
 ·simp only [bY] at hb
  have:b=0:=by omega
  have:a=0:=by omega
  subst_vars
  refine ⟨?_,⟨by simp,.inl ⟨.inr ⟨ea,rfl⟩,by simp⟩⟩,fun i hi=>hi⟩
  simp only [sliceV,aS,fK]
  rfl
 ·have I:∀o,o=off+a∨b-a=0→(cs.drop o).take (b-a)=ofBytes ((l.take b).drop a):=by
   intro o ho
   rcases vq (b-a) with hz | hz
   ·rw [hz,o9]
    have:(l.take b).drop a=[]:=qB (by omega)
    rw [this]; rfl
   ·have xK:o=off+a:=by rcases ho with ho | ho; exact ho; omega
    subst xK
    have e1:ofBytes ((l.take b).drop a)=((ofBytes l).take b).drop a:=by simp [ofBytes,qJ,qI]
    rw [e1,←h3,sW,o8 hb,sV,qH]
  cases cap with
  | exact c =>
   have hc:l.length≤c:=h4
   refine ⟨?_,⟨U,.inr ⟨id,_,_,n,cs,st,by rw [hlen]; rfl,hg,h1,?_,?_,?_⟩⟩,fun i hi=>by simpa [rowIds,slR] using hi⟩
   ·simp only [sliceV,slR,aS,fK,eO]
    rw [show (Nat.ble a b&&Nat.ble b c)=true by rw [aY,aO,aO]; omega,ah]
   ·rw [hlen]
    by_cases J:c=a
    ·rw [gR J,ah]; omega
    ·rw [cN J,az]; omega
   ·rw [hlen]
    by_cases J:c=a
    ·rw [gR J,ah]; exact I off (.inr (by omega))
    ·rw [cN J,az,dO]; exact I _ (.inl rfl)
   ·show _≤c-a
    rw [hlen]; omega
  | rest e alt =>
   have he:e=1:=h4
   subst he
   refine ⟨?_,⟨U,.inr ⟨id,_,_,n,cs,st,by rw [hlen]; rfl,hg,h1,by rw [hlen]; omega,by rw [hlen,dO]; exact I _ (.inl rfl),rfl⟩⟩,fun i hi=>by simpa [rowIds,slR] using hi⟩
   simp only [sliceV,slR,aS,fK,eO,dc]
   rw [show (true&&Nat.ble 1 1)=true from rfl,ah]
   rw [show (Nat.ble a b&&(Nat.ble b l.length||Nat.ble b (kA h id off 1)))=true by rw [aY,mT,aO,aO]; exact ⟨pq,.inl hb⟩,ah]
theorem ej {h:H}{v:V}{l:List Nat}{a:Nat}(U:View h v l)(ha:a≤l.length):
  sliceV Tryz.prog h 32 v (some a) none none=some (slR v a l.length)∧View h (slR v a l.length) (l.drop a)∧∀i∈rowIds (slR v a l.length),i∈rowIds v:=by
 obtain ⟨I,h2,h3⟩:=iF U ha (aL _)
 refine ⟨?_,by simpa using h2,h3⟩
 obtain ⟨_,J⟩:=U
 rcases J with ⟨rfl | ⟨ea,rfl⟩,rfl⟩ | ⟨id,off,cap,n,cs,st,rfl,hg,g1,g2,g3,g4⟩
 ·simpa [sliceV,aS,fK] using I
 ·simpa [sliceV,aS,fK] using I
 ·rw [←I]
  simp only [sliceV,aS,fK,nE,eO]
theorem ia {h:H}{v:V}{l:List Nat}{b:Nat}(U:View h v l)(hb:b≤l.length):
  sliceV Tryz.prog h 32 v none (some b) none=some (slR v 0 b)∧View h (slR v 0 b) (l.take b)∧∀i∈rowIds (slR v 0 b),i∈rowIds v:=by
 obtain ⟨I,h2,h3⟩:=iF U (fh b) hb
 refine ⟨?_,by simpa using h2,h3⟩
 obtain ⟨_,J⟩:=U
 rcases J with ⟨rfl | ⟨ea,rfl⟩,rfl⟩ | ⟨id,off,cap,n,cs,st,rfl,hg,g1,g2,g3,g4⟩
 ·simpa [sliceV,aS,fK] using I
 ·simpa [sliceV,aS,fK] using I
 ·rw [←I]
  simp only [sliceV,aS,fK,nE,eO]
theorem g_ {h:H}{v:V}{l:List Nat}{i b:Nat}(U:View h v l)(hi:l[i]?=some b):
  ∃id off,indexAddrV Tryz.prog 32 v (.int .i64 (i:Int))=some (.ptr id off)∧loadV Tryz.prog h 5 (.ptr id off)=some (.int .u8 (b:Int)):=by
 obtain ⟨hl,I⟩:=U
 have J:i<l.length:=(List.getElem?_eq_some_iff.1 hi).1
 rcases I with ⟨_,rfl⟩ | ⟨id,off,cap,n,cs,st,rfl,hg,h1,h2,h3,h4⟩
 ·simp at hi
 ·refine ⟨id,off+i*1,?_,?_⟩
  ·simp only [indexAddrV,aS,fK,cQ]
   rw [show (decide ((0:Int)≤(i:Int))&&decide ((i:Int)<(l.length:Int)))=true by simp; omega,ah]
  ·simp only [loadV,JN,xy,hg,fM,dO]
   have e:=ja (fun q=>q[i]?) h3
   simp only [lS,jG,aj J] at e
   rw [e]
   simp [ofBytes,hi]
theorem View.cells {h:H}{v:V}{l:List Nat}(I:View h v l): v.cells=[v]∧Am.storable v=true:=by
 obtain ⟨_,I⟩:=I
 rcases I with ⟨rfl | ⟨J,rfl⟩,_⟩ | ⟨id,off,cap,n,cs,st,rfl,_⟩ <;> exact ⟨rfl,rfl⟩
def plain1 : V→Bool
 | .bool _ | .int _ _ | .str _ | .cD | .ptr _ _ | .bA | .sl _ _ _ _ | .lB | .map _ | .Ei | .mq | .tG _ _=>true
 | .fn (.func _) [] []=>true
 | _=>false
def Vg : V→Bool
 | .agg l=>l.all plain1
 | .bD l=>l.all plain1
 | .iface _ v=>plain1 v
 | v=>plain1 v
theorem Li (k:FloatKind): fkBeq k k=true:=by cases k <;> rfl
theorem GI : ∀l:List Nat,natsBeq l l=true:=fun l=>by rw [u9]; simp
theorem PC (v:V)(h:plain1 v=true): v.beq v=true:=by
 cases v <;> simp [plain1,V.beq,dB,lD,AY,GI,Li] at h ⊢
 rename_i f a b
 cases f <;> cases a <;> cases b <;> simp [plain1,V.beq,V.beqL] at h ⊢
theorem RK : ∀(l:List V),l.all plain1=true→V.beqL l l=true:=by
 intro l
 induction l with
 | nil=>intro _; rfl
 | cons v l I =>
  intro h
  simp only [iZ,aY] at h
  simp only [V.beqL,PC v h.1,ah,I h.2]
theorem aW (v:V)(h:Vg v=true): v.beq v=true:=by
 cases v with
 | agg l=>exact RK l h
 | bD l=>exact RK l h
 | iface t v=>simp only [V.beq,dc,zY]; exact PC v h
 | _=>exact PC _ h
section
variable {P:Program} {h h':H} {S:List ax} {X:ax} {v w:V} {l m:List Nat}
theorem Cl (s:Sat h (bG v l::X::S))(J:cR X (cV w m))(I:l.length+m.length≤140737488355328):
  ∃v' h',appendV Tryz.prog h #[32,32] v w=some (v',h')∧Sat h' (bG v' (l++m)::X::S):=by
 obtain ⟨v',h',U,e2,e3,e4⟩:=yo s.wf (s.buf (k:=0) rfl) (s.aG (k:=1) rfl J) I
 exact ⟨v',h',U,s.An e3 e2 e4⟩
theorem EF (s:Sat h S){c:Nat}(I:c<1073741824):
  ∃v h',makeSliceV Tryz.prog h 32 (.int .i64 0) (.int .i64 (c:Int))=some (v,h')∧Sat h' (bG v []::S):=by
 obtain ⟨v,h',J,U,e3,e4⟩:=B8 s.wf I
 exact ⟨v,h',J,s.Gz e3 U e4⟩
theorem SV : ∀n:Nat,repeatL [V.int .u8 0] n=ofBytes (List.replicate n 0):=by
 intro n
 induction n with
 | zero=>rfl
 | succ n I=>simp only [repeatL,I,ofBytes,sL,bH]; rfl
theorem Nb (s:Sat h S){c:Nat}(J:c<1073741824):
  ∃v h',makeSliceV Tryz.prog h 32 (.int .i64 (c:Int)) (.int .i64 (c:Int))=some (v,h')∧Sat h' (bG v (List.replicate c 0)::S):=by
 obtain ⟨i,hi,i1,i2⟩:=vL
 have I:jJ (h.new (.cells c (repeatL [.int .u8 0] c) false)) (.sl h.next 0 c (.exact c)) (List.replicate c 0):=by
  refine ⟨fun b I=>by have:=qC I; omega,.inr (.inl ⟨h.next,[],c,by simp,?_,by simp⟩)⟩
  rw [fP,aj rfl,SV,bT]
 refine ⟨.sl h.next 0 c (.exact c),h.new (.cells c (repeatL [.int .u8 0] c) false),?_,s.Gz (eC.Ak s.wf _) I fun i hi=>by simp [rowIds] at hi; omega⟩
 simp only [makeSliceV,aS,hi,qS,i1,i2,V.cells,bj,bY,cQ,dO]
 rw [show (decide ((0:Int)≤(c:Int))&&decide ((c:Int)≤(c:Int))&&decide ((c:Int)<1073741824)&&Nat.ble 1 4096&&Nat.beq (0+1) 1&&Nat.ble 1 1)=true by simp; omega,ah]
theorem Nc (s:Sat h S){b:Nat}(I:b<256): ∃v h',buildSliceV Tryz.prog h 32 1 [(0,.int .u8 b)]=some (v,h')∧Sat h' (bG v [b]::S):=by
 obtain ⟨v,h',J,U,e3,e4⟩:=ED s.wf I
 exact ⟨v,h',J,s.Gz e3 U e4⟩
theorem Sat.ku (s:Sat h (bG v l::S))(hl:1≤l.length): ∃id c cap rest,v=.sl id 0 l.length cap∧Sat h (pt id (.cells c (ofBytes l++rest) false)::S)∧l.length+rest.length=c ∧
  (∀(h':H) (I:List Nat),I.length=l.length→(∀b∈I,b<256)→Sat h' (pt id (.cells c (ofBytes I++rest) false)::S)→Sat h' (bG v I::S)):=by
 obtain ⟨m,r,h1,h2,h3,a,b,g1,g2,g3,⟨gl,g4⟩,g5⟩:=s.ok
 rcases g4 with ⟨rfl,rfl⟩ | ⟨id,cs,c,rfl,hg,hc⟩ | ⟨id,rfl,hg,h5⟩
 ·simp at hl
 ·refine ⟨id,c,_,cs,rfl,⟨s.wf,m,r,h1,h2,h3,a,b,g1,g2,g3,hg,g5⟩,hc,fun h' I U e2 s'=>s'.ga ?_⟩
  intro m' r' hm
  exact ⟨e2,.inr (.inl ⟨id,cs,c,by rw [U],hm,by omega⟩)⟩
 ·refine ⟨id,l.length,_,[],rfl,⟨s.wf,m,r,h1,h2,h3,a,b,g1,g2,g3,by rw [bT]; exact hg,g5⟩,by simp,fun h' I U e2 s'=>s'.ga ?_⟩
  intro m' r' hm
  have J:m' id=some (.cells l.length (ofBytes I++[]) false):=hm
  rw [bT] at J
  exact ⟨e2,.inr (.inr ⟨id,by rw [U],by rw [U]; exact J,by omega⟩)⟩
theorem yA (l:List Nat)(n:Nat): (ofBytes l).take n=ofBytes (l.take n):=by simp [ofBytes,qI]
theorem GJ (l:List Nat)(n:Nat): (ofBytes l).drop n=ofBytes (l.drop n):=by simp [ofBytes,qJ]
def cZ (l:List Nat)(a:Nat)(m:List Nat): List Nat:=l.take a++(m++l.drop (a+m.length))
theorem iG {l m:List Nat}{a:Nat}(h:a+m.length≤l.length): (cZ l a m).length=l.length:=by simp [cZ]; omega
theorem yB {l m:List Nat}{a:Nat}(J:∀b∈l,b<256)(hm:∀b∈m,b<256): ∀b∈cZ l a m,b<256:=fun b I=>by
 simp only [cZ,qG] at I
 rcases I with I | I | I
 ·exact J b (gr I)
 ·exact hm b I
 ·exact J b (ij I)
theorem GK (s:Sat h (bG v l::X::S))(hX:cR X (cV w m)){a b:Nat}(pq:a<b)(hb:b≤l.length)(hm:1≤m.length):
  ∃h',copyV Tryz.prog h 32 (slR v a b) w=some (.int .i64 (min m.length (b-a):Nat),h')∧Sat h' (bG v (cZ l a (m.take (b-a)))::X::S):=by
 have hw:=s.aG (k:=1) rfl hX
 have Nd:=hw.1
 have hv:=(s.buf (k:=0) rfl).1
 obtain ⟨id,c,cap,rest,rfl,s1,hc,hf⟩:=s.ku (by omega)
 have lJ:∃U,slR (.sl id 0 l.length cap) a b=.sl id a (b-a) U:=by
  cases cap with
  | exact c =>
   refine ⟨.exact (c-a),?_⟩
   simp only [slR]
   by_cases hca:c=a
   ·obtain ⟨m',r,h1,h2,h3⟩:=s.at (k:=0) rfl
    rcases h3.2 with ⟨e,_⟩ | ⟨AS,cs',c',e,hg,Yf⟩ | ⟨AS,e,_⟩
    ·cases e
    ·injection e with _ _ _ e4; injection e4 with e4; omega
    ·injection e with _ _ _ e4; cases e4
   ·rw [cN hca,az,dU,dO]
  | rest e alt=>exact ⟨_,by simp only [slR,dU,dO]; rfl⟩
 obtain ⟨U,lJ⟩:=lJ
 rw [lJ]
 have qy:=hw
 rcases qy.2 with ⟨_,rfl⟩ | ⟨nk,I,J,n2,JV,Yg,rfl,RL,q1,q2,q3,q4⟩
 ·simp at hm
 ·have PD:Nat.min m.length (b-a)=(m.take (b-a)).length:=by
   rw [dJ]
   exact Nat.min_comm _ _
  have lI:rdN h nk I (Nat.min m.length (b-a)*1)=some (ofBytes (m.take (b-a))):=by
   have ot:View h (.sl nk I (m.take (b-a)).length J) (m.take (b-a)):=by
    refine ⟨fun x hx=>Nd x (gr hx),.inr ⟨nk,I,J,n2,JV,Yg,rfl,RL,q1,?_,?_,?_⟩⟩
    ·have:(m.take (b-a)).length≤m.length:=by simp; omega
     omega
    ·rw [←yA,←q3,sW,dJ]
    ·cases J with
     | exact c2 =>
      simp only at q4 ⊢
      have:(m.take (b-a)).length≤m.length:=by simp; omega
      omega
     | rest e2 a2=>exact q4
   rw [dO,PD]
   exact ot.rdN.2
  simp only [copyV,aS,fK,lI]
  have hlen:(m.take (b-a)).length≤b-a:=by simp; omega
  have uc:wrN h id a (ofBytes (m.take (b-a)))=some (h.put id (some (.cells c (ofBytes (cZ l a (m.take (b-a)))++rest) false))):=by
   simp only [wrN,s1.row (k:=0) rfl,dL]
   rw [aO.2 (by omega),ah]
   congr 3
   have e0:(ofBytes l++rest).take a++(ofBytes (m.take (b-a))++(ofBytes l++rest).drop (a+(m.take (b-a)).length))=ofBytes (cZ l a (m.take (b-a)))++rest:=by
    rw [oQ (by rw [dL]; omega),C8 (by rw [dL]; omega),yA,GJ]
    simp only [cZ,rD,bP]
   cases GL:(Nat.beq a 0&&Nat.beq (m.take (b-a)).length c) with
   | true =>
    simp only [aY,beq_iff] at GL
    rw [ah,←e0]
    obtain ⟨ha0,hmc⟩:=GL
    subst ha0
    have:(ofBytes l++rest).drop (0+(m.take (b-0)).length)=[]:=ig (by simp [dL] at hmc ⊢; omega)
    rw [this]
    simp
   | false=>rw [az,e0]
  rw [uc]
  refine ⟨_,rfl,hf _ _ (iG (by omega)) (yB hv (fun x hx=>Nd x (gr hx))) ?_⟩
  exact s1.put (k:=0) rfl
end
section
variable {P:Program} {h h':H} {S:List ax} {v w x:V} {cs ds:List V} {k:Nat}
theorem RM {t:TypeId}{id off n q:Nat}{st:Bool}(J:cj P t=some true)(hs:bF P t=some q)(U:T.get h.tr id=some (.cells n cs st))(hl:cs.length=n)(hb:off+q≤n):
  loadV P h t (.ptr id off)=some (.agg ((cs.drop off).take q)):=by
 simp only [loadV,J,hs,rdN,U]
 rw [aO.2 hb,ah]
 cases I:(Nat.beq off 0&&Nat.beq q n) with
 | true =>
  simp only [aY,beq_iff] at I
  obtain ⟨rfl,rfl⟩:=I
  simp [←hl]
 | false=>rfl
theorem Sat.SW (s:Sat h (.arr k v cs::S))(I:cs≠[]): ∃id n cap N rest,v=.sl id 0 n cap∧cs.length=n*k∧N=cs.length+rest.length∧Sat h (pt id (.cells N (cs++rest) false)::S) ∧
  (∀(h':H) (cs':List V) (S':List ax),cs'.length=cs.length→cs'.all storable=true→Sat h' (pt id (.cells N (cs'++rest) false)::S')→Sat h' (.arr k v cs'::S')):=by
 obtain ⟨m,r,J,U,h3,a,b,g1,g2,g3,⟨gl,g4⟩,g5⟩:=s.ok
 rcases g4 with ⟨_,e⟩ | ⟨id,n,cap,N,rest,rfl,hg,q1,q2,q3,q4⟩
 ·exact absurd e I
 ·refine ⟨id,n,cap,N,rest,rfl,q1,q2.symm,⟨s.wf,m,r,J,U,h3,a,b,g1,g2,g3,hg,g5⟩,fun h' cs' S' e1 e2 s'=>s'.ga ?_⟩
  intro m' r' hm
  exact ⟨e2,.inr ⟨id,n,cap,N,rest,rfl,hm,by omega,by omega,q3,q4⟩⟩
theorem Sat.Lj {j:Nat}(s:Sat h S)(I:getA S j=some (.arr k v cs)): cs.all storable=true:=by
 obtain ⟨m,r,U,h2,J⟩:=s.at I
 exact J.1
theorem Sat.kF {j:Nat}(s:Sat h S)(I:getA S j=some (.arr k v cs)): v.cells=[v]∧storable v=true∧v.beq v=true:=by
 obtain ⟨m,r,U,h2,J⟩:=s.at I
 rcases J.2 with ⟨rfl,_⟩ | ⟨id,n,cap,N,rest,rfl,_⟩
 ·exact ⟨rfl,rfl,rfl⟩
 ·exact ⟨rfl,rfl,Cb _ _ _ _⟩
theorem Sat.iH {j n:Nat}{t e:TypeId}(s:Sat h S)(U:getA S j=some (.arr k v cs))(hn:cs.length=n*k)(J:1≤k)(hu:P.underlying t=some (.slice e)): lenV P h t v=some (.int .i64 n):=by
 obtain ⟨m,r,h1,h2,h3⟩:=s.at U
 rcases h3.2 with ⟨rfl,rfl⟩ | ⟨id,n',cap,N,rest,rfl,_,q,_⟩
 ·have:n=0:=by
   rcases vq n with I | I
   ·exact I
   ·have:=sX I J
    simp at hn
    omega
  subst this
  simp only [lenV,hu]
  rfl
 ·have:n'=n:=Jv J (by omega)
  subst this
  simp only [lenV,hu]
theorem va (z:List V)(n:Nat): (repeatL z n).length=n*z.length:=by
 induction n with
 | zero=>simp [repeatL]
 | succ n I=>simp only [repeatL,bC,I,Nat.succ_mul]; omega
theorem Cm {z:List V}(I:z.all storable=true)(n:Nat): (repeatL z n).all storable=true:=by
 induction n with
 | zero=>rfl
 | succ n J=>simp only [repeatL,List.all_append,I,J,iq]
theorem rP (s:Sat h S){t e:TypeId}{i:TypeInfo}{z:V}{n c:Nat}(hu:P.underlying t=some (.slice e))(hi:P.info? e=some i)(U:zeroT P e=some z)(hk:i.size=k)(hb:i.bytes≤4096)(J:z.cells.length=k)(I:z.cells.all storable=true)
 (h1:1≤k)(hn:n≤c)(hc:c<1073741824):
  ∃v h',makeSliceV P h t (.int .i64 (n:Int)) (.int .i64 (c:Int))=some (v,h')∧Sat h' (.arr k v (repeatL z.cells n)::S):=by
 refine ⟨.sl h.next 0 n (.exact c),h.new (.cells (c*k) (repeatL z.cells c) false),?_,(s.new _).ga fun m r hm => ?_⟩
 ·simp only [makeSliceV,hu,hi,U,cQ,hk,J]
  rw [show (decide ((0:Int)≤(n:Int))&&decide ((n:Int)≤(c:Int))&&decide ((c:Int)<1073741824)&&Nat.ble i.bytes 4096&&Nat.beq k k&&Nat.ble 1 k)=true by
   rw [aO.2 hb,aO.2 h1,dc]; simp; omega,ah]
 ·refine ⟨Cm I n,.inr ⟨h.next,n,.exact c,c*k,repeatL z.cells (c-n),rfl,?_,by rw [va,J],?_,Cm I _,rfl,hn⟩⟩
  ·have:repeatL z.cells n++repeatL z.cells (c-n)=repeatL z.cells c:=by
    clear hm
    have:∀a b,repeatL z.cells a++repeatL z.cells b=repeatL z.cells (a+b):=fun a b=>by
     induction a with
     | zero=>simp [repeatL]
     | succ a ih=>rw [Nat.succ_add]; simp only [repeatL,bP,ih]
    rw [this,show n+(c-n)=c by omega]
   rw [this]; exact hm
  ·rw [va,va,J,←ir,show n+(c-n)=c by omega]
theorem SX {id off n:Nat}{vs:List V}(J:T.get h.tr id=some (.cells n cs false))(hl:cs.length=n)(U:off+vs.length≤n):
  wrN h id off vs=some (h.put id (some (.cells n (cs.take off++(vs++cs.drop (off+vs.length))) false))):=by
 simp only [wrN,J]
 rw [aO.2 U,ah]
 congr 3
 cases I:(Nat.beq off 0&&Nat.beq vs.length n) with
 | true =>
  simp only [aY,beq_iff] at I
  obtain ⟨rfl,hn⟩:=I
  rw [ah]
  have:cs.drop (0+vs.length)=[]:=ig (by omega)
  rw [this]; simp
 | false=>rw [az]
theorem Cn {id off n q:Nat}{st:Bool}(J:T.get h.tr id=some (.cells n cs st))(U:cs.length=n)(hb:off+q≤n): rdN h id off q=some ((cs.drop off).take q):=by
 simp only [rdN,J]
 rw [aO.2 hb,ah]
 cases I:(Nat.beq off 0&&Nat.beq q n) with
 | true =>
  simp only [aY,beq_iff] at I
  obtain ⟨rfl,rfl⟩:=I
  simp [←U]
 | false=>rfl
theorem jo (s:Sat h (.arr k v cs::.arr k w ds::S)){t e:TypeId}{i:TypeInfo}{z:V}(hu:P.underlying t=some (.slice e))(hi:P.info? e=some i)(hz:zeroT P e=some z)(hk:i.size=k)(hb:i.bytes≤4096)(hl:z.cells.length=k)
 (h1:1≤k)(fc:cs.length+ds.length≤1073741824):
  ∃v' h',appendV P h #[t,t] v w=some (v',h')∧Sat h' (.arr k v' (cs++ds)::.arr k w ds::S):=by
 have ZC:=s.Lj (j:=0) rfl
 have Lk:=s.Lj (j:=1) rfl
 have qR:(cs++ds).all storable=true:=by rw [List.all_append,ZC,Lk]; rfl
 -- what is appended
 have DF:∃m,srcV h k w=some (ds,m)∧ds.length=m*k:=by
  obtain ⟨m,r,q1,q2,q3⟩:=s.at (k:=1) rfl
  rcases q3.2 with ⟨rfl,rfl⟩ | ⟨id,n,cap,N,rest,rfl,J,U,e2,e3,e4⟩
  ·exact ⟨0,rfl,by simp⟩
  ·refine ⟨n,?_,U⟩
   simp only [srcV]
   rw [Cn (q1 _ _ J) (by simp [e2]) (by omega)]
   rw [dS,←U,kN rfl]
   rfl
 obtain ⟨m,DF,hm⟩:=DF
 have I:∀n:Nat,n*k=cs.length→mK (n+m) i.bytes=true:=fun n hn=>by
  have U:(n+m)*k=cs.length+ds.length:=by rw [ir,hn,hm]
  have e2:n+m≤(n+m)*k:=Nat.le_mul_of_pos_right _ h1
  have e3:(n+m)*i.bytes≤(n+m)*4096:=Nat.mul_le_mul_left _ hb
  exact wz.2 ⟨by omega,by omega⟩
 have Gc:∀(σ:H) (n:Nat) (T:List ax),Sat σ T→n*k=cs.length→1≤m→Sat (nJ σ k cs ds (n+m)).2 (.arr k (nJ σ k cs ds (n+m)).1 (cs++ds)::T):=by
  intro σ n T sT hn xO
  refine (sT.new (.cells ((n+m)*k) (cs++ds) false)).ga fun a r Nf=>⟨qR,.inr ⟨σ.next,n+m,.rest k 0,(n+m)*k,[],rfl,by rw [bT]; exact Nf,by rw [bC,ir]; omega,by rw [bC,ir]; simp; omega,rfl,rfl,rfl,rfl,by omega⟩⟩
 unfold appendV
 simp only [hu,hi,hz,hk,hl,DF]
 rw [show (Nat.ble 1 k&&Nat.ble i.bytes 4096&&Nat.beq k k)=true by rw [aO.2 h1,aO.2 hb,dc]; rfl,ah]
 cases EB:Nat.beq m 0 with
 | true =>
  have:m=0:=beq_iff.1 EB
  subst this
  have hd0:ds=[]:=qB (by simpa using hm)
  subst hd0
  rw [ah,bT]
  obtain ⟨m,r,q1,q2,q3⟩:=s.at (k:=0) rfl
  rcases q3.2 with ⟨rfl,rfl⟩ | ⟨id,n,cap,N,rest,rfl,J,U,e2,e3,e4⟩
  ·exact ⟨_,_,rfl,s⟩
  ·exact ⟨_,_,rfl,s⟩
 | false =>
  have xO:1≤m:=by
   rcases vq m with h0 | h0
   ·rw [gR h0] at EB; cases EB
   ·exact h0
  rw [az]
  obtain ⟨a,r,q1,q2,q3⟩:=s.at (k:=0) rfl
  rcases q3.2 with ⟨rfl,rfl⟩ | ⟨id,n,cap,N,rest,rfl,J,U,e2,e3,e4⟩
  ·have J:=I 0 (by simp)
   rw [dU] at J
   simp only [J,ah]
   have:=Gc h 0 (.arr k .bA []::.arr k w ds::S) s (by simp) xO
   rw [dU] at this
   refine ⟨_,_,rfl,?_⟩
   exact (this.qa [1]).drop
  ·cases cap with
   | exact c =>
    obtain ⟨e4,e5⟩:=e4
    simp only [dU]
    have qx:(cs++rest).take cs.length=cs:=kN rfl
    cases hq:Nat.ble (n+m) c with
    | true =>
     have tP:=aO.1 hq
     rw [ah]
     have iE:n*k+ds.length≤N:=by rw [hm,←ir,e4]; exact qD _ tP
     rw [SX (q1 _ _ J) (by simp [e2]) iE]
     simp only
     obtain ⟨m',r',p1,p2,p3,x1,x2,x3,x4,x5,⟨_,x6⟩,x7⟩:=s.ok
     have tU:x1 id=some (.cells N (cs++rest) false):=by
      rcases x6 with ⟨x6,_⟩ | ⟨AS,n',Un,N',Xa,x6,x8,x9,x10,_⟩
      ·cases x6
      ·injection x6 with y1 y2 y3 y4
       subst y1
       rw [x8]
       have:=p1 _ _ (x4 _ _ x8)
       rw [q1 _ _ J] at this
       injection this with this
       rw [this]
     have s0:Sat h (pt id (.cells N (cs++rest) false)::.arr k w ds::S):=⟨s.wf,m',r',p1,p2,p3,x1,x2,x3,x4,x5,tU,x7⟩
     have s1:=s0.put (k:=0) (o':=.cells N ((cs++rest).take (n*k)++(ds++(cs++rest).drop (n*k+ds.length))) false) rfl
     refine ⟨_,_,rfl,Sat.ga s1 fun a' r'' ha=>⟨qR,.inr ⟨id,n+m,.exact c,N,rest.drop ds.length,rfl,?_,by rw [bC,ir]; omega,by simp; omega,?_,e4,tP⟩⟩⟩
     ·have ha':a' id=some (.cells N ((cs++rest).take (n*k)++(ds++(cs++rest).drop (n*k+ds.length))) false):=ha
      rw [ha',←U,qx,zU,ig (by omega),Nat.add_sub_cancel_left,cU,bP]
     ·rw [oY] at e3 ⊢
      exact fun y hy=>e3 y (ij hy)
    | false =>
     rw [az,I n U.symm,ah,Cn (q1 _ _ J) (by simp [e2]) (by omega)]
     simp only
     rw [dS,←U,qx]
     have:=Gc h n _ s U.symm xO
     exact ⟨_,_,rfl,(this.qa [1]).drop⟩
   | rest e' alt =>
    obtain ⟨ek,rfl,rfl,e7⟩:=e4
    have ek:=ek.symm
    subst ek
    simp only [dc,ah,bT,dU] at J e2 ⊢
    have F8:kA h id 0 k=n:=by
     simp only [kA,q1 _ _ J]
     rw [kj,←e2]
     simp only [bY,iO,U]
     exact Dj _ h1
    rw [F8]
    rw [show Nat.ble (n+m) n=false by
     cases hq:Nat.ble (n+m) n with
     | true=>have:=aO.1 hq; omega
     | false=>rfl,az,I n U.symm,show Nat.ble 2 ((n+m)*k)=true from aO.2 (by
      have:2*1≤(n+m)*k:=sX (by omega) h1
      omega),iq,ah,Cn (q1 _ _ J) (by simpa using e2) (by simp at e2; omega),q1 _ _ J]
    simp only
    obtain ⟨m',r',p1,p2,p3,x1,x2,x3,x4,x5,⟨_,x6⟩,x7⟩:=s.ok
    have tU:x1 id=some (.cells N cs false):=by
     rcases x6 with ⟨x6,_⟩ | ⟨AS,n',Un,N',Xa,x6,x8,x9,x10,_⟩
     ·cases x6
     ·injection x6 with y1 y2 y3 y4
      subst y1
      rw [x8]
      have:=p1 _ _ (x4 _ _ x8)
      rw [q1 _ _ J] at this
      injection this with this
      rw [this]
    have s0:Sat h (pt id (.cells N cs false)::.arr k w ds::S):=⟨s.wf,m',r',p1,p2,p3,x1,x2,x3,x4,x5,tU,x7⟩
    have:=Gc (h.put id none) n _ s0.kill U.symm xO
    rw [dS,fI (by omega)]
    exact ⟨_,_,rfl,this⟩
end
section
variable {P:Program} {h h':H} {S:List ax} {v w x:V} {cs ds:List V} {k:Nat}
theorem Sat.gX {t:TypeId}{j id n:Nat}{l:List V}(s:Sat h S)(J:getA S j=some (pt id (.cells n cs false)))(hs:bF P t=some n)(U:l.length=n)(I:l.all storable=true):
  ∃h₁,gP P h t (.ptr id 0) (.agg l)=some h₁∧Sat h₁ (setA S j (pt id (.cells n l false))):=by
 refine ⟨h.put id (some (.cells n l false)),?_,s.put J⟩
 simp only [gP,hs,V.cells,I,U,dc,iq,ah,wrN,s.row J]
 rw [aO.2 (by omega:0+n≤n),ah]
theorem nN (s:Sat h S){t e:TypeId}{z:V}(hu:P.underlying t=some (.slice e))(hz:zeroT P e=some z)(hk:bF P e=some k)(J:z.cells.length=k)(h1:1≤k)(h2:k≤65536)(U:x.cells.length=k)(I:x.cells.all storable=true):
  ∃v h',buildSliceV P h t 1 [(0,x)]=some (v,h')∧Sat h' (.arr k v x.cells::S):=by
 refine ⟨.sl h.next 0 1 (.exact 1),newRow h x.cells,?_,?_⟩
 ·simp only [buildSliceV,hu,hk,hz]
  rw [show (Nat.beq z.cells.length k&&Nat.ble (1*k) 65536&&Nat.ble 1 k)=true by rw [J,dc,aO.2 (by omega),aO.2 h1]; rfl,ah]
  have e1:repeatL z.cells 1=z.cells:=by simp [repeatL]
  simp only [fillV,e1,U,J,dc,zY]
  rw [aO.2 (by omega:0*k+k≤k),ah]
  have e2:z.cells.take (0*k)++(x.cells++z.cells.drop (0*k+k))=x.cells:=by
   rw [vA,o9,cU,ig (by omega),bT]
  simp only [e2,I,ah]
 ·refine (s.new _).ga fun m r hm=>⟨I,.inr ⟨h.next,1,.exact 1,k,[],rfl,?_,by omega,by simp; omega,rfl,by omega,aL _⟩⟩
  have hm:m h.next=some (.cells x.cells.length x.cells false):=hm
  rw [hm,U,bT]
end
section
variable {P:Program} {h h':H} {S:List ax} {X:ax} {v w x:V} {l:List Nat} {k:Nat}
theorem g9.slice {m:PM}{a b:Nat}(hv:g9 m v l)(pq:a≤b)(hb:b≤l.length): g9 m (slR v a b) ((l.take b).drop a):=by
 have U:∀x∈(l.take b).drop a,x<256:=fun x hx=>hv.1 x (gr (ij hx))
 have hlen:((l.take b).drop a).length=b-a:=by simp; omega
 obtain ⟨hl,tJ⟩:=hv
 rcases tJ with ⟨rfl | ⟨ea,rfl⟩,rfl⟩ | ⟨id,off,cap,n,cs,st,rfl,hg,h1,h2,h3,h4⟩
 ·simp at hb
  have:b=0:=by omega
  have:a=0:=by omega
  subst_vars
  exact ⟨by simp,.inl ⟨.inl rfl,by simp⟩⟩
 ·simp at hb
  have:b=0:=by omega
  have:a=0:=by omega
  subst_vars
  exact ⟨by simp,.inl ⟨.inr ⟨ea,rfl⟩,by simp⟩⟩
 ·have I:∀o,o=off+a∨b-a=0→(cs.drop o).take (b-a)=ofBytes ((l.take b).drop a):=by
   intro o ho
   rcases ho with rfl | h0
   ·have e:=ja (fun q=>(q.take b).drop a) h3
    simp only [ofBytes,←qI,←qJ] at e ⊢
    rw [←e,sW,o8 hb,sV,qH]
   ·rw [h0,o9]
    have:((l.take b).drop a)=[]:=qB (by omega)
    rw [this]; rfl
  cases cap with
  | exact c =>
   have hc:l.length≤c:=h4
   refine ⟨U,.inr ⟨id,_,_,n,cs,st,by rw [hlen]; rfl,hg,h1,?_,?_,?_⟩⟩
   ·rw [hlen]
    by_cases J:c=a
    ·rw [gR J,ah]; omega
    ·rw [cN J,az]; omega
   ·rw [hlen]
    by_cases J:c=a
    ·rw [gR J,ah]; exact I _ (.inr (by omega))
    ·rw [cN J,az,dO]; exact I _ (.inl rfl)
   ·show ((l.take b).drop a).length≤c-a
    rw [hlen]; omega
  | rest e alt =>
   have he:e=1:=h4
   subst he
   exact ⟨U,.inr ⟨id,_,_,n,cs,st,by rw [hlen]; rfl,hg,h1,by rw [hlen]; omega,by rw [hlen,dO]; exact I _ (.inl rfl),rfl⟩⟩
theorem mE {a b:Nat}(U:cR X (cV v l))(I:a≤b)(J:b≤l.length): cR X (cV (slR v a b) ((l.take b).drop a)):=fun m r hm =>
 (U m r hm).imp (fun h=>g9.slice h I J) (fun h=>g9.slice h I J)
theorem nO {a:Nat}(I:cR X (cV v l))(J:a≤l.length): cR X (cV (slR v a l.length) (l.drop a)):=by
 have:=mE I J (aL _)
 rwa [List.take_length] at this
theorem wN {b:Nat}(I:cR X (cV v l))(J:b≤l.length): cR X (cV (slR v 0 b) (l.take b)):=by
 have:=mE I (fh b) J
 rwa [dS] at this
theorem Sat.qg (s:Sat h S): Sat h (.arr k .bA []::S):=(s.gx aa).ga fun _ _ _=>⟨rfl,.inl ⟨rfl,rfl⟩⟩
theorem Sat.vQ (s:Sat h S): Sat h (bG .bA []::S):=(s.gx aa).ga fun _ _ _=>⟨by simp,.inl ⟨rfl,rfl⟩⟩
theorem Sat.rG (s:Sat h S): Sat h (AZ .bA []::S):=(s.gx aa).ga fun _ _ _=>⟨by simp,.inl ⟨.inl rfl,rfl⟩⟩
theorem yC (s:Sat h S){t e:TypeId}{i:TypeInfo}{z:V}{n:Nat}(hu:P.underlying t=some (.slice e))(hi:P.info? e=some i)(I:zeroT P e=some z)(J:i.size=k)(U:i.bytes≤4096)(hl:z.cells.length=k)
 (h1:1≤k)(hn:n<1073741824):
  ∃id h',makeSliceV P h t (.int .i64 (n:Int)) (.int .i64 (n:Int))=some (.sl id 0 n (.exact n),h')∧Sat h' (pt id (.cells (n*k) (repeatL z.cells n) false)::S):=by
 refine ⟨h.next,h.new (.cells (n*k) (repeatL z.cells n) false),?_,s.new _⟩
 simp only [makeSliceV,hu,hi,I,cQ,J,hl]
 rw [show (decide ((0:Int)≤(n:Int))&&decide ((n:Int)≤(n:Int))&&decide ((n:Int)<1073741824)&&Nat.ble i.bytes 4096&&Nat.beq k k&&Nat.ble 1 k)=true by
  rw [aO.2 U,aO.2 h1,dc]; simp; omega,ah]
theorem pL {h:H}{t e:TypeId}{i o n:Nat}{c:Cap}{v:V}(I:v=.sl i o n c)(hu:P.underlying t=some (.slice e)): lenV P h t v=some (.int .i64 n):=by subst I; exact GA hu
theorem Vh {h:H}{J:Array TypeId}{k:IntKind}{a b:Int}: builtinV P h .min J [.int k a,.int k b]=some (.int k (min a b),h):=by
 simp only [builtinV,foldV,Bg,dB,ah,iY]
 congr 3
 by_cases I:b<a
 ·rw [dN I,ah]; omega
 ·rw [eB I,az]; omega
theorem PE {E:List (Nat×V)}{c:Go.Call}{b:Builtin}{args:List V}{r:V}(I:c.callee=.builtin b)(J:lookArgs E c.args.toList=some args)(U:builtinV P h b c.argTypes args=some (r,h')): opE P E h (.call c)=some (r,h'):=by
 simp only [opE,I,J,U]
end
def slR3 (v:V)(a b m:Nat): V:=match v with
 | .sl id off _ _=>.sl id (cond (Nat.beq m a) off (off+a*1)) (b-a) (.exact (m-a))
 | v=>v
section
variable {P:Program} {h h':H} {S:List ax} {X:ax} {v w x:V} {l:List Nat} {k:Nat}
theorem g9.slice3 {m:PM}{a b c:Nat}(hv:g9 m v l)(pq:a≤b)(hb:b≤c)(hc:c≤l.length)(hl:1≤l.length): g9 m (slR3 v a b c) ((l.take b).drop a):=by
 have U:∀x∈(l.take b).drop a,x<256:=fun x hx=>hv.1 x (gr (ij hx))
 have hlen:((l.take b).drop a).length=b-a:=by simp; omega
 obtain ⟨_,tJ⟩:=hv
 rcases tJ with ⟨_,rfl⟩ | ⟨id,off,cap,n,cs,st,rfl,hg,h1,h2,h3,h4⟩
 ·simp at hl
 ·have I:∀o,o=off+a∨b-a=0→(cs.drop o).take (b-a)=ofBytes ((l.take b).drop a):=by
   intro o ho
   rcases ho with rfl | h0
   ·have e:=ja (fun q=>(q.take b).drop a) h3
    simp only [ofBytes,←qI,←qJ] at e ⊢
    rw [←e,sW,o8 (cI hb hc),sV,qH]
   ·rw [h0,o9]
    have:((l.take b).drop a)=[]:=qB (by omega)
    rw [this]; rfl
  refine ⟨U,.inr ⟨id,_,_,n,cs,st,by rw [hlen]; rfl,hg,h1,?_,?_,?_⟩⟩
  ·rw [hlen]
   by_cases J:c=a
   ·rw [gR J,ah]; omega
   ·rw [cN J,az]; omega
  ·rw [hlen]
   by_cases J:c=a
   ·rw [gR J,ah]; exact I _ (.inr (by omega))
   ·rw [cN J,az,dO]; exact I _ (.inl rfl)
  ·show ((l.take b).drop a).length≤c-a
   rw [hlen]; omega
theorem Ng {a b c:Nat}(hX:cR X (cV v l))(I:a≤b)(J:b≤c)(U:c≤l.length)(hl:1≤l.length): cR X (cV (slR3 v a b c) ((l.take b).drop a)):=fun m r hm =>
 (hX m r hm).imp (fun h=>g9.slice3 h I J U hl) (fun h=>g9.slice3 h I J U hl)
theorem IP {a b c:Nat}(hv:View h v l)(I:a≤b)(hb:b≤c)(hc:c≤l.length)(hl:1≤l.length): sliceV Tryz.prog h 32 v (some a) (some b) (some c)=some (slR3 v a b c):=by
 obtain ⟨_,J⟩:=hv
 rcases J with ⟨_,rfl⟩ | ⟨id,off,cap,n,cs,st,rfl,hg,h1,h2,h3,U⟩
 ·simp at hl
 ·cases cap with
  | exact q =>
   have hq:l.length≤q:=U
   simp only [sliceV,slR3,aS,fK,eO]
   rw [show (Nat.ble a b&&Nat.ble b c&&Nat.ble c q)=true by rw [aY,aY,aO,aO,aO]; omega,ah]
  | rest e alt =>
   have he:e=1:=U
   subst he
   simp only [sliceV,slR3,aS,fK,eO,dc]
   rw [show (true&&Nat.ble 1 1)=true from rfl,ah]
   rw [show (Nat.ble a b&&Nat.ble b c&&(Nat.ble c l.length||Nat.ble c (kA h id off 1))&&Nat.blt 0 l.length)=true by
    rw [aY,aY,aY,mT,aO,aO,aO]
    exact ⟨⟨⟨I,hb⟩,.inl hc⟩,by rw [Nat.blt]; exact aO.2 (by omega)⟩,ah]
theorem kx (I:View h v l)(J:1≤l.length): ∃id off cap,v=.sl id off l.length cap:=by
 rcases I.2 with ⟨_,rfl⟩ | ⟨id,off,cap,_,_,_,rfl,_⟩
 ·simp at J
 ·exact ⟨id,off,cap,rfl⟩
theorem fG {k:IntKind}{n:Int}(I:0≤n): gQ (some (V.int k n))=some (some n.toNat):=by
 simp only [gQ,bndV,dN I,ah]
end
section
variable {P:Program} {h h':H} {S:List ax} {X:ax} {v w x:V} {cs:List V} {l m:List Nat} {k:Nat}
theorem GM {t e:TypeId}{i q j:Nat}(s:Sat h S)(J:getA S j=some (.arr q v cs))(hi:i*q+q≤cs.length)(U:1≤q)(hu:P.underlying t=some (.slice e))(I:bF P e=some q):
  ∃id off,indexAddrV P t v (.int .i64 (i:Int))=some (.ptr id off)∧(cj P e=some true→loadV P h e (.ptr id off)=some (.agg ((cs.drop (i*q)).take q))):=by
 obtain ⟨m,r,h1,h2,h3⟩:=s.at J
 rcases h3.2 with ⟨_,rfl⟩ | ⟨id,n,cap,N,rest,rfl,hg,e1,e2,_⟩
 ·simp at hi; omega
 ·refine ⟨id,i*q,?_,fun ht => ?_⟩
  ·simp only [indexAddrV,hu,I,cQ]
   have:i<n:=by
    have h4:i*q+q=(i+1)*q:=by rw [ir,vB]
    rw [h4,e1] at hi
    exact Dn (Da hi U)
   rw [show (decide ((0:Int)≤(i:Int))&&decide ((i:Int)<(n:Int)))=true by simp; omega,ah]
   simp
  ·rw [RM ht I (h1 _ _ hg) (by simp; omega) (by omega)]
   rw [C8 (by omega),oQ (by simp; omega)]
theorem Sat.Vi (s:Sat h (bG v l::X::S))(hX:cR X (cV w m)): ∀i∈rowIds w,i∉rowIds v:=by
 intro i hi jL
 obtain ⟨a,r,h1,h2,h3,b,c,g1,g2,g3,g4,d,e,k1,k2,k3,k4,k5⟩:=s.ok
 have hb:=JQ g4 i jL
 have hw:∀q:PM,g9 q w m→q i≠none:=fun q J=>by
  rcases J.2 with ⟨rfl | ⟨ea,rfl⟩,_⟩ | ⟨id,off,cap,n,cs,st,rfl,hg,_⟩
  ·simp [rowIds] at hi
  ·simp [rowIds] at hi
  ·simp [rowIds] at hi; subst hi; rw [hg]; simp
 rcases hX _ _ k4 with J | J
 ·have h4:=hw _ J
  cases hd:d i with
  | none=>exact h4 hd
  | some o =>
   rcases g1 i with I | I
   ·exact hb I
   ·rw [k2 _ _ hd] at I; cases I
 ·have h4:=hw _ J
  cases U:b i with
  | none=>exact hb U
  | some o =>
   rcases h3 i with I | I
   ·rw [g2 _ _ U] at I; cases I
   ·exact h4 I
end
end Go.Proofs.YtconhghphklfjaaGreat.Am
