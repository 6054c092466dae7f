/- AtomCuts: a part of its proof; conditions: its statement's. -/
import Derived.Test.YtconhghphklfjaaGreatC01
import Derived.Test.YtconhghphklfjaaGreatProg
import Derived.KernelRfl
import Derived.Test.YtconhghphklfjaaGreatC14
namespace Go.Proofs.YtconhghphklfjaaGreat.Am
open Go
theorem jG : bG Tryz.prog 3=some 1:=by kernel_rfl
theorem dr : cg Tryz.prog 3=some false:=by kernel_rfl
theorem E5 : zeroT Tryz.prog 3=some (.int .i64 0):=by kernel_rfl
theorem x_ : bG Tryz.prog 4=some 1:=by kernel_rfl
theorem jW : cg Tryz.prog 4=some false:=by kernel_rfl
theorem YT : zeroT Tryz.prog 4=some (.bool false):=by kernel_rfl
theorem R2 : bG Tryz.prog 5=some 1:=by kernel_rfl
theorem YU : zeroT Tryz.prog 5=some (.int .u8 0):=by kernel_rfl
theorem R3 : bG Tryz.prog 9=some 1:=by kernel_rfl
theorem YV : cg Tryz.prog 9=some false:=by kernel_rfl
theorem VG : zeroT Tryz.prog 9=some (.str []):=by kernel_rfl
theorem jR : cg Tryz.prog 23=some false:=by kernel_rfl
theorem BF : cg Tryz.prog 24=some false:=by kernel_rfl
theorem VH : bG Tryz.prog 27=some 1:=by kernel_rfl
theorem GV : cg Tryz.prog 27=some false:=by kernel_rfl
theorem aac : zeroT Tryz.prog 28=some (.int .i64 0):=by kernel_rfl
theorem jl : bG Tryz.prog 32=some 1:=by kernel_rfl
theorem bL : cg Tryz.prog 32=some false:=by kernel_rfl
theorem yK : zeroT Tryz.prog 32=some .bz:=by kernel_rfl
theorem rq : bG Tryz.prog 35=some 1:=by kernel_rfl
theorem gj : cg Tryz.prog 35=some false:=by kernel_rfl
theorem VI : zeroT Tryz.prog 35=some (.int .u64 0):=by kernel_rfl
theorem Lq : bG Tryz.prog 38=some 1:=by kernel_rfl
theorem uw : cg Tryz.prog 38=some false:=by kernel_rfl
theorem gE : bG Tryz.prog 40=some 6:=by kernel_rfl
theorem nt : cg Tryz.prog 40=some true:=by kernel_rfl
theorem ru : zeroT Tryz.prog 40=some (.agg [(.int .i64 0),(.int .u64 0),(.int .u64 0),(.int .u64 0),.bz,.bz]):=by kernel_rfl
theorem ux (a b:Nat): fieldAddrV Tryz.prog 40 (.ptr a b) 0=some (.ptr a (b+0)):=by kernel_rfl
theorem Nt (a b:Nat): fieldAddrV Tryz.prog 40 (.ptr a b) 1=some (.ptr a (b+1)):=by kernel_rfl
theorem Nu (a b:Nat): fieldAddrV Tryz.prog 40 (.ptr a b) 2=some (.ptr a (b+2)):=by kernel_rfl
theorem Nv (a b:Nat): fieldAddrV Tryz.prog 40 (.ptr a b) 3=some (.ptr a (b+3)):=by kernel_rfl
theorem yL (a b:Nat): fieldAddrV Tryz.prog 40 (.ptr a b) 4=some (.ptr a (b+4)):=by kernel_rfl
theorem mR (a b:Nat): fieldAddrV Tryz.prog 40 (.ptr a b) 5=some (.ptr a (b+5)):=by kernel_rfl
theorem w5 (ps:List (Nat×V)): buildV Tryz.prog 40 ps=(fillV (nth [(0,1),(1,1),(2,1),(3,1),(4,1),(5,1)]) ((.agg [(.int .i64 0),(.int .u64 0),(.int .u64 0),(.int .u64 0),.bz,.bz]):V).cells ps).map .agg:=by kernel_rfl
theorem nu : cg Tryz.prog 44=some false:=by kernel_rfl
theorem sD : bG Tryz.prog 54=some 4:=by kernel_rfl
theorem Lr : cg Tryz.prog 54=some true:=by kernel_rfl
theorem ry : zeroT Tryz.prog 54=some (.agg [(.int .i64 0),(.int .i64 0),(.bool false),.bz]):=by kernel_rfl
theorem qo (a b:Nat): fieldAddrV Tryz.prog 54 (.ptr a b) 0=some (.ptr a (b+0)):=by kernel_rfl
theorem r7 (a b:Nat): fieldAddrV Tryz.prog 54 (.ptr a b) 1=some (.ptr a (b+1)):=by kernel_rfl
theorem yM (a b:Nat): fieldAddrV Tryz.prog 54 (.ptr a b) 2=some (.ptr a (b+2)):=by kernel_rfl
theorem ow (a b:Nat): fieldAddrV Tryz.prog 54 (.ptr a b) 3=some (.ptr a (b+3)):=by kernel_rfl
theorem P5 (ps:List (Nat×V)): buildV Tryz.prog 54 ps=(fillV (nth [(0,1),(1,1),(2,1),(3,1)]) ((.agg [(.int .i64 0),(.int .i64 0),(.bool false),.bz]):V).cells ps).map .agg:=by kernel_rfl
theorem P6 : cg Tryz.prog 60=some false:=by kernel_rfl
theorem P7 : bG Tryz.prog 62=some 4:=by kernel_rfl
theorem VJ : cg Tryz.prog 62=some true:=by kernel_rfl
theorem aad : zeroT Tryz.prog 62=some (.agg [(.int .i64 0),(.int .i64 0),.bz,.bz]):=by kernel_rfl
theorem GW (a b:Nat): fieldAddrV Tryz.prog 62 (.ptr a b) 0=some (.ptr a (b+0)):=by kernel_rfl
theorem GX (a b:Nat): fieldAddrV Tryz.prog 62 (.ptr a b) 1=some (.ptr a (b+1)):=by kernel_rfl
theorem GY (a b:Nat): fieldAddrV Tryz.prog 62 (.ptr a b) 2=some (.ptr a (b+2)):=by kernel_rfl
theorem yN (a b:Nat): fieldAddrV Tryz.prog 62 (.ptr a b) 3=some (.ptr a (b+3)):=by kernel_rfl
theorem vz : cg Tryz.prog 77=some false:=by kernel_rfl
theorem r8 (a b:Nat): fieldAddrV Tryz.prog 85 (.ptr a b) 0=some (.ptr a (b+0)):=by kernel_rfl
theorem lq (a b:Nat): fieldAddrV Tryz.prog 85 (.ptr a b) 1=some (.ptr a (b+1)):=by kernel_rfl
theorem ox (a b:Nat): fieldAddrV Tryz.prog 85 (.ptr a b) 2=some (.ptr a (b+2)):=by kernel_rfl
theorem uy (a b:Nat): fieldAddrV Tryz.prog 85 (.ptr a b) 3=some (.ptr a (b+3)):=by kernel_rfl
theorem GZ (a b:Nat): fieldAddrV Tryz.prog 85 (.ptr a b) 4=some (.ptr a (b+4)):=by kernel_rfl
theorem CI (a b:Nat): fieldAddrV Tryz.prog 85 (.ptr a b) 5=some (.ptr a (b+5)):=by kernel_rfl
theorem VK (ps:List (Nat×V)): buildV Tryz.prog 85 ps=(fillV (nth [(0,1),(1,1),(2,1),(3,1),(4,1),(5,1)]) ((.agg [.cF,.cF,.cF,.cF,.bz,(.int .u64 0)]):V).cells ps).map .agg:=by kernel_rfl
theorem l_ : cg Tryz.prog 86=some false:=by kernel_rfl
theorem aae : bG Tryz.prog 88=some 3:=by kernel_rfl
theorem uz (a b:Nat): fieldAddrV Tryz.prog 88 (.ptr a b) 0=some (.ptr a (b+0)):=by kernel_rfl
theorem uA (a b:Nat): fieldAddrV Tryz.prog 88 (.ptr a b) 1=some (.ptr a (b+1)):=by kernel_rfl
theorem G0 (a b:Nat): fieldAddrV Tryz.prog 88 (.ptr a b) 2=some (.ptr a (b+2)):=by kernel_rfl
theorem aaf (ps:List (Nat×V)): buildV Tryz.prog 88 ps=(fillV (nth [(0,1),(1,1),(2,1)]) ((.agg [.cF,.lD,(.bool false)]):V).cells ps).map .agg:=by kernel_rfl
theorem P8 : bG Tryz.prog 98=some 1:=by kernel_rfl
theorem qp : cg Tryz.prog 98=some false:=by kernel_rfl
theorem pK (a b:Nat): fieldAddrV Tryz.prog 111 (.ptr a b) 0=some (.ptr a (b+0)):=by kernel_rfl
theorem gF (a b:Nat): fieldAddrV Tryz.prog 111 (.ptr a b) 1=some (.ptr a (b+1)):=by kernel_rfl
theorem eF (a b:Nat): fieldAddrV Tryz.prog 111 (.ptr a b) 2=some (.ptr a (b+2)):=by kernel_rfl
theorem iW (a b:Nat): fieldAddrV Tryz.prog 111 (.ptr a b) 3=some (.ptr a (b+3)):=by kernel_rfl
theorem pL (a b:Nat): fieldAddrV Tryz.prog 111 (.ptr a b) 4=some (.ptr a (b+4)):=by kernel_rfl
theorem pM (a b:Nat): fieldAddrV Tryz.prog 111 (.ptr a b) 5=some (.ptr a (b+5)):=by kernel_rfl
theorem R4 (ps:List (Nat×V)): buildV Tryz.prog 111 ps=(fillV (nth [(0,1),(1,1),(2,1),(3,1),(4,1),(5,1)]) ((.agg [.cF,(.int .u64 0),.bz,.bz,(.int .i64 0),(.int .u64 0)]):V).cells ps).map .agg:=by kernel_rfl
theorem rP : cg Tryz.prog 119=some false:=by kernel_rfl
theorem R5 (a b l:Nat)(c:Cap)(k:IntKind)(n:Int): indexAddrV Tryz.prog 119 (.sl a b l c) (.int k n)=cond (decide (0≤n)&&decide (n<(l:Int))) (some (.ptr a (b+n.toNat*1))) none:=by kernel_rfl
theorem R6 : bG Tryz.prog 120=some 1:=by kernel_rfl
theorem CJ : cg Tryz.prog 120=some false:=by kernel_rfl
theorem Xv : bG Tryz.prog 121=some 1:=by kernel_rfl
theorem F3 : cg Tryz.prog 121=some false:=by kernel_rfl
theorem J9 (a b:Nat): fieldAddrV Tryz.prog 123 (.ptr a b) 0=some (.ptr a (b+0)):=by kernel_rfl
theorem m4 (a b:Nat): fieldAddrV Tryz.prog 123 (.ptr a b) 1=some (.ptr a (b+1)):=by kernel_rfl
theorem tY (a b:Nat): fieldAddrV Tryz.prog 123 (.ptr a b) 2=some (.ptr a (b+2)):=by kernel_rfl
theorem AD (a b:Nat): fieldAddrV Tryz.prog 123 (.ptr a b) 3=some (.ptr a (b+3)):=by kernel_rfl
theorem jm (a b:Nat): fieldAddrV Tryz.prog 123 (.ptr a b) 4=some (.ptr a (b+4)):=by kernel_rfl
theorem nQ (a b:Nat): fieldAddrV Tryz.prog 123 (.ptr a b) 5=some (.ptr a (b+5)):=by kernel_rfl
theorem wk (a b:Nat): fieldAddrV Tryz.prog 123 (.ptr a b) 6=some (.ptr a (b+6)):=by kernel_rfl
theorem AE (a b:Nat): fieldAddrV Tryz.prog 123 (.ptr a b) 7=some (.ptr a (b+7)):=by kernel_rfl
theorem AF (a b:Nat): fieldAddrV Tryz.prog 123 (.ptr a b) 8=some (.ptr a (b+8)):=by kernel_rfl
theorem jo (a b:Nat): fieldAddrV Tryz.prog 123 (.ptr a b) 9=some (.ptr a (b+9)):=by kernel_rfl
theorem uB (a b:Nat): fieldAddrV Tryz.prog 123 (.ptr a b) 10=some (.ptr a (b+10)):=by kernel_rfl
theorem BG (a b:Nat): fieldAddrV Tryz.prog 123 (.ptr a b) 11=some (.ptr a (b+11)):=by kernel_rfl
theorem Xw (ps:List (Nat×V)): buildV Tryz.prog 123 ps=(fillV (nth [(0,1),(1,1),(2,1),(3,1),(4,1),(5,1),(6,1),(7,1),(8,1),(9,1),(10,1),(11,1)]) ((.agg [(.int .i64 0),.bz,.bz,.lD,.bz,(.int .i64 0),.bz,(.int .i64 0),(.int .i64 0),(.bool false),.cF,.bz]):V).cells ps).map .agg:=by kernel_rfl
theorem CK : bG Tryz.prog 125=some 2:=by kernel_rfl
theorem R7 : cg Tryz.prog 125=some true:=by kernel_rfl
theorem F4 : zeroT Tryz.prog 125=some (.agg [(.int .i64 0),.bz]):=by kernel_rfl
theorem Ed (a b:Nat): fieldAddrV Tryz.prog 125 (.ptr a b) 0=some (.ptr a (b+0)):=by kernel_rfl
theorem Ee (a b:Nat): fieldAddrV Tryz.prog 125 (.ptr a b) 1=some (.ptr a (b+1)):=by kernel_rfl
theorem Xx (ps:List (Nat×V)): buildV Tryz.prog 125 ps=(fillV (nth [(0,1),(1,1)]) ((.agg [(.int .i64 0),.bz]):V).cells ps).map .agg:=by kernel_rfl
theorem Ls : bG Tryz.prog 130=some 2:=by kernel_rfl
theorem Xy : cg Tryz.prog 130=some true:=by kernel_rfl
theorem F5 : zeroT Tryz.prog 130=some (.agg [(.int .i64 0),(.int .u64 0)]):=by kernel_rfl
theorem To (a b:Nat): fieldAddrV Tryz.prog 130 (.ptr a b) 1=some (.ptr a (b+1)):=by kernel_rfl
theorem Xz (ps:List (Nat×V)): buildV Tryz.prog 130 ps=(fillV (nth [(0,1),(1,1)]) ((.agg [(.int .i64 0),(.int .u64 0)]):V).cells ps).map .agg:=by kernel_rfl
theorem R8 : bG Tryz.prog 134=some 2:=by kernel_rfl
theorem XA : cg Tryz.prog 134=some true:=by kernel_rfl
theorem XB : zeroT Tryz.prog 134=some (.agg [(.int .i64 0),.bz]):=by kernel_rfl
theorem tZ (a b:Nat): fieldAddrV Tryz.prog 134 (.ptr a b) 0=some (.ptr a (b+0)):=by kernel_rfl
theorem AG (a b:Nat): fieldAddrV Tryz.prog 134 (.ptr a b) 1=some (.ptr a (b+1)):=by kernel_rfl
theorem w6 : cg Tryz.prog 136=some false:=by kernel_rfl
theorem oF : cg Tryz.prog 137=some false:=by kernel_rfl
theorem XC (a b l:Nat)(c:Cap)(k:IntKind)(n:Int): indexAddrV Tryz.prog 137 (.sl a b l c) (.int k n)=cond (decide (0≤n)&&decide (n<(l:Int))) (some (.ptr a (b+n.toNat*5))) none:=by kernel_rfl
theorem rQ : cg Tryz.prog 138=some false:=by kernel_rfl
theorem wm (a b:Nat): fieldAddrV Tryz.prog 140 (.ptr a b) 0=some (.ptr a (b+0)):=by kernel_rfl
theorem Tp (a b:Nat): fieldAddrV Tryz.prog 140 (.ptr a b) 1=some (.ptr a (b+1)):=by kernel_rfl
theorem kU (a b:Nat): fieldAddrV Tryz.prog 140 (.ptr a b) 2=some (.ptr a (b+2)):=by kernel_rfl
theorem rz (a b:Nat): fieldAddrV Tryz.prog 140 (.ptr a b) 3=some (.ptr a (b+3)):=by kernel_rfl
theorem m5 (a b:Nat): fieldAddrV Tryz.prog 140 (.ptr a b) 4=some (.ptr a (b+4)):=by kernel_rfl
theorem Ef (a b:Nat): fieldAddrV Tryz.prog 140 (.ptr a b) 5=some (.ptr a (b+5)):=by kernel_rfl
theorem XD (ps:List (Nat×V)): buildV Tryz.prog 140 ps=(fillV (nth [(0,1),(1,1),(2,1),(3,1),(4,1),(5,1)]) ((.agg [.cF,.cF,.bz,.lD,.lD,(.int .i64 0)]):V).cells ps).map .agg:=by kernel_rfl
theorem va : bG Tryz.prog 143=some 2:=by kernel_rfl
theorem Lt : cg Tryz.prog 143=some true:=by kernel_rfl
theorem w8 : zeroT Tryz.prog 143=some (.agg [(.int .u64 0),(.bool false)]):=by kernel_rfl
theorem Eg (a b:Nat): fieldAddrV Tryz.prog 143 (.ptr a b) 0=some (.ptr a (b+0)):=by kernel_rfl
theorem J_ (cs:List V): rX Tryz.prog 143 (.agg cs) 0=nth cs 0:=by kernel_rfl
theorem Eh (a b:Nat): fieldAddrV Tryz.prog 143 (.ptr a b) 1=some (.ptr a (b+1)):=by kernel_rfl
theorem XE (ps:List (Nat×V)): buildV Tryz.prog 143 ps=(fillV (nth [(0,1),(1,1)]) ((.agg [(.int .u64 0),(.bool false)]):V).cells ps).map .agg:=by kernel_rfl
theorem dV : bG Tryz.prog 146=some 1:=by kernel_rfl
theorem gG : cg Tryz.prog 146=some true:=by kernel_rfl
theorem oG : zeroT Tryz.prog 146=some (.agg [.bz]):=by kernel_rfl
theorem pN (a b:Nat): fieldAddrV Tryz.prog 146 (.ptr a b) 0=some (.ptr a (b+0)):=by kernel_rfl
theorem CM (ps:List (Nat×V)): buildV Tryz.prog 146 ps=(fillV (nth [(0,1)]) ((.agg [.bz]):V).cells ps).map .agg:=by kernel_rfl
theorem R9 (a b:Nat)(k:IntKind)(n:Int): indexAddrV Tryz.prog 147 (.ptr a b) (.int k n)=cond (decide (0≤n)&&decide (n<(512:Nat))) (some (.ptr a (b+n.toNat*1))) none:=by kernel_rfl
theorem XF : bG Tryz.prog 151=some 512:=by kernel_rfl
theorem XG : cg Tryz.prog 151=some true:=by kernel_rfl
theorem CN : bG Tryz.prog 167=some 5:=by kernel_rfl
theorem XH : cg Tryz.prog 167=some true:=by kernel_rfl
theorem XI : zeroT Tryz.prog 167=some (.agg [(.int .i64 0),.bz,(.int .i64 0),(.bool false),(.bool false)]):=by kernel_rfl
theorem pO (a b:Nat): fieldAddrV Tryz.prog 167 (.ptr a b) 0=some (.ptr a (b+0)):=by kernel_rfl
theorem AH (a b:Nat): fieldAddrV Tryz.prog 167 (.ptr a b) 1=some (.ptr a (b+1)):=by kernel_rfl
theorem rA (a b:Nat): fieldAddrV Tryz.prog 167 (.ptr a b) 2=some (.ptr a (b+2)):=by kernel_rfl
theorem Ei (a b:Nat): fieldAddrV Tryz.prog 167 (.ptr a b) 3=some (.ptr a (b+3)):=by kernel_rfl
theorem Ej (a b:Nat): fieldAddrV Tryz.prog 167 (.ptr a b) 4=some (.ptr a (b+4)):=by kernel_rfl
theorem F6 (ps:List (Nat×V)): buildV Tryz.prog 167 ps=(fillV (nth [(0,1),(1,1),(2,1),(3,1),(4,1)]) ((.agg [(.int .i64 0),.bz,(.int .i64 0),(.bool false),(.bool false)]):V).cells ps).map .agg:=by kernel_rfl
theorem R_ : cg Tryz.prog 179=some false:=by kernel_rfl
theorem pP (a b:Nat): fieldAddrV Tryz.prog 181 (.ptr a b) 0=some (.ptr a (b+0)):=by kernel_rfl
theorem Ka (a b:Nat): fieldAddrV Tryz.prog 181 (.ptr a b) 1=some (.ptr a (b+1)):=by kernel_rfl
theorem Sa (ps:List (Nat×V)): buildV Tryz.prog 181 ps=(fillV (nth [(0,1),(1,1)]) ((.agg [.lD,.lD]):V).cells ps).map .agg:=by kernel_rfl
theorem XJ (a b l:Nat)(c:Cap)(k:IntKind)(n:Int): indexAddrV Tryz.prog 186 (.sl a b l c) (.int k n)=cond (decide (0≤n)&&decide (n<(l:Int))) (some (.ptr a (b+n.toNat*1))) none:=by kernel_rfl
theorem mc (a b:Nat): fieldAddrV Tryz.prog 202 (.ptr a b) 0=some (.ptr a (b+0)):=by kernel_rfl
theorem XK (ps:List (Nat×V)): buildV Tryz.prog 202 ps=(fillV (nth [(0,1)]) ((.agg [.bz]):V).cells ps).map .agg:=by kernel_rfl
theorem XL (ps:List (Nat×V)): buildV Tryz.prog 205 ps=(fillV (fun i=>some (i*1,1)) ((.agg [(.int .u64 0),(.int .u64 0),(.int .u64 0)]):V).cells ps).map .agg:=by kernel_rfl
theorem Lu : bG Tryz.prog 219=some 1:=by kernel_rfl
theorem Lw : cg Tryz.prog 219=some false:=by kernel_rfl
theorem XM (ps:List (Nat×V)): buildV Tryz.prog 220 ps=(fillV (fun i=>some (i*1,1)) ((.agg [.cF,.cF,.cF]):V).cells ps).map .agg:=by kernel_rfl
def slR (v:V)(a b:Nat): V:=match v with
 | .sl id off _ (.exact c)=>.sl id (cond (Nat.beq c a) off (off+a*1)) (b-a) (.exact (c-a))
 | .sl id off _ (.rest _ alt)=>.sl id (off+a*1) (b-a) (.rest 1 (cond (Nat.beq a 0) alt (cond (Nat.blt a b) (off+a*1) off)))
 | v=>v
theorem iI {h:H}{v:V}{l:List Nat}{a b:Nat}(hv:View h v l)(pH:a≤b)(hb:b≤l.length):
  sliceV Tryz.prog h 32 v (some a) (some b) none=some (slR v a b)∧View h (slR v a b) ((l.take b).drop a)∧∀i∈rowIds (slR v a b),i∈rowIds v:=by
 have U:∀x∈(l.take b).drop a,x<256:=fun x hx=>hv.1 x (gz (iw hx))
 have hlen:((l.take b).drop a).length=b-a:=by simp; omega
 obtain ⟨hl,uf⟩:=hv
 rcases uf with ⟨rfl | ⟨ea,rfl⟩,rfl⟩ | ⟨id,off,cap,n,cs,st,rfl,hg,h1,h2,h3,h4⟩
 ·simp only [bY] at hb
  have:b=0:=by omega
  have:a=0:=by omega
  subst_vars
  refine ⟨?_,⟨by simp,.inl ⟨.inl rfl,by simp⟩⟩,fun i hi=>hi⟩
  simp only [sliceV,aS,fu]
  rfl
 ·simp only [bY] at hb
  have:b=0:=by omega
  have:a=0:=by omega
  subst_vars
  refine ⟨?_,⟨by simp,.inl ⟨.inr ⟨ea,rfl⟩,by simp⟩⟩,fun i hi=>hi⟩
  simp only [sliceV,aS,fu]
  rfl
 ·have I:∀o,o=off+a∨b-a=0→(cs.drop o).take (b-a)=ofBytes ((l.take b).drop a):=by
   intro o ho
   rcases vM (b-a) with hz | hz
   ·rw [hz,pE]
    have:(l.take b).drop a=[]:=qL (by omega)
    rw [this]; rfl
   ·have xX:o=off+a:=by rcases ho with ho | ho; exact ho; omega
    subst xX
    have e1:ofBytes ((l.take b).drop a)=((ofBytes l).take b).drop a:=by simp [ofBytes,qT,qS]
    rw [e1,←h3,tJ,pq hb,tI,qR]
  cases cap with
  | exact c =>
   have hc:l.length≤c:=h4
   refine ⟨?_,⟨U,.inr ⟨id,_,_,n,cs,st,by rw [hlen]; rfl,hg,h1,?_,?_,?_⟩⟩,fun i hi=>by simpa [rowIds,slR] using hi⟩
   ·simp only [sliceV,slR,aS,fu,eT]
    rw [show (Nat.ble a b&&Nat.ble b c)=true by rw [aY,aQ,aQ]; omega,ag]
   ·rw [hlen]
    by_cases J:c=a
    ·rw [gX J,ag]; omega
    ·rw [cS J,az]; omega
   ·rw [hlen]
    by_cases J:c=a
    ·rw [gX J,ag]; exact I off (.inr (by omega))
    ·rw [cS J,az,dN]; exact I _ (.inl rfl)
   ·show _≤c-a
    rw [hlen]; omega
  | rest e alt =>
   have he:e=1:=h4
   subst he
   refine ⟨?_,⟨U,.inr ⟨id,_,_,n,cs,st,by rw [hlen]; rfl,hg,h1,by rw [hlen]; omega,by rw [hlen,dN]; exact I _ (.inl rfl),rfl⟩⟩,fun i hi=>by simpa [rowIds,slR] using hi⟩
   simp only [sliceV,slR,aS,fu,eT,dh]
   rw [show (true&&Nat.ble 1 1)=true from rfl,ag]
   rw [show (Nat.ble a b&&(Nat.ble b l.length||Nat.ble b (kE h id off 1)))=true by rw [aY,mX,aQ,aQ]; exact ⟨pH,.inl hb⟩,ag]
theorem er {h:H}{v:V}{l:List Nat}{a:Nat}(U:View h v l)(ha:a≤l.length):
  sliceV Tryz.prog h 32 v (some a) none none=some (slR v a l.length)∧View h (slR v a l.length) (l.drop a)∧∀i∈rowIds (slR v a l.length),i∈rowIds v:=by
 obtain ⟨I,h2,h3⟩:=iI U ha (aK _)
 refine ⟨?_,by simpa using h2,h3⟩
 obtain ⟨_,J⟩:=U
 rcases J with ⟨rfl | ⟨ea,rfl⟩,rfl⟩ | ⟨id,off,cap,n,cs,st,rfl,hg,g1,g2,g3,g4⟩
 ·simpa [sliceV,aS,fu] using I
 ·simpa [sliceV,aS,fu] using I
 ·rw [←I]
  simp only [sliceV,aS,fu,nK,eT]
theorem ik {h:H}{v:V}{l:List Nat}{b:Nat}(U:View h v l)(hb:b≤l.length):
  sliceV Tryz.prog h 32 v none (some b) none=some (slR v 0 b)∧View h (slR v 0 b) (l.take b)∧∀i∈rowIds (slR v 0 b),i∈rowIds v:=by
 obtain ⟨I,h2,h3⟩:=iI U (eU b) hb
 refine ⟨?_,by simpa using h2,h3⟩
 obtain ⟨_,J⟩:=U
 rcases J with ⟨rfl | ⟨ea,rfl⟩,rfl⟩ | ⟨id,off,cap,n,cs,st,rfl,hg,g1,g2,g3,g4⟩
 ·simpa [sliceV,aS,fu] using I
 ·simpa [sliceV,aS,fu] using I
 ·rw [←I]
  simp only [sliceV,aS,fu,nK,eT]
theorem ie {h:H}{v:V}{l:List Nat}{i b:Nat}(U:View h v l)(hi:l[i]?=some b):
  ∃id off,indexAddrV Tryz.prog 32 v (.int .i64 (i:Int))=some (.ptr id off)∧loadV Tryz.prog h 5 (.ptr id off)=some (.int .u8 (b:Int)):=by
 obtain ⟨hl,I⟩:=U
 have J:i<l.length:=(List.getElem?_eq_some_iff.1 hi).1
 rcases I with ⟨_,rfl⟩ | ⟨id,off,cap,n,cs,st,rfl,hg,h1,h2,h3,h4⟩
 ·simp at hi
 ·refine ⟨id,off+i*1,?_,?_⟩
  ·simp only [indexAddrV,aS,fu,cP]
   rw [show (decide ((0:Int)≤(i:Int))&&decide ((i:Int)<(l.length:Int)))=true by simp; omega,ag]
  ·simp only [loadV,J4,xN,hg,fR,dN]
   have e:=jh (fun q=>q[i]?) h3
   simp only [lU,jO,aj J] at e
   rw [e]
   simp [ofBytes,hi]
theorem View.cells {h:H}{v:V}{l:List Nat}(I:View h v l): v.cells=[v]∧Am.storable v=true:=by
 obtain ⟨_,I⟩:=I
 rcases I with ⟨rfl | ⟨J,rfl⟩,_⟩ | ⟨id,off,cap,n,cs,st,rfl,_⟩ <;> exact ⟨rfl,rfl⟩
def plain1 : V→Bool
 | .bool _ | .int _ _ | .str _ | .cF | .ptr _ _ | .bz | .sl _ _ _ _ | .lD | .map _ | .EK | .mq | .uc _ _=>true
 | .fn (.func _) [] []=>true
 | _=>false
def VL : V→Bool
 | .agg l=>l.all plain1
 | .bD l=>l.all plain1
 | .iface _ v=>plain1 v
 | v=>plain1 v
theorem Lx (k:FloatKind): fkBeq k k=true:=by cases k <;> rfl
theorem G1 : ∀l:List Nat,natsBeq l l=true:=fun l=>by rw [vy]; simp
theorem P9 (v:V)(h:plain1 v=true): v.beq v=true:=by
 cases v <;> simp [plain1,V.beq,dD,lF,A_,G1,Lx] at h ⊢
 rename_i f a b
 cases f <;> cases a <;> cases b <;> simp [plain1,V.beq,V.beqL] at h ⊢
theorem Sb : ∀(l:List V),l.all plain1=true→V.beqL l l=true:=by
 intro l
 induction l with
 | nil=>intro _; rfl
 | cons v l I =>
  intro h
  simp only [iR,aY] at h
  simp only [V.beqL,P9 v h.1,ag,I h.2]
theorem aW (v:V)(h:VL v=true): v.beq v=true:=by
 cases v with
 | agg l=>exact Sb l h
 | bD l=>exact Sb l h
 | iface t v=>simp only [V.beq,dh,Ak]; exact P9 v h
 | _=>exact P9 _ h
section
variable {P:Program} {h h':H} {S:List ax} {X:ax} {v w:V} {l m:List Nat}
theorem CO (s:Sat h (bH v l::X::S))(J:cT X (cU w m))(I:l.length+m.length≤140737488355328):
  ∃v' h',appendV Tryz.prog h #[32,32] v w=some (v',h')∧Sat h' (bH v' (l++m)::X::S):=by
 obtain ⟨v',h',U,e2,e3,e4⟩:=yF s.wf (s.buf (k:=0) rfl) (s.aG (k:=1) rfl J) I
 exact ⟨v',h',U,s.AB e3 e2 e4⟩
theorem E6 (s:Sat h S){c:Nat}(I:c<1073741824):
  ∃v h',makeSliceV Tryz.prog h 32 (.int .i64 0) (.int .i64 (c:Int))=some (v,h')∧Sat h' (bH v []::S):=by
 obtain ⟨v,h',J,U,e3,e4⟩:=Cx s.wf I
 exact ⟨v,h',J,s.CH e3 U e4⟩
theorem Tq : ∀n:Nat,repeatL [V.int .u8 0] n=ofBytes (List.replicate n 0):=by
 intro n
 induction n with
 | zero=>rfl
 | succ n I=>simp only [repeatL,I,ofBytes,tw,bJ]; rfl
theorem Nw (s:Sat h S){c:Nat}(J:c<1073741824):
  ∃v h',makeSliceV Tryz.prog h 32 (.int .i64 (c:Int)) (.int .i64 (c:Int))=some (v,h')∧Sat h' (bH v (List.replicate c 0)::S):=by
 obtain ⟨i,hi,i1,i2⟩:=we
 have I:jD (h.new (.cells c (repeatL [.int .u8 0] c) false)) (.sl h.next 0 c (.exact c)) (List.replicate c 0):=by
  refine ⟨fun b I=>by have:=qM I; omega,.inr (.inl ⟨h.next,[],c,by simp,?_,by simp⟩)⟩
  rw [fM,aj rfl,Tq,bR]
 refine ⟨.sl h.next 0 c (.exact c),h.new (.cells c (repeatL [.int .u8 0] c) false),?_,s.CH (ee.wZ s.wf _) I fun i hi=>by simp [rowIds] at hi; omega⟩
 simp only [makeSliceV,aS,hi,oI,i1,i2,V.cells,bj,bY,cP,dN]
 rw [show (decide ((0:Int)≤(c:Int))&&decide ((c:Int)≤(c:Int))&&decide ((c:Int)<1073741824)&&Nat.ble 1 4096&&Nat.beq (0+1) 1&&Nat.ble 1 1)=true by simp; omega,ag]
theorem Nx (s:Sat h S){b:Nat}(I:b<256): ∃v h',buildSliceV Tryz.prog h 32 1 [(0,.int .u8 b)]=some (v,h')∧Sat h' (bH v [b]::S):=by
 obtain ⟨v,h',J,U,e3,e4⟩:=E4 s.wf I
 exact ⟨v,h',J,s.CH e3 U e4⟩
theorem Sat.kB (s:Sat h (bH v l::S))(hl:1≤l.length): ∃id c cap rest,v=.sl id 0 l.length cap∧Sat h (pt id (.cells c (ofBytes l++rest) false)::S)∧l.length+rest.length=c ∧
  (∀(h':H) (I:List Nat),I.length=l.length→(∀b∈I,b<256)→Sat h' (pt id (.cells c (ofBytes I++rest) false)::S)→Sat h' (bH v I::S)):=by
 obtain ⟨m,r,h1,h2,h3,a,b,g1,g2,g3,⟨gl,g4⟩,g5⟩:=s.ok
 rcases g4 with ⟨rfl,rfl⟩ | ⟨id,cs,c,rfl,hg,hc⟩ | ⟨id,rfl,hg,h5⟩
 ·simp at hl
 ·refine ⟨id,c,_,cs,rfl,⟨s.wf,m,r,h1,h2,h3,a,b,g1,g2,g3,hg,g5⟩,hc,fun h' I U e2 s'=>s'.fP ?_⟩
  intro m' r' hm
  exact ⟨e2,.inr (.inl ⟨id,cs,c,by rw [U],hm,by omega⟩)⟩
 ·refine ⟨id,l.length,_,[],rfl,⟨s.wf,m,r,h1,h2,h3,a,b,g1,g2,g3,by rw [bR]; exact hg,g5⟩,by simp,fun h' I U e2 s'=>s'.fP ?_⟩
  intro m' r' hm
  have J:m' id=some (.cells l.length (ofBytes I++[]) false):=hm
  rw [bR] at J
  exact ⟨e2,.inr (.inr ⟨id,by rw [U],by rw [U]; exact J,by omega⟩)⟩
theorem yO (l:List Nat)(n:Nat): (ofBytes l).take n=ofBytes (l.take n):=by simp [ofBytes,qS]
theorem G2 (l:List Nat)(n:Nat): (ofBytes l).drop n=ofBytes (l.drop n):=by simp [ofBytes,qT]
def c9 (l:List Nat)(a:Nat)(m:List Nat): List Nat:=l.take a++(m++l.drop (a+m.length))
theorem iJ {l m:List Nat}{a:Nat}(h:a+m.length≤l.length): (c9 l a m).length=l.length:=by simp [c9]; omega
theorem yP {l m:List Nat}{a:Nat}(J:∀b∈l,b<256)(hm:∀b∈m,b<256): ∀b∈c9 l a m,b<256:=fun b I=>by
 simp only [c9,qQ] at I
 rcases I with I | I | I
 ·exact J b (gz I)
 ·exact hm b I
 ·exact J b (iw I)
theorem G3 (s:Sat h (bH v l::X::S))(hX:cT X (cU w m)){a b:Nat}(pH:a<b)(hb:b≤l.length)(hm:1≤m.length):
  ∃h',copyV Tryz.prog h 32 (slR v a b) w=some (.int .i64 (min m.length (b-a):Nat),h')∧Sat h' (bH v (c9 l a (m.take (b-a)))::X::S):=by
 have hw:=s.aG (k:=1) rfl hX
 have Ny:=hw.1
 have hv:=(s.buf (k:=0) rfl).1
 obtain ⟨id,c,cap,rest,rfl,s1,hc,hf⟩:=s.kB (by omega)
 have lK:∃U,slR (.sl id 0 l.length cap) a b=.sl id a (b-a) U:=by
  cases cap with
  | exact c =>
   refine ⟨.exact (c-a),?_⟩
   simp only [slR]
   by_cases hca:c=a
   ·obtain ⟨m',r,h1,h2,h3⟩:=s.at (k:=0) rfl
    rcases h3.2 with ⟨e,_⟩ | ⟨A5,cs',c',e,hg,YW⟩ | ⟨A5,e,_⟩
    ·cases e
    ·injection e with _ _ _ e4; injection e4 with e4; omega
    ·injection e with _ _ _ e4; cases e4
   ·rw [cS hca,az,dU,dN]
  | rest e alt=>exact ⟨_,by simp only [slR,dU,dN]; rfl⟩
 obtain ⟨U,lK⟩:=lK
 rw [lK]
 have qI:=hw
 rcases qI.2 with ⟨_,rfl⟩ | ⟨ny,I,J,n2,Kb,YX,rfl,Sc,q1,q2,q3,q4⟩
 ·simp at hm
 ·have P_:Nat.min m.length (b-a)=(m.take (b-a)).length:=by
   rw [dI]
   exact Nat.min_comm _ _
  have lJ:rdN h ny I (Nat.min m.length (b-a)*1)=some (ofBytes (m.take (b-a))):=by
   have ng:View h (.sl ny I (m.take (b-a)).length J) (m.take (b-a)):=by
    refine ⟨fun x hx=>Ny x (gz hx),.inr ⟨ny,I,J,n2,Kb,YX,rfl,Sc,q1,?_,?_,?_⟩⟩
    ·have:(m.take (b-a)).length≤m.length:=by simp; omega
     omega
    ·rw [←yO,←q3,tJ,dI]
    ·cases J with
     | exact c2 =>
      simp only at q4 ⊢
      have:(m.take (b-a)).length≤m.length:=by simp; omega
      omega
     | rest e2 a2=>exact q4
   rw [dN,P_]
   exact ng.rdN.2
  simp only [copyV,aS,fu,lJ]
  have hlen:(m.take (b-a)).length≤b-a:=by simp; omega
  have uC:wrN h id a (ofBytes (m.take (b-a)))=some (h.put id (some (.cells c (ofBytes (c9 l a (m.take (b-a)))++rest) false))):=by
   simp only [wrN,s1.row (k:=0) rfl,dJ]
   rw [aQ.2 (by omega),ag]
   congr 3
   have e0:(ofBytes l++rest).take a++(ofBytes (m.take (b-a))++(ofBytes l++rest).drop (a+(m.take (b-a)).length))=ofBytes (c9 l a (m.take (b-a)))++rest:=by
    rw [oU (by rw [dJ]; omega),Dw (by rw [dJ]; omega),yO,G2]
    simp only [c9,rN,bN]
   cases Bc:(Nat.beq a 0&&Nat.beq (m.take (b-a)).length c) with
   | true =>
    simp only [aY,beq_iff] at Bc
    rw [ag,←e0]
    obtain ⟨Sd,hmc⟩:=Bc
    subst Sd
    have:(ofBytes l++rest).drop (0+(m.take (b-0)).length)=[]:=iu (by simp [dJ] at hmc ⊢; omega)
    rw [this]
    simp
   | false=>rw [az,e0]
  rw [uC]
  refine ⟨_,rfl,hf _ _ (iJ (by omega)) (yP hv (fun x hx=>Ny x (gz hx))) ?_⟩
  exact s1.put (k:=0) rfl
end
section
variable {P:Program} {h h':H} {S:List ax} {v w x:V} {cs ds:List V} {k:Nat}
theorem Se {t:TypeId}{id off n q:Nat}{st:Bool}(J:cg P t=some true)(hs:bG P t=some q)(U:T.get h.tr id=some (.cells n cs st))(hl:cs.length=n)(hb:off+q≤n):
  loadV P h t (.ptr id off)=some (.agg ((cs.drop off).take q)):=by
 simp only [loadV,J,hs,rdN,U]
 rw [aQ.2 hb,ag]
 cases I:(Nat.beq off 0&&Nat.beq q n) with
 | true =>
  simp only [aY,beq_iff] at I
  obtain ⟨rfl,rfl⟩:=I
  simp [←hl]
 | false=>rfl
theorem Sat.Tr (s:Sat h (.arr k v cs::S))(I:cs≠[]): ∃id n cap N rest,v=.sl id 0 n cap∧cs.length=n*k∧N=cs.length+rest.length∧Sat h (pt id (.cells N (cs++rest) false)::S) ∧
  (∀(h':H) (cs':List V) (S':List ax),cs'.length=cs.length→cs'.all storable=true→Sat h' (pt id (.cells N (cs'++rest) false)::S')→Sat h' (.arr k v cs'::S')):=by
 obtain ⟨m,r,J,U,h3,a,b,g1,g2,g3,⟨gl,g4⟩,g5⟩:=s.ok
 rcases g4 with ⟨_,e⟩ | ⟨id,n,cap,N,rest,rfl,hg,q1,q2,q3,q4⟩
 ·exact absurd e I
 ·refine ⟨id,n,cap,N,rest,rfl,q1,q2.symm,⟨s.wf,m,r,J,U,h3,a,b,g1,g2,g3,hg,g5⟩,fun h' cs' S' e1 e2 s'=>s'.fP ?_⟩
  intro m' r' hm
  exact ⟨e2,.inr ⟨id,n,cap,N,rest,rfl,hm,by omega,by omega,q3,q4⟩⟩
theorem Sat.Lz {j:Nat}(s:Sat h S)(I:getA S j=some (.arr k v cs)): cs.all storable=true:=by
 obtain ⟨m,r,U,h2,J⟩:=s.at I
 exact J.1
theorem Sat.kJ {j:Nat}(s:Sat h S)(I:getA S j=some (.arr k v cs)): v.cells=[v]∧storable v=true∧v.beq v=true:=by
 obtain ⟨m,r,U,h2,J⟩:=s.at I
 rcases J.2 with ⟨rfl,_⟩ | ⟨id,n,cap,N,rest,rfl,_⟩
 ·exact ⟨rfl,rfl,rfl⟩
 ·exact ⟨rfl,rfl,CC _ _ _ _⟩
theorem Sat.iK {j n:Nat}{t e:TypeId}(s:Sat h S)(U:getA S j=some (.arr k v cs))(hn:cs.length=n*k)(J:1≤k)(hu:P.underlying t=some (.slice e)): lenV P h t v=some (.int .i64 n):=by
 obtain ⟨m,r,h1,h2,h3⟩:=s.at U
 rcases h3.2 with ⟨rfl,rfl⟩ | ⟨id,n',cap,N,rest,rfl,_,q,_⟩
 ·have:n=0:=by
   rcases vM n with I | I
   ·exact I
   ·have:=tK I J
    simp at hn
    omega
  subst this
  simp only [lenV,hu]
  rfl
 ·have:n'=n:=JL J (by omega)
  subst this
  simp only [lenV,hu]
theorem vA (z:List V)(n:Nat): (repeatL z n).length=n*z.length:=by
 induction n with
 | zero=>simp [repeatL]
 | succ n I=>simp only [repeatL,bA,I,Nat.succ_mul]; omega
theorem CP {z:List V}(I:z.all storable=true)(n:Nat): (repeatL z n).all storable=true:=by
 induction n with
 | zero=>rfl
 | succ n J=>simp only [repeatL,List.all_append,I,J,iy]
theorem vb (s:Sat h S){t e:TypeId}{i:TypeInfo}{z:V}{n c:Nat}(hu:P.underlying t=some (.slice e))(hi:P.info? e=some i)(U:zeroT P e=some z)(hk:i.size=k)(hb:i.bytes≤4096)(J:z.cells.length=k)(I:z.cells.all storable=true)
 (h1:1≤k)(hn:n≤c)(hc:c<1073741824):
  ∃v h',makeSliceV P h t (.int .i64 (n:Int)) (.int .i64 (c:Int))=some (v,h')∧Sat h' (.arr k v (repeatL z.cells n)::S):=by
 refine ⟨.sl h.next 0 n (.exact c),h.new (.cells (c*k) (repeatL z.cells c) false),?_,(s.new _).fP fun m r hm => ?_⟩
 ·simp only [makeSliceV,hu,hi,U,cP,hk,J]
  rw [show (decide ((0:Int)≤(n:Int))&&decide ((n:Int)≤(c:Int))&&decide ((c:Int)<1073741824)&&Nat.ble i.bytes 4096&&Nat.beq k k&&Nat.ble 1 k)=true by
   rw [aQ.2 hb,aQ.2 h1,dh]; simp; omega,ag]
 ·refine ⟨CP I n,.inr ⟨h.next,n,.exact c,c*k,repeatL z.cells (c-n),rfl,?_,by rw [vA,J],?_,CP I _,rfl,hn⟩⟩
  ·have:repeatL z.cells n++repeatL z.cells (c-n)=repeatL z.cells c:=by
    clear hm
    have:∀a b,repeatL z.cells a++repeatL z.cells b=repeatL z.cells (a+b):=fun a b=>by
     induction a with
     | zero=>simp [repeatL]
     | succ a ih=>rw [Nat.succ_add]; simp only [repeatL,bN,ih]
    rw [this,show n+(c-n)=c by omega]
   rw [this]; exact hm
  ·rw [vA,vA,J,←iz,show n+(c-n)=c by omega]
theorem Ts {id off n:Nat}{vs:List V}(J:T.get h.tr id=some (.cells n cs false))(hl:cs.length=n)(U:off+vs.length≤n):
  wrN h id off vs=some (h.put id (some (.cells n (cs.take off++(vs++cs.drop (off+vs.length))) false))):=by
 simp only [wrN,J]
 rw [aQ.2 U,ag]
 congr 3
 cases I:(Nat.beq off 0&&Nat.beq vs.length n) with
 | true =>
  simp only [aY,beq_iff] at I
  obtain ⟨rfl,hn⟩:=I
  rw [ag]
  have:cs.drop (0+vs.length)=[]:=iu (by omega)
  rw [this]; simp
 | false=>rw [az]
theorem CQ {id off n q:Nat}{st:Bool}(J:T.get h.tr id=some (.cells n cs st))(U:cs.length=n)(hb:off+q≤n): rdN h id off q=some ((cs.drop off).take q):=by
 simp only [rdN,J]
 rw [aQ.2 hb,ag]
 cases I:(Nat.beq off 0&&Nat.beq q n) with
 | true =>
  simp only [aY,beq_iff] at I
  obtain ⟨rfl,rfl⟩:=I
  simp [←U]
 | false=>rfl
theorem jx (s:Sat h (.arr k v cs::.arr k w ds::S)){t e:TypeId}{i:TypeInfo}{z:V}(hu:P.underlying t=some (.slice e))(hi:P.info? e=some i)(hz:zeroT P e=some z)(hk:i.size=k)(hb:i.bytes≤4096)(hl:z.cells.length=k)
 (h1:1≤k)(eO:cs.length+ds.length≤1073741824):
  ∃v' h',appendV P h #[t,t] v w=some (v',h')∧Sat h' (.arr k v' (cs++ds)::.arr k w ds::S):=by
 have G4:=s.Lz (j:=0) rfl
 have LA:=s.Lz (j:=1) rfl
 have rf:(cs++ds).all storable=true:=by rw [List.all_append,G4,LA]; rfl
 -- what is appended
 have D5:∃m,srcV h k w=some (ds,m)∧ds.length=m*k:=by
  obtain ⟨m,r,q1,q2,q3⟩:=s.at (k:=1) rfl
  rcases q3.2 with ⟨rfl,rfl⟩ | ⟨id,n,cap,N,rest,rfl,J,U,e2,e3,e4⟩
  ·exact ⟨0,rfl,by simp⟩
  ·refine ⟨n,?_,U⟩
   simp only [srcV]
   rw [CQ (q1 _ _ J) (by simp [e2]) (by omega)]
   rw [dS,←U,ko rfl]
   rfl
 obtain ⟨m,D5,hm⟩:=D5
 have I:∀n:Nat,n*k=cs.length→mN (n+m) i.bytes=true:=fun n hn=>by
  have U:(n+m)*k=cs.length+ds.length:=by rw [iz,hn,hm]
  have e2:n+m≤(n+m)*k:=Nat.le_mul_of_pos_right _ h1
  have e3:(n+m)*i.bytes≤(n+m)*4096:=Nat.mul_le_mul_left _ hb
  exact wP.2 ⟨by omega,by omega⟩
 have Gw:∀(σ:H) (n:Nat) (T:List ax),Sat σ T→n*k=cs.length→1≤m→Sat (nN σ k cs ds (n+m)).2 (.arr k (nN σ k cs ds (n+m)).1 (cs++ds)::T):=by
  intro σ n T sT hn ya
  refine (sT.new (.cells ((n+m)*k) (cs++ds) false)).fP fun a r Nz=>⟨rf,.inr ⟨σ.next,n+m,.rest k 0,(n+m)*k,[],rfl,by rw [bR]; exact Nz,by rw [bA,iz]; omega,by rw [bA,iz]; simp; omega,rfl,rfl,rfl,rfl,by omega⟩⟩
 unfold appendV
 simp only [hu,hi,hz,hk,hl,D5]
 rw [show (Nat.ble 1 k&&Nat.ble i.bytes 4096&&Nat.beq k k)=true by rw [aQ.2 h1,aQ.2 hb,dh]; rfl,ag]
 cases E0:Nat.beq m 0 with
 | true =>
  have:m=0:=beq_iff.1 E0
  subst this
  have hd0:ds=[]:=qL (by simpa using hm)
  subst hd0
  rw [ag,bR]
  obtain ⟨m,r,q1,q2,q3⟩:=s.at (k:=0) rfl
  rcases q3.2 with ⟨rfl,rfl⟩ | ⟨id,n,cap,N,rest,rfl,J,U,e2,e3,e4⟩
  ·exact ⟨_,_,rfl,s⟩
  ·exact ⟨_,_,rfl,s⟩
 | false =>
  have ya:1≤m:=by
   rcases vM m with h0 | h0
   ·rw [gX h0] at E0; cases E0
   ·exact h0
  rw [az]
  obtain ⟨a,r,q1,q2,q3⟩:=s.at (k:=0) rfl
  rcases q3.2 with ⟨rfl,rfl⟩ | ⟨id,n,cap,N,rest,rfl,J,U,e2,e3,e4⟩
  ·have J:=I 0 (by simp)
   rw [dU] at J
   simp only [J,ag]
   have:=Gw h 0 (.arr k .bz []::.arr k w ds::S) s (by simp) ya
   rw [dU] at this
   refine ⟨_,_,rfl,?_⟩
   exact (this.qm [1]).drop
  ·cases cap with
   | exact c =>
    obtain ⟨e4,e5⟩:=e4
    simp only [dU]
    have qG:(cs++rest).take cs.length=cs:=ko rfl
    cases hq:Nat.ble (n+m) c with
    | true =>
     have uo:=aQ.1 hq
     rw [ag]
     have iH:n*k+ds.length≤N:=by rw [hm,←iz,e4]; exact qN _ uo
     rw [Ts (q1 _ _ J) (by simp [e2]) iH]
     simp only
     obtain ⟨m',r',p1,p2,p3,x1,x2,x3,x4,x5,⟨_,x6⟩,x7⟩:=s.ok
     have rj:x1 id=some (.cells N (cs++rest) false):=by
      rcases x6 with ⟨x6,_⟩ | ⟨A5,n',US,N',XN,x6,x8,x9,x10,_⟩
      ·cases x6
      ·injection x6 with y1 y2 y3 y4
       subst y1
       rw [x8]
       have:=p1 _ _ (x4 _ _ x8)
       rw [q1 _ _ J] at this
       injection this with this
       rw [this]
     have s0:Sat h (pt id (.cells N (cs++rest) false)::.arr k w ds::S):=⟨s.wf,m',r',p1,p2,p3,x1,x2,x3,x4,x5,rj,x7⟩
     have s1:=s0.put (k:=0) (o':=.cells N ((cs++rest).take (n*k)++(ds++(cs++rest).drop (n*k+ds.length))) false) rfl
     refine ⟨_,_,rfl,Sat.fP s1 fun a' r'' ha=>⟨rf,.inr ⟨id,n+m,.exact c,N,rest.drop ds.length,rfl,?_,by rw [bA,iz]; omega,by simp; omega,?_,e4,uo⟩⟩⟩
     ·have Kc:a' id=some (.cells N ((cs++rest).take (n*k)++(ds++(cs++rest).drop (n*k+ds.length))) false):=ha
      rw [Kc,←U,qG,Ae,iu (by omega),Nat.add_sub_cancel_left,cW,bN]
     ·rw [o_] at e3 ⊢
      exact fun y hy=>e3 y (iw hy)
    | false =>
     rw [az,I n U.symm,ag,CQ (q1 _ _ J) (by simp [e2]) (by omega)]
     simp only
     rw [dS,←U,qG]
     have:=Gw h n _ s U.symm ya
     exact ⟨_,_,rfl,(this.qm [1]).drop⟩
   | rest e' alt =>
    obtain ⟨ek,rfl,rfl,e7⟩:=e4
    have ek:=ek.symm
    subst ek
    simp only [dh,ag,bR,dU] at J e2 ⊢
    have BA:kE h id 0 k=n:=by
     simp only [kE,q1 _ _ J]
     rw [kr,←e2]
     simp only [bY,iS,U]
     exact DL _ h1
    rw [BA]
    rw [show Nat.ble (n+m) n=false by
     cases hq:Nat.ble (n+m) n with
     | true=>have:=aQ.1 hq; omega
     | false=>rfl,az,I n U.symm,show Nat.ble 2 ((n+m)*k)=true from aQ.2 (by
      have:2*1≤(n+m)*k:=tK (by omega) h1
      omega),iy,ag,CQ (q1 _ _ J) (by simpa using e2) (by simp at e2; omega),q1 _ _ J]
    simp only
    obtain ⟨m',r',p1,p2,p3,x1,x2,x3,x4,x5,⟨_,x6⟩,x7⟩:=s.ok
    have rj:x1 id=some (.cells N cs false):=by
     rcases x6 with ⟨x6,_⟩ | ⟨A5,n',US,N',XN,x6,x8,x9,x10,_⟩
     ·cases x6
     ·injection x6 with y1 y2 y3 y4
      subst y1
      rw [x8]
      have:=p1 _ _ (x4 _ _ x8)
      rw [q1 _ _ J] at this
      injection this with this
      rw [this]
    have s0:Sat h (pt id (.cells N cs false)::.arr k w ds::S):=⟨s.wf,m',r',p1,p2,p3,x1,x2,x3,x4,x5,rj,x7⟩
    have:=Gw (h.put id none) n _ s0.kill U.symm ya
    rw [dS,fL (by omega)]
    exact ⟨_,_,rfl,this⟩
end
section
variable {P:Program} {h h':H} {S:List ax} {v w x:V} {cs ds:List V} {k:Nat}
theorem Sat.g9 {t:TypeId}{j id n:Nat}{l:List V}(s:Sat h S)(J:getA S j=some (pt id (.cells n cs false)))(hs:bG P t=some n)(U:l.length=n)(I:l.all storable=true):
  ∃h₁,gV P h t (.ptr id 0) (.agg l)=some h₁∧Sat h₁ (setA S j (pt id (.cells n l false))):=by
 refine ⟨h.put id (some (.cells n l false)),?_,s.put J⟩
 simp only [gV,hs,V.cells,I,U,dh,iy,ag,wrN,s.row J]
 rw [aQ.2 (by omega:0+n≤n),ag]
theorem nR (s:Sat h S){t e:TypeId}{z:V}(hu:P.underlying t=some (.slice e))(hz:zeroT P e=some z)(hk:bG P e=some k)(J:z.cells.length=k)(h1:1≤k)(h2:k≤65536)(U:x.cells.length=k)(I:x.cells.all storable=true):
  ∃v h',buildSliceV P h t 1 [(0,x)]=some (v,h')∧Sat h' (.arr k v x.cells::S):=by
 refine ⟨.sl h.next 0 1 (.exact 1),newRow h x.cells,?_,?_⟩
 ·simp only [buildSliceV,hu,hk,hz]
  rw [show (Nat.beq z.cells.length k&&Nat.ble (1*k) 65536&&Nat.ble 1 k)=true by rw [J,dh,aQ.2 (by omega),aQ.2 h1]; rfl,ag]
  have e1:repeatL z.cells 1=z.cells:=by simp [repeatL]
  simp only [fillV,e1,U,J,dh,Ak]
  rw [aQ.2 (by omega:0*k+k≤k),ag]
  have e2:z.cells.take (0*k)++(x.cells++z.cells.drop (0*k+k))=x.cells:=by
   rw [vS,pE,cW,iu (by omega),bR]
  simp only [e2,I,ag]
 ·refine (s.new _).fP fun m r hm=>⟨I,.inr ⟨h.next,1,.exact 1,k,[],rfl,?_,by omega,by simp; omega,rfl,by omega,aK _⟩⟩
  have hm:m h.next=some (.cells x.cells.length x.cells false):=hm
  rw [hm,U,bR]
end
section
variable {P:Program} {h h':H} {S:List ax} {X:ax} {v w x:V} {l:List Nat} {k:Nat}
theorem ic.slice {m:PM}{a b:Nat}(hv:ic m v l)(pH:a≤b)(hb:b≤l.length): ic m (slR v a b) ((l.take b).drop a):=by
 have U:∀x∈(l.take b).drop a,x<256:=fun x hx=>hv.1 x (gz (iw hx))
 have hlen:((l.take b).drop a).length=b-a:=by simp; omega
 obtain ⟨hl,uf⟩:=hv
 rcases uf with ⟨rfl | ⟨ea,rfl⟩,rfl⟩ | ⟨id,off,cap,n,cs,st,rfl,hg,h1,h2,h3,h4⟩
 ·simp at hb
  have:b=0:=by omega
  have:a=0:=by omega
  subst_vars
  exact ⟨by simp,.inl ⟨.inl rfl,by simp⟩⟩
 ·simp at hb
  have:b=0:=by omega
  have:a=0:=by omega
  subst_vars
  exact ⟨by simp,.inl ⟨.inr ⟨ea,rfl⟩,by simp⟩⟩
 ·have I:∀o,o=off+a∨b-a=0→(cs.drop o).take (b-a)=ofBytes ((l.take b).drop a):=by
   intro o ho
   rcases ho with rfl | h0
   ·have e:=jh (fun q=>(q.take b).drop a) h3
    simp only [ofBytes,←qS,←qT] at e ⊢
    rw [←e,tJ,pq hb,tI,qR]
   ·rw [h0,pE]
    have:((l.take b).drop a)=[]:=qL (by omega)
    rw [this]; rfl
  cases cap with
  | exact c =>
   have hc:l.length≤c:=h4
   refine ⟨U,.inr ⟨id,_,_,n,cs,st,by rw [hlen]; rfl,hg,h1,?_,?_,?_⟩⟩
   ·rw [hlen]
    by_cases J:c=a
    ·rw [gX J,ag]; omega
    ·rw [cS J,az]; omega
   ·rw [hlen]
    by_cases J:c=a
    ·rw [gX J,ag]; exact I _ (.inr (by omega))
    ·rw [cS J,az,dN]; exact I _ (.inl rfl)
   ·show ((l.take b).drop a).length≤c-a
    rw [hlen]; omega
  | rest e alt =>
   have he:e=1:=h4
   subst he
   exact ⟨U,.inr ⟨id,_,_,n,cs,st,by rw [hlen]; rfl,hg,h1,by rw [hlen]; omega,by rw [hlen,dN]; exact I _ (.inl rfl),rfl⟩⟩
theorem mF {a b:Nat}(U:cT X (cU v l))(I:a≤b)(J:b≤l.length): cT X (cU (slR v a b) ((l.take b).drop a)):=fun m r hm =>
 (U m r hm).imp (fun h=>ic.slice h I J) (fun h=>ic.slice h I J)
theorem nT {a:Nat}(I:cT X (cU v l))(J:a≤l.length): cT X (cU (slR v a l.length) (l.drop a)):=by
 have:=mF I J (aK _)
 rwa [List.take_length] at this
theorem w9 {b:Nat}(I:cT X (cU v l))(J:b≤l.length): cT X (cU (slR v 0 b) (l.take b)):=by
 have:=mF I (eU b) J
 rwa [dS] at this
theorem Sat.qq (s:Sat h S): Sat h (.arr k .bz []::S):=(s.gD aa).fP fun _ _ _=>⟨rfl,.inl ⟨rfl,rfl⟩⟩
theorem Sat.yQ (s:Sat h S): Sat h (bH .bz []::S):=(s.gD aa).fP fun _ _ _=>⟨by simp,.inl ⟨rfl,rfl⟩⟩
theorem Sat.rR (s:Sat h S): Sat h (Ba .bz []::S):=(s.gD aa).fP fun _ _ _=>⟨by simp,.inl ⟨.inl rfl,rfl⟩⟩
theorem yR (s:Sat h S){t e:TypeId}{i:TypeInfo}{z:V}{n:Nat}(hu:P.underlying t=some (.slice e))(hi:P.info? e=some i)(I:zeroT P e=some z)(J:i.size=k)(U:i.bytes≤4096)(hl:z.cells.length=k)
 (h1:1≤k)(hn:n<1073741824):
  ∃id h',makeSliceV P h t (.int .i64 (n:Int)) (.int .i64 (n:Int))=some (.sl id 0 n (.exact n),h')∧Sat h' (pt id (.cells (n*k) (repeatL z.cells n) false)::S):=by
 refine ⟨h.next,h.new (.cells (n*k) (repeatL z.cells n) false),?_,s.new _⟩
 simp only [makeSliceV,hu,hi,I,cP,J,hl]
 rw [show (decide ((0:Int)≤(n:Int))&&decide ((n:Int)≤(n:Int))&&decide ((n:Int)<1073741824)&&Nat.ble i.bytes 4096&&Nat.beq k k&&Nat.ble 1 k)=true by
  rw [aQ.2 U,aQ.2 h1,dh]; simp; omega,ag]
theorem pQ {h:H}{t e:TypeId}{i o n:Nat}{c:Cap}{v:V}(I:v=.sl i o n c)(hu:P.underlying t=some (.slice e)): lenV P h t v=some (.int .i64 n):=by subst I; exact GS hu
theorem VM {h:H}{J:Array TypeId}{k:IntKind}{a b:Int}: builtinV P h .min J [.int k a,.int k b]=some (.int k (min a b),h):=by
 simp only [builtinV,foldV,Bz,dD,ag,je]
 congr 3
 by_cases I:b<a
 ·rw [dM I,ag]; omega
 ·rw [eE I,az]; omega
theorem Qa {E:List (Nat×V)}{c:Go.Call}{b:Builtin}{args:List V}{r:V}(I:c.callee=.builtin b)(J:lookArgs E c.args.toList=some args)(U:builtinV P h b c.argTypes args=some (r,h')): opE P E h (.call c)=some (r,h'):=by
 simp only [opE,I,J,U]
end
def slR3 (v:V)(a b m:Nat): V:=match v with
 | .sl id off _ _=>.sl id (cond (Nat.beq m a) off (off+a*1)) (b-a) (.exact (m-a))
 | v=>v
section
variable {P:Program} {h h':H} {S:List ax} {X:ax} {v w x:V} {l:List Nat} {k:Nat}
theorem ic.slice3 {m:PM}{a b c:Nat}(hv:ic m v l)(pH:a≤b)(hb:b≤c)(hc:c≤l.length)(hl:1≤l.length): ic m (slR3 v a b c) ((l.take b).drop a):=by
 have U:∀x∈(l.take b).drop a,x<256:=fun x hx=>hv.1 x (gz (iw hx))
 have hlen:((l.take b).drop a).length=b-a:=by simp; omega
 obtain ⟨_,uf⟩:=hv
 rcases uf with ⟨_,rfl⟩ | ⟨id,off,cap,n,cs,st,rfl,hg,h1,h2,h3,h4⟩
 ·simp at hl
 ·have I:∀o,o=off+a∨b-a=0→(cs.drop o).take (b-a)=ofBytes ((l.take b).drop a):=by
   intro o ho
   rcases ho with rfl | h0
   ·have e:=jh (fun q=>(q.take b).drop a) h3
    simp only [ofBytes,←qS,←qT] at e ⊢
    rw [←e,tJ,pq (cL hb hc),tI,qR]
   ·rw [h0,pE]
    have:((l.take b).drop a)=[]:=qL (by omega)
    rw [this]; rfl
  refine ⟨U,.inr ⟨id,_,_,n,cs,st,by rw [hlen]; rfl,hg,h1,?_,?_,?_⟩⟩
  ·rw [hlen]
   by_cases J:c=a
   ·rw [gX J,ag]; omega
   ·rw [cS J,az]; omega
  ·rw [hlen]
   by_cases J:c=a
   ·rw [gX J,ag]; exact I _ (.inr (by omega))
   ·rw [cS J,az,dN]; exact I _ (.inl rfl)
  ·show ((l.take b).drop a).length≤c-a
   rw [hlen]; omega
theorem NA {a b c:Nat}(hX:cT X (cU v l))(I:a≤b)(J:b≤c)(U:c≤l.length)(hl:1≤l.length): cT X (cU (slR3 v a b c) ((l.take b).drop a)):=fun m r hm =>
 (hX m r hm).imp (fun h=>ic.slice3 h I J U hl) (fun h=>ic.slice3 h I J U hl)
theorem I7 {a b c:Nat}(hv:View h v l)(I:a≤b)(hb:b≤c)(hc:c≤l.length)(hl:1≤l.length): sliceV Tryz.prog h 32 v (some a) (some b) (some c)=some (slR3 v a b c):=by
 obtain ⟨_,J⟩:=hv
 rcases J with ⟨_,rfl⟩ | ⟨id,off,cap,n,cs,st,rfl,hg,h1,h2,h3,U⟩
 ·simp at hl
 ·cases cap with
  | exact q =>
   have hq:l.length≤q:=U
   simp only [sliceV,slR3,aS,fu,eT]
   rw [show (Nat.ble a b&&Nat.ble b c&&Nat.ble c q)=true by rw [aY,aY,aQ,aQ,aQ]; omega,ag]
  | rest e alt =>
   have he:e=1:=U
   subst he
   simp only [sliceV,slR3,aS,fu,eT,dh]
   rw [show (true&&Nat.ble 1 1)=true from rfl,ag]
   rw [show (Nat.ble a b&&Nat.ble b c&&(Nat.ble c l.length||Nat.ble c (kE h id off 1))&&Nat.blt 0 l.length)=true by
    rw [aY,aY,aY,mX,aQ,aQ,aQ]
    exact ⟨⟨⟨I,hb⟩,.inl hc⟩,by rw [Nat.blt]; exact aQ.2 (by omega)⟩,ag]
theorem kC (I:View h v l)(J:1≤l.length): ∃id off cap,v=.sl id off l.length cap:=by
 rcases I.2 with ⟨_,rfl⟩ | ⟨id,off,cap,_,_,_,rfl,_⟩
 ·simp at J
 ·exact ⟨id,off,cap,rfl⟩
theorem fK {k:IntKind}{n:Int}(I:0≤n): gW (some (V.int k n))=some (some n.toNat):=by
 simp only [gW,bndV,dM I,ag]
end
section
variable {P:Program} {h h':H} {S:List ax} {X:ax} {v w x:V} {cs:List V} {l m:List Nat} {k:Nat}
theorem G5 {t e:TypeId}{i q j:Nat}(s:Sat h S)(J:getA S j=some (.arr q v cs))(hi:i*q+q≤cs.length)(U:1≤q)(hu:P.underlying t=some (.slice e))(I:bG P e=some q):
  ∃id off,indexAddrV P t v (.int .i64 (i:Int))=some (.ptr id off)∧(cg P e=some true→loadV P h e (.ptr id off)=some (.agg ((cs.drop (i*q)).take q))):=by
 obtain ⟨m,r,h1,h2,h3⟩:=s.at J
 rcases h3.2 with ⟨_,rfl⟩ | ⟨id,n,cap,N,rest,rfl,hg,e1,e2,_⟩
 ·simp at hi; omega
 ·refine ⟨id,i*q,?_,fun ht => ?_⟩
  ·simp only [indexAddrV,hu,I,cP]
   have:i<n:=by
    have h4:i*q+q=(i+1)*q:=by rw [iz,vT]
    rw [h4,e1] at hi
    exact DO (Dz hi U)
   rw [show (decide ((0:Int)≤(i:Int))&&decide ((i:Int)<(n:Int)))=true by simp; omega,ag]
   simp
  ·rw [Se ht I (h1 _ _ hg) (by simp; omega) (by omega)]
   rw [Dw (by omega),oU (by simp; omega)]
theorem Sat.VN (s:Sat h (bH v l::X::S))(hX:cT X (cU w m)): ∀i∈rowIds w,i∉rowIds v:=by
 intro i hi jX
 obtain ⟨a,r,h1,h2,h3,b,c,g1,g2,g3,g4,d,e,k1,k2,k3,k4,k5⟩:=s.ok
 have hb:=J7 g4 i jX
 have hw:∀q:PM,ic q w m→q i≠none:=fun q J=>by
  rcases J.2 with ⟨rfl | ⟨ea,rfl⟩,_⟩ | ⟨id,off,cap,n,cs,st,rfl,hg,_⟩
  ·simp [rowIds] at hi
  ·simp [rowIds] at hi
  ·simp [rowIds] at hi; subst hi; rw [hg]; simp
 rcases hX _ _ k4 with J | J
 ·have h4:=hw _ J
  cases hd:d i with
  | none=>exact h4 hd
  | some o =>
   rcases g1 i with I | I
   ·exact hb I
   ·rw [k2 _ _ hd] at I; cases I
 ·have h4:=hw _ J
  cases U:b i with
  | none=>exact hb U
  | some o =>
   rcases h3 i with I | I
   ·rw [g2 _ _ U] at I; cases I
   ·exact h4 I
end
end Go.Proofs.YtconhghphklfjaaGreat.Am
