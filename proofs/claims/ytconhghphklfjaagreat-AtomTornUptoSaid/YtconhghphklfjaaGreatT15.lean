/- AtomTorn: a part of its proof; conditions: its statement's. -/
import Derived.Test.YtconhghphklfjaaGreatT01
import Derived.Test.YtconhghphklfjaaGreatProg
import Derived.KernelRfl
import Derived.Test.YtconhghphklfjaaGreatT14
namespace Go.Proofs.YtconhghphklfjaaGreat.Am
open Go
theorem jK : bJ Tryz.prog 3=some 1:=by kernel_rfl
theorem dA : b_ Tryz.prog 3=some false:=by kernel_rfl
theorem Fo : zeroT Tryz.prog 3=some (.int .i64 0):=by kernel_rfl
theorem yq : bJ Tryz.prog 4=some 1:=by kernel_rfl
theorem ke : b_ Tryz.prog 4=some false:=by kernel_rfl
theorem Zy : zeroT Tryz.prog 4=some (.bool false):=by kernel_rfl
theorem Ss : bJ Tryz.prog 5=some 1:=by kernel_rfl
theorem Zz : zeroT Tryz.prog 5=some (.int .u8 0):=by kernel_rfl
theorem Su : bJ Tryz.prog 9=some 1:=by kernel_rfl
theorem ZA : b_ Tryz.prog 9=some false:=by kernel_rfl
theorem Wa : zeroT Tryz.prog 9=some (.str []):=by kernel_rfl
theorem jL : b_ Tryz.prog 23=some false:=by kernel_rfl
theorem BY : b_ Tryz.prog 24=some false:=by kernel_rfl
theorem Wb : bJ Tryz.prog 27=some 1:=by kernel_rfl
theorem Hf : b_ Tryz.prog 27=some false:=by kernel_rfl
theorem aay : zeroT Tryz.prog 28=some (.int .i64 0):=by kernel_rfl
theorem jM : bJ Tryz.prog 32=some 1:=by kernel_rfl
theorem bO : b_ Tryz.prog 32=some false:=by kernel_rfl
theorem zC : zeroT Tryz.prog 32=some .bz:=by kernel_rfl
theorem rH : bJ Tryz.prog 35=some 1:=by kernel_rfl
theorem gx : b_ Tryz.prog 35=some false:=by kernel_rfl
theorem Wc : zeroT Tryz.prog 35=some (.int .u64 0):=by kernel_rfl
theorem LN : bJ Tryz.prog 38=some 1:=by kernel_rfl
theorem uB : b_ Tryz.prog 38=some false:=by kernel_rfl
theorem gM : bJ Tryz.prog 40=some 6:=by kernel_rfl
theorem nE : b_ Tryz.prog 40=some true:=by kernel_rfl
theorem rI : zeroT Tryz.prog 40=some (.agg [(.int .i64 0),(.int .u64 0),(.int .u64 0),(.int .u64 0),.bz,.bz]):=by kernel_rfl
theorem uC (a b:Nat): fieldAddrV Tryz.prog 40 (.ptr a b) 0=some (.ptr a (b+0)):=by kernel_rfl
theorem NQ (a b:Nat): fieldAddrV Tryz.prog 40 (.ptr a b) 1=some (.ptr a (b+1)):=by kernel_rfl
theorem NR (a b:Nat): fieldAddrV Tryz.prog 40 (.ptr a b) 2=some (.ptr a (b+2)):=by kernel_rfl
theorem NS (a b:Nat): fieldAddrV Tryz.prog 40 (.ptr a b) 3=some (.ptr a (b+3)):=by kernel_rfl
theorem zD (a b:Nat): fieldAddrV Tryz.prog 40 (.ptr a b) 4=some (.ptr a (b+4)):=by kernel_rfl
theorem mY (a b:Nat): fieldAddrV Tryz.prog 40 (.ptr a b) 5=some (.ptr a (b+5)):=by kernel_rfl
theorem xq (ps:List (Nat×V)): buildV Tryz.prog 40 ps=(fillV (nth [(0,1),(1,1),(2,1),(3,1),(4,1),(5,1)]) ((.agg [(.int .i64 0),(.int .u64 0),(.int .u64 0),(.int .u64 0),.bz,.bz]):V).cells ps).map .agg:=by kernel_rfl
theorem nF : b_ Tryz.prog 44=some false:=by kernel_rfl
theorem sM : bJ Tryz.prog 54=some 4:=by kernel_rfl
theorem LO : b_ Tryz.prog 54=some true:=by kernel_rfl
theorem rJ : zeroT Tryz.prog 54=some (.agg [(.int .i64 0),(.int .i64 0),(.bool false),.bz]):=by kernel_rfl
theorem qz (a b:Nat): fieldAddrV Tryz.prog 54 (.ptr a b) 0=some (.ptr a (b+0)):=by kernel_rfl
theorem su (a b:Nat): fieldAddrV Tryz.prog 54 (.ptr a b) 1=some (.ptr a (b+1)):=by kernel_rfl
theorem zE (a b:Nat): fieldAddrV Tryz.prog 54 (.ptr a b) 2=some (.ptr a (b+2)):=by kernel_rfl
theorem oM (a b:Nat): fieldAddrV Tryz.prog 54 (.ptr a b) 3=some (.ptr a (b+3)):=by kernel_rfl
theorem Qp (ps:List (Nat×V)): buildV Tryz.prog 54 ps=(fillV (nth [(0,1),(1,1),(2,1),(3,1)]) ((.agg [(.int .i64 0),(.int .i64 0),(.bool false),.bz]):V).cells ps).map .agg:=by kernel_rfl
theorem Qq : b_ Tryz.prog 60=some false:=by kernel_rfl
theorem aaz : bJ Tryz.prog 62=some 4:=by kernel_rfl
theorem aaA : b_ Tryz.prog 62=some true:=by kernel_rfl
theorem NT (a b:Nat): fieldAddrV Tryz.prog 62 (.ptr a b) 0=some (.ptr a (b+0)):=by kernel_rfl
theorem Hg (a b:Nat): fieldAddrV Tryz.prog 62 (.ptr a b) 1=some (.ptr a (b+1)):=by kernel_rfl
theorem Hh (a b:Nat): fieldAddrV Tryz.prog 62 (.ptr a b) 2=some (.ptr a (b+2)):=by kernel_rfl
theorem CY (a b:Nat): fieldAddrV Tryz.prog 62 (.ptr a b) 3=some (.ptr a (b+3)):=by kernel_rfl
theorem aaB (ps:List (Nat×V)): buildV Tryz.prog 62 ps=(fillV (nth [(0,1),(1,1),(2,1),(3,1)]) ((.agg [(.int .i64 0),(.int .i64 0),.bz,.bz]):V).cells ps).map .agg:=by kernel_rfl
theorem vF : b_ Tryz.prog 77=some false:=by kernel_rfl
theorem qA (a b:Nat): fieldAddrV Tryz.prog 85 (.ptr a b) 0=some (.ptr a (b+0)):=by kernel_rfl
theorem lM (a b:Nat): fieldAddrV Tryz.prog 85 (.ptr a b) 1=some (.ptr a (b+1)):=by kernel_rfl
theorem oN (a b:Nat): fieldAddrV Tryz.prog 85 (.ptr a b) 2=some (.ptr a (b+2)):=by kernel_rfl
theorem uD (a b:Nat): fieldAddrV Tryz.prog 85 (.ptr a b) 3=some (.ptr a (b+3)):=by kernel_rfl
theorem Hi (a b:Nat): fieldAddrV Tryz.prog 85 (.ptr a b) 4=some (.ptr a (b+4)):=by kernel_rfl
theorem CZ (a b:Nat): fieldAddrV Tryz.prog 85 (.ptr a b) 5=some (.ptr a (b+5)):=by kernel_rfl
theorem Wd (ps:List (Nat×V)): buildV Tryz.prog 85 ps=(fillV (nth [(0,1),(1,1),(2,1),(3,1),(4,1),(5,1)]) ((.agg [.cK,.cK,.cK,.cK,.bz,(.int .u64 0)]):V).cells ps).map .agg:=by kernel_rfl
theorem mB : b_ Tryz.prog 86=some false:=by kernel_rfl
theorem aaC : bJ Tryz.prog 88=some 3:=by kernel_rfl
theorem uE (a b:Nat): fieldAddrV Tryz.prog 88 (.ptr a b) 0=some (.ptr a (b+0)):=by kernel_rfl
theorem uF (a b:Nat): fieldAddrV Tryz.prog 88 (.ptr a b) 1=some (.ptr a (b+1)):=by kernel_rfl
theorem Hj (a b:Nat): fieldAddrV Tryz.prog 88 (.ptr a b) 2=some (.ptr a (b+2)):=by kernel_rfl
theorem aaD (ps:List (Nat×V)): buildV Tryz.prog 88 ps=(fillV (nth [(0,1),(1,1),(2,1)]) ((.agg [.cK,.lS,(.bool false)]):V).cells ps).map .agg:=by kernel_rfl
theorem Qr : bJ Tryz.prog 98=some 1:=by kernel_rfl
theorem qB : b_ Tryz.prog 98=some false:=by kernel_rfl
theorem pU (a b:Nat): fieldAddrV Tryz.prog 111 (.ptr a b) 0=some (.ptr a (b+0)):=by kernel_rfl
theorem gN (a b:Nat): fieldAddrV Tryz.prog 111 (.ptr a b) 1=some (.ptr a (b+1)):=by kernel_rfl
theorem eO (a b:Nat): fieldAddrV Tryz.prog 111 (.ptr a b) 2=some (.ptr a (b+2)):=by kernel_rfl
theorem jc (a b:Nat): fieldAddrV Tryz.prog 111 (.ptr a b) 3=some (.ptr a (b+3)):=by kernel_rfl
theorem pV (a b:Nat): fieldAddrV Tryz.prog 111 (.ptr a b) 4=some (.ptr a (b+4)):=by kernel_rfl
theorem pW (a b:Nat): fieldAddrV Tryz.prog 111 (.ptr a b) 5=some (.ptr a (b+5)):=by kernel_rfl
theorem Sv (ps:List (Nat×V)): buildV Tryz.prog 111 ps=(fillV (nth [(0,1),(1,1),(2,1),(3,1),(4,1),(5,1)]) ((.agg [.cK,(.int .u64 0),.bz,.bz,(.int .i64 0),(.int .u64 0)]):V).cells ps).map .agg:=by kernel_rfl
theorem rZ : b_ Tryz.prog 119=some false:=by kernel_rfl
theorem Sw (a b l:Nat)(c:Cap)(k:IntKind)(n:Int): indexAddrV Tryz.prog 119 (.sl a b l c) (.int k n)=cond (decide (0≤n)&&decide (n<(l:Int))) (some (.ptr a (b+n.toNat*1))) none:=by kernel_rfl
theorem Sx : bJ Tryz.prog 120=some 1:=by kernel_rfl
theorem C0 : b_ Tryz.prog 120=some false:=by kernel_rfl
theorem Ya : bJ Tryz.prog 121=some 1:=by kernel_rfl
theorem Gi : b_ Tryz.prog 121=some false:=by kernel_rfl
theorem Kl (a b:Nat): fieldAddrV Tryz.prog 123 (.ptr a b) 0=some (.ptr a (b+0)):=by kernel_rfl
theorem m_ (a b:Nat): fieldAddrV Tryz.prog 123 (.ptr a b) 1=some (.ptr a (b+1)):=by kernel_rfl
theorem tZ (a b:Nat): fieldAddrV Tryz.prog 123 (.ptr a b) 2=some (.ptr a (b+2)):=by kernel_rfl
theorem A4 (a b:Nat): fieldAddrV Tryz.prog 123 (.ptr a b) 3=some (.ptr a (b+3)):=by kernel_rfl
theorem js (a b:Nat): fieldAddrV Tryz.prog 123 (.ptr a b) 4=some (.ptr a (b+4)):=by kernel_rfl
theorem ob (a b:Nat): fieldAddrV Tryz.prog 123 (.ptr a b) 5=some (.ptr a (b+5)):=by kernel_rfl
theorem wF (a b:Nat): fieldAddrV Tryz.prog 123 (.ptr a b) 6=some (.ptr a (b+6)):=by kernel_rfl
theorem wG (a b:Nat): fieldAddrV Tryz.prog 123 (.ptr a b) 7=some (.ptr a (b+7)):=by kernel_rfl
theorem A5 (a b:Nat): fieldAddrV Tryz.prog 123 (.ptr a b) 8=some (.ptr a (b+8)):=by kernel_rfl
theorem jt (a b:Nat): fieldAddrV Tryz.prog 123 (.ptr a b) 9=some (.ptr a (b+9)):=by kernel_rfl
theorem uG (a b:Nat): fieldAddrV Tryz.prog 123 (.ptr a b) 10=some (.ptr a (b+10)):=by kernel_rfl
theorem BZ (a b:Nat): fieldAddrV Tryz.prog 123 (.ptr a b) 11=some (.ptr a (b+11)):=by kernel_rfl
theorem Yb (ps:List (Nat×V)): buildV Tryz.prog 123 ps=(fillV (nth [(0,1),(1,1),(2,1),(3,1),(4,1),(5,1),(6,1),(7,1),(8,1),(9,1),(10,1),(11,1)]) ((.agg [(.int .i64 0),.bz,.bz,.lS,.bz,(.int .i64 0),.bz,(.int .i64 0),(.int .i64 0),(.bool false),.cK,.bz]):V).cells ps).map .agg:=by kernel_rfl
theorem C1 : bJ Tryz.prog 125=some 2:=by kernel_rfl
theorem Sy : b_ Tryz.prog 125=some true:=by kernel_rfl
theorem Gj : zeroT Tryz.prog 125=some (.agg [(.int .i64 0),.bz]):=by kernel_rfl
theorem Er (a b:Nat): fieldAddrV Tryz.prog 125 (.ptr a b) 0=some (.ptr a (b+0)):=by kernel_rfl
theorem Es (a b:Nat): fieldAddrV Tryz.prog 125 (.ptr a b) 1=some (.ptr a (b+1)):=by kernel_rfl
theorem Yc (ps:List (Nat×V)): buildV Tryz.prog 125 ps=(fillV (nth [(0,1),(1,1)]) ((.agg [(.int .i64 0),.bz]):V).cells ps).map .agg:=by kernel_rfl
theorem LP : bJ Tryz.prog 130=some 2:=by kernel_rfl
theorem Yd : b_ Tryz.prog 130=some true:=by kernel_rfl
theorem Gk : zeroT Tryz.prog 130=some (.agg [(.int .i64 0),(.int .u64 0)]):=by kernel_rfl
theorem TQ (a b:Nat): fieldAddrV Tryz.prog 130 (.ptr a b) 1=some (.ptr a (b+1)):=by kernel_rfl
theorem Ye (ps:List (Nat×V)): buildV Tryz.prog 130 ps=(fillV (nth [(0,1),(1,1)]) ((.agg [(.int .i64 0),(.int .u64 0)]):V).cells ps).map .agg:=by kernel_rfl
theorem Sz : bJ Tryz.prog 134=some 2:=by kernel_rfl
theorem Yf : b_ Tryz.prog 134=some true:=by kernel_rfl
theorem Yg : zeroT Tryz.prog 134=some (.agg [(.int .i64 0),.bz]):=by kernel_rfl
theorem t_ (a b:Nat): fieldAddrV Tryz.prog 134 (.ptr a b) 0=some (.ptr a (b+0)):=by kernel_rfl
theorem A6 (a b:Nat): fieldAddrV Tryz.prog 134 (.ptr a b) 1=some (.ptr a (b+1)):=by kernel_rfl
theorem xu : b_ Tryz.prog 136=some false:=by kernel_rfl
theorem oU : b_ Tryz.prog 137=some false:=by kernel_rfl
theorem Yh (a b l:Nat)(c:Cap)(k:IntKind)(n:Int): indexAddrV Tryz.prog 137 (.sl a b l c) (.int k n)=cond (decide (0≤n)&&decide (n<(l:Int))) (some (.ptr a (b+n.toNat*5))) none:=by kernel_rfl
theorem r6 : b_ Tryz.prog 138=some false:=by kernel_rfl
theorem wH (a b:Nat): fieldAddrV Tryz.prog 140 (.ptr a b) 0=some (.ptr a (b+0)):=by kernel_rfl
theorem TR (a b:Nat): fieldAddrV Tryz.prog 140 (.ptr a b) 1=some (.ptr a (b+1)):=by kernel_rfl
theorem lB (a b:Nat): fieldAddrV Tryz.prog 140 (.ptr a b) 2=some (.ptr a (b+2)):=by kernel_rfl
theorem rK (a b:Nat): fieldAddrV Tryz.prog 140 (.ptr a b) 3=some (.ptr a (b+3)):=by kernel_rfl
theorem nc (a b:Nat): fieldAddrV Tryz.prog 140 (.ptr a b) 4=some (.ptr a (b+4)):=by kernel_rfl
theorem Et (a b:Nat): fieldAddrV Tryz.prog 140 (.ptr a b) 5=some (.ptr a (b+5)):=by kernel_rfl
theorem Yi (ps:List (Nat×V)): buildV Tryz.prog 140 ps=(fillV (nth [(0,1),(1,1),(2,1),(3,1),(4,1),(5,1)]) ((.agg [.cK,.cK,.bz,.lS,.lS,(.int .i64 0)]):V).cells ps).map .agg:=by kernel_rfl
theorem vj : bJ Tryz.prog 143=some 2:=by kernel_rfl
theorem LQ : b_ Tryz.prog 143=some true:=by kernel_rfl
theorem xw : zeroT Tryz.prog 143=some (.agg [(.int .u64 0),(.bool false)]):=by kernel_rfl
theorem Eu (a b:Nat): fieldAddrV Tryz.prog 143 (.ptr a b) 0=some (.ptr a (b+0)):=by kernel_rfl
theorem Km (cs:List V): sj Tryz.prog 143 (.agg cs) 0=nth cs 0:=by kernel_rfl
theorem Ev (a b:Nat): fieldAddrV Tryz.prog 143 (.ptr a b) 1=some (.ptr a (b+1)):=by kernel_rfl
theorem Yj (ps:List (Nat×V)): buildV Tryz.prog 143 ps=(fillV (nth [(0,1),(1,1)]) ((.agg [(.int .u64 0),(.bool false)]):V).cells ps).map .agg:=by kernel_rfl
theorem ei : bJ Tryz.prog 146=some 1:=by kernel_rfl
theorem gO : b_ Tryz.prog 146=some true:=by kernel_rfl
theorem oV : zeroT Tryz.prog 146=some (.agg [.bz]):=by kernel_rfl
theorem pX (a b:Nat): fieldAddrV Tryz.prog 146 (.ptr a b) 0=some (.ptr a (b+0)):=by kernel_rfl
theorem C2 (ps:List (Nat×V)): buildV Tryz.prog 146 ps=(fillV (nth [(0,1)]) ((.agg [.bz]):V).cells ps).map .agg:=by kernel_rfl
theorem SA (a b:Nat)(k:IntKind)(n:Int): indexAddrV Tryz.prog 147 (.ptr a b) (.int k n)=cond (decide (0≤n)&&decide (n<(512:Nat))) (some (.ptr a (b+n.toNat*1))) none:=by kernel_rfl
theorem Yk : bJ Tryz.prog 151=some 512:=by kernel_rfl
theorem Yl : b_ Tryz.prog 151=some true:=by kernel_rfl
theorem C3 : bJ Tryz.prog 167=some 5:=by kernel_rfl
theorem Ym : b_ Tryz.prog 167=some true:=by kernel_rfl
theorem Yn : zeroT Tryz.prog 167=some (.agg [(.int .i64 0),.bz,(.int .i64 0),(.bool false),(.bool false)]):=by kernel_rfl
theorem pY (a b:Nat): fieldAddrV Tryz.prog 167 (.ptr a b) 0=some (.ptr a (b+0)):=by kernel_rfl
theorem A7 (a b:Nat): fieldAddrV Tryz.prog 167 (.ptr a b) 1=some (.ptr a (b+1)):=by kernel_rfl
theorem rL (a b:Nat): fieldAddrV Tryz.prog 167 (.ptr a b) 2=some (.ptr a (b+2)):=by kernel_rfl
theorem Ew (a b:Nat): fieldAddrV Tryz.prog 167 (.ptr a b) 3=some (.ptr a (b+3)):=by kernel_rfl
theorem Ey (a b:Nat): fieldAddrV Tryz.prog 167 (.ptr a b) 4=some (.ptr a (b+4)):=by kernel_rfl
theorem Gm (ps:List (Nat×V)): buildV Tryz.prog 167 ps=(fillV (nth [(0,1),(1,1),(2,1),(3,1),(4,1)]) ((.agg [(.int .i64 0),.bz,(.int .i64 0),(.bool false),(.bool false)]):V).cells ps).map .agg:=by kernel_rfl
theorem SB : b_ Tryz.prog 179=some false:=by kernel_rfl
theorem pZ (a b:Nat): fieldAddrV Tryz.prog 181 (.ptr a b) 0=some (.ptr a (b+0)):=by kernel_rfl
theorem Kn (a b:Nat): fieldAddrV Tryz.prog 181 (.ptr a b) 1=some (.ptr a (b+1)):=by kernel_rfl
theorem SC (ps:List (Nat×V)): buildV Tryz.prog 181 ps=(fillV (nth [(0,1),(1,1)]) ((.agg [.lS,.lS]):V).cells ps).map .agg:=by kernel_rfl
theorem Yo (a b l:Nat)(c:Cap)(k:IntKind)(n:Int): indexAddrV Tryz.prog 186 (.sl a b l c) (.int k n)=cond (decide (0≤n)&&decide (n<(l:Int))) (some (.ptr a (b+n.toNat*1))) none:=by kernel_rfl
theorem mC (a b:Nat): fieldAddrV Tryz.prog 202 (.ptr a b) 0=some (.ptr a (b+0)):=by kernel_rfl
theorem Yp (ps:List (Nat×V)): buildV Tryz.prog 202 ps=(fillV (nth [(0,1)]) ((.agg [.bz]):V).cells ps).map .agg:=by kernel_rfl
theorem Yq (ps:List (Nat×V)): buildV Tryz.prog 205 ps=(fillV (fun i=>some (i*1,1)) ((.agg [(.int .u64 0),(.int .u64 0),(.int .u64 0)]):V).cells ps).map .agg:=by kernel_rfl
theorem LS : bJ Tryz.prog 219=some 1:=by kernel_rfl
theorem LU : b_ Tryz.prog 219=some false:=by kernel_rfl
theorem Yr (ps:List (Nat×V)): buildV Tryz.prog 220 ps=(fillV (fun i=>some (i*1,1)) ((.agg [.cK,.cK,.cK]):V).cells ps).map .agg:=by kernel_rfl
def slR (v:V)(a b:Nat): V:=match v with
 | .sl id off _ (.exact c)=>.sl id (cond (Nat.beq c a) off (off+a*1)) (b-a) (.exact (c-a))
 | .sl id off _ (.rest _ alt)=>.sl id (off+a*1) (b-a) (.rest 1 (cond (Nat.beq a 0) alt (cond (Nat.blt a b) (off+a*1) off)))
 | v=>v
theorem iN {h:H}{v:V}{l:List Nat}{a b:Nat}(hv:View h v l)(pQ:a≤b)(hb:b≤l.length):
  sliceV Tryz.prog h 32 v (some a) (some b) none=some (slR v a b)∧View h (slR v a b) ((l.take b).drop a)∧∀i∈rowIds (slR v a b),i∈rowIds v:=by
 have U:∀x∈(l.take b).drop a,x<256:=fun x hx=>hv.1 x (gH (iC hx))
 have hlen:((l.take b).drop a).length=b-a:=by simp; omega
 obtain ⟨hl,uh⟩:=hv
 rcases uh with ⟨rfl | ⟨ea,rfl⟩,rfl⟩ | ⟨id,off,cap,n,cs,st,rfl,hg,h1,h2,h3,h4⟩
 ·simp only [bY] at hb
  have:b=0:=by omega
  have:a=0:=by omega
  subst_vars
  refine ⟨?_,⟨by simp,.inl ⟨.inl rfl,by simp⟩⟩,fun i hi=>hi⟩
  simp only [sliceV,aS,fU]
  rfl
 ·simp only [bY] at hb
  have:b=0:=by omega
  have:a=0:=by omega
  subst_vars
  refine ⟨?_,⟨by simp,.inl ⟨.inr ⟨ea,rfl⟩,by simp⟩⟩,fun i hi=>hi⟩
  simp only [sliceV,aS,fU]
  rfl
 ·have I:∀o,o=off+a∨b-a=0→(cs.drop o).take (b-a)=ofBytes ((l.take b).drop a):=by
   intro o ho
   rcases vV (b-a) with hz | hz
   ·rw [hz,pN]
    have:(l.take b).drop a=[]:=qW (by omega)
    rw [this]; rfl
   ·have yn:o=off+a:=by rcases ho with ho | ho; exact ho; omega
    subst yn
    have e1:ofBytes ((l.take b).drop a)=((ofBytes l).take b).drop a:=by simp [ofBytes,ry,ru]
    rw [e1,←h3,tK,pM hb,tJ,rq]
  cases cap with
  | exact c =>
   have hc:l.length≤c:=h4
   refine ⟨?_,⟨U,.inr ⟨id,_,_,n,cs,st,by rw [hlen]; rfl,hg,h1,?_,?_,?_⟩⟩,fun i hi=>by simpa [rowIds,slR] using hi⟩
   ·simp only [sliceV,slR,aS,fU,eZ]
    rw [show (Nat.ble a b&&Nat.ble b c)=true by rw [aZ,aQ,aQ]; omega,ag]
   ·rw [hlen]
    by_cases J:c=a
    ·rw [g9 J,ag]; omega
    ·rw [cS J,ay]; omega
   ·rw [hlen]
    by_cases J:c=a
    ·rw [g9 J,ag]; exact I off (.inr (by omega))
    ·rw [cS J,ay,dW]; exact I _ (.inl rfl)
   ·show _≤c-a
    rw [hlen]; omega
  | rest e alt =>
   have he:e=1:=h4
   subst he
   refine ⟨?_,⟨U,.inr ⟨id,_,_,n,cs,st,by rw [hlen]; rfl,hg,h1,by rw [hlen]; omega,by rw [hlen,dW]; exact I _ (.inl rfl),rfl⟩⟩,fun i hi=>by simpa [rowIds,slR] using hi⟩
   simp only [sliceV,slR,aS,fU,eZ,dx]
   rw [show (true&&Nat.ble 1 1)=true from rfl,ag]
   rw [show (Nat.ble a b&&(Nat.ble b l.length||Nat.ble b (kP h id off 1)))=true by rw [aZ,m8,aQ,aQ]; exact ⟨pQ,.inl hb⟩,ag]
theorem eC {h:H}{v:V}{l:List Nat}{a:Nat}(U:View h v l)(ha:a≤l.length):
  sliceV Tryz.prog h 32 v (some a) none none=some (slR v a l.length)∧View h (slR v a l.length) (l.drop a)∧∀i∈rowIds (slR v a l.length),i∈rowIds v:=by
 obtain ⟨I,h2,h3⟩:=iN U ha (aI _)
 refine ⟨?_,by simpa using h2,h3⟩
 obtain ⟨_,J⟩:=U
 rcases J with ⟨rfl | ⟨ea,rfl⟩,rfl⟩ | ⟨id,off,cap,n,cs,st,rfl,hg,g1,g2,g3,g4⟩
 ·simpa [sliceV,aS,fU] using I
 ·simpa [sliceV,aS,fU] using I
 ·rw [←I]
  simp only [sliceV,aS,fU,nV,eZ]
theorem iz {h:H}{v:V}{l:List Nat}{b:Nat}(U:View h v l)(hb:b≤l.length):
  sliceV Tryz.prog h 32 v none (some b) none=some (slR v 0 b)∧View h (slR v 0 b) (l.take b)∧∀i∈rowIds (slR v 0 b),i∈rowIds v:=by
 obtain ⟨I,h2,h3⟩:=iN U (eM b) hb
 refine ⟨?_,by simpa using h2,h3⟩
 obtain ⟨_,J⟩:=U
 rcases J with ⟨rfl | ⟨ea,rfl⟩,rfl⟩ | ⟨id,off,cap,n,cs,st,rfl,hg,g1,g2,g3,g4⟩
 ·simpa [sliceV,aS,fU] using I
 ·simpa [sliceV,aS,fU] using I
 ·rw [←I]
  simp only [sliceV,aS,fU,nV,eZ]
theorem iq {h:H}{v:V}{l:List Nat}{i b:Nat}(U:View h v l)(hi:l[i]?=some b):
  ∃id off,indexAddrV Tryz.prog 32 v (.int .i64 (i:Int))=some (.ptr id off)∧loadV Tryz.prog h 5 (.ptr id off)=some (.int .u8 (b:Int)):=by
 obtain ⟨hl,I⟩:=U
 have J:i<l.length:=(List.getElem?_eq_some_iff.1 hi).1
 rcases I with ⟨_,rfl⟩ | ⟨id,off,cap,n,cs,st,rfl,hg,h1,h2,h3,h4⟩
 ·simp at hi
 ·refine ⟨id,off+i*1,?_,?_⟩
  ·simp only [indexAddrV,aS,fU,cQ]
   rw [show (decide ((0:Int)≤(i:Int))&&decide ((i:Int)<(l.length:Int)))=true by simp; omega,ag]
  ·simp only [loadV,Kg,yb,hg,fV,dW]
   have e:=iZ (fun q=>q[i]?) h3
   simp only [mj,jW,aj J] at e
   rw [e]
   simp [ofBytes,hi]
theorem View.cells {h:H}{v:V}{l:List Nat}(I:View h v l): v.cells=[v]∧Am.storable v=true:=by
 obtain ⟨_,I⟩:=I
 rcases I with ⟨rfl | ⟨J,rfl⟩,_⟩ | ⟨id,off,cap,n,cs,st,rfl,_⟩ <;> exact ⟨rfl,rfl⟩
def plain1 : V→Bool
 | .bool _ | .int _ _ | .str _ | .cK | .ptr _ _ | .bz | .sl _ _ _ _ | .lS | .map _ | .E4 | .mJ | .ue _ _=>true
 | .fn (.func _) [] []=>true
 | _=>false
def We : V→Bool
 | .agg l=>l.all plain1
 | .bE l=>l.all plain1
 | .iface _ v=>plain1 v
 | v=>plain1 v
theorem LV (k:FloatKind): fkBeq k k=true:=by cases k <;> rfl
theorem Hl : ∀l:List Nat,natsBeq l l=true:=fun l=>by rw [vE]; simp
theorem Qs (v:V)(h:plain1 v=true): v.beq v=true:=by
 cases v <;> simp [plain1,V.beq,dK,lU,By,Hl,LV] at h ⊢
 rename_i f a b
 cases f <;> cases a <;> cases b <;> simp [plain1,V.beq,V.beqL] at h ⊢
theorem SD : ∀(l:List V),l.all plain1=true→V.beqL l l=true:=by
 intro l
 induction l with
 | nil=>intro _; rfl
 | cons v l I =>
  intro h
  simp only [jl,aZ] at h
  simp only [V.beqL,Qs v h.1,ag,I h.2]
theorem aX (v:V)(h:We v=true): v.beq v=true:=by
 cases v with
 | agg l=>exact SD l h
 | bE l=>exact SD l h
 | iface t v=>simp only [V.beq,dx,AM]; exact Qs v h
 | _=>exact Qs _ h
section
variable {P:Program} {h h':H} {S:List ax} {X:ax} {v w:V} {l m:List Nat}
theorem C4 (s:Sat h (bK v l::X::S))(J:cU X (cY w m))(I:l.length+m.length≤140737488355328):
  ∃v' h',appendV Tryz.prog h #[32,32] v w=some (v',h')∧Sat h' (bK v' (l++m)::X::S):=by
 obtain ⟨v',h',U,e2,e3,e4⟩:=y9 s.wf (s.buf (k:=0) rfl) (s.aL (k:=1) rfl J) I
 exact ⟨v',h',U,s.A3 e3 e2 e4⟩
theorem Fp (s:Sat h S){c:Nat}(I:c<1073741824):
  ∃v h',makeSliceV Tryz.prog h 32 (.int .i64 0) (.int .i64 (c:Int))=some (v,h')∧Sat h' (bK v []::S):=by
 obtain ⟨v,h',J,U,e3,e4⟩:=CQ s.wf I
 exact ⟨v,h',J,s.G9 e3 U e4⟩
theorem TS : ∀n:Nat,repeatL [V.int .u8 0] n=ofBytes (List.replicate n 0):=by
 intro n
 induction n with
 | zero=>rfl
 | succ n I=>simp only [repeatL,I,ofBytes,tC,bI]; rfl
theorem NU (s:Sat h S){c:Nat}(J:c<1073741824):
  ∃v h',makeSliceV Tryz.prog h 32 (.int .i64 (c:Int)) (.int .i64 (c:Int))=some (v,h')∧Sat h' (bK v (List.replicate c 0)::S):=by
 obtain ⟨i,hi,i1,i2⟩:=wC
 have I:j4 (h.new (.cells c (repeatL [.int .u8 0] c) false)) (.sl h.next 0 c (.exact c)) (List.replicate c 0):=by
  refine ⟨fun b I=>by have:=qX I; omega,.inr (.inl ⟨h.next,[],c,by simp,?_,by simp⟩)⟩
  rw [f_,aj rfl,TS,bF]
 refine ⟨.sl h.next 0 c (.exact c),h.new (.cells c (repeatL [.int .u8 0] c) false),?_,s.G9 (eN.A0 s.wf _) I fun i hi=>by simp [rowIds] at hi; omega⟩
 simp only [makeSliceV,aS,hi,rG,i1,i2,V.cells,bl,bY,cQ,dW]
 rw [show (decide ((0:Int)≤(c:Int))&&decide ((c:Int)≤(c:Int))&&decide ((c:Int)<1073741824)&&Nat.ble 1 4096&&Nat.beq (0+1) 1&&Nat.ble 1 1)=true by simp; omega,ag]
theorem NV (s:Sat h S){b:Nat}(I:b<256): ∃v h',buildSliceV Tryz.prog h 32 1 [(0,.int .u8 b)]=some (v,h')∧Sat h' (bK v [b]::S):=by
 obtain ⟨v,h',J,U,e3,e4⟩:=Fl s.wf I
 exact ⟨v,h',J,s.G9 e3 U e4⟩
theorem Sat.kM (s:Sat h (bK v l::S))(hl:1≤l.length): ∃id c cap rest,v=.sl id 0 l.length cap∧Sat h (pt id (.cells c (ofBytes l++rest) false)::S)∧l.length+rest.length=c ∧
  (∀(h':H) (I:List Nat),I.length=l.length→(∀b∈I,b<256)→Sat h' (pt id (.cells c (ofBytes I++rest) false)::S)→Sat h' (bK v I::S)):=by
 obtain ⟨m,r,h1,h2,h3,a,b,g1,g2,g3,⟨gl,g4⟩,g5⟩:=s.ok
 rcases g4 with ⟨rfl,rfl⟩ | ⟨id,cs,c,rfl,hg,hc⟩ | ⟨id,rfl,hg,h5⟩
 ·simp at hl
 ·refine ⟨id,c,_,cs,rfl,⟨s.wf,m,r,h1,h2,h3,a,b,g1,g2,g3,hg,g5⟩,hc,fun h' I U e2 s'=>s'.fY ?_⟩
  intro m' r' hm
  exact ⟨e2,.inr (.inl ⟨id,cs,c,by rw [U],hm,by omega⟩)⟩
 ·refine ⟨id,l.length,_,[],rfl,⟨s.wf,m,r,h1,h2,h3,a,b,g1,g2,g3,by rw [bF]; exact hg,g5⟩,by simp,fun h' I U e2 s'=>s'.fY ?_⟩
  intro m' r' hm
  have J:m' id=some (.cells l.length (ofBytes I++[]) false):=hm
  rw [bF] at J
  exact ⟨e2,.inr (.inr ⟨id,by rw [U],by rw [U]; exact J,by omega⟩)⟩
theorem zG (l:List Nat)(n:Nat): (ofBytes l).take n=ofBytes (l.take n):=by simp [ofBytes,ru]
theorem Ho (l:List Nat)(n:Nat): (ofBytes l).drop n=ofBytes (l.drop n):=by simp [ofBytes,ry]
def dg (l:List Nat)(a:Nat)(m:List Nat): List Nat:=l.take a++(m++l.drop (a+m.length))
theorem iO {l m:List Nat}{a:Nat}(h:a+m.length≤l.length): (dg l a m).length=l.length:=by simp [dg]; omega
theorem zH {l m:List Nat}{a:Nat}(J:∀b∈l,b<256)(hm:∀b∈m,b<256): ∀b∈dg l a m,b<256:=fun b I=>by
 simp only [dg,rj] at I
 rcases I with I | I | I
 ·exact J b (gH I)
 ·exact hm b I
 ·exact J b (iC I)
theorem Hp (s:Sat h (bK v l::X::S))(hX:cU X (cY w m)){a b:Nat}(pQ:a<b)(hb:b≤l.length)(hm:1≤m.length):
  ∃h',copyV Tryz.prog h 32 (slR v a b) w=some (.int .i64 (min m.length (b-a):Nat),h')∧Sat h' (bK v (dg l a (m.take (b-a)))::X::S):=by
 have hw:=s.aL (k:=1) rfl hX
 have NY:=hw.1
 have hv:=(s.buf (k:=0) rfl).1
 obtain ⟨id,c,cap,rest,rfl,s1,hc,hf⟩:=s.kM (by omega)
 have lK:∃U,slR (.sl id 0 l.length cap) a b=.sl id a (b-a) U:=by
  cases cap with
  | exact c =>
   refine ⟨.exact (c-a),?_⟩
   simp only [slR]
   by_cases hca:c=a
   ·obtain ⟨m',r,h1,h2,h3⟩:=s.at (k:=0) rfl
    rcases h3.2 with ⟨e,_⟩ | ⟨Bu,cs',c',e,hg,SE⟩ | ⟨Bu,e,_⟩
    ·cases e
    ·injection e with _ _ _ e4; injection e4 with e4; omega
    ·injection e with _ _ _ e4; cases e4
   ·rw [cS hca,ay,dV,dW]
  | rest e alt=>exact ⟨_,by simp only [slR,dV,dW]; rfl⟩
 obtain ⟨U,lK⟩:=lK
 rw [lK]
 have qT:=hw
 rcases qT.2 with ⟨_,rfl⟩ | ⟨nG,I,J,n2,Ko,ZB,rfl,Kp,q1,q2,q3,q4⟩
 ·simp at hm
 ·have Qt:Nat.min m.length (b-a)=(m.take (b-a)).length:=by
   rw [dP]
   exact Nat.min_comm _ _
  have lY:rdN h nG I (Nat.min m.length (b-a)*1)=some (ofBytes (m.take (b-a))):=by
   have oz:View h (.sl nG I (m.take (b-a)).length J) (m.take (b-a)):=by
    refine ⟨fun x hx=>NY x (gH hx),.inr ⟨nG,I,J,n2,Ko,ZB,rfl,Kp,q1,?_,?_,?_⟩⟩
    ·have:(m.take (b-a)).length≤m.length:=by simp; omega
     omega
    ·rw [←zG,←q3,tK,dP]
    ·cases J with
     | exact c2 =>
      simp only at q4 ⊢
      have:(m.take (b-a)).length≤m.length:=by simp; omega
      omega
     | rest e2 a2=>exact q4
   rw [dW,Qt]
   exact oz.rdN.2
  simp only [copyV,aS,fU,lY]
  have hlen:(m.take (b-a)).length≤b-a:=by simp; omega
  have qU:wrN h id a (ofBytes (m.take (b-a)))=some (h.put id (some (.cells c (ofBytes (dg l a (m.take (b-a)))++rest) false))):=by
   simp only [wrN,s1.row (k:=0) rfl,dR]
   rw [aQ.2 (by omega),ag]
   congr 3
   have e0:(ofBytes l++rest).take a++(ofBytes (m.take (b-a))++(ofBytes l++rest).drop (a+(m.take (b-a)).length))=ofBytes (dg l a (m.take (b-a)))++rest:=by
    rw [pq (by rw [dR]; omega),DM (by rw [dR]; omega),zG,Ho]
    simp only [dg,rX,bH]
   cases yt:(Nat.beq a 0&&Nat.beq (m.take (b-a)).length c) with
   | true =>
    simp only [aZ,beq_iff] at yt
    rw [ag,←e0]
    obtain ⟨SF,hmc⟩:=yt
    subst SF
    have:(ofBytes l++rest).drop (0+(m.take (b-0)).length)=[]:=iB (by simp [dR] at hmc ⊢; omega)
    rw [this]
    simp
   | false=>rw [ay,e0]
  rw [qU]
  refine ⟨_,rfl,hf _ _ (iO (by omega)) (zH hv (fun x hx=>NY x (gH hx))) ?_⟩
  exact s1.put (k:=0) rfl
end
section
variable {P:Program} {h h':H} {S:List ax} {v w x:V} {cs ds:List V} {k:Nat}
theorem SG {t:TypeId}{id off n q:Nat}{st:Bool}(J:b_ P t=some true)(hs:bJ P t=some q)(U:T.get h.tr id=some (.cells n cs st))(hl:cs.length=n)(hb:off+q≤n):
  loadV P h t (.ptr id off)=some (.agg ((cs.drop off).take q)):=by
 simp only [loadV,J,hs,rdN,U]
 rw [aQ.2 hb,ag]
 cases I:(Nat.beq off 0&&Nat.beq q n) with
 | true =>
  simp only [aZ,beq_iff] at I
  obtain ⟨rfl,rfl⟩:=I
  simp [←hl]
 | false=>rfl
theorem Sat.TT (s:Sat h (.arr k v cs::S))(I:cs≠[]): ∃id n cap N rest,v=.sl id 0 n cap∧cs.length=n*k∧N=cs.length+rest.length∧Sat h (pt id (.cells N (cs++rest) false)::S) ∧
  (∀(h':H) (cs':List V) (S':List ax),cs'.length=cs.length→cs'.all storable=true→Sat h' (pt id (.cells N (cs'++rest) false)::S')→Sat h' (.arr k v cs'::S')):=by
 obtain ⟨m,r,J,U,h3,a,b,g1,g2,g3,⟨gl,g4⟩,g5⟩:=s.ok
 rcases g4 with ⟨_,e⟩ | ⟨id,n,cap,N,rest,rfl,hg,q1,q2,q3,q4⟩
 ·exact absurd e I
 ·refine ⟨id,n,cap,N,rest,rfl,q1,q2.symm,⟨s.wf,m,r,J,U,h3,a,b,g1,g2,g3,hg,g5⟩,fun h' cs' S' e1 e2 s'=>s'.fY ?_⟩
  intro m' r' hm
  exact ⟨e2,.inr ⟨id,n,cap,N,rest,rfl,hm,by omega,by omega,q3,q4⟩⟩
theorem Sat.LW {j:Nat}(s:Sat h S)(I:getA S j=some (.arr k v cs)): cs.all storable=true:=by
 obtain ⟨m,r,U,h2,J⟩:=s.at I
 exact J.1
theorem Sat.kU {j:Nat}(s:Sat h S)(I:getA S j=some (.arr k v cs)): v.cells=[v]∧storable v=true∧v.beq v=true:=by
 obtain ⟨m,r,U,h2,J⟩:=s.at I
 rcases J.2 with ⟨rfl,_⟩ | ⟨id,n,cap,N,rest,rfl,_⟩
 ·exact ⟨rfl,rfl,rfl⟩
 ·exact ⟨rfl,rfl,CU _ _ _ _⟩
theorem Sat.iP {j n:Nat}{t e:TypeId}(s:Sat h S)(U:getA S j=some (.arr k v cs))(hn:cs.length=n*k)(J:1≤k)(hu:P.underlying t=some (.slice e)): lenV P h t v=some (.int .i64 n):=by
 obtain ⟨m,r,h1,h2,h3⟩:=s.at U
 rcases h3.2 with ⟨rfl,rfl⟩ | ⟨id,n',cap,N,rest,rfl,_,q,_⟩
 ·have:n=0:=by
   rcases vV n with I | I
   ·exact I
   ·have:=tL I J
    simp at hn
    omega
  subst this
  simp only [lenV,hu]
  rfl
 ·have:n'=n:=JX J (by omega)
  subst this
  simp only [lenV,hu]
theorem vG (z:List V)(n:Nat): (repeatL z n).length=n*z.length:=by
 induction n with
 | zero=>simp [repeatL]
 | succ n I=>simp only [repeatL,bC,I,Nat.succ_mul]; omega
theorem C5 {z:List V}(I:z.all storable=true)(n:Nat): (repeatL z n).all storable=true:=by
 induction n with
 | zero=>rfl
 | succ n J=>simp only [repeatL,List.all_append,I,J,iD]
theorem vk (s:Sat h S){t e:TypeId}{i:TypeInfo}{z:V}{n c:Nat}(hu:P.underlying t=some (.slice e))(hi:P.info? e=some i)(U:zeroT P e=some z)(hk:i.size=k)(hb:i.bytes≤4096)(J:z.cells.length=k)(I:z.cells.all storable=true)
 (h1:1≤k)(hn:n≤c)(hc:c<1073741824):
  ∃v h',makeSliceV P h t (.int .i64 (n:Int)) (.int .i64 (c:Int))=some (v,h')∧Sat h' (.arr k v (repeatL z.cells n)::S):=by
 refine ⟨.sl h.next 0 n (.exact c),h.new (.cells (c*k) (repeatL z.cells c) false),?_,(s.new _).fY fun m r hm => ?_⟩
 ·simp only [makeSliceV,hu,hi,U,cQ,hk,J]
  rw [show (decide ((0:Int)≤(n:Int))&&decide ((n:Int)≤(c:Int))&&decide ((c:Int)<1073741824)&&Nat.ble i.bytes 4096&&Nat.beq k k&&Nat.ble 1 k)=true by
   rw [aQ.2 hb,aQ.2 h1,dx]; simp; omega,ag]
 ·refine ⟨C5 I n,.inr ⟨h.next,n,.exact c,c*k,repeatL z.cells (c-n),rfl,?_,by rw [vG,J],?_,C5 I _,rfl,hn⟩⟩
  ·have:repeatL z.cells n++repeatL z.cells (c-n)=repeatL z.cells c:=by
    clear hm
    have:∀a b,repeatL z.cells a++repeatL z.cells b=repeatL z.cells (a+b):=fun a b=>by
     induction a with
     | zero=>simp [repeatL]
     | succ a ih=>rw [Nat.succ_add]; simp only [repeatL,bH,ih]
    rw [this,show n+(c-n)=c by omega]
   rw [this]; exact hm
  ·rw [vG,vG,J,←iE,show n+(c-n)=c by omega]
theorem TU {id off n:Nat}{vs:List V}(J:T.get h.tr id=some (.cells n cs false))(hl:cs.length=n)(U:off+vs.length≤n):
  wrN h id off vs=some (h.put id (some (.cells n (cs.take off++(vs++cs.drop (off+vs.length))) false))):=by
 simp only [wrN,J]
 rw [aQ.2 U,ag]
 congr 3
 cases I:(Nat.beq off 0&&Nat.beq vs.length n) with
 | true =>
  simp only [aZ,beq_iff] at I
  obtain ⟨rfl,hn⟩:=I
  rw [ag]
  have:cs.drop (0+vs.length)=[]:=iB (by omega)
  rw [this]; simp
 | false=>rw [ay]
theorem C6 {id off n q:Nat}{st:Bool}(J:T.get h.tr id=some (.cells n cs st))(U:cs.length=n)(hb:off+q≤n): rdN h id off q=some ((cs.drop off).take q):=by
 simp only [rdN,J]
 rw [aQ.2 hb,ag]
 cases I:(Nat.beq off 0&&Nat.beq q n) with
 | true =>
  simp only [aZ,beq_iff] at I
  obtain ⟨rfl,rfl⟩:=I
  simp [←U]
 | false=>rfl
theorem jB (s:Sat h (.arr k v cs::.arr k w ds::S)){t e:TypeId}{i:TypeInfo}{z:V}(hu:P.underlying t=some (.slice e))(hi:P.info? e=some i)(hz:zeroT P e=some z)(hk:i.size=k)(hb:i.bytes≤4096)(hl:z.cells.length=k)
 (h1:1≤k)(eX:cs.length+ds.length≤1073741824):
  ∃v' h',appendV P h #[t,t] v w=some (v',h')∧Sat h' (.arr k v' (cs++ds)::.arr k w ds::S):=by
 have LX:=s.LW (j:=0) rfl
 have LY:=s.LW (j:=1) rfl
 have mz:(cs++ds).all storable=true:=by rw [List.all_append,LX,LY]; rfl
 -- what is appended
 have Eh:∃m,srcV h k w=some (ds,m)∧ds.length=m*k:=by
  obtain ⟨m,r,q1,q2,q3⟩:=s.at (k:=1) rfl
  rcases q3.2 with ⟨rfl,rfl⟩ | ⟨id,n,cap,N,rest,rfl,J,U,e2,e3,e4⟩
  ·exact ⟨0,rfl,by simp⟩
  ·refine ⟨n,?_,U⟩
   simp only [srcV]
   rw [C6 (q1 _ _ J) (by simp [e2]) (by omega)]
   rw [d_,←U,jX rfl]
   rfl
 obtain ⟨m,Eh,hm⟩:=Eh
 have I:∀n:Nat,n*k=cs.length→mU (n+m) i.bytes=true:=fun n hn=>by
  have U:(n+m)*k=cs.length+ds.length:=by rw [iE,hn,hm]
  have e2:n+m≤(n+m)*k:=Nat.le_mul_of_pos_right _ h1
  have e3:(n+m)*i.bytes≤(n+m)*4096:=Nat.mul_le_mul_left _ hb
  exact w9.2 ⟨by omega,by omega⟩
 have GL:∀(σ:H) (n:Nat) (T:List ax),Sat σ T→n*k=cs.length→1≤m→Sat (n4 σ k cs ds (n+m)).2 (.arr k (n4 σ k cs ds (n+m)).1 (cs++ds)::T):=by
  intro σ n T sT hn yu
  refine (sT.new (.cells ((n+m)*k) (cs++ds) false)).fY fun a r NZ=>⟨mz,.inr ⟨σ.next,n+m,.rest k 0,(n+m)*k,[],rfl,by rw [bF]; exact NZ,by rw [bC,iE]; omega,by rw [bC,iE]; simp; omega,rfl,rfl,rfl,rfl,by omega⟩⟩
 unfold appendV
 simp only [hu,hi,hz,hk,hl,Eh]
 rw [show (Nat.ble 1 k&&Nat.ble i.bytes 4096&&Nat.beq k k)=true by rw [aQ.2 h1,aQ.2 hb,dx]; rfl,ag]
 cases Fk:Nat.beq m 0 with
 | true =>
  have:m=0:=beq_iff.1 Fk
  subst this
  have hd0:ds=[]:=qW (by simpa using hm)
  subst hd0
  rw [ag,bF]
  obtain ⟨m,r,q1,q2,q3⟩:=s.at (k:=0) rfl
  rcases q3.2 with ⟨rfl,rfl⟩ | ⟨id,n,cap,N,rest,rfl,J,U,e2,e3,e4⟩
  ·exact ⟨_,_,rfl,s⟩
  ·exact ⟨_,_,rfl,s⟩
 | false =>
  have yu:1≤m:=by
   rcases vV m with h0 | h0
   ·rw [g9 h0] at Fk; cases Fk
   ·exact h0
  rw [ay]
  obtain ⟨a,r,q1,q2,q3⟩:=s.at (k:=0) rfl
  rcases q3.2 with ⟨rfl,rfl⟩ | ⟨id,n,cap,N,rest,rfl,J,U,e2,e3,e4⟩
  ·have J:=I 0 (by simp)
   rw [dV] at J
   simp only [J,ag]
   have:=GL h 0 (.arr k .bz []::.arr k w ds::S) s (by simp) yu
   rw [dV] at this
   refine ⟨_,_,rfl,?_⟩
   exact (this.qv [1]).drop
  ·cases cap with
   | exact c =>
    obtain ⟨e4,e5⟩:=e4
    simp only [dV]
    have qS:(cs++rest).take cs.length=cs:=jX rfl
    cases hq:Nat.ble (n+m) c with
    | true =>
     have uu:=aQ.1 hq
     rw [ag]
     have jq:n*k+ds.length≤N:=by rw [hm,←iE,e4]; exact qY _ uu
     rw [TU (q1 _ _ J) (by simp [e2]) jq]
     simp only
     obtain ⟨m',r',p1,p2,p3,x1,x2,x3,x4,x5,⟨_,x6⟩,x7⟩:=s.ok
     have uz:x1 id=some (.cells N (cs++rest) false):=by
      rcases x6 with ⟨x6,_⟩ | ⟨Bu,n',Vn,N',Ys,x6,x8,x9,SH,_⟩
      ·cases x6
      ·injection x6 with y1 y2 y3 y4
       subst y1
       rw [x8]
       have:=p1 _ _ (x4 _ _ x8)
       rw [q1 _ _ J] at this
       injection this with this
       rw [this]
     have s0:Sat h (pt id (.cells N (cs++rest) false)::.arr k w ds::S):=⟨s.wf,m',r',p1,p2,p3,x1,x2,x3,x4,x5,uz,x7⟩
     have s1:=s0.put (k:=0) (o':=.cells N ((cs++rest).take (n*k)++(ds++(cs++rest).drop (n*k+ds.length))) false) rfl
     refine ⟨_,_,rfl,Sat.fY s1 fun a' r'' ha=>⟨mz,.inr ⟨id,n+m,.exact c,N,rest.drop ds.length,rfl,?_,by rw [bC,iE]; omega,by simp; omega,?_,e4,uu⟩⟩⟩
     ·have ha':a' id=some (.cells N ((cs++rest).take (n*k)++(ds++(cs++rest).drop (n*k+ds.length))) false):=ha
      rw [ha',←U,qS,AH,iB (by omega),DQ,cW,bH]
     ·rw [pK] at e3 ⊢
      exact fun y hy=>e3 y (iC hy)
    | false =>
     rw [ay,I n U.symm,ag,C6 (q1 _ _ J) (by simp [e2]) (by omega)]
     simp only
     rw [d_,←U,qS]
     have:=GL h n _ s U.symm yu
     exact ⟨_,_,rfl,(this.qv [1]).drop⟩
   | rest e' alt =>
    obtain ⟨ek,rfl,rfl,e7⟩:=e4
    have ek:=ek.symm
    subst ek
    simp only [dx,ag,bF,dV] at J e2 ⊢
    have GH:kP h id 0 k=n:=by
     simp only [kP,q1 _ _ J]
     rw [kH,←e2]
     simp only [bY,iY,U]
     exact DY _ h1
    rw [GH]
    rw [show Nat.ble (n+m) n=false by
     cases hq:Nat.ble (n+m) n with
     | true=>have:=aQ.1 hq; omega
     | false=>rfl,ay,I n U.symm,show Nat.ble 2 ((n+m)*k)=true from aQ.2 (by
      have:2*1≤(n+m)*k:=tL (by omega) h1
      omega),iD,ag,C6 (q1 _ _ J) (by simpa using e2) (by simp at e2; omega),q1 _ _ J]
    simp only
    obtain ⟨m',r',p1,p2,p3,x1,x2,x3,x4,x5,⟨_,x6⟩,x7⟩:=s.ok
    have uz:x1 id=some (.cells N cs false):=by
     rcases x6 with ⟨x6,_⟩ | ⟨Bu,n',Vn,N',Ys,x6,x8,x9,SH,_⟩
     ·cases x6
     ·injection x6 with y1 y2 y3 y4
      subst y1
      rw [x8]
      have:=p1 _ _ (x4 _ _ x8)
      rw [q1 _ _ J] at this
      injection this with this
      rw [this]
    have s0:Sat h (pt id (.cells N cs false)::.arr k w ds::S):=⟨s.wf,m',r',p1,p2,p3,x1,x2,x3,x4,x5,uz,x7⟩
    have:=GL (h.put id none) n _ s0.kill U.symm yu
    rw [d_,fR (by omega)]
    exact ⟨_,_,rfl,this⟩
end
section
variable {P:Program} {h h':H} {S:List ax} {v w x:V} {cs ds:List V} {k:Nat}
theorem Sat.ia {t:TypeId}{j id n:Nat}{l:List V}(s:Sat h S)(J:getA S j=some (pt id (.cells n cs false)))(hs:bJ P t=some n)(U:l.length=n)(I:l.all storable=true):
  ∃h₁,g6 P h t (.ptr id 0) (.agg l)=some h₁∧Sat h₁ (setA S j (pt id (.cells n l false))):=by
 refine ⟨h.put id (some (.cells n l false)),?_,s.put J⟩
 simp only [g6,hs,V.cells,I,U,dx,iD,ag,wrN,s.row J]
 rw [aQ.2 (by omega:0+n≤n),ag]
theorem oc (s:Sat h S){t e:TypeId}{z:V}(hu:P.underlying t=some (.slice e))(hz:zeroT P e=some z)(hk:bJ P e=some k)(J:z.cells.length=k)(h1:1≤k)(h2:k≤65536)(U:x.cells.length=k)(I:x.cells.all storable=true):
  ∃v h',buildSliceV P h t 1 [(0,x)]=some (v,h')∧Sat h' (.arr k v x.cells::S):=by
 refine ⟨.sl h.next 0 1 (.exact 1),newRow h x.cells,?_,?_⟩
 ·simp only [buildSliceV,hu,hk,hz]
  rw [show (Nat.beq z.cells.length k&&Nat.ble (1*k) 65536&&Nat.ble 1 k)=true by rw [J,dx,aQ.2 (by omega),aQ.2 h1]; rfl,ag]
  have e1:repeatL z.cells 1=z.cells:=by simp [repeatL]
  simp only [fillV,e1,U,J,dx,AM]
  rw [aQ.2 (by omega:0*k+k≤k),ag]
  have e2:z.cells.take (0*k)++(x.cells++z.cells.drop (0*k+k))=x.cells:=by
   rw [v_,pN,cW,iB (by omega),bF]
  simp only [e2,I,ag]
 ·refine (s.new _).fY fun m r hm=>⟨I,.inr ⟨h.next,1,.exact 1,k,[],rfl,?_,by omega,by simp; omega,rfl,by omega,aI _⟩⟩
  have hm:m h.next=some (.cells x.cells.length x.cells false):=hm
  rw [hm,U,bF]
end
section
variable {P:Program} {h h':H} {S:List ax} {X:ax} {v w x:V} {l:List Nat} {k:Nat}
theorem ik.slice {m:PM}{a b:Nat}(hv:ik m v l)(pQ:a≤b)(hb:b≤l.length): ik m (slR v a b) ((l.take b).drop a):=by
 have U:∀x∈(l.take b).drop a,x<256:=fun x hx=>hv.1 x (gH (iC hx))
 have hlen:((l.take b).drop a).length=b-a:=by simp; omega
 obtain ⟨hl,uh⟩:=hv
 rcases uh with ⟨rfl | ⟨ea,rfl⟩,rfl⟩ | ⟨id,off,cap,n,cs,st,rfl,hg,h1,h2,h3,h4⟩
 ·simp at hb
  have:b=0:=by omega
  have:a=0:=by omega
  subst_vars
  exact ⟨by simp,.inl ⟨.inl rfl,by simp⟩⟩
 ·simp at hb
  have:b=0:=by omega
  have:a=0:=by omega
  subst_vars
  exact ⟨by simp,.inl ⟨.inr ⟨ea,rfl⟩,by simp⟩⟩
 ·have I:∀o,o=off+a∨b-a=0→(cs.drop o).take (b-a)=ofBytes ((l.take b).drop a):=by
   intro o ho
   rcases ho with rfl | h0
   ·have e:=iZ (fun q=>(q.take b).drop a) h3
    simp only [ofBytes,←ru,←ry] at e ⊢
    rw [←e,tK,pM hb,tJ,rq]
   ·rw [h0,pN]
    have:((l.take b).drop a)=[]:=qW (by omega)
    rw [this]; rfl
  cases cap with
  | exact c =>
   have hc:l.length≤c:=h4
   refine ⟨U,.inr ⟨id,_,_,n,cs,st,by rw [hlen]; rfl,hg,h1,?_,?_,?_⟩⟩
   ·rw [hlen]
    by_cases J:c=a
    ·rw [g9 J,ag]; omega
    ·rw [cS J,ay]; omega
   ·rw [hlen]
    by_cases J:c=a
    ·rw [g9 J,ag]; exact I _ (.inr (by omega))
    ·rw [cS J,ay,dW]; exact I _ (.inl rfl)
   ·show ((l.take b).drop a).length≤c-a
    rw [hlen]; omega
  | rest e alt =>
   have he:e=1:=h4
   subst he
   exact ⟨U,.inr ⟨id,_,_,n,cs,st,by rw [hlen]; rfl,hg,h1,by rw [hlen]; omega,by rw [hlen,dW]; exact I _ (.inl rfl),rfl⟩⟩
theorem mQ {a b:Nat}(U:cU X (cY v l))(I:a≤b)(J:b≤l.length): cU X (cY (slR v a b) ((l.take b).drop a)):=fun m r hm =>
 (U m r hm).imp (fun h=>ik.slice h I J) (fun h=>ik.slice h I J)
theorem od {a:Nat}(I:cU X (cY v l))(J:a≤l.length): cU X (cY (slR v a l.length) (l.drop a)):=by
 have:=mQ I J (aI _)
 rwa [List.take_length] at this
theorem xx {b:Nat}(I:cU X (cY v l))(J:b≤l.length): cU X (cY (slR v 0 b) (l.take b)):=by
 have:=mQ I (eM b) J
 rwa [d_] at this
theorem Sat.qC (s:Sat h S): Sat h (.arr k .bz []::S):=(s.gB aa).fY fun _ _ _=>⟨rfl,.inl ⟨rfl,rfl⟩⟩
theorem Sat.zI (s:Sat h S): Sat h (bK .bz []::S):=(s.gB aa).fY fun _ _ _=>⟨by simp,.inl ⟨rfl,rfl⟩⟩
theorem Sat.r7 (s:Sat h S): Sat h (Bz .bz []::S):=(s.gB aa).fY fun _ _ _=>⟨by simp,.inl ⟨.inl rfl,rfl⟩⟩
theorem zJ (s:Sat h S){t e:TypeId}{i:TypeInfo}{z:V}{n:Nat}(hu:P.underlying t=some (.slice e))(hi:P.info? e=some i)(I:zeroT P e=some z)(J:i.size=k)(U:i.bytes≤4096)(hl:z.cells.length=k)
 (h1:1≤k)(hn:n<1073741824):
  ∃id h',makeSliceV P h t (.int .i64 (n:Int)) (.int .i64 (n:Int))=some (.sl id 0 n (.exact n),h')∧Sat h' (pt id (.cells (n*k) (repeatL z.cells n) false)::S):=by
 refine ⟨h.next,h.new (.cells (n*k) (repeatL z.cells n) false),?_,s.new _⟩
 simp only [makeSliceV,hu,hi,I,cQ,J,hl]
 rw [show (decide ((0:Int)≤(n:Int))&&decide ((n:Int)≤(n:Int))&&decide ((n:Int)<1073741824)&&Nat.ble i.bytes 4096&&Nat.beq k k&&Nat.ble 1 k)=true by
  rw [aQ.2 U,aQ.2 h1,dx]; simp; omega,ag]
theorem p_ {h:H}{t e:TypeId}{i o n:Nat}{c:Cap}{v:V}(I:v=.sl i o n c)(hu:P.underlying t=some (.slice e)): lenV P h t v=some (.int .i64 n):=by subst I; exact G_ hu
theorem aaE {h:H}{J:Array TypeId}{a b:Int}: builtinV P h .max J [.int .i64 a,.int .i64 b]=some (.int .i64 (max a b),h):=by
 simp only [builtinV,foldV,maxV,ikBeq,ag,iW]
 congr 3
 by_cases I:b>a
 ·rw [dQ I,ag]; omega
 ·rw [ew I,ay]; omega
theorem Wf {h:H}{J:Array TypeId}{k:IntKind}{a b:Int}: builtinV P h .min J [.int k a,.int k b]=some (.int k (min a b),h):=by
 simp only [builtinV,foldV,BT,dK,ag,iW]
 congr 3
 by_cases I:b<a
 ·rw [dQ I,ag]; omega
 ·rw [ew I,ay]; omega
theorem LZ {E:List (Nat×V)}{c:Go.Call}{b:Builtin}{args:List V}{r:V}(I:c.callee=.builtin b)(J:lookArgs E c.args.toList=some args)(U:builtinV P h b c.argTypes args=some (r,h')): opE P E h (.call c)=some (r,h'):=by
 simp only [opE,I,J,U]
end
def slR3 (v:V)(a b m:Nat): V:=match v with
 | .sl id off _ _=>.sl id (cond (Nat.beq m a) off (off+a*1)) (b-a) (.exact (m-a))
 | v=>v
section
variable {P:Program} {h h':H} {S:List ax} {X:ax} {v w x:V} {l:List Nat} {k:Nat}
theorem ik.slice3 {m:PM}{a b c:Nat}(hv:ik m v l)(pQ:a≤b)(hb:b≤c)(hc:c≤l.length)(hl:1≤l.length): ik m (slR3 v a b c) ((l.take b).drop a):=by
 have U:∀x∈(l.take b).drop a,x<256:=fun x hx=>hv.1 x (gH (iC hx))
 have hlen:((l.take b).drop a).length=b-a:=by simp; omega
 obtain ⟨_,uh⟩:=hv
 rcases uh with ⟨_,rfl⟩ | ⟨id,off,cap,n,cs,st,rfl,hg,h1,h2,h3,h4⟩
 ·simp at hl
 ·have I:∀o,o=off+a∨b-a=0→(cs.drop o).take (b-a)=ofBytes ((l.take b).drop a):=by
   intro o ho
   rcases ho with rfl | h0
   ·have e:=iZ (fun q=>(q.take b).drop a) h3
    simp only [ofBytes,←ru,←ry] at e ⊢
    rw [←e,tK,pM (cy hb hc),tJ,rq]
   ·rw [h0,pN]
    have:((l.take b).drop a)=[]:=qW (by omega)
    rw [this]; rfl
  refine ⟨U,.inr ⟨id,_,_,n,cs,st,by rw [hlen]; rfl,hg,h1,?_,?_,?_⟩⟩
  ·rw [hlen]
   by_cases J:c=a
   ·rw [g9 J,ag]; omega
   ·rw [cS J,ay]; omega
  ·rw [hlen]
   by_cases J:c=a
   ·rw [g9 J,ag]; exact I _ (.inr (by omega))
   ·rw [cS J,ay,dW]; exact I _ (.inl rfl)
  ·show ((l.take b).drop a).length≤c-a
   rw [hlen]; omega
theorem N0 {a b c:Nat}(hX:cU X (cY v l))(I:a≤b)(J:b≤c)(U:c≤l.length)(hl:1≤l.length): cU X (cY (slR3 v a b c) ((l.take b).drop a)):=fun m r hm =>
 (hX m r hm).imp (fun h=>ik.slice3 h I J U hl) (fun h=>ik.slice3 h I J U hl)
theorem Ji {a b c:Nat}(hv:View h v l)(I:a≤b)(hb:b≤c)(hc:c≤l.length)(hl:1≤l.length): sliceV Tryz.prog h 32 v (some a) (some b) (some c)=some (slR3 v a b c):=by
 obtain ⟨_,J⟩:=hv
 rcases J with ⟨_,rfl⟩ | ⟨id,off,cap,n,cs,st,rfl,hg,h1,h2,h3,U⟩
 ·simp at hl
 ·cases cap with
  | exact q =>
   have hq:l.length≤q:=U
   simp only [sliceV,slR3,aS,fU,eZ]
   rw [show (Nat.ble a b&&Nat.ble b c&&Nat.ble c q)=true by rw [aZ,aZ,aQ,aQ,aQ]; omega,ag]
  | rest e alt =>
   have he:e=1:=U
   subst he
   simp only [sliceV,slR3,aS,fU,eZ,dx]
   rw [show (true&&Nat.ble 1 1)=true from rfl,ag]
   rw [show (Nat.ble a b&&Nat.ble b c&&(Nat.ble c l.length||Nat.ble c (kP h id off 1))&&Nat.blt 0 l.length)=true by
    rw [aZ,aZ,aZ,m8,aQ,aQ,aQ]
    exact ⟨⟨⟨I,hb⟩,.inl hc⟩,by rw [Nat.blt]; exact aQ.2 (by omega)⟩,ag]
theorem kN (I:View h v l)(J:1≤l.length): ∃id off cap,v=.sl id off l.length cap:=by
 rcases I.2 with ⟨_,rfl⟩ | ⟨id,off,cap,_,_,_,rfl,_⟩
 ·simp at J
 ·exact ⟨id,off,cap,rfl⟩
theorem fO {k:IntKind}{n:Int}(I:0≤n): g8 (some (V.int k n))=some (some n.toNat):=by
 simp only [g8,bndV,dQ I,ag]
end
section
variable {P:Program} {h h':H} {S:List ax} {X:ax} {v w x:V} {cs:List V} {l m:List Nat} {k:Nat}
theorem Hq {t e:TypeId}{i q j:Nat}(s:Sat h S)(J:getA S j=some (.arr q v cs))(hi:i*q+q≤cs.length)(U:1≤q)(hu:P.underlying t=some (.slice e))(I:bJ P e=some q):
  ∃id off,indexAddrV P t v (.int .i64 (i:Int))=some (.ptr id off)∧(b_ P e=some true→loadV P h e (.ptr id off)=some (.agg ((cs.drop (i*q)).take q))):=by
 obtain ⟨m,r,h1,h2,h3⟩:=s.at J
 rcases h3.2 with ⟨_,rfl⟩ | ⟨id,n,cap,N,rest,rfl,hg,e1,e2,_⟩
 ·simp at hi; omega
 ·refine ⟨id,i*q,?_,fun ht => ?_⟩
  ·simp only [indexAddrV,hu,I,cQ]
   have:i<n:=by
    have h4:i*q+q=(i+1)*q:=by rw [iE,we]
    rw [h4,e1] at hi
    exact D2 (DP hi U)
   rw [show (decide ((0:Int)≤(i:Int))&&decide ((i:Int)<(n:Int)))=true by simp; omega,ag]
   simp
  ·rw [SG ht I (h1 _ _ hg) (by simp; omega) (by omega)]
   rw [DM (by omega),pq (by simp; omega)]
theorem Sat.Wg (s:Sat h (bK v l::X::S))(hX:cU X (cY w m)): ∀i∈rowIds w,i∉rowIds v:=by
 intro i hi kf
 obtain ⟨a,r,h1,h2,h3,b,c,g1,g2,g3,g4,d,e,k1,k2,k3,k4,k5⟩:=s.ok
 have hb:=Kj g4 i kf
 have hw:∀q:PM,ik q w m→q i≠none:=fun q J=>by
  rcases J.2 with ⟨rfl | ⟨ea,rfl⟩,_⟩ | ⟨id,off,cap,n,cs,st,rfl,hg,_⟩
  ·simp [rowIds] at hi
  ·simp [rowIds] at hi
  ·simp [rowIds] at hi; subst hi; rw [hg]; simp
 rcases hX _ _ k4 with J | J
 ·have h4:=hw _ J
  cases hd:d i with
  | none=>exact h4 hd
  | some o =>
   rcases g1 i with I | I
   ·exact hb I
   ·rw [k2 _ _ hd] at I; cases I
 ·have h4:=hw _ J
  cases U:b i with
  | none=>exact hb U
  | some o =>
   rcases h3 i with I | I
   ·rw [g2 _ _ U] at I; cases I
   ·exact h4 I
end
end Go.Proofs.YtconhghphklfjaaGreat.Am
