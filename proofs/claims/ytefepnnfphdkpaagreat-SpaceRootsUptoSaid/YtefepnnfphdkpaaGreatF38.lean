/- SpaceRoots: a part of its proof; conditions: its statement's. -/
import Derived.Test.YtefepnnfphdkpaaGreatF37
namespace Go.Proofs.YtefepnnfphdkpaaGreat.Am
open Go
theorem Zg {h:H}{S:List au}{cs:List V}{m:List Wr}{i:Nat}{x:Wr}{wt:V}{j1:Nat}(s:Sat h (uu cs m::S))(h1:getA (uu cs m::S) j1=some (.arr 2 wt cs))(I:m[i]?=some x):
  ∃id off u,indexAddrV Tryz.prog 146 wt (.int .i64 (i:Int))=some (.ptr id off)∧loadV Tryz.prog h 151 (.ptr id off)=some (.agg [.int .i64 (x.1:Int),u])∧u≠.bw∧Sat h (.cx u x.2::uu cs m::S):=by
 obtain ⟨a,b,q1,q2,q3⟩:=s.at (k:=0) rfl
 have hl:=A5 q3
 have HJ:=(List.getElem?_eq_some_iff.1 I).1
 have key:∀ {m:List Wr} {cs:List V} {i:Nat} {x:Wr} {a b:PM},(uu cs m).p a b→m[i]?=some x→∃u,(cs.drop (i*2)).take 2=[.int .i64 (x.1:Int),u]∧u≠.bw∧(au.cx u x.2).p a b:=by
  intro m
  induction m with
  | nil=>intro cs i x a b _ h; simp at h
  | cons y m ih =>
   intro cs i x a b h I
   rcases cs with _ | ⟨p,_ | ⟨v,cs⟩⟩ <;> first | exact h.elim | skip
   obtain ⟨⟨⟨J,e2⟩,e3⟩,e4⟩:=h
   cases i with
   | zero=>simp at I; subst I; exact ⟨v,by rw [J]; rfl,e2,e3⟩
   | succ i =>
    simp at I
    obtain ⟨u,f1,f2⟩:=ih e4 I
    refine ⟨u,?_,f2⟩
    rw [←f1,show (i+1)*2=i*2+2 by omega]
    rfl
 obtain ⟨u,J,e2,e3⟩:=key q3 I
 obtain ⟨id,off,g1,g2⟩:=Ov (P:=Tryz.prog) (i:=i) s h1 (by omega) (by decide) zI C4
 have g2:=g2 Th
 rw [J] at g2
 refine ⟨id,off,u,g1,g2,e2,?_⟩
 have s1:=(s.dup (aW.wr _ _)).hO (B:=.cx u x.2) fun a b h=>by
  obtain ⟨u',f1,_,f3⟩:=key h I
  rw [J] at f1
  injection f1 with _ f1
  injection f1 with f1 _
  subst f1
  exact f3
 exact s1
def layW (c:List Nat): Nat→List Wr→List (Option (List Nat))→List (Option (List Nat))
 | _,[],P=>P
 | i,w::l,P=>layW c (i+1) l (if c.getD i 0%2=0 then P.set w.1 (some w.2) else P)
def tornP (c:List Nat)(k:Nat)(P:List (Option (List Nat))): Option Wr→List (Option (List Nat))
 | none=>P
 | some w=>P.set w.1 (some (aV (aV (List.replicate 512 0) 0 ((P.getD w.1 none).getD [])) 0 (w.2.take (c.getD k 0/2%5*128))))
def kF (δ:Dk)(c:List Nat): Nat:=(c.getD 0 0+256*c.getD 1 0)%((δ.log.drop δ.bp++δ.tail).length+1)
def r_ (δ:Dk)(c:List Nat): List Nat:=δ.log.take δ.bp++(δ.log.drop δ.bp++δ.tail).take (kF δ c)
def fC (δ:Dk)(c:List Nat): Dk :=
 { room:=δ.room,ax:=tornP c δ.waiting.length (layW c 0 δ.waiting δ.ax) δ.eE,waiting:=[],now:=[],log:=r_ δ c,bp:=(r_ δ c).length,mark:=δ.mark,aP := -1,dead:=false,eE:=none,tail:=[] }
theorem abe {P:Program}{h:H}{t:TypeId}{x y:Operand}{n:Nat}(hn:n<256): binV P h .and t x y (.int .i64 (n:Int)) (.int .i64 1)=some (.int .i64 ((n%2:Nat):Int)):=by
 have I:((n:Int)%(2^(IntKind.i64).bits:Int)).toNat=n:=by simp only [IntKind.bits]; omega
 have J:((1:Int)%(2^(IntKind.i64).bits:Int)).toNat=1:=by simp only [IntKind.bits]; omega
 simp only [binV,ikBeq,ag,intV,bitsV,I,J]
 rw [show Nat.land n 1=n%2 from D5 n,wrap_i64 (by omega)]
section
variable {told:cQ} {h:H} {S:List au} {X:au} {v w cv wt:V} {l c:List Nat} {k p q kZ N:Nat} {δ:Dk}
theorem vp (hT:W told){i:Nat}(s:Sat h S)(hk:getA S k=some X)(hX:cT X (cU v c)): Call ⟨Tryz.prog,told⟩ 89 [v,.int .i64 (i:Int)] h fun r h'=>r=.int .i64 ((c.getD i 0:Nat):Int)∧h'=h:=by
 have hv:=s.aE hk hX
 refine Call.of_wp (hT.free _ rfl) Tryz.func89 rfl rfl (zK 9 rfl (zo rfl (aU rfl rfl rfl (a_ Tryz.underlying143 hv)) ?_))
 by_cases hi:i<c.length
 ·skip
  have I:c[i]?=some (c[i]'hi):=bf _
  have J:c.getD i 0=c[i]'hi:=by rw [dU,I]; rfl
  rw [J]
  generalize (c[i]'hi)=b at I
  have G5:b<256:=hv.1 b (bC I)
  obtain ⟨id,off,e1,e2⟩:=eP hv I
  have e3:indexAddrV Tryz.prog 143 v (.int .i64 (i:Int))=some (.ptr id off):=by
   rw [←e1]
   simp only [indexAddrV,Tryz.underlying143,aG]
  refine zt rfl (af rfl rfl aT) (by simp; omega) ?_
  refine zk 6 rfl (zo rfl (dr (r:=.ptr id off) rfl rfl e3) (zl rfl e2 (zo rfl (cJ rfl (by exact iZ Tryz.underlying5 bD (aC (by omega) (by omega)))) ?_)))
  exact zk 2 rfl (WP.ret ⟨aa,_,rfl,rfl,rfl⟩)
 ·skip
  have J:c.getD i 0=0:=by rw [dU,mU (by omega)]; rfl
  rw [J]
  refine zh rfl (af rfl rfl aT) (by simp; omega) ?_
  exact zk 7 rfl (WP.ret ⟨aa,_,rfl,rfl,rfl⟩)
noncomputable def crL : Code:=dB [1,1,1,1,0,1,0,0] ((Tryz.f36.body).getD .skip)
theorem MZ (hT:W told){pv:V}{qc:List V}{N:Nat}{W:List Wr}{cs:List V}(tR:qc.length=12)(CL:nth qc 1=some (.sl kZ 0 N (.exact N)))(hW:∀w∈W,w.1<N)(hn:W.length≤268435456)(hX:cT X (cU cv c))(hN:N≤65536): ∀(j i:Nat) (I:List V) (P:List (Option (List Nat))) (h:H) (E:List (Nat×V)) (Q:Ex→List (Nat×V)→H→Prop),
  i+j=W.length→I.length=N→P.length=N→Sat h (uu cs W::pt q (.cells 12 qc false)::pt kZ (.cells N I false)::each lq I P::.arr 2 wt cs::X::S) →
  Has E [(0,pv),(5,cv),(6,.ptr q 0),(36,wt),(37,.int .i64 W.length),(38,.int .i64 i)] →
  (∀E' h' I P',Has E' [(0,pv),(5,cv),(6,.ptr q 0)]→P'=layW c i (W.drop i) P→I.length=N→P'.length=N→Sat h' (uu cs W::pt q (.cells 12 qc false)::pt kZ (.cells N I false)::each lq I P'::.arr 2 wt cs::X::S)→Q (.exit 0) E' h') →
  WP ⟨Tryz.prog,told⟩ 172 (.loop crL) E h Q:=by
 intro j
 induction j with
 | zero =>
  intro i I P h E Q hi hl hp s hE hq
  refine WP.loop (WP.has hE (zg rfl (zh rfl (af rfl rfl aT) (by simp; omega) ?_)))
  exact zk 3 rfl (WP.exit (hq _ _ _ _ ⟨rfl,rfl,rfl,aa⟩ (by rw [vJ (by omega)]; rfl) hl hp s))
 | succ j ih =>
  intro i I P h E Q hi hl hp s hE hq
  have hx:W[i]?=some (W[i]'(by omega)):=bf _
  generalize (W[i]'(by omega))=x at hx
  have hxn:=hW x (bC hx)
  have J:W.drop i=x::W.drop (i+1):=by
   obtain ⟨h1,rfl⟩:=List.getElem?_eq_some_iff.1 hx
   exact oW h1
  obtain ⟨id,off,u,g1,g2,hu,s1⟩:=Zg s (j1:=4) rfl hx
  have IP:=s1.aE (k:=0) rfl (dy _ _)
  have XQ:=IP.cells
  have uw:=dz IP
  have s:=s1.ae [2,2,2,0,0,0,0]
  dsimp only [bringA,getA,aQ] at s
  refine WP.loop (WP.has hE (zg rfl (zt rfl (af rfl rfl aT) (by simp; omega) ?_)))
  refine zk 5 rfl (WP.block (zK 3 rfl (zo rfl (dr (r:=.ptr id off) rfl rfl g1) (zl rfl g2 ?_))))
  refine aA.b5 s rfl rfl rfl (bX GI) (fun p8 h s => ?_)
  dsimp only [V.cells,List.length_cons,List.length_nil,Nat.reduceAdd] at s
  refine za rfl (zS rfl (s.eH (j:=0) rfl C4 rfl (by simp only [fH,jh,XQ.2]; rfl)) ?_)
  rintro h s
  dsimp only [setA] at s
  refine zk 5 rfl (zc rfl (vp hT s (k:=7) rfl hX) ?_)
  rintro r h' ⟨rfl,rfl⟩
  have bF:c.getD i 0<256:=by
   rw [dU]
   cases hc:c[i]? with
   | none=>decide
   | some b=>exact (s.aE (k:=7) rfl hX).1 b (bC hc)
  refine zb rfl (abe bF) ?_
  by_cases jZ:c.getD i 0%2=0
  ·skip
   have TO:indexAddrV Tryz.prog 145 (.sl kZ 0 N (.exact N)) (.int .i64 (x.1:Int))=some (.ptr kZ x.1):=by
    simp only [indexAddrV,gn,gR]
    rw [show (decide ((0:Int)≤(x.1:Int))&&decide ((x.1:Int)<(N:Int)))=true by simp; omega]
    simp
   refine zt rfl (af rfl rfl eA) (by rw [jZ]; rfl) ?_
   refine zk 2 rfl ?_
   have s0:=s
   refine WP.drawn [ai,ai,ai,ai,ai,ai,ai,ai,ai,ai] rfl (by kernel_rfl) (by kernel_rfl) ?_
   refine zM rfl (zN rfl (zF rfl (m5 _ _) (zL rfl (s.ld (k:=1) rfl rH CL) (zF rfl (EE _ _) (zL rfl (s.ld (k:=0) rfl dL rfl) (zF rfl (EF _ _) (zL rfl (s.ld (k:=0) rfl bJ rfl) (zO rfl (dr (r:=.ptr kZ x.1) rfl rfl TO) (aB.i_ rfl rfl rfl (OpR.fO rfl rfl rfl (s.ey (k:=2) rfl gR hl hxn XQ.1 XQ.2)) ?_)))))))))
   rintro v h ⟨rfl,s⟩
   dsimp only [setA] at s
   refine aB.nil ⟨⟨aa,aa,aa,aa,aa,aa,aa,aa,aa,aa,aa⟩,?_⟩
   refine zr rfl (zb rfl (by exact br (aC (by omega) (by omega))) ?_)
   refine zm rfl (zv ?_)
   have s3:Sat _ (each lq I P::.cx u x.2::_):=s.ae [3,3]
   have s4:=s3.two (C:=each lq (I.set x.1 u) (P.set x.1 (some x.2))) (aW.each aW.lq _ _) (aW.cx _ _) fun a b q1 q2=>B4 q1 ⟨hu,q2⟩
   dsimp only [bringA,getA,aQ] at s4
   refine ih (i+1) _ (P.set x.1 (some x.2)) _ _ Q (by omega) (by rw [bW]; exact hl) (by rw [bW]; exact hp) ((s4.ae [4,2,2,0,1,1]).del 6) ⟨rfl,rfl,rfl,rfl,rfl,rfl,aa⟩ (fun E' h' I P' jd hP h1 h2 s'=>hq E' h' I P' jd ?_ h1 h2 s')
   rw [hP,J,layW,aj jZ]
  ·skip
   refine zh rfl (af rfl rfl eA) (by simp only [decide_eq_false_iff_not]; omega) ?_
   refine zv (zj rfl (WP.skip (zr rfl (zb rfl (by exact br (aC (by omega) (by omega))) ?_))))
   refine zm rfl (zv ?_)
   refine ih (i+1) _ P _ _ Q (by omega) hl hp (((s.ae [5,1,1,1,2,2]).del 6).del 6) ⟨rfl,rfl,rfl,rfl,rfl,rfl,aa⟩ (fun E' h' I P' jd hP h1 h2 s'=>hq E' h' I P' jd ?_ h1 h2 s')
   rw [hP,J,layW,ah jZ]
theorem J5 {n i j:Nat}{cs ds:List V}(s:Sat h (pt i (.cells n cs false)::pt j (.cells n ds false)::S))(J:cs.length=n)(I:ds.length=n):
  ∃h',copyV Tryz.prog h 145 (.sl i 0 n (.exact n)) (.sl j 0 n (.exact n))=some (.int .i64 (n:Int),h')∧Sat h' (pt i (.cells n ds false)::pt j (.cells n ds false)::S):=by
 refine ⟨h.put i (some (.cells n ds false)),?_,s.put (k:=0) rfl⟩
 have r1:=s.row (k:=0) rfl
 have r2:=s.row (k:=1) rfl
 simp only [copyV,gn,gR,rdN,wrN,r1,r2,c9]
 rw [show Nat.min n n=n from Nat.min_self n]
 simp only [dH]
 rw [aJ.2 (aD n),ag,show (Nat.beq 0 0&&Nat.beq n n)=true by rw [gP rfl,gP rfl]; rfl,ag]
 simp only [I,aJ.2 (aD n),ag]
 rw [show (Nat.beq 0 0&&Nat.beq n n)=true by rw [gP rfl,gP rfl]; rfl,ag]
theorem OpR.Vq {C:cL}{E:List (Nat×V)}{o:Oper}{cl:Go.Call}{n i j:Nat}{cs ds:List V}(hP:C.P=Tryz.prog)(s:Sat h (pt i (.cells n cs false)::pt j (.cells n ds false)::S))(I:cs.length=n)(J:ds.length=n)(Bz:o.op=.call cl)(hc:cl.callee=.builtin .copy)
 (hty:cl.argTypes = #[145,145])(ha:lookArgs E cl.args.toList=some [.sl i 0 n (.exact n),.sl j 0 n (.exact n)]): OpR C E h o fun _ h₁=>Sat h₁ (pt i (.cells n ds false)::pt j (.cells n ds false)::S):=by
 obtain ⟨h₁,e1,e2⟩:=J5 s I J
 refine OpR.builtin Bz hc ha ⟨.int .i64 (n:Int),h₁,?_,e2⟩
 simp only [builtinV,hP,hty,e1]
theorem abf {P:Program}{h:H}{t:TypeId}{x y:Operand}{a b:Nat}(J:0<b)(hw:a<9223372036854775808): binV P h .quo t x y (.int .i64 (a:Int)) (.int .i64 (b:Int))=some (.int .i64 ((a/b:Nat):Int)):=by
 simp only [binV,ikBeq,ag,intV]
 have:intBeq (b:Int) 0=false:=by rw [k_]; simp; omega
 have I:a/b≤a:=Eh a b
 rw [this,az,DT (by omega),←Ec]
 generalize a/b=q at I ⊢
 rw [aC (by omega) (by omega)]
theorem Sl (I:jR h v l)(J:1≤l.length): slR v 0 l.length=v:=by
 rcases I.2 with ⟨_,rfl⟩ | ⟨id,cs,c,rfl,_,hc⟩ | ⟨id,rfl,_,_⟩
 ·simp at J
 ·simp only [slR]
  rw [dc (by omega),az]
  rfl
 ·rfl
theorem M3 {m:List Nat}{a:Nat}(s:Sat h (aZ v l::X::S))(hX:cT X (cU w m))(hl:1≤l.length)(hm:a+m.length≤l.length):
  ∃(n:Nat) (h':H),copyV Tryz.prog h 28 (slR v a l.length) w=some (.int .i64 (n:Int),h')∧Sat h' (aZ v (aV l a m)::X::S):=by
 by_cases hz:m=[]
 ·subst hz
  have hv:=s.aE (k:=1) rfl hX
  have J:=(s.buf (k:=0) rfl).1
  rw [show aV l a []=l by simp [aV]]
  obtain ⟨id,c,cap,rest,rfl,s1,hc,hf⟩:=s.fI hl
  have hd:∃o' c',slR (.sl id 0 l.length cap) a l.length=.sl id o' (l.length-a) c'∧o'≤l.length:=by
   cases cap with
   | exact c=>exact ⟨_,_,rfl,by cases Nat.beq c a <;> simp at hm ⊢; omega⟩
   | rest e alt=>exact ⟨_,_,rfl,by simp at hm ⊢; omega⟩
  obtain ⟨o',c',hd,ho⟩:=hd
  rw [hd]
  rcases hv.2 with ⟨rfl | ⟨a,rfl⟩,_⟩ | ⟨kZ,I,Xs,n2,Fv,WO,rfl,_⟩
  ·exact ⟨0,h,by simp only [copyV,aG,dP]; rfl,s⟩
  ·exact ⟨0,h,by simp only [copyV,aG,dP]; rfl,s⟩
  ·have hr:rdN h kZ I 0=some []:=hv.rdN.2
   have HS:Nat.min 0 (l.length-a)=0:=Nat.zero_min _
   refine ⟨0,h.put id (some (.cells c (ofBytes l++rest) false)),?_,hf _ _ rfl J (s1.put (k:=0) rfl)⟩
   simp only [copyV,aG,dP,bT,HS,qR,hr,wrN,s1.row (k:=0) rfl]
   rw [aJ.2 (by omega),ag,show Nat.beq 0 c=false from dc (by omega),AA,az,gH,cZ,vK]
 ·have h1:1≤m.length:=by
   rcases m with _ | ⟨a,m⟩
   ·exact absurd rfl hz
   ·simp
  obtain ⟨h',e1,e2⟩:=B1 s hX (a:=a) (b:=l.length) (by omega) (by omega) h1
  rw [dO (by omega)] at e2
  exact ⟨_,h',e1,e2⟩
theorem OpR.PY {C:cL}{E:List (Nat×V)}{o:Oper}{cl:Go.Call}{m:List Nat}{a:Nat}{d:V}(hP:C.P=Tryz.prog)(s:Sat h (aZ v l::X::S))(hX:cT X (cU w m))(hl:1≤l.length)(hm:a+m.length≤l.length)
 (I:o.op=.call cl)(hc:cl.callee=.builtin .copy)(J:cl.argTypes = #[28,28])(ha:lookArgs E cl.args.toList=some [d,w])(hd:d=slR v a l.length): OpR C E h o fun _ h₁=>Sat h₁ (aZ v (aV l a m)::X::S):=by
 subst hd
 obtain ⟨n,h₁,e1,e2⟩:=M3 s hX hl hm
 refine OpR.builtin I hc ha ⟨.int .i64 (n:Int),h₁,?_,e2⟩
 simp only [builtinV,hP,J,e1]
theorem OpR.TP {C:cL}{E:List (Nat×V)}{o:Oper}{cl:Go.Call}{m:List Nat}(hP:C.P=Tryz.prog)(s:Sat h (aZ v l::X::S))(hX:cT X (cU w m))(hl:1≤l.length)(hm:m.length≤l.length)
 (I:o.op=.call cl)(hc:cl.callee=.builtin .copy)(J:cl.argTypes = #[28,28])(ha:lookArgs E cl.args.toList=some [v,w]): OpR C E h o fun _ h₁=>Sat h₁ (aZ v (aV l 0 m)::X::S) :=
 OpR.PY hP s hX hl (by omega) I hc J ha (Sl (s.buf (k:=0) rfl) hl).symm
theorem XR {o:Option (List Nat)}: cT (lq v o) (cU v (o.getD [])):=by
 cases o with
 | none=>exact fun m r h=>.inl ⟨by simp,.inl ⟨.inl h,rfl⟩⟩
 | some b=>exact fun m r h=>.inr h.2
noncomputable def crT : Code:=dB [1,1,1,1,1,0,1,0] ((Tryz.f36.body).getD .skip)
theorem M4 (hT:W told){I:Dk}{w:Wr}(s:Sat h (aR q I::aR p δ::X::S))(hX:cT X (cU cv c))(hn:δ.waiting.length≤268435456)(ht:δ.eE=some w)(hw:w.1<I.ax.length)(vl:w.2.length=512)(hN:I.ax.length≤65536)
 (kG:∀(i:Nat) (b:List Nat),I.ax[i]?=some (some b)→b.length=512)
 {E:List (Nat×V)}{Q:Ex→List (Nat×V)→H→Prop}(hE:Has E [(0,.ptr p 0),(5,cv),(6,.ptr q 0)])
 (hq:∀E' h',Has E' [(0,.ptr p 0),(5,cv),(6,.ptr q 0)]→Sat h' (aR q { I with ax:=tornP c δ.waiting.length I.ax (some w) }::aR p δ::X::S)→Q .normal E' h'): WP ⟨Tryz.prog,told⟩ 172 crT E h Q:=by
 obtain ⟨pg,wt,nw,lg,mk,tn,tl,ops,s⟩:=bG.1 (s.ae [1])
 rw [ht] at s
 obtain ⟨tid,s⟩:=gN.1 (s.ae [6])
 obtain ⟨u,s⟩:=gN.1 s
 have s:=bQ.1 s
 dsimp only [List.cons_append,List.nil_append] at s
 obtain ⟨rfl,s⟩:=eo.1 s
 obtain ⟨pg2,wt2,nw2,lg2,mk2,tn2,tl2,XS,s⟩:=bG.1 (s.ae [9])
 obtain ⟨kZ,J,rfl,s⟩:=gq.1 (s.ae [1])
 obtain ⟨XT,s⟩:=mA.1 (s.ae [13])
 have s:=s.ae [4,12,10,2,2,8,0]
 have XU:XT.length=δ.waiting.length*2:=by
  obtain ⟨a,b,q1,q2,q3⟩:=s.at (k:=7) rfl
  exact A5 q3
 have hb:c.getD δ.waiting.length 0<256:=by
  rw [dU]
  cases hc:c[δ.waiting.length]? with
  | none=>decide
  | some b=>exact (s.aE (k:=19) rfl hX).1 b (bC hc)
 have jo:J.length=I.ax.length:=by
  obtain ⟨a,b,q1,q2,q3⟩:=s.at (k:=4) rfl
  exact ry q3
 have zP:J[w.1]?=some (J[w.1]'(by omega)):=bf _
 have yS:I.ax[w.1]?=some (I.ax[w.1]'hw):=bf _
 generalize (J[w.1]'(by omega))=v1 at zP
 generalize hxx:(I.ax[w.1]'hw)=x at yS
 have qx:I.ax.getD w.1 none=x:=by rw [dU,yS]; rfl
 have hxl:(x.getD []).length≤512:=by
  cases x with
  | none=>simp
  | some b=>exact Nat.le_of_eq (kG _ _ yS)
 refine WP.has hE (zK 5 rfl (zf rfl (tC _ _) (zl rfl (s.ld (k:=1) rfl C3 rfl) (zo rfl (aU rfl rfl rfl (s.iB (n:=δ.waiting.length) (j:=6) rfl XU (by decide) zI)) ?_))))
 refine zc rfl (vp hT (i:=δ.waiting.length) s (k:=19) rfl hX) ?_
 rintro r h' ⟨rfl,rfl⟩
 refine zb rfl (abf (a:=c.getD δ.waiting.length 0) (b:=2) (by decide) (by omega)) ?_
 refine zb rfl (EU (a:=c.getD δ.waiting.length 0/2) (b:=5) (by decide)) ?_
 refine zo rfl (af (r:=.int .i64 ((c.getD δ.waiting.length 0/2%5*128:Nat):Int)) rfl rfl (by simp only [binV,ikBeq,ag,intV]; rw [show ((c.getD δ.waiting.length 0/2%5:Nat):Int)*128=((c.getD δ.waiting.length 0/2%5*128:Nat):Int) by push_cast; rfl,wrap_i64 (by omega)])) ?_
 refine zk 4 rfl (aA.any rfl rfl rfl (OpR.rJ (c:=512) rfl s rfl rfl rfl rfl (by decide)) ?_)
 intro z h s
 refine zk 3 rfl ?_
 have s1:=((s.ae [5]).dup (aW.each aW.lq _ _)).hO (B:=lq v1 x) fun a b q=>B3 q zP yS
 have s:=s1.ae [2,0,1,1,1,1]
 have ni:nth J w.1=some v1:=by rw [fF]; exact zP
 have TO:indexAddrV Tryz.prog 145 (.sl kZ 0 I.ax.length (.exact I.ax.length)) (.int .i64 (w.1:Int))=some (.ptr kZ w.1):=by
  simp only [indexAddrV,gn,gR]
  rw [show (decide ((0:Int)≤(w.1:Int))&&decide ((w.1:Int)<(I.ax.length:Int)))=true by simp; omega]
  simp
 have s0:=s
 refine WP.drawn [ai,ai,ai,ai,ai,ai,ai,ai,ai,ai,ai,ai,ai,ai,ai] rfl (by kernel_rfl) (by kernel_rfl) ?_
 refine zM rfl (zM rfl (zN rfl (zF rfl (m5 _ _) (zL rfl (s.ld (k:=2) rfl rH rfl) (zM rfl (zN rfl (zF rfl (uj _ _) (zL rfl (s.ld (k:=3) rfl GH rfl) (zN rfl (zF rfl (EE _ _) (zL rfl (s.ld (k:=4) rfl dL rfl) (zO rfl (dr (r:=.ptr kZ w.1) rfl rfl TO) (zL rfl (s.ld (k:=5) rfl bJ ni) (aB.any rfl rfl rfl rfl (OpR.TP rfl s XR (by rw [cY]; decide) (by rw [cY]; exact hxl) rfl rfl rfl rfl) ?_))))))))))))))
 intro r h s
 refine aB.nil ⟨⟨aa,aa,aa,aa,aa,aa,aa,aa,aa,aa,aa,aa,aa,aa,aa,aa⟩,?_⟩
 have hl3:(aV (List.replicate 512 0) 0 (x.getD [])).length=512:=by rw [cz (by rw [cY]; omega),cY]
 have IP:=s.aE (k:=7) rfl (dy _ _)
 have XV:c.getD δ.waiting.length 0/2%5*128≤w.2.length:=by omega
 refine zK 5 rfl (zf rfl (uj _ _) (zl rfl (s.ld (k:=3) rfl GH rfl) (zn rfl (zf rfl (EF _ _) (zl rfl (s.ld (k:=4) rfl bJ rfl) (zm rfl (zo rfl (cf (p:=none) (q:=some (.int .i64 ((c.getD δ.waiting.length 0/2%5*128:Nat):Int))) (m:=none) (p':=none) (q':=some (c.getD δ.waiting.length 0/2%5*128)) (m':=none) rfl rfl rfl rfl rfl (by rw [dm (by omega),b9]) rfl (ik IP (b:=c.getD δ.waiting.length 0/2%5*128) XV).1) ?_)))))))
 refine aA.any rfl rfl rfl (OpR.TP rfl (s.ae [0,6]) (xw (dy _ _) (b:=c.getD δ.waiting.length 0/2%5*128) XV) (by omega) (by rw [dM]; omega) rfl rfl rfl rfl) ?_
 intro r h s
 have s:=s.fU
 have Ny:=s.aE (k:=0) rfl (dy _ _)
 have hl4:(aV (aV (List.replicate 512 0) 0 (x.getD [])) 0 (w.2.take (c.getD δ.waiting.length 0/2%5*128))).length=512:=by rw [cz (by rw [dM]; omega),hl3]
 refine zv (WP.drawn [ai,ai,ai,ai,ai,ai,ai,ai,ai,ai,ai,ai,ai,ai] rfl (by kernel_rfl) (by kernel_rfl) ?_)
 refine zM rfl (zN rfl (zF rfl (m5 _ _) (zL rfl (s.ld (k:=3) rfl rH rfl) (zM rfl (zN rfl (zF rfl (uj _ _) (zL rfl (s.ld (k:=4) rfl GH rfl) (zN rfl (zF rfl (EE _ _) (zL rfl (s.ld (k:=5) rfl dL rfl) (zM rfl (zO rfl (dr (r:=.ptr kZ w.1) rfl rfl TO) (aB.i_ rfl rfl rfl (OpR.fO rfl rfl rfl (s.ey (k:=6) rfl gR jo hw Ny.cells.1 Ny.cells.2)) ?_)))))))))))))
 rintro r h ⟨rfl,s⟩
 refine aB.nil ⟨⟨aa,aa,aa,aa,aa,aa,aa,aa,aa,aa,aa,aa,aa,aa,aa⟩,?_⟩
 have sr:z≠.bw:=fun e=>by
  subst e
  obtain ⟨_,_,_,e⟩:=iC Ny (by omega)
  cases e
 have t1:=(s.ae [7,0]).two (C:=each lq (J.set w.1 z) (tornP c δ.waiting.length I.ax (some w))) (aW.each aW.lq _ _) (aW.cx _ _) fun a b q1 q2=>by
  rw [tornP,qx]
  exact B4 q1 ⟨sr,q2⟩
 dsimp only [wK,aQ,bringA,getA,setA] at t1
 have Cn:(tornP c δ.waiting.length I.ax (some w)).length=I.ax.length:=by rw [tornP,bW]
 have t2:=gq.2 ⟨kZ,J.set w.1 z,rfl,by rw [Cn]; exact t1.ae [6,0]⟩
 rw [Cn] at t2
 dsimp only [aQ,bringA] at t2
 have t3:=bG (δ:={ I with ax:=tornP c δ.waiting.length I.ax (some w) }).2 ⟨_,_,_,_,_,_,_,_,t2.ae [3,0,6,6,6,6,6,6]⟩
 dsimp only [aQ,bringA] at t3
 have t4:=mA.2 ⟨_,t3.ae [5,5]⟩
 dsimp only [aQ,bringA] at t4
 have t5:Sat h (A7 (.ptr tid 0) (some w)::_):=gN.2 ⟨tid,gN.2 ⟨u,bQ.2 (eo.2 ⟨rfl,t4.ae [5,2]⟩)⟩⟩
 dsimp only [aQ] at t5
 have t6:=bG.2 ⟨_,_,_,_,_,_,_,_,by rw [ht]; exact (t5.del 3).ae [3,3,1,2,2,2,0,1,0,0]⟩
 dsimp only [aQ,bringA,getA] at t6
 exact hq _ _ ⟨rfl,rfl,rfl,aa⟩ (t6.ae [1])
end
section
variable {told:cQ} {h:H} {S:List au} {X:au} {v w cv wt:V} {l c:List Nat} {k p q kZ N:Nat} {δ:Dk}
noncomputable def crE : Code:=dB [1,1,1,1,1,1] ((Tryz.f36.body).getD .skip)
theorem F_ (hT:W told){I:Dk}(s:Sat h (aR q I::aR p δ::X::S))(hX:cT X (cU cv c))(mg:δ.Ok)(TQ:δ.tail.length≤16777216)(Aj:δ.mark.length≤64)
 {E:List (Nat×V)}{Q:Ex→List (Nat×V)→H→Prop}(hE:Has E [(0,.ptr p 0),(5,cv),(6,.ptr q 0)])
 (hq:∀E' h',look E' 4=some (.ptr q 0)→Sat h' (aR q { I with log:=r_ δ c,bp:=(r_ δ c).length,mark:=δ.mark }::aR p δ::X::S)→Q .ret E' h'): WP ⟨Tryz.prog,told⟩ 172 crE E h Q:=by
 have hlen:=mg.len
 have acn:=mg.bp
 obtain ⟨pg,wt,nw,lg,mk,tn,tl,ops,s⟩:=bG.1 (s.ae [1])
 have htv:=dz (s.aE (k:=7) rfl (dy _ _))
 refine WP.has hE (zw ?_)
 have s0:=s
 refine WP.drawn [ai,ai,ai,ai,ai,ai,ai,ai,ai,ai,some (0,2),some (0,2),some (0,2),some (0,2),none,none] rfl (by kernel_rfl) (by kernel_rfl) ?_
 refine zM rfl (zN rfl (zF rfl (kn _ _) (zL rfl (by exact s.ld (k:=0) rfl bJ rfl) ?_)))
 refine zM rfl (zN rfl (zF rfl (tD _ _) (zL rfl (by exact s.ld (k:=0) rfl dL rfl) ?_)))
 refine zO rfl (cf (p:=some (.int .i64 (δ.bp:Int))) (q:=none) (m:=none) (p':=some δ.bp) (q':=none) (m':=none) rfl rfl rfl rfl (by simp [gI,bndV]) rfl rfl (eO (s.buf (k:=4) rfl).view (a:=δ.bp) (by omega)).1) ?_
 refine aB.any rfl rfl rfl rfl (OpR.call rfl rfl rfl rfl (jv hT (s.ae [4]) (rq (bg _ _) (a:=δ.bp) (by omega)) (by simp; omega))) ?_
 intro u h s
 dsimp only [wK,aQ,bringA] at s
 have s1:=s
 refine zM rfl (zN rfl (zF rfl (BZ _ _) (zL rfl (by exact s.ld (k:=2) rfl bJ rfl) ?_)))
 refine aB.any rfl rfl rfl rfl (OpR.ru rfl (s.ae [0,7]) (dy _ _) rfl rfl rfl rfl (by simp; omega)) ?_
 intro r h s
 dsimp only [aQ,bringA] at s
 have s2:=s
 refine zA rfl ?_
 refine aB.nil ⟨⟨aa,aa,aa,aa,aa,aa,aa,aa,aa,aa,fun _ _=>.inr ⟨rfl,⟨_,bz rfl⟩,bq _ rfl⟩,fun _ _=>.inr ⟨rfl,⟨_,oK rfl⟩,bq _ rfl⟩,fun _ _=>.inr ⟨rfl,⟨_,lY rfl (BZ _ _)⟩,bq _ rfl⟩,dW (.inr ⟨rfl,⟨_,bh rfl (by exact s0.ld (k:=0) rfl bJ rfl)⟩,htv⟩) (.inr ⟨rfl,⟨_,bh rfl (by exact s1.ld (k:=2) rfl bJ rfl)⟩,htv⟩),aa,aa,aa⟩,?_⟩
 have FK:(δ.log.drop δ.bp++δ.tail).length=δ.log.length-δ.bp+δ.tail.length:=by simp
 have J:=(s.buf (k:=0) rfl).view
 refine zg rfl (zm rfl (aA.call rfl rfl rfl rfl rfl rfl rfl (vp hT (i:=0) s (k:=10) rfl hX) ?_))
 rintro v h' ⟨rfl,rfl⟩
 refine zm rfl (aA.call rfl rfl rfl rfl rfl rfl rfl (vp hT (i:=1) s (k:=10) rfl hX) ?_)
 rintro v h' ⟨rfl,rfl⟩
 have hb:∀i,c.getD i 0<256:=fun i=>by
  rw [dU]
  cases hc:c[i]? with
  | none=>decide
  | some b=>exact (s.aE (k:=10) rfl hX).1 b (bC hc)
 have yg:=hb 0
 have pR:=hb 1
 refine zb rfl (by exact kA (aC (by omega) (by omega))) ?_
 refine zb rfl (by exact br (aC (by omega) (by omega))) ?_
 refine zm rfl (zo rfl (aU rfl rfl rfl (a_ aG J)) (zb rfl (by exact br (aC (by omega) (by omega))) ?_))
 refine zb rfl (EU (a:=c.getD 0 0+256*c.getD 1 0) (b:=(δ.log.drop δ.bp++δ.tail).length+1) (by omega)) ?_
 refine za rfl (zv (zw ?_))
 have hk:kF δ c≤(δ.log.drop δ.bp++δ.tail).length:=Nat.le_of_lt_succ (vZ _ (by omega))
 obtain ⟨pg2,wt2,nw2,lg2,mk2,tn2,tl2,XS,s⟩:=bG.1 (s.ae [9])
 have s:=s.ae [0,10,3,8,6,3,9]
 dsimp only [wK,aQ,bringA,getA] at s
 have s0:=s
 have Ir:=dz J
 have zT:=dz (ik J (b:=kF δ c) hk).2.1
 refine WP.drawn [some (0,3),ai,ai,ai,ai,ai,ai,ai,ai,ai,ai,some (0,2),some (0,2),some (0,2),ai,ai,ai,ai] rfl (by kernel_rfl) (by kernel_rfl) ?_
 refine zM rfl (zM rfl (zN rfl (zF rfl (kn _ _) (zL rfl (by exact s.ld (k:=1) rfl bJ rfl) ?_))))
 refine zM rfl (zN rfl (zF rfl (tD _ _) (zL rfl (by exact s.ld (k:=1) rfl dL rfl) ?_)))
 refine zO rfl (cf (p:=none) (q:=some (.int .i64 (δ.bp:Int))) (m:=none) (p':=none) (q':=some δ.bp) (m':=none) rfl rfl rfl rfl rfl (by simp [gI,bndV]) rfl (ik (s.buf (k:=3) rfl).view (b:=δ.bp) (by omega)).1) ?_
 refine aB.any rfl rfl rfl rfl (OpR.call rfl rfl rfl rfl (jv hT (s.ae [3]) (xw (bg _ _) (b:=δ.bp) (by omega)) (by simp; omega))) ?_
 intro u h s
 dsimp only [aQ,bringA] at s
 have s1:=s
 refine zM rfl (zM rfl (zO rfl (cf (p:=none) (q:=some (.int .i64 (kF δ c:Int))) (m:=none) (p':=none) (q':=some (kF δ c)) (m':=none) rfl rfl rfl rfl rfl (by simp [gI,bndV]) rfl (by exact (ik (s.buf (k:=5) rfl).view (b:=kF δ c) hk).1)) ?_))
 refine aB.any rfl rfl rfl rfl (OpR.ru rfl (s.ae [0,4]) (xw (bg _ _) (b:=kF δ c) hk) rfl rfl rfl rfl (by simp only [dM]; omega)) ?_
 intro w h s
 dsimp only [aQ,bringA] at s
 have s2:=s
 have hv:=(s.buf (k:=0) rfl).view.cells
 refine zN rfl (zF rfl (kn _ _) (aB.i_ rfl rfl rfl (OpR.fO rfl rfl rfl (s.ey (k:=3) rfl gR rfl (by decide) hv.1 hv.2)) ?_))
 rintro v h ⟨rfl,s⟩
 dsimp only [Nat.reduceAdd,List.set,setA] at s
 refine aB.nil ⟨⟨fun _ _=>.inr ⟨rfl,⟨_,bz rfl⟩,bq _ rfl⟩,aa,aa,aa,aa,aa,aa,aa,aa,aa,aa,fun _ _=>.inr ⟨rfl,⟨_,bz rfl⟩,Ir⟩,fun _ _=>.inr ⟨rfl,⟨_,bz rfl⟩,bq _ rfl⟩,dW (.inr ⟨rfl,⟨_,cf (p:=none) (q:=some (.int .i64 (kF δ c:Int))) (m:=none) (p':=none) (q':=some (kF δ c)) (m':=none) rfl rfl rfl rfl rfl (by simp [gI,bndV]) rfl (by exact (ik (s0.buf (k:=4) rfl).view (b:=kF δ c) hk).1)⟩,zT⟩) (.inr ⟨rfl,⟨_,cf (p:=none) (q:=some (.int .i64 (kF δ c:Int))) (m:=none) (p':=none) (q':=some (kF δ c)) (m':=none) rfl rfl rfl rfl rfl (by simp [gI,bndV]) rfl (by exact (ik (s1.buf (k:=5) rfl).view (b:=kF δ c) hk).1)⟩,zT⟩),aa,aa,aa,aa,aa⟩,?_⟩
 refine zg rfl (zm rfl (zm rfl (zn rfl (zf rfl (kn _ _) (zl rfl (by exact s.ld (k:=3) rfl bJ rfl) ?_)))))
 refine zo rfl (aU rfl rfl rfl (by exact a_ aG (s.aE (k:=0) rfl (bg _ _)))) ?_
 refine zn rfl (zf rfl (tD _ _) ?_)
 refine aA.fO rfl rfl rfl rfl rfl (by exact s.ey (k:=3) rfl kW rfl (by decide) rfl rfl) (fun h s => ?_)
 dsimp only [Nat.reduceAdd,List.set,setA] at s
 refine zv (zg rfl (zm rfl (zm rfl (zn rfl (zf rfl (ED _ _) (zl rfl (by exact s.ld (k:=4) rfl bJ rfl) ?_))))))
 refine aA.call rfl rfl rfl rfl rfl rfl rfl (jv hT (s.ae [7]) (dy _ _) (by omega)) ?_
 intro m h s
 have s:=s.fU
 dsimp only [aQ,bringA] at s
 have hv:=(s.aE (k:=0) rfl (dy _ _)).cells
 refine zn rfl (zf rfl (ED _ _) (aA.fO rfl rfl rfl rfl rfl (s.ey (k:=5) rfl gR rfl (by decide) hv.1 hv.2) ?_))
 intro h s
 dsimp only [Nat.reduceAdd,List.set,setA] at s
 refine zv (zg rfl (zm rfl (za rfl (zv (WP.ret ?_)))))
 have s:=(((s.del 8).del 7).del 3).ae [4,5,5,5,2,0,3,3,2,3,3,3,1,0,1,0,0]
 dsimp only [aQ,bringA,getA] at s
 have s:=bG.2 ⟨_,_,_,_,_,_,_,_,(bG (δ:={ I with log:=r_ δ c,bp:=(r_ δ c).length,mark:=δ.mark }).2 ⟨_,_,_,_,_,_,_,_,s⟩).ae [1,1,1,1,1,1,1,1,0]⟩
 exact hq _ _ rfl (s.ae [1])
theorem tI {c:List Nat}: ∀ {l:List Wr} {i:Nat} {P:List (Option (List Nat))},(layW c i l P).length=P.length:=by
 intro l
 induction l with
 | nil=>intro i P; rfl
 | cons w l I =>
  intro i P
  rw [layW,I]
  split
  ·rw [bW]
  ·rfl
theorem Lk {c:List Nat}: ∀ {l:List Wr} {i:Nat} {P:List (Option (List Nat))},(∀w∈l,w.2.length=512)→(∀(j:Nat) (b:List Nat),P[j]?=some (some b)→b.length=512)→∀(j:Nat) (b:List Nat),(layW c i l P)[j]?=some (some b)→b.length=512:=by
 intro l
 induction l with
 | nil=>intro i P _ h; exact h
 | cons w l ih =>
  intro i P J h
  refine ih (fun x hx=>J x (bn _ hx)) ?_
  split
  ·intro j b I
   rw [qH] at I
   split at I
   ·split at I
    ·injection I with I; injection I with I; rw [←I]; exact J w bu
    ·cases I
   ·exact h j b I
  ·exact h
structure Dk.Cr (δ:Dk): Prop where
 ok:δ.Ok
 wait:∀w∈δ.waiting,w.1<δ.ax.length∧w.2.length=512
 many:δ.waiting.length≤268435456
 eE:∀w,δ.eE=some w→w.1<δ.ax.length∧w.2.length=512
 tail:δ.log.length+δ.tail.length≤16777216
 mark:δ.mark.length≤64
theorem Sn (hT:W told)(s:Sat h (aR p δ::X::S))(hX:cT X (cU cv c))(hc:δ.Cr):
  Call ⟨Tryz.prog,told⟩ 36 [.ptr p 0,cv] h fun v h'=>∃q,v=.ptr q 0∧Sat h' (aR q (fC δ c)::aR p δ::X::S):=by
 obtain ⟨mg,hW,hn,ht,TQ,Aj⟩:=hc
 have TQ:δ.tail.length≤16777216:=by omega
 obtain ⟨pg,wt,nw,lg,mk,tn,tl,ops,s⟩:=bG.1 s
 obtain ⟨id,cs,rfl,s⟩:=gq.1 (s.ae [1])
 dsimp only [bringA,getA,aQ] at s
 have J:=mg.many
 have wM:cs.length=δ.ax.length:=by
  obtain ⟨a,b,q1,q2,q3⟩:=s.at (k:=1) rfl
  exact ry q3
 refine Call.of_wp (hT.free _ rfl) Tryz.func36 rfl rfl (zg rfl (za rfl (zv (zg rfl (zm rfl (za rfl (zv (zw ?_))))))))
 have s:=s.ae [2]
 dsimp only [bringA,getA,aQ] at s
 have s0:=s
 refine WP.drawn [ai,ai,ai,ai,ai,ai,ai,ai,ai,ai,ai] rfl (by kernel_rfl) (by kernel_rfl) ?_
 refine zM rfl (zN rfl (zF rfl (m5 _ _) (zL rfl (by exact s.ld (k:=0) rfl rH rfl) ?_)))
 refine zO rfl (aU rfl rfl rfl (C0 gn)) (zM rfl (zN rfl (zF rfl (KG _ _) (zL rfl (by exact s.ld (k:=0) rfl dL rfl) ?_))))
 refine aB.any rfl rfl rfl rfl (OpR.call rfl rfl rfl rfl (HQ (n:=δ.ax.length) (m:=δ.room) hT s (by omega))) ?_
 rintro v h ⟨q,rfl,s⟩
 refine zA rfl ?_
 refine aB.nil ⟨⟨aa,aa,aa,aa,aa,aa,aa,aa,aa,aa,aa,aa⟩,?_⟩
 obtain ⟨pg2,wt2,nw2,lg2,mk2,tn2,tl2,XS,s⟩:=bG.1 s
 obtain ⟨kZ,Fv,e2,s⟩:=gq.1 (s.ae [1])
 dsimp only [bringA,getA,aQ,Dk.fresh] at s e2
 rw [cY] at s e2
 subst e2
 have jo:Fv.length=δ.ax.length:=by
  obtain ⟨a,b,q1,q2,q3⟩:=s.at (k:=1) rfl
  rw [ry q3,cY]
 obtain ⟨XT,s⟩:=mA.1 (s.ae [12])
 dsimp only [bringA,getA,aQ] at s
 have XU:XT.length=δ.waiting.length*2:=by
  obtain ⟨a,b,q1,q2,q3⟩:=s.at (k:=1) rfl
  exact A5 q3
 have s:=s.ae [4,10,2,9]
 dsimp only [bringA,getA,aQ] at s
 refine zw ?_
 have s0:=s
 refine WP.drawn [ai,ai,ai,ai,ai,ai,ai,ai,ai] rfl (by kernel_rfl) (by kernel_rfl) ?_
 refine zM rfl (zN rfl (zF rfl (m5 _ _) (zL rfl (by exact s.ld (k:=0) rfl rH rfl) ?_)))
 refine zM rfl (zN rfl (zF rfl (m5 _ _) (zL rfl (by exact s.ld (k:=1) rfl rH rfl) ?_)))
 refine aB.any rfl rfl rfl rfl (OpR.Vq rfl (s.ae [2,2]) jo wM rfl rfl rfl rfl) ?_
 intro r h s
 dsimp only [wK,aQ,bringA] at s
 refine aB.nil ⟨⟨aa,aa,aa,aa,aa,aa,aa,aa,aa,aa⟩,?_⟩
 refine zw (zg rfl (zm rfl (zn rfl (zf rfl (tC _ _) (zl rfl (by exact s.ld (k:=3) rfl C3 rfl) ?_)))))
 refine zo rfl (aU rfl rfl rfl (s.iB (n:=δ.waiting.length) (j:=4) rfl XU (by decide) zI)) ?_
 refine zm rfl (zv (WP.block ?_))
 have s:=((s.ae [13]).dup (aW.each aW.lq _ _)).ae [7,4,2,0,3,15]
 dsimp only [aQ,bringA,getA] at s
 refine MZ hT rfl rfl (fun w hw=>(hW w hw).1) hn hX J δ.waiting.length 0 cs δ.ax h _ _ (dH _) wM rfl s ⟨rfl,rfl,rfl,rfl,rfl,rfl,aa⟩ (fun E h Fv P hE hP h1 h2 s => ?_)
 rw [eu] at hP
 subst hP
 refine WP.has hE ?_
 have t1:=gq.2 ⟨kZ,Fv,rfl,by rw [h2]; exact s.ae [2,2]⟩
 rw [h2] at t1
 dsimp only [aQ,bringA] at t1
 have t2:=bG (δ:={ Dk.fresh δ.ax.length δ.room with ax:=layW c 0 δ.waiting δ.ax }).2 ⟨_,_,_,_,_,_,_,_,t1.ae [2,0,7,7,7,7,7,7]⟩
 dsimp only [aQ,bringA] at t2
 have t3:=gq.2 ⟨id,cs,rfl,t2.ae [5,4]⟩
 dsimp only [aQ,bringA] at t3
 have t4:=(mA.2 ⟨_,t3.ae [3,2]⟩).del 5
 dsimp only [aQ,bringA] at t4
 have s:Sat h (aR q { Dk.fresh δ.ax.length δ.room with ax:=layW c 0 δ.waiting δ.ax }::aR p δ::X::S):=(bG.2 ⟨_,_,_,_,_,_,_,_,t4.ae [4,1,0,2,2,2,2,2,0,0]⟩).ae [1]
 have sk:=s
 obtain ⟨pg3,wt3,nw3,lg3,mk3,tn3,tl3,aco,s⟩:=bG.1 (s.ae [1])
 dsimp only [wK,aQ,bringA] at s
 have hr:∀E' h',look E' 4=some (.ptr q 0)→Sat h' (aR q (fC δ c)::aR p δ::X::S)→∃v,iI Tryz.prog E' h' [.tmp 4]=some v∧∃q,v=.ptr q 0∧Sat h' (aR q (fC δ c)::aR p δ::X::S):=fun E' h' e s'=>⟨_,ue e,q,rfl,s'⟩
 refine zw (zg rfl (zm rfl (zn rfl (zf rfl (uj _ _) (zl rfl (by exact s.ld (k:=0) rfl GH rfl) ?_)))))
 cases I:δ.eE with
 | none =>
  rw [I] at s
  obtain ⟨rfl,_⟩:=eo.1 (s.ae [6])
  refine aA.oD rfl rfl rfl (af rfl rfl (TD Tryz.underlying147)) (rfl) (zv (zj rfl (WP.skip ?_)))
  refine F_ hT sk hX mg TQ Aj ⟨rfl,rfl,rfl,aa⟩ (fun E' h' e s'=>⟨aa,hr E' h' e ?_⟩)
  rw [fC,I]
  exact s'
 | some w =>
  rw [I] at s
  obtain ⟨tid,s⟩:=gN.1 (s.ae [6])
  obtain ⟨u,s⟩:=gN.1 s
  obtain ⟨rfl,_⟩:=eo.1 (bQ.1 s)
  refine aA.y5 rfl rfl rfl (af rfl rfl (YX Tryz.underlying147)) (rfl) (zv (zi rfl ?_))
  refine M4 (w:=w) hT sk hX hn I (by show w.1<(layW c 0 δ.waiting δ.ax).length; rw [tI]; exact (ht w I).1) (ht w I).2 (by show (layW c 0 δ.waiting δ.ax).length≤65536; rw [tI]; exact J) (Lk (fun w hw=>(hW w hw).2) mg.ax) ⟨rfl,rfl,rfl,aa⟩ (fun E h hE s => ?_)
  refine F_ hT s hX mg TQ Aj hE (fun E' h' e s'=>⟨aa,hr E' h' e ?_⟩)
  rw [fC,I]
  exact s'
end
structure bZ where
 kd:Nat
 tx:Nat
 pv:Nat
 nx:Nat
 data:List Nat
 aM:List cq
def bZ.bd (r:bZ): List Nat:=dK r.kd r.tx r.pv r.nx r.data r.aM
def bZ.len (r:bZ): Nat:=8+r.bd.length
structure bZ.Ok (r:bZ): Prop where
 good:dD r.kd r.aM=true
 rd:xY r.tx r.pv r.nx r.data r.aM
 len:r.bd.length≤1048576
theorem bZ.Ok.kd {r:bZ}(h:r.Ok): r.kd<256:=by
 have:=h.good
 simp [dD] at this
 omega
def logB : Nat→List bZ→List Nat
 | _,[]=>[]
 | n,r::l=>iq n r.bd++logB (n+r.len) l
def lE : Nat→List bZ→List Nat
 | _,[]=>[]
 | a,r::l=>a::lE (a+r.len) l
def rD (j:List Nat): Prop:=j.length<8∨j.length-8<leN (j.take 4)
theorem Sq {x y:List Nat}{a b:Nat}(I:x.length=a): ((x++y).take (a+b)).drop a=y.take b:=by
 subst I
 rw [sX,dO (by omega),sY rfl]
 congr 1; omega
section
variable {told:cQ} {h:H} {S:List au} {X:au} {v:V} {l:List Nat}
theorem M5 (hT:W told){pre j:List Nat}{n a:Nat}(hj:rD j)(ha:pre.length=a)(J:l=pre++j)(Ij:l.length≤1073741824)(s:Sat h (X::S))(I:cT X (cU v l)):
  Call ⟨Tryz.prog,told⟩ 133 [v,.int .i64 (a:Int),.int .u64 (n:Int)] h fun r h'=>r=.bj [.agg (gT 0 0 0 0 .bw .bw),.int .i64 0,.int .i64 4]∧Sat h' (X::S):=by
 have hlen:l.length=a+j.length:=by rw [J,bx,ha]
 have hvl:=a_ (P:=Tryz.prog) (h:=h) aG (s.aE (k:=0) rfl I)
 have m1:(l.take (a+4)).drop a=j.take 4:=by rw [J]; exact Sq ha
 refine Call.of_wp (hT.free _ rfl) Tryz.func133 rfl rfl (zg rfl ?_)
 refine aA.b5 s rfl rfl rfl (bX qX) (fun p6 h s => ?_)
 refine zk 7 rfl (zh rfl (af rfl rfl aT) (by simp) ?_)
 refine zk 3 rfl (zo rfl (aU rfl rfl rfl (a_ aG (s.aE (k:=1) rfl I))) (zh rfl (af rfl rfl gv) (by simp; omega) ?_))
 refine zk 8 rfl (zo rfl (aU rfl rfl rfl (a_ aG (s.aE (k:=1) rfl I))) (zm rfl (zb rfl (by exact jE (aC (by omega) (by omega))) ?_)))
 by_cases h8:j.length<8
 ·skip
  refine zt rfl (af rfl rfl aT) (by simp; omega) ?_
  refine zk 4 rfl (zo rfl (c_ rfl (by rw [Ez]; rfl)) ?_)
  refine zS rfl (s.eH (j:=0) rfl gL rfl rfl) (fun h s => ?_)
  refine zk 3 rfl ?_
  refine WP.ret ⟨aa,_,xN rfl (s.cA (k:=0) rfl nD gL) rfl rfl,?_⟩
  exact ⟨rfl,s.drop⟩
 have eZ:j.length-8<leN (j.take 4):=by rcases hj with h | h; exact absurd h h8; exact h
 have hw4:leN (j.take 4)<4294967296:=by
  have:=De (j.take 4) (fun b hb=>(s.aE (k:=1) rfl I).1 b (by rw [J]; exact List.mem_append.2 (.inr (gW hb))))
  rwa [dM,nQ (by omega)] at this
 refine zh rfl (af rfl rfl aT) (by simp; omega) ?_
 refine zk 8 rfl (zb rfl (by exact br (aC (by omega) (by omega))) ?_)
 refine zo rfl (cf (p:=some (.int .i64 (a:Int))) (q:=some (.int .i64 ((a:Int)+4))) (m:=none) (p':=some a) (q':=some (a+4)) (m':=none) rfl rfl rfl rfl (by rw [dm (by omega)]; rfl) (by rw [dm (by omega)]; congr 2 <;> omega) rfl (er (s.aE (k:=1) rfl I) (a:=a) (b:=a+4) (by omega) (by omega)).1) ?_
 refine zc rfl (n4 hT s (k:=1) rfl (lB I (a:=a) (b:=a+4) (by omega) (by omega)) (by rw [m1,dM]; omega)) ?_
 rintro r h' ⟨rfl,rfl⟩
 rw [m1]
 refine zk 6 rfl ?_
 by_cases H6:1048576<leN (j.take 4)
 ·skip
  refine zt rfl (af rfl rfl gv) (by simp; omega) ?_
  refine zk 14 rfl (zo rfl (c_ rfl (by rw [Ez]; rfl)) ?_)
  refine zS rfl (s.eH (j:=0) rfl gL rfl rfl) (fun h s => ?_)
  refine zk 3 rfl ?_
  refine WP.ret ⟨aa,_,xN rfl (s.cA (k:=0) rfl nD gL) rfl rfl,?_⟩
  exact ⟨rfl,s.drop⟩
 refine zh rfl (af rfl rfl gv) (by simp; omega) ?_
 refine zk 2 rfl (zo rfl (cJ rfl (by exact iZ cE bD (aC (by omega) (by omega)))) ?_)
 refine zm rfl (zo rfl (aU rfl rfl rfl (a_ aG (s.aE (k:=1) rfl I))) (zm rfl (zb rfl (by exact jE (aC (by omega) (by omega))) ?_)))
 refine zb rfl (by exact jE (aC (by omega) (by omega))) ?_
 refine zt rfl (af rfl rfl gv) (by simp; omega) ?_
 refine zk 5 rfl (zo rfl (c_ rfl (by rw [Ez]; rfl)) ?_)
 refine zS rfl (s.eH (j:=0) rfl gL rfl rfl) (fun h s => ?_)
 refine zk 3 rfl ?_
 refine WP.ret ⟨aa,_,xN rfl (s.cA (k:=0) rfl nD gL) rfl rfl,?_⟩
 exact ⟨rfl,s.drop⟩
end
end Go.Proofs.YtefepnnfphdkpaaGreat.Am
