/- AtomTorn: a part of its proof; conditions: its statement's. -/
import Derived.Test.YtconhghphklfjaaGreatT34
import Derived.Test.YtconhghphklfjaaGreatT32
namespace Go.Proofs.YtconhghphklfjaaGreat.Am
open Go
theorem xX : dN (List.replicate 512 0)=0:=by rw [dN,aj rfl]
theorem Pf : j6 (List.replicate 512 0)=[]:=by rw [j6,aj (.inr rfl)]
def fresh (n m f:Nat): aO:=(Pl.fresh f,(Lg.fresh,Dk.fresh n m))
theorem Cg {n m:Nat}(k:Int): (Dk.fresh n m).at k=List.replicate 512 0:=by
 rw [Dk.at,show lookL k (Dk.fresh n m).now=none from rfl]
 simp only [Dk.fresh]
 cases I:(List.replicate n (none:Option (List Nat)))[k.toNat]? with
 | none=>rfl
 | some o =>
  have:=qX (bw I)
  subst this
  rfl
theorem FQ {n m f:Nat}(k:Int): pgA (fresh n m f) k=List.replicate 512 0:=by
 rw [mT (by rfl)]
 exact Cg k
theorem qN {f i:Nat}{x:Fm}(h:(Pl.fresh f).ak[i]?=some x): x=fe:=qX (bw h)
theorem EI.fresh {n m f:Nat}(hn:n≤65536)(hm:m≤16777216)(hf:1≤f)(Dz:f≤1024): EI n 1 (fresh n m f):=by
 have J:∀x∈(Pl.fresh f).ak,x=fe:=fun x I=>qX I
 have hlen:(Pl.fresh f).ak.length=f:=fE
 refine ⟨⟨⟨⟨(show 0<(Pl.fresh f).ak.length by rw [hlen]; omega),(show (Pl.fresh f).ak.length≤1024 by rw [hlen]; exact Dz),fun e he=>(by cases he),fun x I=>by rw [J x I]; decide,fun x I=>by rw [J x I]; decide⟩,Lg.Ig,?_⟩,fun x I=>by rw [J x I]; rfl,⟨kG,fun k i U=>(by cases U)⟩⟩,⟨?_,kG,fun k i U=>(by cases U),fun i x I=>.inl (by rw [qN I]; decide),fun k U=>(by cases U),kG⟩,⟨rfl,aI _,(show (1:Nat)+0≤1*1048600 by decide)⟩,?_⟩
 ·exact ⟨(show (-1:Int)<4294967296 by decide),eM _,hm,fun e he=>(by cases he),fun i b hb=>(by have h1:some b=none:=qX (bw hb); cases h1),aI _,(show (List.replicate n (none:Option (List Nat))).length≤65536 by rw [fE]; exact hn)⟩
 ·exact ⟨rfl,(show (-1:Int)<0 by decide),fE,fun k U=>(by cases U),kG,fun k h0 h1=>by show dN ((Dk.fresh n m).at k)=0; rw [Cg]; exact xX⟩
 ·have e:gS (Pl.fresh f).ak=0:=by
   rw [gS,List.count_eq_zero]
   intro hh
   obtain ⟨x,I,hc⟩:=List.mem_map.1 hh
   rw [J x I] at hc
   cases hc
  show ([]:List Wr).length+gS (Pl.fresh f).ak≤_
  rw [e]; decide
theorem kZ.fresh {n m f:Nat}: kZ (Am.fresh n m f) (List.replicate n []):=fun k w hw=>by
 rw [FQ,Pf]
 exact (qX (bw hw)).symm
structure W3 (told:dM): Prop where
 w:W2 told
 aw:∃g,told 11=some g∧∀h,g [] h=some (.bool true,h)
theorem UL {h:H}{S:List ax}{cs:List V}{m:List jh}{i:Nat}{x:jh}(s:Sat h (jS cs m::S))(U:m[i]?=some x):
  ∃w d,(cs.drop (i*4)).take 4=[.int .i64 x.act,.int .i64 x.cX,w,d]∧Sat h (ow w d x::jS cs m::S):=by
 obtain ⟨a,b,q1,q2,q3⟩:=s.at (k:=0) rfl
 obtain ⟨u,v,e1,e2⟩:=Dy q3 U
 refine ⟨u,v,e1,(s.dup (aH.jS _ _)).fY (B:=ow u v x) fun a b h => ?_⟩
 obtain ⟨u',v',I,J⟩:=Dy h U
 rw [e1] at I
 injection I with _ I
 injection I with _ I
 injection I with hu I
 injection I with hv _
 subst hu
 subst hv
 exact J
theorem Au {h:H}{S:List ax}{cs:List V}{m:List jh}{k:Nat}(s:Sat h S)(I:getA S k=some (jS cs m)): cs.length=m.length*4:=by
 obtain ⟨a,b,U,q2,J⟩:=s.at I
 exact Mt J
section
variable {told:dM} {h:H} {S:List ax} {X:ax} {r k q p a g aC N B:Nat} {op v x pv nv wv dv lv:V} {l data:List Nat} {ε:aO} {ps nx:List (List Nat)} {L:List jh} {cs:List V}
theorem Rv (I:W3 told)(s:Sat h S): Call ⟨Tryz.prog,told⟩ 11 [] h fun v h'=>v=.bool true∧h'=h:=by
 obtain ⟨g,J,U⟩:=I.aw
 exact ⟨_,_,hO.told J Tryz.func11 rfl (U h),rfl,rfl⟩
end
structure W4 (told:dM): Prop where
 w:W3 told
 pr:told 101=some (nK Tryz.prog 101 Gs)
theorem W4.wr {told:dM}(h:W4 told): WR told:=⟨h.w.w.w,h.pr⟩
section
variable {told:dM} {h:H} {S:List ax} {X:ax} {dv:V} {data:List Nat}
end
theorem YS {h:H}{S:List ax}{cs:List V}{m:List Wr}{i:Nat}{x:Wr}{wt:V}{j1:Nat}(s:Sat h (uK cs m::S))(h1:getA (uK cs m::S) j1=some (.arr 2 wt cs))(I:m[i]?=some x):
  ∃id off u,indexAddrV Tryz.prog 120 wt (.int .i64 (i:Int))=some (.ptr id off)∧loadV Tryz.prog h 125 (.ptr id off)=some (.agg [.int .i64 (x.1:Int),u])∧u≠.bz∧Sat h (.ct u x.2::uK cs m::S):=by
 obtain ⟨a,b,q1,q2,q3⟩:=s.at (k:=0) rfl
 have hl:=A9 q3
 have C9:=(List.getElem?_eq_some_iff.1 I).1
 have key:∀ {m:List Wr} {cs:List V} {i:Nat} {x:Wr} {a b:PM},(uK cs m).p a b→m[i]?=some x→∃u,(cs.drop (i*2)).take 2=[.int .i64 (x.1:Int),u]∧u≠.bz∧(ax.ct u x.2).p a b:=by
  intro m
  induction m with
  | nil=>intro cs i x a b _ h; simp at h
  | cons y m ih =>
   intro cs i x a b h I
   rcases cs with _ | ⟨p,_ | ⟨v,cs⟩⟩ <;> first | exact h.elim | skip
   obtain ⟨⟨⟨J,e2⟩,e3⟩,e4⟩:=h
   cases i with
   | zero=>simp at I; subst I; exact ⟨v,by rw [J]; rfl,e2,e3⟩
   | succ i =>
    simp at I
    obtain ⟨u,f1,f2⟩:=ih e4 I
    refine ⟨u,?_,f2⟩
    rw [←f1,show (i+1)*2=i*2+2 by omega]
    rfl
 obtain ⟨u,J,e2,e3⟩:=key q3 I
 obtain ⟨id,off,g1,U⟩:=Hq (P:=Tryz.prog) (i:=i) s h1 (by omega) (by decide) zW C1
 have U:=U Sy
 rw [J] at U
 refine ⟨id,off,u,g1,U,e2,?_⟩
 have s1:=(s.dup (aH.wr _ _)).fY (B:=.ct u x.2) fun a b h=>by
  obtain ⟨u',f1,_,f3⟩:=key h I
  rw [J] at f1
  injection f1 with _ f1
  injection f1 with f1 _
  subst f1
  exact f3
 exact s1
def layW (c:List Nat): Nat→List Wr→List (Option (List Nat))→List (Option (List Nat))
 | _,[],P=>P
 | i,w::l,P=>layW c (i+1) l (if c.getD i 0%2=0 then P.set w.1 (some w.2) else P)
def tornP (c:List Nat)(k:Nat)(P:List (Option (List Nat))): Option Wr→List (Option (List Nat))
 | none=>P
 | some w=>P.set w.1 (some (dg (dg (List.replicate 512 0) 0 ((P.getD w.1 none).getD [])) 0 (w.2.take (c.getD k 0/2%5*128))))
def k_ (δ:Dk)(c:List Nat): Nat:=(c.getD 0 0+256*c.getD 1 0)%((δ.log.drop δ.aJ++δ.tail).length+1)
def sF (δ:Dk)(c:List Nat): List Nat:=δ.log.take δ.aJ++(δ.log.drop δ.aJ++δ.tail).take (k_ δ c)
def eU (δ:Dk)(c:List Nat): Dk :=
 { room:=δ.room,aq:=tornP c δ.waiting.length (layW c 0 δ.waiting δ.aq) δ.dh,waiting:=[],now:=[],log:=sF δ c,aJ:=(sF δ c).length,mark:=δ.mark,aD := -1,dead:=false,dh:=none,tail:=[] }
theorem abb {P:Program}{h:H}{t:TypeId}{x y:Operand}{n:Nat}(U:n<256): binV P h .and t x y (.int .i64 (n:Int)) (.int .i64 1)=some (.int .i64 ((n%2:Nat):Int)):=by
 have I:((n:Int)%(2^(IntKind.i64).bits:Int)).toNat=n:=by simp only [IntKind.bits]; omega
 have J:((1:Int)%(2^(IntKind.i64).bits:Int)).toNat=1:=by simp only [IntKind.bits]; omega
 simp only [binV,ikBeq,ag,intV,bitsV,I,J]
 rw [show Nat.land n 1=n%2 from Nat.and_one_is_mod n,wrap_i64 (by omega)]
section
variable {told:dM} {h:H} {S:List ax} {X:ax} {v w cv wt:V} {l c:List Nat} {k p q nG N:Nat} {δ:Dk}
theorem vx (hT:W told){i:Nat}(s:Sat h S)(hk:getA S k=some X)(hX:cU X (cY v c)): Call ⟨Tryz.prog,told⟩ 64 [v,.int .i64 (i:Int)] h fun r h'=>r=.int .i64 ((c.getD i 0:Nat):Int)∧h'=h:=by
 have J:=s.aL hk hX
 refine Call.of_wp (hT.free _ rfl) Tryz.func64 rfl rfl (zK 9 rfl (zo rfl (bf rfl rfl rfl (bj Tryz.underlying117 J)) ?_))
 by_cases hi:i<c.length
 ·skip
  have I:c[i]?=some (c[i]'hi):=bg _
  have U:c.getD i 0=c[i]'hi:=by rw [kD,I]; rfl
  rw [U]
  generalize (c[i]'hi)=b at I
  have pR:b<256:=J.1 b (bw I)
  obtain ⟨id,off,e1,e2⟩:=iq J I
  have e3:indexAddrV Tryz.prog 117 v (.int .i64 (i:Int))=some (.ptr id off):=by
   rw [←e1]
   simp only [indexAddrV,Tryz.underlying117,aS]
  refine zt rfl (ah rfl rfl bB) (by simp; omega) ?_
  refine zk 6 rfl (zo rfl (ej (r:=.ptr id off) rfl rfl e3) (zl rfl e2 (zo rfl (bZ rfl (by exact jJ Tryz.underlying5 bG (aY (by omega) (by omega)))) ?_)))
  exact zk 2 rfl (WP.ret ⟨aa,_,rfl,rfl,rfl⟩)
 ·skip
  have U:c.getD i 0=0:=by rw [kD,pE (by omega)]; rfl
  rw [U]
  refine zh rfl (ah rfl rfl bB) (by simp; omega) ?_
  exact zk 7 rfl (WP.ret ⟨aa,_,rfl,rfl,rfl⟩)
noncomputable def crL : Code:=cM [1,1,1,1,0,1,0,0] ((Tryz.f22.body).getD .skip)
theorem Mv (hT:W told){pv:V}{qc:List V}{N:Nat}{W:List Wr}{cs:List V}(uo:qc.length=12)(yo:nth qc 1=some (.sl nG 0 N (.exact N)))(hW:∀w∈W,w.1<N)(hn:W.length≤268435456)(hX:cU X (cY cv c))(hN:N≤65536): ∀(j i:Nat) (I:List V) (P:List (Option (List Nat))) (h:H) (E:List (Nat×V)) (Q:Ex→List (Nat×V)→H→Prop),
  i+j=W.length→I.length=N→P.length=N→Sat h (uK cs W::pt q (.cells 12 qc false)::pt nG (.cells N I false)::each lP I P::.arr 2 wt cs::X::S) →
  Has E [(0,pv),(5,cv),(6,.ptr q 0),(36,wt),(37,.int .i64 W.length),(38,.int .i64 i)] →
  (∀E' h' I U,Has E' [(0,pv),(5,cv),(6,.ptr q 0)]→U=layW c i (W.drop i) P→I.length=N→U.length=N→Sat h' (uK cs W::pt q (.cells 12 qc false)::pt nG (.cells N I false)::each lP I U::.arr 2 wt cs::X::S)→Q (.exit 0) E' h') →
  WP ⟨Tryz.prog,told⟩ 172 (.loop crL) E h Q:=by
 intro j
 induction j with
 | zero =>
  intro i I P h E Q hi hl hp s hE hq
  refine WP.loop (WP.has hE (zg rfl (zh rfl (ah rfl rfl bB) (by simp; omega) ?_)))
  exact zk 3 rfl (WP.exit (hq _ _ _ _ ⟨rfl,rfl,rfl,aa⟩ (by rw [tA (by omega)]; rfl) hl hp s))
 | succ j ih =>
  intro i I P h E Q hi hl hp s hE hq
  have hx:W[i]?=some (W[i]'(by omega)):=bg _
  generalize (W[i]'(by omega))=x at hx
  have hxn:=hW x (bw hx)
  have J:W.drop i=x::W.drop (i+1):=by
   obtain ⟨h1,rfl⟩:=List.getElem?_eq_some_iff.1 hx
   exact lq h1
  obtain ⟨id,off,u,g1,g2,hu,s1⟩:=YS s (j1:=4) rfl hx
  have S4:=s1.aL (k:=0) rfl (cJ _ _)
  have Xn:=S4.cells
  have Fx:=dc S4
  have s:=s1.ae [2,2,2,0,0,0,0]
  dsimp only [bringA,getA,aU] at s
  refine WP.loop (WP.has hE (zg rfl (zt rfl (ah rfl rfl bB) (by simp; omega) ?_)))
  refine zk 5 rfl (WP.block (zK 3 rfl (zo rfl (ej (r:=.ptr id off) rfl rfl g1) (zl rfl g2 ?_))))
  refine aB.cT s rfl rfl rfl (cI Gj) (fun p8 h s => ?_)
  dsimp only [V.cells,List.length_cons,List.length_nil,Nat.reduceAdd] at s
  refine za rfl (zS rfl (s.ia (j:=0) rfl C1 rfl (by simp only [jl,jY,Xn.2]; rfl)) ?_)
  rintro h s
  dsimp only [setA] at s
  refine zk 5 rfl (zc rfl (vx hT s (k:=7) rfl hX) ?_)
  rintro r h' ⟨rfl,rfl⟩
  have bV:c.getD i 0<256:=by
   rw [kD]
   cases hc:c[i]? with
   | none=>decide
   | some b=>exact (s.aL (k:=7) rfl hX).1 b (bw hc)
  refine zb rfl (abb bV) ?_
  by_cases mW:c.getD i 0%2=0
  ·skip
   have S5:indexAddrV Tryz.prog 119 (.sl nG 0 N (.exact N)) (.int .i64 (x.1:Int))=some (.ptr nG x.1):=by
    simp only [indexAddrV,uI,jM]
    rw [show (decide ((0:Int)≤(x.1:Int))&&decide ((x.1:Int)<(N:Int)))=true by simp; omega]
    simp
   refine zt rfl (ah rfl rfl cB) (by rw [mW]; rfl) ?_
   refine zk 2 rfl ?_
   have s0:=s
   refine WP.drawn [ai,ai,ai,ai,ai,ai,ai,ai,ai,ai] rfl (by kernel_rfl) (by kernel_rfl) ?_
   refine zM rfl (zN rfl (zF rfl (m_ _ _) (zL rfl (s.ld (k:=1) rfl rZ yo) (zF rfl (Er _ _) (zL rfl (s.ld (k:=0) rfl dA rfl) (zF rfl (Es _ _) (zL rfl (s.ld (k:=0) rfl bO rfl) (zO rfl (ej (r:=.ptr nG x.1) rfl rfl S5) (aA.h_ rfl rfl rfl (OpR.eA rfl rfl rfl (s.ee (k:=2) rfl jM hl hxn Xn.1 Xn.2)) ?_)))))))))
   rintro v h ⟨rfl,s⟩
   dsimp only [setA] at s
   refine aA.nil ⟨⟨aa,aa,aa,aa,aa,aa,aa,aa,aa,aa,aa⟩,?_⟩
   refine zr rfl (zb rfl (by exact bU (aY (by omega) (by omega))) ?_)
   refine zm rfl (zv ?_)
   have s3:Sat _ (each lP I P::.ct u x.2::_):=s.ae [3,3]
   have s4:=s3.two (C:=each lP (I.set x.1 u) (P.set x.1 (some x.2))) (aH.each aH.lP _ _) (aH.ct _ _) fun a b q1 q2=>B4 q1 ⟨hu,q2⟩
   dsimp only [bringA,getA,aU] at s4
   refine ih (i+1) _ (P.set x.1 (some x.2)) _ _ Q (by omega) (by rw [dD]; exact hl) (by rw [dD]; exact hp) ((s4.ae [4,2,2,0,1,1]).del 6) ⟨rfl,rfl,rfl,rfl,rfl,rfl,aa⟩ (fun E' h' I U iH hP h1 h2 s'=>hq E' h' I U iH ?_ h1 h2 s')
   rw [hP,J,layW,aj mW]
  ·skip
   refine zh rfl (ah rfl rfl cB) (by simp only [decide_eq_false_iff_not]; omega) ?_
   refine zv (zj rfl (WP.skip (zr rfl (zb rfl (by exact bU (aY (by omega) (by omega))) ?_))))
   refine zm rfl (zv ?_)
   refine ih (i+1) _ P _ _ Q (by omega) hl hp (((s.ae [5,1,1,1,2,2]).del 6).del 6) ⟨rfl,rfl,rfl,rfl,rfl,rfl,aa⟩ (fun E' h' I U iH hP h1 h2 s'=>hq E' h' I U iH ?_ h1 h2 s')
   rw [hP,J,layW,af mW]
theorem JM {n i j:Nat}{cs ds:List V}(s:Sat h (pt i (.cells n cs false)::pt j (.cells n ds false)::S))(J:cs.length=n)(I:ds.length=n):
  ∃h',copyV Tryz.prog h 119 (.sl i 0 n (.exact n)) (.sl j 0 n (.exact n))=some (.int .i64 (n:Int),h')∧Sat h' (pt i (.cells n ds false)::pt j (.cells n ds false)::S):=by
 refine ⟨h.put i (some (.cells n ds false)),?_,s.put (k:=0) rfl⟩
 have r1:=s.row (k:=0) rfl
 have r2:=s.row (k:=1) rfl
 simp only [copyV,uI,jM,rdN,wrN,r1,r2,dW]
 rw [show Nat.min n n=n from Nat.min_self n]
 simp only [dV]
 rw [aQ.2 (aI n),ag,show (Nat.beq 0 0&&Nat.beq n n)=true by rw [g9 rfl,g9 rfl]; rfl,ag]
 simp only [I,aQ.2 (aI n),ag]
 rw [show (Nat.beq 0 0&&Nat.beq n n)=true by rw [g9 rfl,g9 rfl]; rfl,ag]
theorem OpR.UM {C:dF}{E:List (Nat×V)}{o:Oper}{cl:Go.Call}{n i j:Nat}{cs ds:List V}(hP:C.P=Tryz.prog)(s:Sat h (pt i (.cells n cs false)::pt j (.cells n ds false)::S))(I:cs.length=n)(J:ds.length=n)(U:o.op=.call cl)(hc:cl.callee=.builtin .copy)
 (hty:cl.argTypes = #[119,119])(ha:lookArgs E cl.args.toList=some [.sl i 0 n (.exact n),.sl j 0 n (.exact n)]): OpR C E h o fun _ h₁=>Sat h₁ (pt i (.cells n ds false)::pt j (.cells n ds false)::S):=by
 obtain ⟨h₁,e1,e2⟩:=JM s I J
 refine OpR.builtin U hc ha ⟨.int .i64 (n:Int),h₁,?_,e2⟩
 simp only [builtinV,hP,hty,e1]
theorem abc {P:Program}{h:H}{t:TypeId}{x y:Operand}{a b:Nat}(J:0<b)(hw:a<9223372036854775808): binV P h .quo t x y (.int .i64 (a:Int)) (.int .i64 (b:Int))=some (.int .i64 ((a/b:Nat):Int)):=by
 simp only [binV,ikBeq,ag,intV]
 have:intBeq (b:Int) 0=false:=by rw [og]; simp; omega
 have I:a/b≤a:=Nat.div_le_self a b
 rw [this,ay,JY (by omega),←Int.natCast_ediv]
 generalize a/b=q at I ⊢
 rw [aY (by omega) (by omega)]
theorem Rw (I:j4 h v l)(J:1≤l.length): slR v 0 l.length=v:=by
 rcases I.2 with ⟨_,rfl⟩ | ⟨id,cs,c,rfl,_,U⟩ | ⟨id,rfl,_,_⟩
 ·simp at J
 ·simp only [slR]
  rw [cS (by omega),ay]
  rfl
 ·rfl
theorem Mx {m:List Nat}{a:Nat}(s:Sat h (bK v l::X::S))(hX:cU X (cY w m))(hl:1≤l.length)(hm:a+m.length≤l.length):
  ∃(n:Nat) (h':H),copyV Tryz.prog h 32 (slR v a l.length) w=some (.int .i64 (n:Int),h')∧Sat h' (bK v (dg l a m)::X::S):=by
 by_cases hz:m=[]
 ·subst hz
  have hv:=s.aL (k:=1) rfl hX
  have J:=(s.buf (k:=0) rfl).1
  rw [show dg l a []=l by simp [dg]]
  obtain ⟨id,c,cap,rest,rfl,s1,hc,hf⟩:=s.kM hl
  have U:∃o' c',slR (.sl id 0 l.length cap) a l.length=.sl id o' (l.length-a) c'∧o'≤l.length:=by
   cases cap with
   | exact c=>exact ⟨_,_,rfl,by cases Nat.beq c a <;> simp at hm ⊢; omega⟩
   | rest e alt=>exact ⟨_,_,rfl,by simp at hm ⊢; omega⟩
  obtain ⟨o',c',U,ho⟩:=U
  rw [U]
  rcases hv.2 with ⟨rfl | ⟨a,rfl⟩,_⟩ | ⟨nG,I,acE,n2,Ko,ZB,rfl,_⟩
  ·exact ⟨0,h,by simp only [copyV,aS,fU]; rfl,s⟩
  ·exact ⟨0,h,by simp only [copyV,aS,fU]; rfl,s⟩
  ·have hr:rdN h nG I 0=some []:=hv.rdN.2
   have HD:Nat.min 0 (l.length-a)=0:=Nat.zero_min _
   refine ⟨0,h.put id (some (.cells c (ofBytes l++rest) false)),?_,hf _ _ rfl J (s1.put (k:=0) rfl)⟩
   simp only [copyV,aS,fU,bY,HD,v_,hr,wrN,s1.row (k:=0) rfl]
   rw [aQ.2 (by omega),ag,show Nat.beq 0 c=false from cS (by omega),mu,ay,iY,cW,DT]
 ·have h1:1≤m.length:=by
   rcases m with _ | ⟨a,m⟩
   ·exact absurd rfl hz
   ·simp
  obtain ⟨h',e1,e2⟩:=Hp s hX (a:=a) (b:=l.length) (by omega) (by omega) h1
  rw [fR (by omega)] at e2
  exact ⟨_,h',e1,e2⟩
theorem OpR.Pg {C:dF}{E:List (Nat×V)}{o:Oper}{cl:Go.Call}{m:List Nat}{a:Nat}{d:V}(U:C.P=Tryz.prog)(s:Sat h (bK v l::X::S))(hX:cU X (cY w m))(hl:1≤l.length)(hm:a+m.length≤l.length)
 (I:o.op=.call cl)(hc:cl.callee=.builtin .copy)(J:cl.argTypes = #[32,32])(ha:lookArgs E cl.args.toList=some [d,w])(hd:d=slR v a l.length): OpR C E h o fun _ h₁=>Sat h₁ (bK v (dg l a m)::X::S):=by
 subst hd
 obtain ⟨n,h₁,e1,e2⟩:=Mx s hX hl hm
 refine OpR.builtin I hc ha ⟨.int .i64 (n:Int),h₁,?_,e2⟩
 simp only [builtinV,U,J,e1]
theorem OpR.S6 {C:dF}{E:List (Nat×V)}{o:Oper}{cl:Go.Call}{m:List Nat}(hP:C.P=Tryz.prog)(s:Sat h (bK v l::X::S))(hX:cU X (cY w m))(U:1≤l.length)(hm:m.length≤l.length)
 (I:o.op=.call cl)(hc:cl.callee=.builtin .copy)(J:cl.argTypes = #[32,32])(ha:lookArgs E cl.args.toList=some [v,w]): OpR C E h o fun _ h₁=>Sat h₁ (bK v (dg l 0 m)::X::S) :=
 OpR.Pg hP s hX U (by omega) I hc J ha (Rw (s.buf (k:=0) rfl) U).symm
theorem Xo {o:Option (List Nat)}: cU (lP v o) (cY v (o.getD [])):=by
 cases o with
 | none=>exact fun m r h=>.inl ⟨by simp,.inl ⟨.inl h,rfl⟩⟩
 | some b=>exact fun m r h=>.inr h.2
noncomputable def crT : Code:=cM [1,1,1,1,1,0,1,0] ((Tryz.f22.body).getD .skip)
theorem My (hT:W told){I:Dk}{w:Wr}(s:Sat h (aG q I::aG p δ::X::S))(hX:cU X (cY cv c))(hn:δ.waiting.length≤268435456)(ht:δ.dh=some w)(hw:w.1<I.aq.length)(sE:w.2.length=512)(hN:I.aq.length≤65536)
 (nJ:∀(i:Nat) (b:List Nat),I.aq[i]?=some (some b)→b.length=512)
 {E:List (Nat×V)}{Q:Ex→List (Nat×V)→H→Prop}(hE:Has E [(0,.ptr p 0),(5,cv),(6,.ptr q 0)])
 (hq:∀E' h',Has E' [(0,.ptr p 0),(5,cv),(6,.ptr q 0)]→Sat h' (aG q { I with aq:=tornP c δ.waiting.length I.aq (some w) }::aG p δ::X::S)→Q .normal E' h'): WP ⟨Tryz.prog,told⟩ 172 crT E h Q:=by
 obtain ⟨pg,wt,nw,lg,mk,tn,tl,ops,s⟩:=bt.1 (s.ae [1])
 rw [ht] at s
 obtain ⟨tid,s⟩:=gu.1 (s.ae [6])
 obtain ⟨u,s⟩:=gu.1 s
 have s:=en.1 s
 dsimp only [List.cons_append,List.nil_append] at s
 obtain ⟨rfl,s⟩:=eR.1 s
 obtain ⟨Z8,Z9,Z_,lg2,mk2,tn2,tl2,Xp,s⟩:=bt.1 (s.ae [9])
 obtain ⟨nG,J,rfl,s⟩:=gv.1 (s.ae [1])
 obtain ⟨Xq,s⟩:=mM.1 (s.ae [13])
 have s:=s.ae [4,12,10,2,2,8,0]
 have Ij:Xq.length=δ.waiting.length*2:=by
  obtain ⟨a,b,q1,q2,q3⟩:=s.at (k:=7) rfl
  exact A9 q3
 have hb:c.getD δ.waiting.length 0<256:=by
  rw [kD]
  cases hc:c[δ.waiting.length]? with
  | none=>decide
  | some b=>exact (s.aL (k:=19) rfl hX).1 b (bw hc)
 have kx:J.length=I.aq.length:=by
  obtain ⟨a,b,q1,q2,q3⟩:=s.at (k:=4) rfl
  exact uJ q3
 have uN:J[w.1]?=some (J[w.1]'(by omega)):=bg _
 have U:I.aq[w.1]?=some (I.aq[w.1]'hw):=bg _
 generalize (J[w.1]'(by omega))=v1 at uN
 generalize hxx:(I.aq[w.1]'hw)=x at U
 have nq:I.aq.getD w.1 none=x:=by rw [kD,U]; rfl
 have hxl:(x.getD []).length≤512:=by
  cases x with
  | none=>simp
  | some b=>exact Nat.le_of_eq (nJ _ _ U)
 refine WP.has hE (zK 5 rfl (zf rfl (tZ _ _) (zl rfl (s.ld (k:=1) rfl C0 rfl) (zo rfl (bf rfl rfl rfl (s.iP (n:=δ.waiting.length) (j:=6) rfl Ij (by decide) zW)) ?_))))
 refine zc rfl (vx hT (i:=δ.waiting.length) s (k:=19) rfl hX) ?_
 rintro r h' ⟨rfl,rfl⟩
 refine zb rfl (abc (a:=c.getD δ.waiting.length 0) (b:=2) (by decide) (by omega)) ?_
 refine zb rfl (QI (a:=c.getD δ.waiting.length 0/2) (b:=5) (by decide)) ?_
 refine zo rfl (ah (r:=.int .i64 ((c.getD δ.waiting.length 0/2%5*128:Nat):Int)) rfl rfl (by simp only [binV,ikBeq,ag,intV]; rw [show ((c.getD δ.waiting.length 0/2%5:Nat):Int)*128=((c.getD δ.waiting.length 0/2%5*128:Nat):Int) by push_cast; rfl,wrap_i64 (by omega)])) ?_
 refine zk 4 rfl (aB.any rfl rfl rfl (OpR.Gn (c:=512) rfl s rfl rfl rfl rfl (by decide)) ?_)
 intro z h s
 refine zk 3 rfl ?_
 have s1:=((s.ae [5]).dup (aH.each aH.lP _ _)).fY (B:=lP v1 x) fun a b q=>Hy q uN U
 have s:=s1.ae [2,0,1,1,1,1]
 have nk:nth J w.1=some v1:=by rw [fV]; exact uN
 have S5:indexAddrV Tryz.prog 119 (.sl nG 0 I.aq.length (.exact I.aq.length)) (.int .i64 (w.1:Int))=some (.ptr nG w.1):=by
  simp only [indexAddrV,uI,jM]
  rw [show (decide ((0:Int)≤(w.1:Int))&&decide ((w.1:Int)<(I.aq.length:Int)))=true by simp; omega]
  simp
 have s0:=s
 refine WP.drawn [ai,ai,ai,ai,ai,ai,ai,ai,ai,ai,ai,ai,ai,ai,ai] rfl (by kernel_rfl) (by kernel_rfl) ?_
 refine zM rfl (zM rfl (zN rfl (zF rfl (m_ _ _) (zL rfl (s.ld (k:=2) rfl rZ rfl) (zM rfl (zN rfl (zF rfl (uG _ _) (zL rfl (s.ld (k:=3) rfl Gi rfl) (zN rfl (zF rfl (Er _ _) (zL rfl (s.ld (k:=4) rfl dA rfl) (zO rfl (ej (r:=.ptr nG w.1) rfl rfl S5) (zL rfl (s.ld (k:=5) rfl bO nk) (aA.any rfl rfl rfl rfl (OpR.S6 rfl s Xo (by rw [fE]; decide) (by rw [fE]; exact hxl) rfl rfl rfl rfl) ?_))))))))))))))
 intro r h s
 refine aA.nil ⟨⟨aa,aa,aa,aa,aa,aa,aa,aa,aa,aa,aa,aa,aa,aa,aa,aa⟩,?_⟩
 have hl3:(dg (List.replicate 512 0) 0 (x.getD [])).length=512:=by rw [iO (by rw [fE]; omega),fE]
 have S4:=s.aL (k:=7) rfl (cJ _ _)
 have EX:c.getD δ.waiting.length 0/2%5*128≤w.2.length:=by omega
 refine zK 5 rfl (zf rfl (uG _ _) (zl rfl (s.ld (k:=3) rfl Gi rfl) (zn rfl (zf rfl (Es _ _) (zl rfl (s.ld (k:=4) rfl bO rfl) (zm rfl (zo rfl (cF (p:=none) (q:=some (.int .i64 ((c.getD δ.waiting.length 0/2%5*128:Nat):Int))) (m:=none) (p':=none) (q':=some (c.getD δ.waiting.length 0/2%5*128)) (m':=none) rfl rfl rfl rfl rfl (by rw [fO (by omega),cQ]) rfl (iz S4 (b:=c.getD δ.waiting.length 0/2%5*128) EX).1) ?_)))))))
 refine aB.any rfl rfl rfl (OpR.S6 rfl (s.ae [0,6]) (xx (cJ _ _) (b:=c.getD δ.waiting.length 0/2%5*128) EX) (by omega) (by rw [dP]; omega) rfl rfl rfl rfl) ?_
 intro r h s
 have s:=s.fN
 have M_:=s.aL (k:=0) rfl (cJ _ _)
 have hl4:(dg (dg (List.replicate 512 0) 0 (x.getD [])) 0 (w.2.take (c.getD δ.waiting.length 0/2%5*128))).length=512:=by rw [iO (by rw [dP]; omega),hl3]
 refine zv (WP.drawn [ai,ai,ai,ai,ai,ai,ai,ai,ai,ai,ai,ai,ai,ai] rfl (by kernel_rfl) (by kernel_rfl) ?_)
 refine zM rfl (zN rfl (zF rfl (m_ _ _) (zL rfl (s.ld (k:=3) rfl rZ rfl) (zM rfl (zN rfl (zF rfl (uG _ _) (zL rfl (s.ld (k:=4) rfl Gi rfl) (zN rfl (zF rfl (Er _ _) (zL rfl (s.ld (k:=5) rfl dA rfl) (zM rfl (zO rfl (ej (r:=.ptr nG w.1) rfl rfl S5) (aA.h_ rfl rfl rfl (OpR.eA rfl rfl rfl (s.ee (k:=6) rfl jM kx hw M_.cells.1 M_.cells.2)) ?_)))))))))))))
 rintro r h ⟨rfl,s⟩
 refine aA.nil ⟨⟨aa,aa,aa,aa,aa,aa,aa,aa,aa,aa,aa,aa,aa,aa,aa⟩,?_⟩
 have yI:z≠.bz:=fun e=>by
  subst e
  obtain ⟨_,_,_,e⟩:=kN M_ (by omega)
  cases e
 have t1:=(s.ae [7,0]).two (C:=each lP (J.set w.1 z) (tornP c δ.waiting.length I.aq (some w))) (aH.each aH.lP _ _) (aH.ct _ _) fun a b q1 q2=>by
  rw [tornP,nq]
  exact B4 q1 ⟨yI,q2⟩
 dsimp only [vl,aU,bringA,getA,setA] at t1
 have GX:(tornP c δ.waiting.length I.aq (some w)).length=I.aq.length:=by rw [tornP,dD]
 have t2:=gv.2 ⟨nG,J.set w.1 z,rfl,by rw [GX]; exact t1.ae [6,0]⟩
 rw [GX] at t2
 dsimp only [aU,bringA] at t2
 have t3:=bt (δ:={ I with aq:=tornP c δ.waiting.length I.aq (some w) }).2 ⟨_,_,_,_,_,_,_,_,t2.ae [3,0,6,6,6,6,6,6]⟩
 dsimp only [aU,bringA] at t3
 have t4:=mM.2 ⟨_,t3.ae [5,5]⟩
 dsimp only [aU,bringA] at t4
 have t5:Sat h (Ba (.ptr tid 0) (some w)::_):=gu.2 ⟨tid,gu.2 ⟨u,en.2 (eR.2 ⟨rfl,t4.ae [5,2]⟩)⟩⟩
 dsimp only [aU] at t5
 have t6:=bt.2 ⟨_,_,_,_,_,_,_,_,by rw [ht]; exact (t5.del 3).ae [3,3,1,2,2,2,0,1,0,0]⟩
 dsimp only [aU,bringA,getA] at t6
 exact hq _ _ ⟨rfl,rfl,rfl,aa⟩ (t6.ae [1])
end
section
variable {told:dM} {h:H} {S:List ax} {X:ax} {v w cv wt:V} {l c:List Nat} {k p q nG N:Nat} {δ:Dk}
noncomputable def crE : Code:=cM [1,1,1,1,1,1] ((Tryz.f22.body).getD .skip)
theorem FR (U:W told){I:Dk}(s:Sat h (aG q I::aG p δ::X::S))(hX:cU X (cY cv c))(tv:δ.Ok)(S7:δ.tail.length≤16777216)(Ph:δ.mark.length≤64)
 {E:List (Nat×V)}{Q:Ex→List (Nat×V)→H→Prop}(hE:Has E [(0,.ptr p 0),(5,cv),(6,.ptr q 0)])
 (hq:∀E' h',look E' 4=some (.ptr q 0)→Sat h' (aG q { I with log:=sF δ c,aJ:=(sF δ c).length,mark:=δ.mark }::aG p δ::X::S)→Q .ret E' h'): WP ⟨Tryz.prog,told⟩ 172 crE E h Q:=by
 have hlen:=tv.len
 have acF:=tv.aJ
 obtain ⟨pg,wt,nw,lg,mk,tn,tl,ops,s⟩:=bt.1 (s.ae [1])
 have htv:=dc (s.aL (k:=7) rfl (cJ _ _))
 refine WP.has hE (zw ?_)
 have s0:=s
 refine WP.drawn [ai,ai,ai,ai,ai,ai,ai,ai,ai,ai,some (0,2),some (0,2),some (0,2),some (0,2),none,none] rfl (by kernel_rfl) (by kernel_rfl) ?_
 refine zM rfl (zN rfl (zF rfl (js _ _) (zL rfl (by exact s.ld (k:=0) rfl bO rfl) ?_)))
 refine zM rfl (zN rfl (zF rfl (ob _ _) (zL rfl (by exact s.ld (k:=0) rfl dA rfl) ?_)))
 refine zO rfl (cF (p:=some (.int .i64 (δ.aJ:Int))) (q:=none) (m:=none) (p':=some δ.aJ) (q':=none) (m':=none) rfl rfl rfl rfl (by simp [g8,bndV]) rfl rfl (eC (s.buf (k:=4) rfl).view (a:=δ.aJ) (by omega)).1) ?_
 refine aA.any rfl rfl rfl rfl (OpR.call rfl rfl rfl rfl (gQ U (s.ae [4]) (od (bM _ _) (a:=δ.aJ) (by omega)) (by simp; omega))) ?_
 intro u h s
 dsimp only [vl,aU,bringA] at s
 have s1:=s
 refine zM rfl (zN rfl (zF rfl (BZ _ _) (zL rfl (by exact s.ld (k:=2) rfl bO rfl) ?_)))
 refine aA.any rfl rfl rfl rfl (OpR.oX rfl (s.ae [0,7]) (cJ _ _) rfl rfl rfl rfl (by simp; omega)) ?_
 intro r h s
 dsimp only [aU,bringA] at s
 have s2:=s
 refine zA rfl ?_
 refine aA.nil ⟨⟨aa,aa,aa,aa,aa,aa,aa,aa,aa,aa,fun _ _=>.inr ⟨rfl,⟨_,bn rfl⟩,aX _ rfl⟩,fun _ _=>.inr ⟨rfl,⟨_,kq rfl⟩,aX _ rfl⟩,fun _ _=>.inr ⟨rfl,⟨_,jI rfl (BZ _ _)⟩,aX _ rfl⟩,dX (.inr ⟨rfl,⟨_,aW rfl (by exact s0.ld (k:=0) rfl bO rfl)⟩,htv⟩) (.inr ⟨rfl,⟨_,aW rfl (by exact s1.ld (k:=2) rfl bO rfl)⟩,htv⟩),aa,aa,aa⟩,?_⟩
 have FD:(δ.log.drop δ.aJ++δ.tail).length=δ.log.length-δ.aJ+δ.tail.length:=by simp
 have J:=(s.buf (k:=0) rfl).view
 refine zg rfl (zm rfl (aB.call rfl rfl rfl rfl rfl rfl rfl (vx U (i:=0) s (k:=10) rfl hX) ?_))
 rintro v h' ⟨rfl,rfl⟩
 refine zm rfl (aB.call rfl rfl rfl rfl rfl rfl rfl (vx U (i:=1) s (k:=10) rfl hX) ?_)
 rintro v h' ⟨rfl,rfl⟩
 have hb:∀i,c.getD i 0<256:=fun i=>by
  rw [kD]
  cases hc:c[i]? with
  | none=>decide
  | some b=>exact (s.aL (k:=10) rfl hX).1 b (bw hc)
 have Bp:=hb 0
 have yc:=hb 1
 refine zb rfl (by exact BX (aY (by omega) (by omega))) ?_
 refine zb rfl (by exact bU (aY (by omega) (by omega))) ?_
 refine zm rfl (zo rfl (bf rfl rfl rfl (bj aS J)) (zb rfl (by exact bU (aY (by omega) (by omega))) ?_))
 refine zb rfl (QI (a:=c.getD 0 0+256*c.getD 1 0) (b:=(δ.log.drop δ.aJ++δ.tail).length+1) (by omega)) ?_
 refine za rfl (zv (zw ?_))
 have hk:k_ δ c≤(δ.log.drop δ.aJ++δ.tail).length:=Nat.le_of_lt_succ (wg _ (by omega))
 obtain ⟨Z8,Z9,Z_,lg2,mk2,tn2,tl2,Xp,s⟩:=bt.1 (s.ae [9])
 have s:=s.ae [0,10,3,8,6,3,9]
 dsimp only [vl,aU,bringA,getA] at s
 have s0:=s
 have Ic:=dc J
 have BD:=dc (iz J (b:=k_ δ c) hk).2.1
 refine WP.drawn [some (0,3),ai,ai,ai,ai,ai,ai,ai,ai,ai,ai,some (0,2),some (0,2),some (0,2),ai,ai,ai,ai] rfl (by kernel_rfl) (by kernel_rfl) ?_
 refine zM rfl (zM rfl (zN rfl (zF rfl (js _ _) (zL rfl (by exact s.ld (k:=1) rfl bO rfl) ?_))))
 refine zM rfl (zN rfl (zF rfl (ob _ _) (zL rfl (by exact s.ld (k:=1) rfl dA rfl) ?_)))
 refine zO rfl (cF (p:=none) (q:=some (.int .i64 (δ.aJ:Int))) (m:=none) (p':=none) (q':=some δ.aJ) (m':=none) rfl rfl rfl rfl rfl (by simp [g8,bndV]) rfl (iz (s.buf (k:=3) rfl).view (b:=δ.aJ) (by omega)).1) ?_
 refine aA.any rfl rfl rfl rfl (OpR.call rfl rfl rfl rfl (gQ U (s.ae [3]) (xx (bM _ _) (b:=δ.aJ) (by omega)) (by simp; omega))) ?_
 intro u h s
 dsimp only [aU,bringA] at s
 have s1:=s
 refine zM rfl (zM rfl (zO rfl (cF (p:=none) (q:=some (.int .i64 (k_ δ c:Int))) (m:=none) (p':=none) (q':=some (k_ δ c)) (m':=none) rfl rfl rfl rfl rfl (by simp [g8,bndV]) rfl (by exact (iz (s.buf (k:=5) rfl).view (b:=k_ δ c) hk).1)) ?_))
 refine aA.any rfl rfl rfl rfl (OpR.oX rfl (s.ae [0,4]) (xx (bM _ _) (b:=k_ δ c) hk) rfl rfl rfl rfl (by simp only [dP]; omega)) ?_
 intro w h s
 dsimp only [aU,bringA] at s
 have s2:=s
 have hv:=(s.buf (k:=0) rfl).view.cells
 refine zN rfl (zF rfl (js _ _) (aA.h_ rfl rfl rfl (OpR.eA rfl rfl rfl (s.ee (k:=3) rfl jM rfl (by decide) hv.1 hv.2)) ?_))
 rintro v h ⟨rfl,s⟩
 dsimp only [Nat.reduceAdd,List.set,setA] at s
 refine aA.nil ⟨⟨fun _ _=>.inr ⟨rfl,⟨_,bn rfl⟩,aX _ rfl⟩,aa,aa,aa,aa,aa,aa,aa,aa,aa,aa,fun _ _=>.inr ⟨rfl,⟨_,bn rfl⟩,Ic⟩,fun _ _=>.inr ⟨rfl,⟨_,bn rfl⟩,aX _ rfl⟩,dX (.inr ⟨rfl,⟨_,cF (p:=none) (q:=some (.int .i64 (k_ δ c:Int))) (m:=none) (p':=none) (q':=some (k_ δ c)) (m':=none) rfl rfl rfl rfl rfl (by simp [g8,bndV]) rfl (by exact (iz (s0.buf (k:=4) rfl).view (b:=k_ δ c) hk).1)⟩,BD⟩) (.inr ⟨rfl,⟨_,cF (p:=none) (q:=some (.int .i64 (k_ δ c:Int))) (m:=none) (p':=none) (q':=some (k_ δ c)) (m':=none) rfl rfl rfl rfl rfl (by simp [g8,bndV]) rfl (by exact (iz (s1.buf (k:=5) rfl).view (b:=k_ δ c) hk).1)⟩,BD⟩),aa,aa,aa,aa,aa⟩,?_⟩
 refine zg rfl (zm rfl (zm rfl (zn rfl (zf rfl (js _ _) (zl rfl (by exact s.ld (k:=3) rfl bO rfl) ?_)))))
 refine zo rfl (bf rfl rfl rfl (by exact bj aS (s.aL (k:=0) rfl (bM _ _)))) ?_
 refine zn rfl (zf rfl (ob _ _) ?_)
 refine aB.eA rfl rfl rfl rfl rfl (by exact s.ee (k:=3) rfl jK rfl (by decide) rfl rfl) (fun h s => ?_)
 dsimp only [Nat.reduceAdd,List.set,setA] at s
 refine zv (zg rfl (zm rfl (zm rfl (zn rfl (zf rfl (wF _ _) (zl rfl (by exact s.ld (k:=4) rfl bO rfl) ?_))))))
 refine aB.call rfl rfl rfl rfl rfl rfl rfl (gQ U (s.ae [7]) (cJ _ _) (by omega)) ?_
 intro m h s
 have s:=s.fN
 dsimp only [aU,bringA] at s
 have hv:=(s.aL (k:=0) rfl (cJ _ _)).cells
 refine zn rfl (zf rfl (wF _ _) (aB.eA rfl rfl rfl rfl rfl (s.ee (k:=5) rfl jM rfl (by decide) hv.1 hv.2) ?_))
 intro h s
 dsimp only [Nat.reduceAdd,List.set,setA] at s
 refine zv (zg rfl (zm rfl (za rfl (zv (WP.ret ?_)))))
 have s:=(((s.del 8).del 7).del 3).ae [4,5,5,5,2,0,3,3,2,3,3,3,1,0,1,0,0]
 dsimp only [aU,bringA,getA] at s
 have s:=bt.2 ⟨_,_,_,_,_,_,_,_,(bt (δ:={ I with log:=sF δ c,aJ:=(sF δ c).length,mark:=δ.mark }).2 ⟨_,_,_,_,_,_,_,_,s⟩).ae [1,1,1,1,1,1,1,1,0]⟩
 exact hq _ _ rfl (s.ae [1])
theorem uc {c:List Nat}: ∀ {l:List Wr} {i:Nat} {P:List (Option (List Nat))},(layW c i l P).length=P.length:=by
 intro l
 induction l with
 | nil=>intro i P; rfl
 | cons w l I =>
  intro i P
  rw [layW,I]
  split
  ·rw [dD]
  ·rfl
theorem KX {c:List Nat}: ∀ {l:List Wr} {i:Nat} {P:List (Option (List Nat))},(∀w∈l,w.2.length=512)→(∀(j:Nat) (b:List Nat),P[j]?=some (some b)→b.length=512)→∀(j:Nat) (b:List Nat),(layW c i l P)[j]?=some (some b)→b.length=512:=by
 intro l
 induction l with
 | nil=>intro i P _ h; exact h
 | cons w l U =>
  intro i P J h
  refine U (fun x hx=>J x (bp _ hx)) ?_
  split
  ·intro j b I
   rw [tF] at I
   split at I
   ·split at I
    ·injection I with I; injection I with I; rw [←I]; exact J w br
    ·cases I
   ·exact h j b I
  ·exact h
structure Dk.Cr (δ:Dk): Prop where
 ok:δ.Ok
 wait:∀w∈δ.waiting,w.1<δ.aq.length∧w.2.length=512
 many:δ.waiting.length≤268435456
 dh:∀w,δ.dh=some w→w.1<δ.aq.length∧w.2.length=512
 tail:δ.log.length+δ.tail.length≤16777216
 mark:δ.mark.length≤64
theorem Iy (hT:W told)(s:Sat h (aG p δ::X::S))(hX:cU X (cY cv c))(hc:δ.Cr):
  Call ⟨Tryz.prog,told⟩ 22 [.ptr p 0,cv] h fun v h'=>∃q,v=.ptr q 0∧Sat h' (aG q (eU δ c)::aG p δ::X::S):=by
 obtain ⟨U,hW,hn,ht,S7,Ph⟩:=hc
 have S7:δ.tail.length≤16777216:=by omega
 obtain ⟨pg,wt,nw,lg,mk,tn,tl,ops,s⟩:=bt.1 s
 obtain ⟨id,cs,rfl,s⟩:=gv.1 (s.ae [1])
 dsimp only [bringA,getA,aU] at s
 have J:=U.many
 have wL:cs.length=δ.aq.length:=by
  obtain ⟨a,b,q1,q2,q3⟩:=s.at (k:=1) rfl
  exact uJ q3
 refine Call.of_wp (hT.free _ rfl) Tryz.func22 rfl rfl (zg rfl (za rfl (zv (zg rfl (zm rfl (za rfl (zv (zw ?_))))))))
 have s:=s.ae [2]
 dsimp only [bringA,getA,aU] at s
 have s0:=s
 refine WP.drawn [ai,ai,ai,ai,ai,ai,ai,ai,ai,ai,ai] rfl (by kernel_rfl) (by kernel_rfl) ?_
 refine zM rfl (zN rfl (zF rfl (m_ _ _) (zL rfl (by exact s.ld (k:=0) rfl rZ rfl) ?_)))
 refine zO rfl (bf rfl rfl rfl (G_ uI)) (zM rfl (zN rfl (zF rfl (Kl _ _) (zL rfl (by exact s.ld (k:=0) rfl dA rfl) ?_))))
 refine aA.any rfl rfl rfl rfl (OpR.call rfl rfl rfl rfl (HB (n:=δ.aq.length) (m:=δ.room) hT s (by omega))) ?_
 rintro v h ⟨q,rfl,s⟩
 refine zA rfl ?_
 refine aA.nil ⟨⟨aa,aa,aa,aa,aa,aa,aa,aa,aa,aa,aa,aa⟩,?_⟩
 obtain ⟨Z8,Z9,Z_,lg2,mk2,tn2,tl2,Xp,s⟩:=bt.1 s
 obtain ⟨nG,Ko,e2,s⟩:=gv.1 (s.ae [1])
 dsimp only [bringA,getA,aU,Dk.fresh] at s e2
 rw [fE] at s e2
 subst e2
 have kx:Ko.length=δ.aq.length:=by
  obtain ⟨a,b,q1,q2,q3⟩:=s.at (k:=1) rfl
  rw [uJ q3,fE]
 obtain ⟨Xq,s⟩:=mM.1 (s.ae [12])
 dsimp only [bringA,getA,aU] at s
 have Ij:Xq.length=δ.waiting.length*2:=by
  obtain ⟨a,b,q1,q2,q3⟩:=s.at (k:=1) rfl
  exact A9 q3
 have s:=s.ae [4,10,2,9]
 dsimp only [bringA,getA,aU] at s
 refine zw ?_
 have s0:=s
 refine WP.drawn [ai,ai,ai,ai,ai,ai,ai,ai,ai] rfl (by kernel_rfl) (by kernel_rfl) ?_
 refine zM rfl (zN rfl (zF rfl (m_ _ _) (zL rfl (by exact s.ld (k:=0) rfl rZ rfl) ?_)))
 refine zM rfl (zN rfl (zF rfl (m_ _ _) (zL rfl (by exact s.ld (k:=1) rfl rZ rfl) ?_)))
 refine aA.any rfl rfl rfl rfl (OpR.UM rfl (s.ae [2,2]) kx wL rfl rfl rfl rfl) ?_
 intro r h s
 dsimp only [vl,aU,bringA] at s
 refine aA.nil ⟨⟨aa,aa,aa,aa,aa,aa,aa,aa,aa,aa⟩,?_⟩
 refine zw (zg rfl (zm rfl (zn rfl (zf rfl (tZ _ _) (zl rfl (by exact s.ld (k:=3) rfl C0 rfl) ?_)))))
 refine zo rfl (bf rfl rfl rfl (s.iP (n:=δ.waiting.length) (j:=4) rfl Ij (by decide) zW)) ?_
 refine zm rfl (zv (WP.block ?_))
 have s:=((s.ae [13]).dup (aH.each aH.lP _ _)).ae [7,4,2,0,3,15]
 dsimp only [aU,bringA,getA] at s
 refine Mv hT rfl rfl (fun w hw=>(hW w hw).1) hn hX J δ.waiting.length 0 cs δ.aq h _ _ (dV _) wL rfl s ⟨rfl,rfl,rfl,rfl,rfl,rfl,aa⟩ (fun E h Ko P hE hP h1 h2 s => ?_)
 rw [d_] at hP
 subst hP
 refine WP.has hE ?_
 have t1:=gv.2 ⟨nG,Ko,rfl,by rw [h2]; exact s.ae [2,2]⟩
 rw [h2] at t1
 dsimp only [aU,bringA] at t1
 have t2:=bt (δ:={ Dk.fresh δ.aq.length δ.room with aq:=layW c 0 δ.waiting δ.aq }).2 ⟨_,_,_,_,_,_,_,_,t1.ae [2,0,7,7,7,7,7,7]⟩
 dsimp only [aU,bringA] at t2
 have t3:=gv.2 ⟨id,cs,rfl,t2.ae [5,4]⟩
 dsimp only [aU,bringA] at t3
 have t4:=(mM.2 ⟨_,t3.ae [3,2]⟩).del 5
 dsimp only [aU,bringA] at t4
 have s:Sat h (aG q { Dk.fresh δ.aq.length δ.room with aq:=layW c 0 δ.waiting δ.aq }::aG p δ::X::S):=(bt.2 ⟨_,_,_,_,_,_,_,_,t4.ae [4,1,0,2,2,2,2,2,0,0]⟩).ae [1]
 have sk:=s
 obtain ⟨pg3,wt3,nw3,lg3,mk3,tn3,tl3,acG,s⟩:=bt.1 (s.ae [1])
 dsimp only [vl,aU,bringA] at s
 have hr:∀E' h',look E' 4=some (.ptr q 0)→Sat h' (aG q (eU δ c)::aG p δ::X::S)→∃v,jz Tryz.prog E' h' [.tmp 4]=some v∧∃q,v=.ptr q 0∧Sat h' (aG q (eU δ c)::aG p δ::X::S):=fun E' h' e s'=>⟨_,qy e,q,rfl,s'⟩
 refine zw (zg rfl (zm rfl (zn rfl (zf rfl (uG _ _) (zl rfl (by exact s.ld (k:=0) rfl Gi rfl) ?_)))))
 cases I:δ.dh with
 | none =>
  rw [I] at s
  obtain ⟨rfl,_⟩:=eR.1 (s.ae [6])
  refine aB.nD rfl rfl rfl (ah rfl rfl (Gp Tryz.underlying121)) (rfl) (zv (zj rfl (WP.skip ?_)))
  refine FR hT sk hX U S7 Ph ⟨rfl,rfl,rfl,aa⟩ (fun E' h' e s'=>⟨aa,hr E' h' e ?_⟩)
  rw [eU,I]
  exact s'
 | some w =>
  rw [I] at s
  obtain ⟨tid,s⟩:=gu.1 (s.ae [6])
  obtain ⟨u,s⟩:=gu.1 s
  obtain ⟨rfl,_⟩:=eR.1 (en.1 s)
  refine aB.qx rfl rfl rfl (ah rfl rfl (SY Tryz.underlying121)) (rfl) (zv (zi rfl ?_))
  refine My (w:=w) hT sk hX hn I (by show w.1<(layW c 0 δ.waiting δ.aq).length; rw [uc]; exact (ht w I).1) (ht w I).2 (by show (layW c 0 δ.waiting δ.aq).length≤65536; rw [uc]; exact J) (KX (fun w hw=>(hW w hw).2) U.aq) ⟨rfl,rfl,rfl,aa⟩ (fun E h hE s => ?_)
  refine FR hT s hX U S7 Ph hE (fun E' h' e s'=>⟨aa,hr E' h' e ?_⟩)
  rw [eU,I]
  exact s'
end
end Go.Proofs.YtconhghphklfjaaGreat.Am
