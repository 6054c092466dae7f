/- AtomCuts: a part of its proof; conditions: its statement's. -/
import Derived.Test.YtconhghphklfjaaGreatC34
import Derived.Test.YtconhghphklfjaaGreatC32
namespace Go.Proofs.YtconhghphklfjaaGreat.Am
open Go
theorem xH : dA (List.replicate 512 0)=0:=by rw [dA,aj rfl]
theorem OU : jQ (List.replicate 512 0)=[]:=by rw [jQ,aj (.inr rfl)]
def fresh (n m f:Nat): aM:=(Pl.fresh f,(Lg.fresh,Dk.fresh n m))
theorem BT {n m:Nat}(k:Int): (Dk.fresh n m).at k=List.replicate 512 0:=by
 rw [Dk.at,show lookL k (Dk.fresh n m).now=none from rfl]
 simp only [Dk.fresh]
 cases I:(List.replicate n (none:Option (List Nat)))[k.toNat]? with
 | none=>rfl
 | some o =>
  have:=qM (br I)
  subst this
  rfl
theorem Fy {n m f:Nat}(k:Int): pgA (fresh n m f) k=List.replicate 512 0:=by
 rw [mM (by rfl)]
 exact BT k
theorem qC {f i:Nat}{x:Fm}(h:(Pl.fresh f).ak[i]?=some x): x=eY:=qM (br h)
theorem EI.fresh {n m f:Nat}(hn:n≤65536)(hm:m≤16777216)(hf:1≤f)(Fz:f≤1024): EI n 1 (fresh n m f):=by
 have J:∀x∈(Pl.fresh f).ak,x=eY:=fun x I=>qM I
 have hlen:(Pl.fresh f).ak.length=f:=fo
 refine ⟨⟨⟨⟨(show 0<(Pl.fresh f).ak.length by rw [hlen]; omega),(show (Pl.fresh f).ak.length≤1024 by rw [hlen]; exact Fz),fun e he=>(by cases he),fun x I=>by rw [J x I]; decide,fun x I=>by rw [J x I]; decide⟩,Lg.HU,?_⟩,fun x I=>by rw [J x I]; rfl,⟨kq,fun k i U=>(by cases U)⟩⟩,⟨?_,kq,fun k i U=>(by cases U),fun i x I=>.inl (by rw [qC I]; decide),fun k U=>(by cases U),kq⟩,⟨rfl,aK _,(show (1:Nat)+0≤1*1048600 by decide)⟩,?_⟩
 ·exact ⟨(show (-1:Int)<4294967296 by decide),eU _,hm,fun e he=>(by cases he),fun i b hb=>(by have h1:some b=none:=qM (br hb); cases h1),aK _,(show (List.replicate n (none:Option (List Nat))).length≤65536 by rw [fo]; exact hn)⟩
 ·exact ⟨rfl,(show (-1:Int)<0 by decide),fo,fun k U=>(by cases U),kq,fun k h0 h1=>by show dA ((Dk.fresh n m).at k)=0; rw [BT]; exact xH⟩
 ·have e:gK (Pl.fresh f).ak=0:=by
   rw [gK,List.count_eq_zero]
   intro hh
   obtain ⟨x,I,hc⟩:=List.mem_map.1 hh
   rw [J x I] at hc
   cases hc
  show ([]:List Wr).length+gK (Pl.fresh f).ak≤_
  rw [e]; decide
theorem lP.fresh {n m f:Nat}: lP (Am.fresh n m f) (List.replicate n []):=fun k w hw=>by
 rw [Fy,OU]
 exact (qM (br hw)).symm
structure W3 (told:dH): Prop where
 w:W2 told
 aw:∃g,told 11=some g∧∀h,g [] h=some (.bool true,h)
theorem Ul {h:H}{S:List ax}{cs:List V}{m:List jb}{i:Nat}{x:jb}(s:Sat h (jc cs m::S))(U:m[i]?=some x):
  ∃w d,(cs.drop (i*4)).take 4=[.int .i64 x.act,.int .i64 x.cG,w,d]∧Sat h (oa w d x::jc cs m::S):=by
 obtain ⟨a,b,q1,q2,q3⟩:=s.at (k:=0) rfl
 obtain ⟨u,v,e1,e2⟩:=Dj q3 U
 refine ⟨u,v,e1,(s.dup (aE.jc _ _)).fP (B:=oa u v x) fun a b h => ?_⟩
 obtain ⟨u',v',I,J⟩:=Dj h U
 rw [e1] at I
 injection I with _ I
 injection I with _ I
 injection I with hu I
 injection I with hv _
 subst hu
 subst hv
 exact J
theorem zV {h:H}{S:List ax}{cs:List V}{m:List jb}{k:Nat}(s:Sat h S)(I:getA S k=some (jc cs m)): cs.length=m.length*4:=by
 obtain ⟨a,b,U,q2,J⟩:=s.at I
 exact L8 J
section
variable {told:dH} {h:H} {S:List ax} {X:ax} {r k q p a g aC N B:Nat} {op v x pv nv wv dv lv:V} {l data:List Nat} {ε:aM} {ps nx:List (List Nat)} {L:List jb} {cs:List V}
theorem Q9 (I:W3 told)(s:Sat h S): Call ⟨Tryz.prog,told⟩ 11 [] h fun v h'=>v=.bool true∧h'=h:=by
 obtain ⟨g,J,U⟩:=I.aw
 exact ⟨_,_,g6.told J Tryz.func11 rfl (U h),rfl,rfl⟩
end
structure W4 (told:dH): Prop where
 w:W3 told
 pr:told 101=some (nA Tryz.prog 101 Ga)
theorem W4.wr {told:dH}(h:W4 told): WR told:=⟨h.w.w.w,h.pr⟩
section
variable {told:dH} {h:H} {S:List ax} {X:ax} {dv:V} {data:List Nat}
end
theorem Ye {h:H}{S:List ax}{cs:List V}{m:List Wr}{i:Nat}{x:Wr}{wt:V}{j1:Nat}(s:Sat h (uG cs m::S))(h1:getA (uG cs m::S) j1=some (.arr 2 wt cs))(I:m[i]?=some x):
  ∃id off u,indexAddrV Tryz.prog 120 wt (.int .i64 (i:Int))=some (.ptr id off)∧loadV Tryz.prog h 125 (.ptr id off)=some (.agg [.int .i64 (x.1:Int),u])∧u≠.bz∧Sat h (.cm u x.2::uG cs m::S):=by
 obtain ⟨a,b,q1,q2,q3⟩:=s.at (k:=0) rfl
 have hl:=AJ q3
 have Bd:=(List.getElem?_eq_some_iff.1 I).1
 have key:∀ {m:List Wr} {cs:List V} {i:Nat} {x:Wr} {a b:PM},(uG cs m).p a b→m[i]?=some x→∃u,(cs.drop (i*2)).take 2=[.int .i64 (x.1:Int),u]∧u≠.bz∧(ax.cm u x.2).p a b:=by
  intro m
  induction m with
  | nil=>intro cs i x a b _ h; simp at h
  | cons y m ih =>
   intro cs i x a b h I
   rcases cs with _ | ⟨p,_ | ⟨v,cs⟩⟩ <;> first | exact h.elim | skip
   obtain ⟨⟨⟨J,e2⟩,e3⟩,e4⟩:=h
   cases i with
   | zero=>simp at I; subst I; exact ⟨v,by rw [J]; rfl,e2,e3⟩
   | succ i =>
    simp at I
    obtain ⟨u,f1,f2⟩:=ih e4 I
    refine ⟨u,?_,f2⟩
    rw [←f1,show (i+1)*2=i*2+2 by omega]
    rfl
 obtain ⟨u,J,e2,e3⟩:=key q3 I
 obtain ⟨id,off,g1,U⟩:=G5 (P:=Tryz.prog) (i:=i) s h1 (by omega) (by decide) yY CK
 have U:=U R7
 rw [J] at U
 refine ⟨id,off,u,g1,U,e2,?_⟩
 have s1:=(s.dup (aE.wr _ _)).fP (B:=.cm u x.2) fun a b h=>by
  obtain ⟨u',f1,_,f3⟩:=key h I
  rw [J] at f1
  injection f1 with _ f1
  injection f1 with f1 _
  subst f1
  exact f3
 exact s1
def layW (c:List Nat): Nat→List Wr→List (Option (List Nat))→List (Option (List Nat))
 | _,[],P=>P
 | i,w::l,P=>layW c (i+1) l (if c.getD i 0%2=0 then P.set w.1 (some w.2) else P)
def tornP (c:List Nat)(k:Nat)(P:List (Option (List Nat))): Option Wr→List (Option (List Nat))
 | none=>P
 | some w=>P.set w.1 (some (c9 (c9 (List.replicate 512 0) 0 ((P.getD w.1 none).getD [])) 0 (w.2.take (c.getD k 0/2%5*128))))
def kO (δ:Dk)(c:List Nat): Nat:=(c.getD 0 0+256*c.getD 1 0)%((δ.log.drop δ.aL++δ.tail).length+1)
def su (δ:Dk)(c:List Nat): List Nat:=δ.log.take δ.aL++(δ.log.drop δ.aL++δ.tail).take (kO δ c)
def fE (δ:Dk)(c:List Nat): Dk :=
 { room:=δ.room,aq:=tornP c δ.waiting.length (layW c 0 δ.waiting δ.aq) δ.eG,waiting:=[],now:=[],log:=su δ c,aL:=(su δ c).length,mark:=δ.mark,aF := -1,dead:=false,eG:=none,tail:=[] }
theorem aaN {P:Program}{h:H}{t:TypeId}{x y:Operand}{n:Nat}(U:n<256): binV P h .and t x y (.int .i64 (n:Int)) (.int .i64 1)=some (.int .i64 ((n%2:Nat):Int)):=by
 have I:((n:Int)%(2^(IntKind.i64).bits:Int)).toNat=n:=by simp only [IntKind.bits]; omega
 have J:((1:Int)%(2^(IntKind.i64).bits:Int)).toNat=1:=by simp only [IntKind.bits]; omega
 simp only [binV,ikBeq,ag,intV,bitsV,I,J]
 rw [show Nat.land n 1=n%2 from Nat.and_one_is_mod n,wrap_i64 (by omega)]
section
variable {told:dH} {h:H} {S:List ax} {X:ax} {v w cv wt:V} {l c:List Nat} {k p q ny N:Nat} {δ:Dk}
theorem vq (hT:W told){i:Nat}(s:Sat h S)(hk:getA S k=some X)(hX:cT X (cU v c)): Call ⟨Tryz.prog,told⟩ 64 [v,.int .i64 (i:Int)] h fun r h'=>r=.int .i64 ((c.getD i 0:Nat):Int)∧h'=h:=by
 have J:=s.aG hk hX
 refine Call.of_wp (hT.free _ rfl) Tryz.func64 rfl rfl (zK 9 rfl (zo rfl (a_ rfl rfl rfl (bg Tryz.underlying117 J)) ?_))
 by_cases hi:i<c.length
 ·skip
  have I:c[i]?=some (c[i]'hi):=bh _
  have U:c.getD i 0=c[i]'hi:=by rw [ki,I]; rfl
  rw [U]
  generalize (c[i]'hi)=b at I
  have qg:b<256:=J.1 b (br I)
  obtain ⟨id,off,e1,e2⟩:=ie J I
  have e3:indexAddrV Tryz.prog 117 v (.int .i64 (i:Int))=some (.ptr id off):=by
   rw [←e1]
   simp only [indexAddrV,Tryz.underlying117,aS]
  refine zt rfl (ah rfl rfl bu) (by simp; omega) ?_
  refine zk 6 rfl (zo rfl (dY (r:=.ptr id off) rfl rfl e3) (zl rfl e2 (zo rfl (bV rfl (by exact jF Tryz.underlying5 bF (aU (by omega) (by omega)))) ?_)))
  exact zk 2 rfl (WP.ret ⟨aa,_,rfl,rfl,rfl⟩)
 ·skip
  have U:c.getD i 0=0:=by rw [ki,oW (by omega)]; rfl
  rw [U]
  refine zh rfl (ah rfl rfl bu) (by simp; omega) ?_
  exact zk 7 rfl (WP.ret ⟨aa,_,rfl,rfl,rfl⟩)
noncomputable def crL : Code:=cK [1,1,1,1,0,1,0,0] ((Tryz.f22.body).getD .skip)
theorem L_ (hT:W told){pv:V}{qc:List V}{N:Nat}{W:List Wr}{cs:List V}(uk:qc.length=12)(xY:nth qc 1=some (.sl ny 0 N (.exact N)))(hW:∀w∈W,w.1<N)(hn:W.length≤268435456)(hX:cT X (cU cv c))(hN:N≤65536): ∀(j i:Nat) (I:List V) (P:List (Option (List Nat))) (h:H) (E:List (Nat×V)) (Q:Ex→List (Nat×V)→H→Prop),
  i+j=W.length→I.length=N→P.length=N→Sat h (uG cs W::pt q (.cells 12 qc false)::pt ny (.cells N I false)::each lz I P::.arr 2 wt cs::X::S) →
  Has E [(0,pv),(5,cv),(6,.ptr q 0),(36,wt),(37,.int .i64 W.length),(38,.int .i64 i)] →
  (∀E' h' I U,Has E' [(0,pv),(5,cv),(6,.ptr q 0)]→U=layW c i (W.drop i) P→I.length=N→U.length=N→Sat h' (uG cs W::pt q (.cells 12 qc false)::pt ny (.cells N I false)::each lz I U::.arr 2 wt cs::X::S)→Q (.exit 0) E' h') →
  WP ⟨Tryz.prog,told⟩ 172 (.loop crL) E h Q:=by
 intro j
 induction j with
 | zero =>
  intro i I P h E Q hi hl hp s hE hq
  refine WP.loop (WP.has hE (zg rfl (zh rfl (ah rfl rfl bu) (by simp; omega) ?_)))
  exact zk 3 rfl (WP.exit (hq _ _ _ _ ⟨rfl,rfl,rfl,aa⟩ (by rw [tu (by omega)]; rfl) hl hp s))
 | succ j ih =>
  intro i I P h E Q hi hl hp s hE hq
  have hx:W[i]?=some (W[i]'(by omega)):=bh _
  generalize (W[i]'(by omega))=x at hx
  have hxn:=hW x (br hx)
  have J:W.drop i=x::W.drop (i+1):=by
   obtain ⟨h1,rfl⟩:=List.getElem?_eq_some_iff.1 hx
   exact kR h1
  obtain ⟨id,off,u,g1,g2,hu,s1⟩:=Ye s (j1:=4) rfl hx
  have SI:=s1.aG (k:=0) rfl (cJ _ _)
  have WO:=SI.cells
  have Fc:=c8 SI
  have s:=s1.ae [2,2,2,0,0,0,0]
  dsimp only [bringA,getA,aT] at s
  refine WP.loop (WP.has hE (zg rfl (zt rfl (ah rfl rfl bu) (by simp; omega) ?_)))
  refine zk 5 rfl (WP.block (zK 3 rfl (zo rfl (dY (r:=.ptr id off) rfl rfl g1) (zl rfl g2 ?_))))
  refine aB.cQ s rfl rfl rfl (cC F4) (fun p8 h s => ?_)
  dsimp only [V.cells,List.length_cons,List.length_nil,Nat.reduceAdd] at s
  refine za rfl (zS rfl (s.g9 (j:=0) rfl CK rfl (by simp only [iR,jg,WO.2]; rfl)) ?_)
  rintro h s
  dsimp only [setA] at s
  refine zk 5 rfl (zc rfl (vq hT s (k:=7) rfl hX) ?_)
  rintro r h' ⟨rfl,rfl⟩
  have bS:c.getD i 0<256:=by
   rw [ki]
   cases hc:c[i]? with
   | none=>decide
   | some b=>exact (s.aG (k:=7) rfl hX).1 b (br hc)
  refine zb rfl (aaN bS) ?_
  by_cases mP:c.getD i 0%2=0
  ·skip
   have SJ:indexAddrV Tryz.prog 119 (.sl ny 0 N (.exact N)) (.int .i64 (x.1:Int))=some (.ptr ny x.1):=by
    simp only [indexAddrV,uE,jl]
    rw [show (decide ((0:Int)≤(x.1:Int))&&decide ((x.1:Int)<(N:Int)))=true by simp; omega]
    simp
   refine zt rfl (ah rfl rfl cI) (by rw [mP]; rfl) ?_
   refine zk 2 rfl ?_
   have s0:=s
   refine WP.drawn [ai,ai,ai,ai,ai,ai,ai,ai,ai,ai] rfl (by kernel_rfl) (by kernel_rfl) ?_
   refine zM rfl (zN rfl (zF rfl (m4 _ _) (zL rfl (s.ld (k:=1) rfl rP xY) (zF rfl (Ed _ _) (zL rfl (s.ld (k:=0) rfl dr rfl) (zF rfl (Ee _ _) (zL rfl (s.ld (k:=0) rfl bL rfl) (zO rfl (dY (r:=.ptr ny x.1) rfl rfl SJ) (aA.g8 rfl rfl rfl (OpR.d_ rfl rfl rfl (s.dQ (k:=2) rfl jl hl hxn WO.1 WO.2)) ?_)))))))))
   rintro v h ⟨rfl,s⟩
   dsimp only [setA] at s
   refine aA.nil ⟨⟨aa,aa,aa,aa,aa,aa,aa,aa,aa,aa,aa⟩,?_⟩
   refine zr rfl (zb rfl (by exact bQ (aU (by omega) (by omega))) ?_)
   refine zm rfl (zv ?_)
   have s3:Sat _ (each lz I P::.cm u x.2::_):=s.ae [3,3]
   have s4:=s3.two (C:=each lz (I.set x.1 u) (P.set x.1 (some x.2))) (aE.each aE.lz _ _) (aE.cm _ _) fun a b q1 q2=>BJ q1 ⟨hu,q2⟩
   dsimp only [bringA,getA,aT] at s4
   refine ih (i+1) _ (P.set x.1 (some x.2)) _ _ Q (by omega) (by rw [dw]; exact hl) (by rw [dw]; exact hp) ((s4.ae [4,2,2,0,1,1]).del 6) ⟨rfl,rfl,rfl,rfl,rfl,rfl,aa⟩ (fun E' h' I U gu hP h1 h2 s'=>hq E' h' I U gu ?_ h1 h2 s')
   rw [hP,J,layW,aj mP]
  ·skip
   refine zh rfl (ah rfl rfl cI) (by simp only [decide_eq_false_iff_not]; omega) ?_
   refine zv (zj rfl (WP.skip (zr rfl (zb rfl (by exact bQ (aU (by omega) (by omega))) ?_))))
   refine zm rfl (zv ?_)
   refine ih (i+1) _ P _ _ Q (by omega) hl hp (((s.ae [5,1,1,1,2,2]).del 6).del 6) ⟨rfl,rfl,rfl,rfl,rfl,rfl,aa⟩ (fun E' h' I U gu hP h1 h2 s'=>hq E' h' I U gu ?_ h1 h2 s')
   rw [hP,J,layW,af mP]
theorem JA {n i j:Nat}{cs ds:List V}(s:Sat h (pt i (.cells n cs false)::pt j (.cells n ds false)::S))(J:cs.length=n)(I:ds.length=n):
  ∃h',copyV Tryz.prog h 119 (.sl i 0 n (.exact n)) (.sl j 0 n (.exact n))=some (.int .i64 (n:Int),h')∧Sat h' (pt i (.cells n ds false)::pt j (.cells n ds false)::S):=by
 refine ⟨h.put i (some (.cells n ds false)),?_,s.put (k:=0) rfl⟩
 have r1:=s.row (k:=0) rfl
 have r2:=s.row (k:=1) rfl
 simp only [copyV,uE,jl,rdN,wrN,r1,r2,dN]
 rw [show Nat.min n n=n from Nat.min_self n]
 simp only [dU]
 rw [aQ.2 (aK n),ag,show (Nat.beq 0 0&&Nat.beq n n)=true by rw [gX rfl,gX rfl]; rfl,ag]
 simp only [I,aQ.2 (aK n),ag]
 rw [show (Nat.beq 0 0&&Nat.beq n n)=true by rw [gX rfl,gX rfl]; rfl,ag]
theorem OpR.Um {C:dx}{E:List (Nat×V)}{o:Oper}{cl:Go.Call}{n i j:Nat}{cs ds:List V}(hP:C.P=Tryz.prog)(s:Sat h (pt i (.cells n cs false)::pt j (.cells n ds false)::S))(I:cs.length=n)(J:ds.length=n)(U:o.op=.call cl)(hc:cl.callee=.builtin .copy)
 (hty:cl.argTypes = #[119,119])(ha:lookArgs E cl.args.toList=some [.sl i 0 n (.exact n),.sl j 0 n (.exact n)]): OpR C E h o fun _ h₁=>Sat h₁ (pt i (.cells n ds false)::pt j (.cells n ds false)::S):=by
 obtain ⟨h₁,e1,e2⟩:=JA s I J
 refine OpR.builtin U hc ha ⟨.int .i64 (n:Int),h₁,?_,e2⟩
 simp only [builtinV,hP,hty,e1]
theorem aaO {P:Program}{h:H}{t:TypeId}{x y:Operand}{a b:Nat}(J:0<b)(hw:a<9223372036854775808): binV P h .quo t x y (.int .i64 (a:Int)) (.int .i64 (b:Int))=some (.int .i64 ((a/b:Nat):Int)):=by
 simp only [binV,ikBeq,ag,intV]
 have:intBeq (b:Int) 0=false:=by rw [nU]; simp; omega
 have I:a/b≤a:=Nat.div_le_self a b
 rw [this,az,JM (by omega),←Int.natCast_ediv]
 generalize a/b=q at I ⊢
 rw [aU (by omega) (by omega)]
theorem Q_ (I:jD h v l)(J:1≤l.length): slR v 0 l.length=v:=by
 rcases I.2 with ⟨_,rfl⟩ | ⟨id,cs,c,rfl,_,U⟩ | ⟨id,rfl,_,_⟩
 ·simp at J
 ·simp only [slR]
  rw [cS (by omega),az]
  rfl
 ·rfl
theorem Ma {m:List Nat}{a:Nat}(s:Sat h (bH v l::X::S))(hX:cT X (cU w m))(hl:1≤l.length)(hm:a+m.length≤l.length):
  ∃(n:Nat) (h':H),copyV Tryz.prog h 32 (slR v a l.length) w=some (.int .i64 (n:Int),h')∧Sat h' (bH v (c9 l a m)::X::S):=by
 by_cases hz:m=[]
 ·subst hz
  have hv:=s.aG (k:=1) rfl hX
  have J:=(s.buf (k:=0) rfl).1
  rw [show c9 l a []=l by simp [c9]]
  obtain ⟨id,c,cap,rest,rfl,s1,hc,hf⟩:=s.kB hl
  have U:∃o' c',slR (.sl id 0 l.length cap) a l.length=.sl id o' (l.length-a) c'∧o'≤l.length:=by
   cases cap with
   | exact c=>exact ⟨_,_,rfl,by cases Nat.beq c a <;> simp at hm ⊢; omega⟩
   | rest e alt=>exact ⟨_,_,rfl,by simp at hm ⊢; omega⟩
  obtain ⟨o',c',U,ho⟩:=U
  rw [U]
  rcases hv.2 with ⟨rfl | ⟨a,rfl⟩,_⟩ | ⟨ny,I,ab2,n2,Kb,YX,rfl,_⟩
  ·exact ⟨0,h,by simp only [copyV,aS,fu]; rfl,s⟩
  ·exact ⟨0,h,by simp only [copyV,aS,fu]; rfl,s⟩
  ·have hr:rdN h ny I 0=some []:=hv.rdN.2
   have Hj:Nat.min 0 (l.length-a)=0:=Nat.zero_min _
   refine ⟨0,h.put id (some (.cells c (ofBytes l++rest) false)),?_,hf _ _ rfl J (s1.put (k:=0) rfl)⟩
   simp only [copyV,aS,fu,bY,Hj,vS,hr,wrN,s1.row (k:=0) rfl]
   rw [aQ.2 (by omega),ag,show Nat.beq 0 c=false from cS (by omega),lX,az,iS,cW,DE]
 ·have h1:1≤m.length:=by
   rcases m with _ | ⟨a,m⟩
   ·exact absurd rfl hz
   ·simp
  obtain ⟨h',e1,e2⟩:=G3 s hX (a:=a) (b:=l.length) (by omega) (by omega) h1
  rw [fL (by omega)] at e2
  exact ⟨_,h',e1,e2⟩
theorem OpR.OV {C:dx}{E:List (Nat×V)}{o:Oper}{cl:Go.Call}{m:List Nat}{a:Nat}{d:V}(U:C.P=Tryz.prog)(s:Sat h (bH v l::X::S))(hX:cT X (cU w m))(hl:1≤l.length)(hm:a+m.length≤l.length)
 (I:o.op=.call cl)(hc:cl.callee=.builtin .copy)(J:cl.argTypes = #[32,32])(ha:lookArgs E cl.args.toList=some [d,w])(hd:d=slR v a l.length): OpR C E h o fun _ h₁=>Sat h₁ (bH v (c9 l a m)::X::S):=by
 subst hd
 obtain ⟨n,h₁,e1,e2⟩:=Ma s hX hl hm
 refine OpR.builtin I hc ha ⟨.int .i64 (n:Int),h₁,?_,e2⟩
 simp only [builtinV,U,J,e1]
theorem OpR.SK {C:dx}{E:List (Nat×V)}{o:Oper}{cl:Go.Call}{m:List Nat}(hP:C.P=Tryz.prog)(s:Sat h (bH v l::X::S))(hX:cT X (cU w m))(U:1≤l.length)(hm:m.length≤l.length)
 (I:o.op=.call cl)(hc:cl.callee=.builtin .copy)(J:cl.argTypes = #[32,32])(ha:lookArgs E cl.args.toList=some [v,w]): OpR C E h o fun _ h₁=>Sat h₁ (bH v (c9 l 0 m)::X::S) :=
 OpR.OV hP s hX U (by omega) I hc J ha (Q_ (s.buf (k:=0) rfl) U).symm
theorem WQ {o:Option (List Nat)}: cT (lz v o) (cU v (o.getD [])):=by
 cases o with
 | none=>exact fun m r h=>.inl ⟨by simp,.inl ⟨.inl h,rfl⟩⟩
 | some b=>exact fun m r h=>.inr h.2
noncomputable def crT : Code:=cK [1,1,1,1,1,0,1,0] ((Tryz.f22.body).getD .skip)
theorem Mb (hT:W told){I:Dk}{w:Wr}(s:Sat h (aD q I::aD p δ::X::S))(hX:cT X (cU cv c))(hn:δ.waiting.length≤268435456)(ht:δ.eG=some w)(hw:w.1<I.aq.length)(Br:w.2.length=512)(hN:I.aq.length≤65536)
 (mC:∀(i:Nat) (b:List Nat),I.aq[i]?=some (some b)→b.length=512)
 {E:List (Nat×V)}{Q:Ex→List (Nat×V)→H→Prop}(hE:Has E [(0,.ptr p 0),(5,cv),(6,.ptr q 0)])
 (hq:∀E' h',Has E' [(0,.ptr p 0),(5,cv),(6,.ptr q 0)]→Sat h' (aD q { I with aq:=tornP c δ.waiting.length I.aq (some w) }::aD p δ::X::S)→Q .normal E' h'): WP ⟨Tryz.prog,told⟩ 172 crT E h Q:=by
 obtain ⟨pg,wt,nw,lg,mk,tn,tl,ops,s⟩:=bt.1 (s.ae [1])
 rw [ht] at s
 obtain ⟨tid,s⟩:=gw.1 (s.ae [6])
 obtain ⟨u,s⟩:=gw.1 s
 have s:=dZ.1 s
 dsimp only [List.cons_append,List.nil_append] at s
 obtain ⟨rfl,s⟩:=eL.1 s
 obtain ⟨Zu,Zv,Zw,Zx,Zy,Zz,ZA,WS,s⟩:=bt.1 (s.ae [9])
 obtain ⟨ny,J,rfl,s⟩:=ga.1 (s.ae [1])
 obtain ⟨WT,s⟩:=my.1 (s.ae [13])
 have s:=s.ae [4,12,10,2,2,8,0]
 have HX:WT.length=δ.waiting.length*2:=by
  obtain ⟨a,b,q1,q2,q3⟩:=s.at (k:=7) rfl
  exact AJ q3
 have hb:c.getD δ.waiting.length 0<256:=by
  rw [ki]
  cases hc:c[δ.waiting.length]? with
  | none=>decide
  | some b=>exact (s.aG (k:=19) rfl hX).1 b (br hc)
 have lI:J.length=I.aq.length:=by
  obtain ⟨a,b,q1,q2,q3⟩:=s.at (k:=4) rfl
  exact uF q3
 have r_:J[w.1]?=some (J[w.1]'(by omega)):=bh _
 have U:I.aq[w.1]?=some (I.aq[w.1]'hw):=bh _
 generalize (J[w.1]'(by omega))=v1 at r_
 generalize hxx:(I.aq[w.1]'hw)=x at U
 have uI:I.aq.getD w.1 none=x:=by rw [ki,U]; rfl
 have hxl:(x.getD []).length≤512:=by
  cases x with
  | none=>simp
  | some b=>exact Nat.le_of_eq (mC _ _ U)
 refine WP.has hE (zK 5 rfl (zf rfl (tY _ _) (zl rfl (s.ld (k:=1) rfl CJ rfl) (zo rfl (a_ rfl rfl rfl (s.iK (n:=δ.waiting.length) (j:=6) rfl HX (by decide) yY)) ?_))))
 refine zc rfl (vq hT (i:=δ.waiting.length) s (k:=19) rfl hX) ?_
 rintro r h' ⟨rfl,rfl⟩
 refine zb rfl (aaO (a:=c.getD δ.waiting.length 0) (b:=2) (by decide) (by omega)) ?_
 refine zb rfl (Qo (a:=c.getD δ.waiting.length 0/2) (b:=5) (by decide)) ?_
 refine zo rfl (ah (r:=.int .i64 ((c.getD δ.waiting.length 0/2%5*128:Nat):Int)) rfl rfl (by simp only [binV,ikBeq,ag,intV]; rw [show ((c.getD δ.waiting.length 0/2%5:Nat):Int)*128=((c.getD δ.waiting.length 0/2%5*128:Nat):Int) by push_cast; rfl,wrap_i64 (by omega)])) ?_
 refine zk 4 rfl (aB.any rfl rfl rfl (OpR.F7 (c:=512) rfl s rfl rfl rfl rfl (by decide)) ?_)
 intro z h s
 refine zk 3 rfl ?_
 have s1:=((s.ae [5]).dup (aE.each aE.lz _ _)).fP (B:=lz v1 x) fun a b q=>Hf q r_ U
 have s:=s1.ae [2,0,1,1,1,1]
 have nc:nth J w.1=some v1:=by rw [fR]; exact r_
 have SJ:indexAddrV Tryz.prog 119 (.sl ny 0 I.aq.length (.exact I.aq.length)) (.int .i64 (w.1:Int))=some (.ptr ny w.1):=by
  simp only [indexAddrV,uE,jl]
  rw [show (decide ((0:Int)≤(w.1:Int))&&decide ((w.1:Int)<(I.aq.length:Int)))=true by simp; omega]
  simp
 have s0:=s
 refine WP.drawn [ai,ai,ai,ai,ai,ai,ai,ai,ai,ai,ai,ai,ai,ai,ai] rfl (by kernel_rfl) (by kernel_rfl) ?_
 refine zM rfl (zM rfl (zN rfl (zF rfl (m4 _ _) (zL rfl (s.ld (k:=2) rfl rP rfl) (zM rfl (zN rfl (zF rfl (uB _ _) (zL rfl (s.ld (k:=3) rfl F3 rfl) (zN rfl (zF rfl (Ed _ _) (zL rfl (s.ld (k:=4) rfl dr rfl) (zO rfl (dY (r:=.ptr ny w.1) rfl rfl SJ) (zL rfl (s.ld (k:=5) rfl bL nc) (aA.any rfl rfl rfl rfl (OpR.SK rfl s WQ (by rw [fo]; decide) (by rw [fo]; exact hxl) rfl rfl rfl rfl) ?_))))))))))))))
 intro r h s
 refine aA.nil ⟨⟨aa,aa,aa,aa,aa,aa,aa,aa,aa,aa,aa,aa,aa,aa,aa,aa⟩,?_⟩
 have hl3:(c9 (List.replicate 512 0) 0 (x.getD [])).length=512:=by rw [iJ (by rw [fo]; omega),fo]
 have SI:=s.aG (k:=7) rfl (cJ _ _)
 have Ij:c.getD δ.waiting.length 0/2%5*128≤w.2.length:=by omega
 refine zK 5 rfl (zf rfl (uB _ _) (zl rfl (s.ld (k:=3) rfl F3 rfl) (zn rfl (zf rfl (Ee _ _) (zl rfl (s.ld (k:=4) rfl bL rfl) (zm rfl (zo rfl (cD (p:=none) (q:=some (.int .i64 ((c.getD δ.waiting.length 0/2%5*128:Nat):Int))) (m:=none) (p':=none) (q':=some (c.getD δ.waiting.length 0/2%5*128)) (m':=none) rfl rfl rfl rfl rfl (by rw [fK (by omega),cP]) rfl (ik SI (b:=c.getD δ.waiting.length 0/2%5*128) Ij).1) ?_)))))))
 refine aB.any rfl rfl rfl (OpR.SK rfl (s.ae [0,6]) (w9 (cJ _ _) (b:=c.getD δ.waiting.length 0/2%5*128) Ij) (by omega) (by rw [dI]; omega) rfl rfl rfl rfl) ?_
 intro r h s
 have s:=s.fJ
 have MN:=s.aG (k:=0) rfl (cJ _ _)
 have hl4:(c9 (c9 (List.replicate 512 0) 0 (x.getD [])) 0 (w.2.take (c.getD δ.waiting.length 0/2%5*128))).length=512:=by rw [iJ (by rw [dI]; omega),hl3]
 refine zv (WP.drawn [ai,ai,ai,ai,ai,ai,ai,ai,ai,ai,ai,ai,ai,ai] rfl (by kernel_rfl) (by kernel_rfl) ?_)
 refine zM rfl (zN rfl (zF rfl (m4 _ _) (zL rfl (s.ld (k:=3) rfl rP rfl) (zM rfl (zN rfl (zF rfl (uB _ _) (zL rfl (s.ld (k:=4) rfl F3 rfl) (zN rfl (zF rfl (Ed _ _) (zL rfl (s.ld (k:=5) rfl dr rfl) (zM rfl (zO rfl (dY (r:=.ptr ny w.1) rfl rfl SJ) (aA.g8 rfl rfl rfl (OpR.d_ rfl rfl rfl (s.dQ (k:=6) rfl jl lI hw MN.cells.1 MN.cells.2)) ?_)))))))))))))
 rintro r h ⟨rfl,s⟩
 refine aA.nil ⟨⟨aa,aa,aa,aa,aa,aa,aa,aa,aa,aa,aa,aa,aa,aa,aa⟩,?_⟩
 have yn:z≠.bz:=fun e=>by
  subst e
  obtain ⟨_,_,_,e⟩:=kC MN (by omega)
  cases e
 have t1:=(s.ae [7,0]).two (C:=each lz (J.set w.1 z) (tornP c δ.waiting.length I.aq (some w))) (aE.each aE.lz _ _) (aE.cm _ _) fun a b q1 q2=>by
  rw [tornP,uI]
  exact BJ q1 ⟨yn,q2⟩
 dsimp only [ve,aT,bringA,getA,setA] at t1
 have EU:(tornP c δ.waiting.length I.aq (some w)).length=I.aq.length:=by rw [tornP,dw]
 have t2:=ga.2 ⟨ny,J.set w.1 z,rfl,by rw [EU]; exact t1.ae [6,0]⟩
 rw [EU] at t2
 dsimp only [aT,bringA] at t2
 have t3:=bt (δ:={ I with aq:=tornP c δ.waiting.length I.aq (some w) }).2 ⟨_,_,_,_,_,_,_,_,t2.ae [3,0,6,6,6,6,6,6]⟩
 dsimp only [aT,bringA] at t3
 have t4:=my.2 ⟨_,t3.ae [5,5]⟩
 dsimp only [aT,bringA] at t4
 have t5:Sat h (AL (.ptr tid 0) (some w)::_):=gw.2 ⟨tid,gw.2 ⟨u,dZ.2 (eL.2 ⟨rfl,t4.ae [5,2]⟩)⟩⟩
 dsimp only [aT] at t5
 have t6:=bt.2 ⟨_,_,_,_,_,_,_,_,by rw [ht]; exact (t5.del 3).ae [3,3,1,2,2,2,0,1,0,0]⟩
 dsimp only [aT,bringA,getA] at t6
 exact hq _ _ ⟨rfl,rfl,rfl,aa⟩ (t6.ae [1])
end
section
variable {told:dH} {h:H} {S:List ax} {X:ax} {v w cv wt:V} {l c:List Nat} {k p q ny N:Nat} {δ:Dk}
noncomputable def crE : Code:=cK [1,1,1,1,1,1] ((Tryz.f22.body).getD .skip)
theorem FA (U:W told){I:Dk}(s:Sat h (aD q I::aD p δ::X::S))(hX:cT X (cU cv c))(tj:δ.Ok)(SL:δ.tail.length≤16777216)(OW:δ.mark.length≤64)
 {E:List (Nat×V)}{Q:Ex→List (Nat×V)→H→Prop}(hE:Has E [(0,.ptr p 0),(5,cv),(6,.ptr q 0)])
 (hq:∀E' h',look E' 4=some (.ptr q 0)→Sat h' (aD q { I with log:=su δ c,aL:=(su δ c).length,mark:=δ.mark }::aD p δ::X::S)→Q .ret E' h'): WP ⟨Tryz.prog,told⟩ 172 crE E h Q:=by
 have hlen:=tj.len
 have ab3:=tj.aL
 obtain ⟨pg,wt,nw,lg,mk,tn,tl,ops,s⟩:=bt.1 (s.ae [1])
 have ZB:=c8 (s.aG (k:=7) rfl (cJ _ _))
 refine WP.has hE (zw ?_)
 have s0:=s
 refine WP.drawn [ai,ai,ai,ai,ai,ai,ai,ai,ai,ai,some (0,2),some (0,2),some (0,2),some (0,2),none,none] rfl (by kernel_rfl) (by kernel_rfl) ?_
 refine zM rfl (zN rfl (zF rfl (jm _ _) (zL rfl (by exact s.ld (k:=0) rfl bL rfl) ?_)))
 refine zM rfl (zN rfl (zF rfl (nQ _ _) (zL rfl (by exact s.ld (k:=0) rfl dr rfl) ?_)))
 refine zO rfl (cD (p:=some (.int .i64 (δ.aL:Int))) (q:=none) (m:=none) (p':=some δ.aL) (q':=none) (m':=none) rfl rfl rfl rfl (by simp [gW,bndV]) rfl rfl (er (s.buf (k:=4) rfl).view (a:=δ.aL) (by omega)).1) ?_
 refine aA.any rfl rfl rfl rfl (OpR.call rfl rfl rfl rfl (gI U (s.ae [4]) (nT (bE _ _) (a:=δ.aL) (by omega)) (by simp; omega))) ?_
 intro u h s
 dsimp only [ve,aT,bringA] at s
 have s1:=s
 refine zM rfl (zN rfl (zF rfl (BG _ _) (zL rfl (by exact s.ld (k:=2) rfl bL rfl) ?_)))
 refine aA.any rfl rfl rfl rfl (OpR.oL rfl (s.ae [0,7]) (cJ _ _) rfl rfl rfl rfl (by simp; omega)) ?_
 intro r h s
 dsimp only [aT,bringA] at s
 have s2:=s
 refine zA rfl ?_
 refine aA.nil ⟨⟨aa,aa,aa,aa,aa,aa,aa,aa,aa,aa,fun _ _=>.inr ⟨rfl,⟨_,bk rfl⟩,aW _ rfl⟩,fun _ _=>.inr ⟨rfl,⟨_,j5 rfl⟩,aW _ rfl⟩,fun _ _=>.inr ⟨rfl,⟨_,jE rfl (BG _ _)⟩,aW _ rfl⟩,dO (.inr ⟨rfl,⟨_,aV rfl (by exact s0.ld (k:=0) rfl bL rfl)⟩,ZB⟩) (.inr ⟨rfl,⟨_,aV rfl (by exact s1.ld (k:=2) rfl bL rfl)⟩,ZB⟩),aa,aa,aa⟩,?_⟩
 have Fk:(δ.log.drop δ.aL++δ.tail).length=δ.log.length-δ.aL+δ.tail.length:=by simp
 have J:=(s.buf (k:=0) rfl).view
 refine zg rfl (zm rfl (aB.call rfl rfl rfl rfl rfl rfl rfl (vq U (i:=0) s (k:=10) rfl hX) ?_))
 rintro v h' ⟨rfl,rfl⟩
 refine zm rfl (aB.call rfl rfl rfl rfl rfl rfl rfl (vq U (i:=1) s (k:=10) rfl hX) ?_)
 rintro v h' ⟨rfl,rfl⟩
 have hb:∀i,c.getD i 0<256:=fun i=>by
  rw [ki]
  cases hc:c[i]? with
  | none=>decide
  | some b=>exact (s.aG (k:=10) rfl hX).1 b (br hc)
 have AY:=hb 0
 have xO:=hb 1
 refine zb rfl (by exact BE (aU (by omega) (by omega))) ?_
 refine zb rfl (by exact bQ (aU (by omega) (by omega))) ?_
 refine zm rfl (zo rfl (a_ rfl rfl rfl (bg aS J)) (zb rfl (by exact bQ (aU (by omega) (by omega))) ?_))
 refine zb rfl (Qo (a:=c.getD 0 0+256*c.getD 1 0) (b:=(δ.log.drop δ.aL++δ.tail).length+1) (by omega)) ?_
 refine za rfl (zv (zw ?_))
 have hk:kO δ c≤(δ.log.drop δ.aL++δ.tail).length:=Nat.le_of_lt_succ (vU _ (by omega))
 obtain ⟨Zu,Zv,Zw,Zx,Zy,Zz,ZA,WS,s⟩:=bt.1 (s.ae [9])
 have s:=s.ae [0,10,3,8,6,3,9]
 dsimp only [ve,aT,bringA,getA] at s
 have s0:=s
 have HS:=c8 J
 have Bh:=c8 (ik J (b:=kO δ c) hk).2.1
 refine WP.drawn [some (0,3),ai,ai,ai,ai,ai,ai,ai,ai,ai,ai,some (0,2),some (0,2),some (0,2),ai,ai,ai,ai] rfl (by kernel_rfl) (by kernel_rfl) ?_
 refine zM rfl (zM rfl (zN rfl (zF rfl (jm _ _) (zL rfl (by exact s.ld (k:=1) rfl bL rfl) ?_))))
 refine zM rfl (zN rfl (zF rfl (nQ _ _) (zL rfl (by exact s.ld (k:=1) rfl dr rfl) ?_)))
 refine zO rfl (cD (p:=none) (q:=some (.int .i64 (δ.aL:Int))) (m:=none) (p':=none) (q':=some δ.aL) (m':=none) rfl rfl rfl rfl rfl (by simp [gW,bndV]) rfl (ik (s.buf (k:=3) rfl).view (b:=δ.aL) (by omega)).1) ?_
 refine aA.any rfl rfl rfl rfl (OpR.call rfl rfl rfl rfl (gI U (s.ae [3]) (w9 (bE _ _) (b:=δ.aL) (by omega)) (by simp; omega))) ?_
 intro u h s
 dsimp only [aT,bringA] at s
 have s1:=s
 refine zM rfl (zM rfl (zO rfl (cD (p:=none) (q:=some (.int .i64 (kO δ c:Int))) (m:=none) (p':=none) (q':=some (kO δ c)) (m':=none) rfl rfl rfl rfl rfl (by simp [gW,bndV]) rfl (by exact (ik (s.buf (k:=5) rfl).view (b:=kO δ c) hk).1)) ?_))
 refine aA.any rfl rfl rfl rfl (OpR.oL rfl (s.ae [0,4]) (w9 (bE _ _) (b:=kO δ c) hk) rfl rfl rfl rfl (by simp only [dI]; omega)) ?_
 intro w h s
 dsimp only [aT,bringA] at s
 have s2:=s
 have hv:=(s.buf (k:=0) rfl).view.cells
 refine zN rfl (zF rfl (jm _ _) (aA.g8 rfl rfl rfl (OpR.d_ rfl rfl rfl (s.dQ (k:=3) rfl jl rfl (by decide) hv.1 hv.2)) ?_))
 rintro v h ⟨rfl,s⟩
 dsimp only [Nat.reduceAdd,List.set,setA] at s
 refine aA.nil ⟨⟨fun _ _=>.inr ⟨rfl,⟨_,bk rfl⟩,aW _ rfl⟩,aa,aa,aa,aa,aa,aa,aa,aa,aa,aa,fun _ _=>.inr ⟨rfl,⟨_,bk rfl⟩,HS⟩,fun _ _=>.inr ⟨rfl,⟨_,bk rfl⟩,aW _ rfl⟩,dO (.inr ⟨rfl,⟨_,cD (p:=none) (q:=some (.int .i64 (kO δ c:Int))) (m:=none) (p':=none) (q':=some (kO δ c)) (m':=none) rfl rfl rfl rfl rfl (by simp [gW,bndV]) rfl (by exact (ik (s0.buf (k:=4) rfl).view (b:=kO δ c) hk).1)⟩,Bh⟩) (.inr ⟨rfl,⟨_,cD (p:=none) (q:=some (.int .i64 (kO δ c:Int))) (m:=none) (p':=none) (q':=some (kO δ c)) (m':=none) rfl rfl rfl rfl rfl (by simp [gW,bndV]) rfl (by exact (ik (s1.buf (k:=5) rfl).view (b:=kO δ c) hk).1)⟩,Bh⟩),aa,aa,aa,aa,aa⟩,?_⟩
 refine zg rfl (zm rfl (zm rfl (zn rfl (zf rfl (jm _ _) (zl rfl (by exact s.ld (k:=3) rfl bL rfl) ?_)))))
 refine zo rfl (a_ rfl rfl rfl (by exact bg aS (s.aG (k:=0) rfl (bE _ _)))) ?_
 refine zn rfl (zf rfl (nQ _ _) ?_)
 refine aB.d_ rfl rfl rfl rfl rfl (by exact s.dQ (k:=3) rfl jG rfl (by decide) rfl rfl) (fun h s => ?_)
 dsimp only [Nat.reduceAdd,List.set,setA] at s
 refine zv (zg rfl (zm rfl (zm rfl (zn rfl (zf rfl (wk _ _) (zl rfl (by exact s.ld (k:=4) rfl bL rfl) ?_))))))
 refine aB.call rfl rfl rfl rfl rfl rfl rfl (gI U (s.ae [7]) (cJ _ _) (by omega)) ?_
 intro m h s
 have s:=s.fJ
 dsimp only [aT,bringA] at s
 have hv:=(s.aG (k:=0) rfl (cJ _ _)).cells
 refine zn rfl (zf rfl (wk _ _) (aB.d_ rfl rfl rfl rfl rfl (s.dQ (k:=5) rfl jl rfl (by decide) hv.1 hv.2) ?_))
 intro h s
 dsimp only [Nat.reduceAdd,List.set,setA] at s
 refine zv (zg rfl (zm rfl (za rfl (zv (WP.ret ?_)))))
 have s:=(((s.del 8).del 7).del 3).ae [4,5,5,5,2,0,3,3,2,3,3,3,1,0,1,0,0]
 dsimp only [aT,bringA,getA] at s
 have s:=bt.2 ⟨_,_,_,_,_,_,_,_,(bt (δ:={ I with log:=su δ c,aL:=(su δ c).length,mark:=δ.mark }).2 ⟨_,_,_,_,_,_,_,_,s⟩).ae [1,1,1,1,1,1,1,1,0]⟩
 exact hq _ _ rfl (s.ae [1])
theorem ua {c:List Nat}: ∀ {l:List Wr} {i:Nat} {P:List (Option (List Nat))},(layW c i l P).length=P.length:=by
 intro l
 induction l with
 | nil=>intro i P; rfl
 | cons w l I =>
  intro i P
  rw [layW,I]
  split
  ·rw [dw]
  ·rfl
theorem KH {c:List Nat}: ∀ {l:List Wr} {i:Nat} {P:List (Option (List Nat))},(∀w∈l,w.2.length=512)→(∀(j:Nat) (b:List Nat),P[j]?=some (some b)→b.length=512)→∀(j:Nat) (b:List Nat),(layW c i l P)[j]?=some (some b)→b.length=512:=by
 intro l
 induction l with
 | nil=>intro i P _ h; exact h
 | cons w l U =>
  intro i P J h
  refine U (fun x hx=>J x (bl _ hx)) ?_
  split
  ·intro j b I
   rw [tC] at I
   split at I
   ·split at I
    ·injection I with I; injection I with I; rw [←I]; exact J w bn
    ·cases I
   ·exact h j b I
  ·exact h
structure Dk.Cr (δ:Dk): Prop where
 ok:δ.Ok
 wait:∀w∈δ.waiting,w.1<δ.aq.length∧w.2.length=512
 many:δ.waiting.length≤268435456
 eG:∀w,δ.eG=some w→w.1<δ.aq.length∧w.2.length=512
 tail:δ.log.length+δ.tail.length≤16777216
 mark:δ.mark.length≤64
theorem Ra (hT:W told)(s:Sat h (aD p δ::X::S))(hX:cT X (cU cv c))(hc:δ.Cr):
  Call ⟨Tryz.prog,told⟩ 22 [.ptr p 0,cv] h fun v h'=>∃q,v=.ptr q 0∧Sat h' (aD q (fE δ c)::aD p δ::X::S):=by
 obtain ⟨U,hW,hn,ht,SL,OW⟩:=hc
 have SL:δ.tail.length≤16777216:=by omega
 obtain ⟨pg,wt,nw,lg,mk,tn,tl,ops,s⟩:=bt.1 s
 obtain ⟨id,cs,rfl,s⟩:=ga.1 (s.ae [1])
 dsimp only [bringA,getA,aT] at s
 have J:=U.many
 have wz:cs.length=δ.aq.length:=by
  obtain ⟨a,b,q1,q2,q3⟩:=s.at (k:=1) rfl
  exact uF q3
 refine Call.of_wp (hT.free _ rfl) Tryz.func22 rfl rfl (zg rfl (za rfl (zv (zg rfl (zm rfl (za rfl (zv (zw ?_))))))))
 have s:=s.ae [2]
 dsimp only [bringA,getA,aT] at s
 have s0:=s
 refine WP.drawn [ai,ai,ai,ai,ai,ai,ai,ai,ai,ai,ai] rfl (by kernel_rfl) (by kernel_rfl) ?_
 refine zM rfl (zN rfl (zF rfl (m4 _ _) (zL rfl (by exact s.ld (k:=0) rfl rP rfl) ?_)))
 refine zO rfl (a_ rfl rfl rfl (GS uE)) (zM rfl (zN rfl (zF rfl (J9 _ _) (zL rfl (by exact s.ld (k:=0) rfl dr rfl) ?_))))
 refine aA.any rfl rfl rfl rfl (OpR.call rfl rfl rfl rfl (Hh (n:=δ.aq.length) (m:=δ.room) hT s (by omega))) ?_
 rintro v h ⟨q,rfl,s⟩
 refine zA rfl ?_
 refine aA.nil ⟨⟨aa,aa,aa,aa,aa,aa,aa,aa,aa,aa,aa,aa⟩,?_⟩
 obtain ⟨Zu,Zv,Zw,Zx,Zy,Zz,ZA,WS,s⟩:=bt.1 s
 obtain ⟨ny,Kb,e2,s⟩:=ga.1 (s.ae [1])
 dsimp only [bringA,getA,aT,Dk.fresh] at s e2
 rw [fo] at s e2
 subst e2
 have lI:Kb.length=δ.aq.length:=by
  obtain ⟨a,b,q1,q2,q3⟩:=s.at (k:=1) rfl
  rw [uF q3,fo]
 obtain ⟨WT,s⟩:=my.1 (s.ae [12])
 dsimp only [bringA,getA,aT] at s
 have HX:WT.length=δ.waiting.length*2:=by
  obtain ⟨a,b,q1,q2,q3⟩:=s.at (k:=1) rfl
  exact AJ q3
 have s:=s.ae [4,10,2,9]
 dsimp only [bringA,getA,aT] at s
 refine zw ?_
 have s0:=s
 refine WP.drawn [ai,ai,ai,ai,ai,ai,ai,ai,ai] rfl (by kernel_rfl) (by kernel_rfl) ?_
 refine zM rfl (zN rfl (zF rfl (m4 _ _) (zL rfl (by exact s.ld (k:=0) rfl rP rfl) ?_)))
 refine zM rfl (zN rfl (zF rfl (m4 _ _) (zL rfl (by exact s.ld (k:=1) rfl rP rfl) ?_)))
 refine aA.any rfl rfl rfl rfl (OpR.Um rfl (s.ae [2,2]) lI wz rfl rfl rfl rfl) ?_
 intro r h s
 dsimp only [ve,aT,bringA] at s
 refine aA.nil ⟨⟨aa,aa,aa,aa,aa,aa,aa,aa,aa,aa⟩,?_⟩
 refine zw (zg rfl (zm rfl (zn rfl (zf rfl (tY _ _) (zl rfl (by exact s.ld (k:=3) rfl CJ rfl) ?_)))))
 refine zo rfl (a_ rfl rfl rfl (s.iK (n:=δ.waiting.length) (j:=4) rfl HX (by decide) yY)) ?_
 refine zm rfl (zv (WP.block ?_))
 have s:=((s.ae [13]).dup (aE.each aE.lz _ _)).ae [7,4,2,0,3,15]
 dsimp only [aT,bringA,getA] at s
 refine L_ hT rfl rfl (fun w hw=>(hW w hw).1) hn hX J δ.waiting.length 0 cs δ.aq h _ _ (dU _) wz rfl s ⟨rfl,rfl,rfl,rfl,rfl,rfl,aa⟩ (fun E h Kb P hE hP h1 h2 s => ?_)
 rw [dS] at hP
 subst hP
 refine WP.has hE ?_
 have t1:=ga.2 ⟨ny,Kb,rfl,by rw [h2]; exact s.ae [2,2]⟩
 rw [h2] at t1
 dsimp only [aT,bringA] at t1
 have t2:=bt (δ:={ Dk.fresh δ.aq.length δ.room with aq:=layW c 0 δ.waiting δ.aq }).2 ⟨_,_,_,_,_,_,_,_,t1.ae [2,0,7,7,7,7,7,7]⟩
 dsimp only [aT,bringA] at t2
 have t3:=ga.2 ⟨id,cs,rfl,t2.ae [5,4]⟩
 dsimp only [aT,bringA] at t3
 have t4:=(my.2 ⟨_,t3.ae [3,2]⟩).del 5
 dsimp only [aT,bringA] at t4
 have s:Sat h (aD q { Dk.fresh δ.aq.length δ.room with aq:=layW c 0 δ.waiting δ.aq }::aD p δ::X::S):=(bt.2 ⟨_,_,_,_,_,_,_,_,t4.ae [4,1,0,2,2,2,2,2,0,0]⟩).ae [1]
 have sk:=s
 obtain ⟨pg3,wt3,nw3,lg3,mk3,tn3,tl3,ab4,s⟩:=bt.1 (s.ae [1])
 dsimp only [ve,aT,bringA] at s
 have hr:∀E' h',look E' 4=some (.ptr q 0)→Sat h' (aD q (fE δ c)::aD p δ::X::S)→∃v,ju Tryz.prog E' h' [.tmp 4]=some v∧∃q,v=.ptr q 0∧Sat h' (aD q (fE δ c)::aD p δ::X::S):=fun E' h' e s'=>⟨_,oK e,q,rfl,s'⟩
 refine zw (zg rfl (zm rfl (zn rfl (zf rfl (uB _ _) (zl rfl (by exact s.ld (k:=0) rfl F3 rfl) ?_)))))
 cases I:δ.eG with
 | none =>
  rw [I] at s
  obtain ⟨rfl,_⟩:=eL.1 (s.ae [6])
  refine aB.nr rfl rfl rfl (ah rfl rfl (F8 Tryz.underlying121)) (rfl) (zv (zj rfl (WP.skip ?_)))
  refine FA hT sk hX U SL OW ⟨rfl,rfl,rfl,aa⟩ (fun E' h' e s'=>⟨aa,hr E' h' e ?_⟩)
  rw [fE,I]
  exact s'
 | some w =>
  rw [I] at s
  obtain ⟨tid,s⟩:=gw.1 (s.ae [6])
  obtain ⟨u,s⟩:=gw.1 s
  obtain ⟨rfl,_⟩:=eL.1 (dZ.1 s)
  refine aB.qn rfl rfl rfl (ah rfl rfl (X1 Tryz.underlying121)) (rfl) (zv (zi rfl ?_))
  refine Mb (w:=w) hT sk hX hn I (by show w.1<(layW c 0 δ.waiting δ.aq).length; rw [ua]; exact (ht w I).1) (ht w I).2 (by show (layW c 0 δ.waiting δ.aq).length≤65536; rw [ua]; exact J) (KH (fun w hw=>(hW w hw).2) U.aq) ⟨rfl,rfl,rfl,aa⟩ (fun E h hE s => ?_)
  refine FA hT s hX U SL OW hE (fun E' h' e s'=>⟨aa,hr E' h' e ?_⟩)
  rw [fE,I]
  exact s'
end
end Go.Proofs.YtconhghphklfjaaGreat.Am
