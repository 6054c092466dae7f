/- After a crash the log has the records of the groups that are there and no others, with their numbers and data; the conditions are those of the given statement, for arguments that a machine can hold. Part 47 of 54. -/
import Derived.Test.YtconhghphklfjaaGreatL46
namespace Go.Proofs.YtconhghphklfjaaGreat.Am
open Go
theorem Px {h:H}{S:List ah}{cs:List V}{m:List Wr}{i:Nat}{x:Wr}{wt:V}{j1:Nat}(s:Sat h (nV cs m::S))(h1:getA (nV cs m::S) j1=some (.arr 2 wt cs))(I:m[i]?=some x):
  ∃id off u,indexAddrV Tryz.prog 120 wt (.int .i64 (i:Int))=some (.ptr id off)∧loadV Tryz.prog h 125 (.ptr id off)=some (.agg [.int .i64 (x.1:Int),u])∧u≠.aH∧Sat h (.bp u x.2::nV cs m::S):=by
 obtain ⟨a,b,q1,q2,q3⟩:=s.at (k:=0) rfl
 have hl:=sS q3
 have Ag:=(List.getElem?_eq_some_iff.1 I).1
 have key:∀ {m:List Wr} {cs:List V} {i:Nat} {x:Wr} {a b:PM},(nV cs m).p a b→m[i]?=some x→∃u,(cs.drop (i*2)).take 2=[.int .i64 (x.1:Int),u]∧u≠.aH∧(ah.bp u x.2).p a b:=by
  intro m
  induction m with
  | nil=>intro cs i x a b _ h; simp at h
  | cons y m ih =>
   intro cs i x a b h I
   rcases cs with _ | ⟨p,_ | ⟨v,cs⟩⟩ <;> first | exact h.elim | skip
   obtain ⟨⟨⟨J,e2⟩,e3⟩,e4⟩:=h
   cases i with
   | zero=>simp at I; subst I; exact ⟨v,by rw [J]; rfl,e2,e3⟩
   | succ i =>
    simp at I
    obtain ⟨u,f1,f2⟩:=ih e4 I
    refine ⟨u,?_,f2⟩
    rw [←f1,show (i+1)*2=i*2+2 by omega]
    rfl
 obtain ⟨u,J,e2,e3⟩:=key q3 I
 obtain ⟨id,off,g1,U⟩:=F4 (P:=Tryz.prog) (i:=i) s h1 (by omega) (by decide) Tryz.underlying120 vu
 have U:=U J1
 rw [J] at U
 refine ⟨id,off,u,g1,U,e2,?_⟩
 have s1:=(s.dup (aq.wr _ _)).dY (B:=.bp u x.2) fun a b h=>by
  obtain ⟨u',f1,_,f3⟩:=key h I
  rw [J] at f1
  injection f1 with _ f1
  injection f1 with f1 _
  subst f1
  exact f3
 exact s1
def layW (c:List Nat): Nat→List Wr→List (Option (List Nat))→List (Option (List Nat))
 | _,[],P=>P
 | i,w::l,P=>layW c (i+1) l (if c.getD i 0%2=0 then P.set w.1 (some w.2) else P)
def tornP (c:List Nat)(k:Nat)(P:List (Option (List Nat))): Option Wr→List (Option (List Nat))
 | none=>P
 | some w=>P.set w.1 (some (cI (cI (List.replicate 512 0) 0 ((P.getD w.1 none).getD [])) 0 (w.2.take (c.getD k 0/2%5*128))))
def gr (δ:Dk)(c:List Nat): Nat:=(c.getD 0 0+256*c.getD 1 0)%((δ.log.drop δ.aT++δ.tail).length+1)
def j8 (δ:Dk)(c:List Nat): List Nat:=δ.log.take δ.aT++(δ.log.drop δ.aT++δ.tail).take (gr δ c)
def ia (δ:Dk)(c:List Nat): Dk :=
 { room:=δ.room,aj:=tornP c δ.waiting.length (layW c 0 δ.waiting δ.aj) δ.gQ,waiting:=[],now:=[],log:=j8 δ c,aT:=(j8 δ c).length,mark:=δ.mark,aJ := -1,dead:=false,gQ:=none,tail:=[] }
theorem Sc {P:Program}{h:H}{t:TypeId}{x y:Operand}{n:Nat}(U:n<256): binV P h .and t x y (.int .i64 (n:Int)) (.int .i64 1)=some (.int .i64 ((n%2:Nat):Int)):=by
 have I:((n:Int)%(2^(IntKind.i64).bits:Int)).toNat=n:=by simp only [IntKind.bits]; omega
 have J:((1:Int)%(2^(IntKind.i64).bits:Int)).toNat=1:=by simp only [IntKind.bits]; omega
 simp only [binV,ikBeq,cond_true,intV,bitsV,I,J]
 rw [show Nat.land n 1=n%2 from Nat.and_one_is_mod n,wrap_i64 (by omega)]
section
variable {told:Nat→Option (List V→H→Option (V×H))} {h:H} {S:List ah} {X:ah} {v w cv wt:V} {l c:List Nat} {k p q iY N:Nat} {δ:Dk}
theorem oI (hT:W told){i:Nat}(s:Sat h S)(hk:getA S k=some X)(hX:bU X (bZ v c)): Call ⟨Tryz.prog,told⟩ 64 [v,.int .i64 (i:Int)] h fun r h'=>r=.int .i64 ((c.getD i 0:Nat):Int)∧h'=h:=by
 have J:=s.ax hk hX
 refine Call.of_wp (hT.free _ rfl) Tryz.func64 rfl rfl (zg rfl (za rfl (zv (zw (zg rfl (zm rfl (zm rfl (zo rfl (aL rfl rfl rfl (aG Tryz.underlying117 J)) ?_))))))))
 by_cases hi:i<c.length
 ·skip
  have I:c[i]?=some (c[i]'hi):=List.getElem?_eq_getElem _
  have U:c.getD i 0=c[i]'hi:=by rw [List.getD_eq_getElem?_getD,I]; rfl
  rw [U]
  generalize (c[i]'hi)=b at I
  have zu:b<256:=J.1 b (List.mem_of_getElem? I)
  obtain ⟨id,off,e1,e2⟩:=eS J I
  have e3:indexAddrV Tryz.prog 117 v (.int .i64 (i:Int))=some (.ptr id off):=by
   rw [←e1]
   simp only [indexAddrV,Tryz.underlying117,Tryz.underlying32]
  refine ae.aR rfl rfl rfl (af rfl rfl aX) (by simp; omega) ?_
  refine zv (zi rfl (zg rfl (zm rfl (zm rfl (zo rfl (cH (r:=.ptr id off) rfl rfl e3) (zl rfl e2 (zo rfl (bz rfl (by exact gC Tryz.underlying5 Tryz.underlying3 (aF (by omega) (by omega)))) ?_)))))))
  refine za rfl (zv ?_)
  refine WP.ret ⟨trivial,_,rfl,?_⟩
  exact ⟨rfl,rfl⟩
 ·skip
  have U:c.getD i 0=0:=by rw [List.getD_eq_getElem?_getD,List.getElem?_eq_none (by omega)]; rfl
  rw [U]
  refine ae.aE rfl rfl rfl (af rfl rfl aX) (by simp; omega) ?_
  refine zv (zj rfl (WP.skip (zg rfl (za rfl (zv ?_)))))
  refine WP.ret ⟨trivial,_,rfl,?_⟩
  exact ⟨rfl,rfl⟩
noncomputable def Ur : Code:=cn [1,1,1,1,0,1,0,0] ((Tryz.f22.body).getD .skip)
theorem Et (hT:W told){pv:V}{qc:List V}{N:Nat}{W:List Wr}{cs:List V}(nF:qc.length=12)(ve:nth qc 1=some (.sl iY 0 N (.exact N)))(hW:∀w∈W,w.1<N)(hn:W.length≤268435456)(hX:bU X (bZ cv c))(hN:N≤65536): ∀(j i:Nat) (I:List V) (P:List (Option (List Nat))) (h:H) (E:List (Nat×V)) (Q:Ex→List (Nat×V)→H→Prop),
  i+j=W.length→I.length=N→P.length=N→Sat h (nV cs W::pt q (.cells 12 qc false)::pt iY (.cells N I false)::each hO I P::.arr 2 wt cs::X::S) →
  Has E [(0,pv),(5,cv),(6,.ptr q 0),(36,wt),(37,.int .i64 W.length),(38,.int .i64 i)] →
  (∀E' h' I U,Has E' [(0,pv),(5,cv),(6,.ptr q 0)]→U=layW c i (W.drop i) P→I.length=N→U.length=N→Sat h' (nV cs W::pt q (.cells 12 qc false)::pt iY (.cells N I false)::each hO I U::.arr 2 wt cs::X::S)→Q (.exit 0) E' h') →
  WP ⟨Tryz.prog,told⟩ 172 (.loop Ur) E h Q:=by
 intro j
 induction j with
 | zero =>
  intro i I P h E Q hi hl hp s hE hq
  refine WP.loop (WP.has hE (zg rfl (ae.aE rfl rfl rfl (af rfl rfl aX) (by simp; omega) ?_)))
  refine zv (zw (zj rfl (WP.exit ?_)))
  exact hq _ _ _ _ ⟨rfl,rfl,rfl,trivial⟩ (by rw [List.drop_of_length_le (by omega)]; rfl) hl hp s
 | succ j ih =>
  intro i I P h E Q hi hl hp s hE hq
  have hx:W[i]?=some (W[i]'(by omega)):=List.getElem?_eq_getElem _
  generalize (W[i]'(by omega))=x at hx
  have Us:=hW x (List.mem_of_getElem? hx)
  have J:W.drop i=x::W.drop (i+1):=by
   obtain ⟨h1,rfl⟩:=List.getElem?_eq_some_iff.1 hx
   exact List.drop_eq_getElem_cons h1
  obtain ⟨id,off,u,g1,g2,hu,s1⟩:=Px s (j1:=4) rfl hx
  have Ks:=s1.ax (k:=0) rfl (bN _ _)
  have N_:=Ks.cells
  have xN:=cg Ks
  have s:=s1.aa [2,2,2,0,0,0,0]
  dsimp only [bringA,getA,ai] at s
  refine WP.loop (WP.has hE (zg rfl (ae.aR rfl rfl rfl (af rfl rfl aX) (by simp; omega) ?_)))
  refine zv (zw (zi rfl (WP.skip (zw (WP.block (zg rfl (zm rfl (zo rfl (cH (r:=.ptr id off) rfl rfl g1) (zl rfl g2 ?_)))))))))
  refine ae.bO s rfl rfl rfl (bK yO) (fun p8 h s => ?_)
  dsimp only [V.cells,List.length_cons,List.length_nil,Nat.reduceAdd] at s
  refine za rfl (ae.bn rfl rfl rfl rfl rfl (s.eN (j:=0) rfl vu rfl (by simp only [List.all_cons,List.all_nil,N_.2]; rfl)) ?_)
  rintro h s
  dsimp only [setA] at s
  refine zv (zg rfl (zm rfl (zm rfl (ae.call rfl rfl rfl rfl rfl rfl rfl (oI hT s (k:=7) rfl hX) ?_))))
  rintro r h' ⟨rfl,rfl⟩
  have bB:c.getD i 0<256:=by
   rw [List.getD_eq_getElem?_getD]
   cases hc:c[i]? with
   | none=>decide
   | some b=>exact (s.ax (k:=7) rfl hX).1 b (List.mem_of_getElem? hc)
  refine zb rfl (Sc bB) ?_
  by_cases iV:c.getD i 0%2=0
  ·skip
   have Kt:indexAddrV Tryz.prog 119 (.sl iY 0 N (.exact N)) (.int .i64 (x.1:Int))=some (.ptr iY x.1):=by
    simp only [indexAddrV,Tryz.underlying119,ig]
    rw [show (decide ((0:Int)≤(x.1:Int))&&decide ((x.1:Int)<(N:Int)))=true by simp; omega]
    simp
   refine ae.aR rfl rfl rfl (af rfl rfl cS) (by rw [iV]; rfl) ?_
   refine zv (zi rfl ?_)
   have s0:=s
   refine WP.drawn [none,none,none,none,none,none,none,none,none,none] rfl (by kernel_rfl) (by kernel_rfl) ?_
   refine zM rfl (zN rfl (zF rfl (i_ _ _) (zL rfl (s.ld (k:=1) rfl mg ve) (zF rfl (wO _ _) (zL rfl (by exact s.ld (k:=0) rfl cq rfl) ?_)))))
   refine zF rfl (wP _ _) (zL rfl (by exact s.ld (k:=0) rfl bg rfl) ?_)
   refine zO rfl (cH (r:=.ptr iY x.1) rfl rfl Kt) (au.fI rfl rfl rfl (OpR.bn rfl rfl rfl (s.cZ (k:=2) rfl ig hl Us N_.1 N_.2)) ?_)
   rintro v h ⟨rfl,s⟩
   dsimp only [setA] at s
   refine au.nil ⟨⟨trivial,trivial,trivial,trivial,trivial,trivial,trivial,trivial,trivial,trivial,trivial⟩,?_⟩
   refine zr rfl (zb rfl (by exact bl (aF (by omega) (by omega))) ?_)
   refine zm rfl (zv ?_)
   have s3:Sat _ (each hO I P::.bp u x.2::_):=s.aa [3,3]
   have s4:=s3.two (C:=each hO (I.set x.1 u) (P.set x.1 (some x.2))) (aq.each aq.hO _ _) (aq.bp _ _) fun a b q1 q2=>ur q1 ⟨hu,q2⟩
   dsimp only [bringA,getA,ai] at s4
   refine ih (i+1) _ (P.set x.1 (some x.2)) _ _ Q (by omega) (by rw [List.length_set]; exact hl) (by rw [List.length_set]; exact hp) ((s4.aa [4,2,2,0,1,1]).del 6) ⟨rfl,rfl,rfl,rfl,rfl,rfl,trivial⟩ (fun E' h' I U fu hP h1 h2 s'=>hq E' h' I U fu ?_ h1 h2 s')
   rw [hP,J,layW,if_pos iV]
  ·skip
   refine ae.aE rfl rfl rfl (af rfl rfl cS) (by simp only [decide_eq_false_iff_not]; omega) ?_
   refine zv (zj rfl (WP.skip (zr rfl (zb rfl (by exact bl (aF (by omega) (by omega))) ?_))))
   refine zm rfl (zv ?_)
   refine ih (i+1) _ P _ _ Q (by omega) hl hp (((s.aa [5,1,1,1,2,2]).del 6).del 6) ⟨rfl,rfl,rfl,rfl,rfl,rfl,trivial⟩ (fun E' h' I U fu hP h1 h2 s'=>hq E' h' I U fu ?_ h1 h2 s')
   rw [hP,J,layW,if_neg iV]
theorem B_ {n i j:Nat}{cs ds:List V}(s:Sat h (pt i (.cells n cs false)::pt j (.cells n ds false)::S))(hc:cs.length=n)(I:ds.length=n):
  ∃h',copyV Tryz.prog h 119 (.sl i 0 n (.exact n)) (.sl j 0 n (.exact n))=some (.int .i64 (n:Int),h')∧Sat h' (pt i (.cells n ds false)::pt j (.cells n ds false)::S):=by
 refine ⟨h.put i (some (.cells n ds false)),?_,s.put (k:=0) rfl⟩
 have J:=s.row (k:=0) rfl
 have U:=s.row (k:=1) rfl
 simp only [copyV,Tryz.underlying119,ig,rdN,wrN,J,U,Nat.mul_one]
 rw [show Nat.min n n=n from Nat.min_self n]
 simp only [Nat.zero_add]
 rw [ay.2 (Nat.le_refl n),cond_true,show (Nat.beq 0 0&&Nat.beq n n)=true by rw [eH rfl,eH rfl]; rfl,cond_true]
 simp only [I,ay.2 (Nat.le_refl n),cond_true]
 rw [show (Nat.beq 0 0&&Nat.beq n n)=true by rw [eH rfl,eH rfl]; rfl,cond_true]
theorem OpR.L1 {C:cf}{E:List (Nat×V)}{o:Oper}{cl:Go.Call}{n i j:Nat}{cs ds:List V}(hP:C.P=Tryz.prog)(s:Sat h (pt i (.cells n cs false)::pt j (.cells n ds false)::S))(I:cs.length=n)(J:ds.length=n)(U:o.op=.call cl)(hc:cl.callee=.builtin .copy)
 (Ut:cl.argTypes = #[119,119])(ha:lookArgs E cl.args.toList=some [.sl i 0 n (.exact n),.sl j 0 n (.exact n)]): OpR C E h o fun _ h₁=>Sat h₁ (pt i (.cells n ds false)::pt j (.cells n ds false)::S):=by
 obtain ⟨h₁,e1,e2⟩:=B_ s I J
 refine OpR.builtin U hc ha ⟨.int .i64 (n:Int),h₁,?_,e2⟩
 simp only [builtinV,hP,Ut,e1]
theorem Sd {P:Program}{h:H}{t:TypeId}{x y:Operand}{a b:Nat}(J:0<b)(hw:a<9223372036854775808): binV P h .quo t x y (.int .i64 (a:Int)) (.int .i64 (b:Int))=some (.int .i64 ((a/b:Nat):Int)):=by
 simp only [binV,ikBeq,cond_true,intV]
 have:intBeq (b:Int) 0=false:=by rw [jH]; simp; omega
 have I:a/b≤a:=Nat.div_le_self a b
 rw [this,cond_false,Int.tdiv_eq_ediv_of_nonneg (by omega),←Int.natCast_ediv]
 generalize a/b=q at I ⊢
 rw [aF (by omega) (by omega)]
theorem Je (I:f_ h v l)(J:1≤l.length): slR v 0 l.length=v:=by
 rcases I.2 with ⟨_,rfl⟩ | ⟨id,cs,c,rfl,_,U⟩ | ⟨id,rfl,_,_⟩
 ·simp at J
 ·simp only [slR]
  rw [bT (by omega),cond_false]
  rfl
 ·rfl
theorem Eu {m:List Nat}{a:Nat}(s:Sat h (a_ v l::X::S))(hX:bU X (bZ w m))(hl:1≤l.length)(hm:a+m.length≤l.length):
  ∃(n:Nat) (h':H),copyV Tryz.prog h 32 (slR v a l.length) w=some (.int .i64 (n:Int),h')∧Sat h' (a_ v (cI l a m)::X::S):=by
 by_cases hz:m=[]
 ·subst hz
  have hv:=s.ax (k:=1) rfl hX
  have J:=(s.buf (k:=0) rfl).1
  rw [show cI l a []=l by simp [cI]]
  obtain ⟨id,c,cap,rest,rfl,s1,hc,hf⟩:=s.gJ hl
  have U:∃o' c',slR (.sl id 0 l.length cap) a l.length=.sl id o' (l.length-a) c'∧o'≤l.length:=by
   cases cap with
   | exact c=>exact ⟨_,_,rfl,by cases Nat.beq c a <;> simp at hm ⊢; omega⟩
   | rest e alt=>exact ⟨_,_,rfl,by simp at hm ⊢; omega⟩
  obtain ⟨o',c',U,ho⟩:=U
  rw [U]
  rcases hv.2 with ⟨rfl | ⟨a,rfl⟩,_⟩ | ⟨iY,I,VI,n2,CM,Qh,rfl,_⟩
  ·exact ⟨0,h,by simp only [copyV,Tryz.underlying32,dz]; rfl,s⟩
  ·exact ⟨0,h,by simp only [copyV,Tryz.underlying32,dz]; rfl,s⟩
  ·have hr:rdN h iY I 0=some []:=hv.rdN.2
   have Ap:Nat.min 0 (l.length-a)=0:=Nat.zero_min _
   refine ⟨0,h.put id (some (.cells c (ofBytes l++rest) false)),?_,hf _ _ rfl J (s1.put (k:=0) rfl)⟩
   simp only [copyV,Tryz.underlying32,dz,List.length_nil,Ap,Nat.zero_mul,hr,wrN,s1.row (k:=0) rfl]
   rw [ay.2 (by omega),cond_true,show Nat.beq 0 c=false from bT (by omega),Bool.and_false,cond_false,Nat.add_zero,List.nil_append,List.take_append_drop]
 ·have h1:1≤m.length:=by
   rcases m with _ | ⟨a,m⟩
   ·exact absurd rfl hz
   ·simp
  obtain ⟨h',e1,e2⟩:=Ab s hX (a:=a) (b:=l.length) (by omega) (by omega) h1
  rw [List.take_of_length_le (by omega)] at e2
  exact ⟨_,h',e1,e2⟩
theorem OpR.G5 {C:cf}{E:List (Nat×V)}{o:Oper}{cl:Go.Call}{m:List Nat}{a:Nat}{d:V}(U:C.P=Tryz.prog)(s:Sat h (a_ v l::X::S))(hX:bU X (bZ w m))(hl:1≤l.length)(hm:a+m.length≤l.length)
 (I:o.op=.call cl)(hc:cl.callee=.builtin .copy)(J:cl.argTypes = #[32,32])(ha:lookArgs E cl.args.toList=some [d,w])(hd:d=slR v a l.length): OpR C E h o fun _ h₁=>Sat h₁ (a_ v (cI l a m)::X::S):=by
 subst hd
 obtain ⟨n,h₁,e1,e2⟩:=Eu s hX hl hm
 refine OpR.builtin I hc ha ⟨.int .i64 (n:Int),h₁,?_,e2⟩
 simp only [builtinV,U,J,e1]
theorem OpR.Ku {C:cf}{E:List (Nat×V)}{o:Oper}{cl:Go.Call}{m:List Nat}(hP:C.P=Tryz.prog)(s:Sat h (a_ v l::X::S))(hX:bU X (bZ w m))(U:1≤l.length)(hm:m.length≤l.length)
 (I:o.op=.call cl)(hc:cl.callee=.builtin .copy)(J:cl.argTypes = #[32,32])(ha:lookArgs E cl.args.toList=some [v,w]): OpR C E h o fun _ h₁=>Sat h₁ (a_ v (cI l 0 m)::X::S) :=
 OpR.G5 hP s hX U (by omega) I hc J ha (Je (s.buf (k:=0) rfl) U).symm
theorem Oa {o:Option (List Nat)}: bU (hO v o) (bZ v (o.getD [])):=by
 cases o with
 | none=>exact fun m r h=>.inl ⟨by simp,.inl ⟨.inl h,rfl⟩⟩
 | some b=>exact fun m r h=>.inr h.2
noncomputable def Uu : Code:=cn [1,1,1,1,1,0,1,0] ((Tryz.f22.body).getD .skip)
theorem Ev (hT:W told){I:Dk}{w:Wr}(s:Sat h (az q I::az p δ::X::S))(hX:bU X (bZ cv c))(hn:δ.waiting.length≤268435456)(ht:δ.gQ=some w)(hw:w.1<I.aj.length)(QT:w.2.length=512)(hN:I.aj.length≤65536)
 (n4:∀(i:Nat) (b:List Nat),I.aj[i]?=some (some b)→b.length=512)
 {E:List (Nat×V)}{Q:Ex→List (Nat×V)→H→Prop}(hE:Has E [(0,.ptr p 0),(5,cv),(6,.ptr q 0)])
 (hq:∀E' h',Has E' [(0,.ptr p 0),(5,cv),(6,.ptr q 0)]→Sat h' (az q { I with aj:=tornP c δ.waiting.length I.aj (some w) }::az p δ::X::S)→Q .normal E' h'): WP ⟨Tryz.prog,told⟩ 172 Uu E h Q:=by
 obtain ⟨pg,wt,nw,lg,mk,tn,tl,ops,s⟩:=aQ.1 (s.aa [1])
 rw [ht] at s
 obtain ⟨tid,s⟩:=eA.1 (s.aa [6])
 obtain ⟨u,s⟩:=eA.1 s
 have s:=cG.1 s
 dsimp only [List.cons_append,List.nil_append] at s
 obtain ⟨rfl,s⟩:=cL.1 s
 dsimp only [lI,ai,bringA] at s
 obtain ⟨Q3,Q4,Q5,Q6,Q7,Q8,Q9,Ob,s⟩:=aQ.1 (s.aa [9])
 obtain ⟨iY,J,rfl,s⟩:=dP.1 (s.aa [1])
 obtain ⟨Oc,s⟩:=iM.1 (s.aa [13])
 have s:=s.aa [4,12,10,2,2,8,0]
 dsimp only [lI,ai,bringA,getA] at s
 have Od:Oc.length=δ.waiting.length*2:=by
  obtain ⟨a,b,q1,q2,q3⟩:=s.at (k:=7) rfl
  exact sS q3
 have hb:c.getD δ.waiting.length 0<256:=by
  rw [List.getD_eq_getElem?_getD]
  cases hc:c[δ.waiting.length]? with
  | none=>decide
  | some b=>exact (s.ax (k:=19) rfl hX).1 b (List.mem_of_getElem? hc)
 have iq:J.length=I.aj.length:=by
  obtain ⟨a,b,q1,q2,q3⟩:=s.at (k:=4) rfl
  exact nU q3
 have Gh:J[w.1]?=some (J[w.1]'(by omega)):=List.getElem?_eq_getElem _
 have U:I.aj[w.1]?=some (I.aj[w.1]'hw):=List.getElem?_eq_getElem _
 generalize (J[w.1]'(by omega))=v1 at Gh
 generalize Wg:(I.aj[w.1]'hw)=x at U
 have pz:I.aj.getD w.1 none=x:=by rw [List.getD_eq_getElem?_getD,U]; rfl
 have Uv:(x.getD []).length≤512:=by
  cases x with
  | none=>simp
  | some b=>exact Nat.le_of_eq (n4 _ _ U)
 refine WP.has hE (zg rfl (zm rfl (zm rfl (zn rfl (zf rfl (nh _ _) (zl rfl (by exact s.ld (k:=1) rfl vt rfl) ?_))))))
 refine zo rfl (aL rfl rfl rfl (s.iH (n:=δ.waiting.length) (j:=6) rfl Od (by decide) Tryz.underlying120)) ?_
 refine ae.call rfl rfl rfl rfl rfl rfl rfl (oI hT (i:=δ.waiting.length) s (k:=19) rfl hX) ?_
 rintro r h' ⟨rfl,rfl⟩
 refine zb rfl (Sd (a:=c.getD δ.waiting.length 0) (b:=2) (by decide) (by omega)) ?_
 refine zb rfl (IC (a:=c.getD δ.waiting.length 0/2) (b:=5) (by decide)) ?_
 refine zo rfl (af (r:=.int .i64 ((c.getD δ.waiting.length 0/2%5*128:Nat):Int)) rfl rfl (by simp only [binV,ikBeq,cond_true,intV]; rw [show ((c.getD δ.waiting.length 0/2%5:Nat):Int)*128=((c.getD δ.waiting.length 0/2%5*128:Nat):Int) by push_cast; rfl,wrap_i64 (by omega)])) ?_
 refine za rfl (zv (zg rfl (ae.any rfl rfl rfl (OpR.yQ (c:=512) rfl s rfl rfl rfl rfl (by decide)) ?_)))
 intro z h s
 refine za rfl (zv (zw ?_))
 have s1:=((s.aa [5]).dup (aq.each aq.hO _ _)).dY (B:=hO v1 x) fun a b q=>Ak q Gh U
 have s:=s1.aa [2,0,1,1,1,1]
 dsimp only [ai,bringA,getA] at s
 have nH:nth J w.1=some v1:=by rw [dG]; exact Gh
 have Kt:indexAddrV Tryz.prog 119 (.sl iY 0 I.aj.length (.exact I.aj.length)) (.int .i64 (w.1:Int))=some (.ptr iY w.1):=by
  simp only [indexAddrV,Tryz.underlying119,ig]
  rw [show (decide ((0:Int)≤(w.1:Int))&&decide ((w.1:Int)<(I.aj.length:Int)))=true by simp; omega]
  simp
 have s0:=s
 refine WP.drawn [none,none,none,none,none,none,none,none,none,none,none,none,none,none,none] rfl (by kernel_rfl) (by kernel_rfl) ?_
 refine zM rfl (zM rfl (zN rfl (zF rfl (i_ _ _) (zL rfl (by exact s.ld (k:=2) rfl mg rfl) ?_))))
 refine zM rfl (zN rfl (zF rfl (nR _ _) (zL rfl (by exact s.ld (k:=3) rfl yN rfl) ?_)))
 refine zN rfl (zF rfl (wO _ _) (zL rfl (by exact s.ld (k:=4) rfl cq rfl) ?_))
 refine zO rfl (cH (r:=.ptr iY w.1) rfl rfl Kt) (zL rfl (s.ld (k:=5) rfl bg nH) (au.any rfl rfl rfl rfl (OpR.Ku rfl s Oa (by rw [List.length_replicate]; decide) (by rw [List.length_replicate]; exact Uv) rfl rfl rfl rfl) ?_))
 intro r h s
 refine au.nil ⟨⟨trivial,trivial,trivial,trivial,trivial,trivial,trivial,trivial,trivial,trivial,trivial,trivial,trivial,trivial,trivial,trivial⟩,?_⟩
 have Uw:(cI (List.replicate 512 0) 0 (x.getD [])).length=512:=by rw [fO (by rw [List.length_replicate]; omega),List.length_replicate]
 have Ks:=s.ax (k:=7) rfl (bN _ _)
 have Oe:c.getD δ.waiting.length 0/2%5*128≤w.2.length:=by omega
 refine zg rfl (zm rfl (zm rfl (zn rfl (zf rfl (nR _ _) (zl rfl (by exact s.ld (k:=3) rfl yN rfl) ?_)))))
 refine zn rfl (zf rfl (wP _ _) (zl rfl (by exact s.ld (k:=4) rfl bg rfl) ?_))
 refine zm rfl (zo rfl (bM (p:=none) (q:=some (.int .i64 ((c.getD δ.waiting.length 0/2%5*128:Nat):Int))) (m:=none) (p':=none) (q':=some (c.getD δ.waiting.length 0/2%5*128)) (m':=none) rfl rfl rfl rfl rfl (by rw [dN (by omega),Int.toNat_natCast]) rfl (eV Ks (b:=c.getD δ.waiting.length 0/2%5*128) Oe).1) ?_)
 refine ae.any rfl rfl rfl (OpR.Ku rfl (s.aa [0,6]) (p9 (bN _ _) (b:=c.getD δ.waiting.length 0/2%5*128) Oe) (by omega) (by rw [List.length_take]; omega) rfl rfl rfl rfl) ?_
 intro r h s
 have s:=s.eF
 dsimp only [ai,bringA] at s
 have E5:=s.ax (k:=0) rfl (bN _ _)
 have Wh:(cI (cI (List.replicate 512 0) 0 (x.getD [])) 0 (w.2.take (c.getD δ.waiting.length 0/2%5*128))).length=512:=by rw [fO (by rw [List.length_take]; omega),Uw]
 refine zv (WP.drawn [none,none,none,none,none,none,none,none,none,none,none,none,none,none] rfl (by kernel_rfl) (by kernel_rfl) ?_)
 refine zM rfl (zN rfl (zF rfl (i_ _ _) (zL rfl (by exact s.ld (k:=3) rfl mg rfl) ?_)))
 refine zM rfl (zN rfl (zF rfl (nR _ _) (zL rfl (by exact s.ld (k:=4) rfl yN rfl) ?_)))
 refine zN rfl (zF rfl (wO _ _) (zL rfl (by exact s.ld (k:=5) rfl cq rfl) ?_))
 refine zM rfl (zO rfl (cH (r:=.ptr iY w.1) rfl rfl Kt) (au.fI rfl rfl rfl (OpR.bn rfl rfl rfl (s.cZ (k:=6) rfl ig iq hw E5.cells.1 E5.cells.2)) ?_))
 rintro r h ⟨rfl,s⟩
 dsimp only [setA] at s
 refine au.nil ⟨⟨trivial,trivial,trivial,trivial,trivial,trivial,trivial,trivial,trivial,trivial,trivial,trivial,trivial,trivial,trivial⟩,?_⟩
 have qV:z≠.aH:=fun e=>by
  subst e
  obtain ⟨_,_,_,e⟩:=gX E5 (by omega)
  cases e
 have t1:=(s.aa [7,0]).two (C:=each hO (J.set w.1 z) (tornP c δ.waiting.length I.aj (some w))) (aq.each aq.hO _ _) (aq.bp _ _) fun a b q1 q2=>by
  rw [tornP,pz]
  exact ur q1 ⟨qV,q2⟩
 dsimp only [ai,bringA] at t1
 have Fw:(tornP c δ.waiting.length I.aj (some w)).length=I.aj.length:=by rw [tornP,List.length_set]
 have t2:=dP.2 ⟨iY,J.set w.1 z,rfl,by rw [Fw]; exact t1.aa [6,0]⟩
 rw [Fw] at t2
 dsimp only [ai,bringA] at t2
 have t3:=aQ (δ:={ I with aj:=tornP c δ.waiting.length I.aj (some w) }).2 ⟨_,_,_,_,_,_,_,_,t2.aa [3,0,6,6,6,6,6,6]⟩
 dsimp only [ai,bringA] at t3
 have t4:=iM.2 ⟨_,t3.aa [5,5]⟩
 dsimp only [ai,bringA] at t4
 have t5:Sat h (sV (.ptr tid 0) (some w)::_):=eA.2 ⟨tid,eA.2 ⟨u,cG.2 (cL.2 ⟨rfl,t4.aa [5,2]⟩)⟩⟩
 dsimp only [ai] at t5
 have t6:=aQ.2 ⟨_,_,_,_,_,_,_,_,by rw [ht]; exact (t5.del 3).aa [3,3,1,2,2,2,0,1,0,0]⟩
 dsimp only [ai,bringA,getA] at t6
 exact hq _ _ ⟨rfl,rfl,rfl,trivial⟩ (t6.aa [1])
end
section
variable {told:Nat→Option (List V→H→Option (V×H))} {h:H} {S:List ah} {X:ah} {v w cv wt:V} {l c:List Nat} {k p q iY N:Nat} {δ:Dk}
noncomputable def Ux : Code:=cn [1,1,1,1,1,1] ((Tryz.f22.body).getD .skip)
theorem yg (U:W told){I:Dk}(s:Sat h (az q I::az p δ::X::S))(hX:bU X (bZ cv c))(qO:δ.Ok)(Kv:δ.tail.length≤16777216)(Of:δ.mark.length≤64)
 {E:List (Nat×V)}{Q:Ex→List (Nat×V)→H→Prop}(hE:Has E [(0,.ptr p 0),(5,cv),(6,.ptr q 0)])
 (hq:∀E' h',look E' 4=some (.ptr q 0)→Sat h' (az q { I with log:=j8 δ c,aT:=(j8 δ c).length,mark:=δ.mark }::az p δ::X::S)→Q .ret E' h'): WP ⟨Tryz.prog,told⟩ 172 Ux E h Q:=by
 have hlen:=qO.len
 have VJ:=qO.aT
 obtain ⟨pg,wt,nw,lg,mk,tn,tl,ops,s⟩:=aQ.1 (s.aa [1])
 have Q_:=cg (s.ax (k:=7) rfl (bN _ _))
 refine WP.has hE (zw ?_)
 have s0:=s
 refine WP.drawn [none,none,none,none,none,none,none,none,none,none,some (0,2),some (0,2),some (0,2),some (0,2),none,none] rfl (by kernel_rfl) (by kernel_rfl) ?_
 refine zM rfl (zN rfl (zF rfl (gH _ _) (zL rfl (by exact s.ld (k:=0) rfl bg rfl) ?_)))
 refine zM rfl (zN rfl (zF rfl (ni _ _) (zL rfl (by exact s.ld (k:=0) rfl cq rfl) ?_)))
 refine zO rfl (bM (p:=some (.int .i64 (δ.aT:Int))) (q:=none) (m:=none) (p':=some δ.aT) (q':=none) (m':=none) rfl rfl rfl rfl (by simp [er,bndV]) rfl rfl (cT (s.buf (k:=4) rfl).view (a:=δ.aT) (by omega)).1) ?_
 refine au.any rfl rfl rfl rfl (OpR.call rfl rfl rfl rfl (fR U (s.aa [4]) (lU (bk _ _) (a:=δ.aT) (by omega)) (by simp; omega))) ?_
 intro u h s
 dsimp only [lI,ai,bringA] at s
 have s1:=s
 refine zM rfl (zN rfl (zF rfl (uo _ _) (zL rfl (by exact s.ld (k:=2) rfl bg rfl) ?_)))
 refine au.any rfl rfl rfl rfl (OpR.mI rfl (s.aa [0,7]) (bN _ _) rfl rfl rfl rfl (by simp; omega)) ?_
 intro r h s
 dsimp only [ai,bringA] at s
 have s2:=s
 refine zA rfl ?_
 refine au.nil ⟨⟨trivial,trivial,trivial,trivial,trivial,trivial,trivial,trivial,trivial,trivial,fun _ _=>.inr ⟨rfl,⟨_,aV rfl⟩,aU _ rfl⟩,fun _ _=>.inr ⟨rfl,⟨_,kX rfl⟩,aU _ rfl⟩,fun _ _=>.inr ⟨rfl,⟨_,iO rfl (uo _ _)⟩,aU _ rfl⟩,cR (.inr ⟨rfl,⟨_,aI rfl (by exact s0.ld (k:=0) rfl bg rfl)⟩,Q_⟩) (.inr ⟨rfl,⟨_,aI rfl (by exact s1.ld (k:=2) rfl bg rfl)⟩,Q_⟩),trivial,trivial,trivial⟩,?_⟩
 have xT:(δ.log.drop δ.aT++δ.tail).length=δ.log.length-δ.aT+δ.tail.length:=by simp
 have J:=(s.buf (k:=0) rfl).view
 refine zg rfl (zm rfl (ae.call rfl rfl rfl rfl rfl rfl rfl (oI U (i:=0) s (k:=10) rfl hX) ?_))
 rintro v h' ⟨rfl,rfl⟩
 refine zm rfl (ae.call rfl rfl rfl rfl rfl rfl rfl (oI U (i:=1) s (k:=10) rfl hX) ?_)
 rintro v h' ⟨rfl,rfl⟩
 have hb:∀i,c.getD i 0<256:=fun i=>by
  rw [List.getD_eq_getElem?_getD]
  cases hc:c[i]? with
  | none=>decide
  | some b=>exact (s.ax (k:=10) rfl hX).1 b (List.mem_of_getElem? hc)
 have Ci:=hb 0
 have tw:=hb 1
 refine zb rfl (by exact uk (aF (by omega) (by omega))) ?_
 refine zb rfl (by exact bl (aF (by omega) (by omega))) ?_
 refine zm rfl (zo rfl (aL rfl rfl rfl (aG Tryz.underlying32 J)) (zb rfl (by exact bl (aF (by omega) (by omega))) ?_))
 refine zb rfl (IC (a:=c.getD 0 0+256*c.getD 1 0) (b:=(δ.log.drop δ.aT++δ.tail).length+1) (by omega)) ?_
 refine za rfl (zv (zw ?_))
 have hk:gr δ c≤(δ.log.drop δ.aT++δ.tail).length:=Nat.le_of_lt_succ (Nat.mod_lt _ (by omega))
 obtain ⟨Q3,Q4,Q5,Q6,Q7,Q8,Q9,Ob,s⟩:=aQ.1 (s.aa [9])
 have s:=s.aa [0,10,3,8,6,3,9]
 dsimp only [lI,ai,bringA,getA] at s
 have s0:=s
 have AS:=cg J
 have xU:=cg (eV J (b:=gr δ c) hk).2.1
 refine WP.drawn [some (0,3),none,none,none,none,none,none,none,none,none,none,some (0,2),some (0,2),some (0,2),none,none,none,none] rfl (by kernel_rfl) (by kernel_rfl) ?_
 refine zM rfl (zM rfl (zN rfl (zF rfl (gH _ _) (zL rfl (by exact s.ld (k:=1) rfl bg rfl) ?_))))
 refine zM rfl (zN rfl (zF rfl (ni _ _) (zL rfl (by exact s.ld (k:=1) rfl cq rfl) ?_)))
 refine zO rfl (bM (p:=none) (q:=some (.int .i64 (δ.aT:Int))) (m:=none) (p':=none) (q':=some δ.aT) (m':=none) rfl rfl rfl rfl rfl (by simp [er,bndV]) rfl (eV (s.buf (k:=3) rfl).view (b:=δ.aT) (by omega)).1) ?_
 refine au.any rfl rfl rfl rfl (OpR.call rfl rfl rfl rfl (fR U (s.aa [3]) (p9 (bk _ _) (b:=δ.aT) (by omega)) (by simp; omega))) ?_
 intro u h s
 dsimp only [ai,bringA] at s
 have s1:=s
 refine zM rfl (zM rfl (zO rfl (bM (p:=none) (q:=some (.int .i64 (gr δ c:Int))) (m:=none) (p':=none) (q':=some (gr δ c)) (m':=none) rfl rfl rfl rfl rfl (by simp [er,bndV]) rfl (by exact (eV (s.buf (k:=5) rfl).view (b:=gr δ c) hk).1)) ?_))
 refine au.any rfl rfl rfl rfl (OpR.mI rfl (s.aa [0,4]) (p9 (bk _ _) (b:=gr δ c) hk) rfl rfl rfl rfl (by simp only [List.length_take]; omega)) ?_
 intro w h s
 dsimp only [ai,bringA] at s
 have s2:=s
 have hv:=(s.buf (k:=0) rfl).view.cells
 refine zN rfl (zF rfl (gH _ _) (au.fI rfl rfl rfl (OpR.bn rfl rfl rfl (s.cZ (k:=3) rfl ig rfl (by decide) hv.1 hv.2)) ?_))
 rintro v h ⟨rfl,s⟩
 dsimp only [Nat.reduceAdd,List.set,setA] at s
 refine au.nil ⟨⟨fun _ _=>.inr ⟨rfl,⟨_,aV rfl⟩,aU _ rfl⟩,trivial,trivial,trivial,trivial,trivial,trivial,trivial,trivial,trivial,trivial,fun _ _=>.inr ⟨rfl,⟨_,aV rfl⟩,AS⟩,fun _ _=>.inr ⟨rfl,⟨_,aV rfl⟩,aU _ rfl⟩,cR (.inr ⟨rfl,⟨_,bM (p:=none) (q:=some (.int .i64 (gr δ c:Int))) (m:=none) (p':=none) (q':=some (gr δ c)) (m':=none) rfl rfl rfl rfl rfl (by simp [er,bndV]) rfl (by exact (eV (s0.buf (k:=4) rfl).view (b:=gr δ c) hk).1)⟩,xU⟩) (.inr ⟨rfl,⟨_,bM (p:=none) (q:=some (.int .i64 (gr δ c:Int))) (m:=none) (p':=none) (q':=some (gr δ c)) (m':=none) rfl rfl rfl rfl rfl (by simp [er,bndV]) rfl (by exact (eV (s1.buf (k:=5) rfl).view (b:=gr δ c) hk).1)⟩,xU⟩),trivial,trivial,trivial,trivial,trivial⟩,?_⟩
 refine zg rfl (zm rfl (zm rfl (zn rfl (zf rfl (gH _ _) (zl rfl (by exact s.ld (k:=3) rfl bg rfl) ?_)))))
 refine zo rfl (aL rfl rfl rfl (by exact aG Tryz.underlying32 (s.ax (k:=0) rfl (bk _ _)))) ?_
 refine zn rfl (zf rfl (ni _ _) ?_)
 refine ae.bn rfl rfl rfl rfl rfl (by exact s.cZ (k:=3) rfl jh rfl (by decide) rfl rfl) (fun h s => ?_)
 dsimp only [Nat.reduceAdd,List.set,setA] at s
 refine zv (zg rfl (zm rfl (zm rfl (zn rfl (zf rfl (wN _ _) (zl rfl (by exact s.ld (k:=4) rfl bg rfl) ?_))))))
 refine ae.call rfl rfl rfl rfl rfl rfl rfl (fR U (s.aa [7]) (bN _ _) (by omega)) ?_
 intro m h s
 have s:=s.eF
 dsimp only [ai,bringA] at s
 have hv:=(s.ax (k:=0) rfl (bN _ _)).cells
 refine zn rfl (zf rfl (wN _ _) (ae.bn rfl rfl rfl rfl rfl (s.cZ (k:=5) rfl ig rfl (by decide) hv.1 hv.2) ?_))
 intro h s
 dsimp only [Nat.reduceAdd,List.set,setA] at s
 refine zv (zg rfl (zm rfl (za rfl (zv (WP.ret ?_)))))
 have s:=(((s.del 8).del 7).del 3).aa [4,5,5,5,2,0,3,3,2,3,3,3,1,0,1,0,0]
 dsimp only [ai,bringA,getA] at s
 have s:=aQ.2 ⟨_,_,_,_,_,_,_,_,(aQ (δ:={ I with log:=j8 δ c,aT:=(j8 δ c).length,mark:=δ.mark }).2 ⟨_,_,_,_,_,_,_,_,s⟩).aa [1,1,1,1,1,1,1,1,0]⟩
 exact hq _ _ rfl (s.aa [1])
theorem td {c:List Nat}: ∀ {l:List Wr} {i:Nat} {P:List (Option (List Nat))},(layW c i l P).length=P.length:=by
 intro l
 induction l with
 | nil=>intro i P; rfl
 | cons w l I =>
  intro i P
  rw [layW,I]
  split
  ·rw [List.length_set]
  ·rfl
theorem C6 {c:List Nat}: ∀ {l:List Wr} {i:Nat} {P:List (Option (List Nat))},(∀w∈l,w.2.length=512)→(∀(j:Nat) (b:List Nat),P[j]?=some (some b)→b.length=512)→∀(j:Nat) (b:List Nat),(layW c i l P)[j]?=some (some b)→b.length=512:=by
 intro l
 induction l with
 | nil=>intro i P _ h; exact h
 | cons w l U =>
  intro i P J h
  refine U (fun x hx=>J x (List.mem_cons_of_mem _ hx)) ?_
  split
  ·intro j b I
   rw [List.getElem?_set] at I
   split at I
   ·split at I
    ·injection I with I; injection I with I; rw [←I]; exact J w List.mem_cons_self
    ·cases I
   ·exact h j b I
  ·exact h
structure Dk.Cr (δ:Dk): Prop where
 ok:δ.Ok
 wait:∀w∈δ.waiting,w.1<δ.aj.length∧w.2.length=512
 many:δ.waiting.length≤268435456
 gQ:∀w,δ.gQ=some w→w.1<δ.aj.length∧w.2.length=512
 tail:δ.log.length+δ.tail.length≤16777216
 mark:δ.mark.length≤64
theorem Jf (hT:W told)(s:Sat h (az p δ::X::S))(hX:bU X (bZ cv c))(hc:δ.Cr):
  Call ⟨Tryz.prog,told⟩ 22 [.ptr p 0,cv] h fun v h'=>∃q,v=.ptr q 0∧Sat h' (az q (ia δ c)::az p δ::X::S):=by
 obtain ⟨U,hW,hn,ht,Kv,Of⟩:=hc
 have Kv:δ.tail.length≤16777216:=by omega
 obtain ⟨pg,wt,nw,lg,mk,tn,tl,ops,s⟩:=aQ.1 s
 obtain ⟨id,cs,rfl,s⟩:=dP.1 (s.aa [1])
 dsimp only [bringA,getA,ai] at s
 have J:=U.many
 have vH:cs.length=δ.aj.length:=by
  obtain ⟨a,b,q1,q2,q3⟩:=s.at (k:=1) rfl
  exact nU q3
 refine Call.of_wp (hT.free _ rfl) Tryz.func22 rfl rfl (zg rfl (za rfl (zv (zg rfl (zm rfl (za rfl (zv (zw ?_))))))))
 have s:=s.aa [2]
 dsimp only [bringA,getA,ai] at s
 have s0:=s
 refine WP.drawn [none,none,none,none,none,none,none,none,none,none,none] rfl (by kernel_rfl) (by kernel_rfl) ?_
 refine zM rfl (zN rfl (zF rfl (i_ _ _) (zL rfl (by exact s.ld (k:=0) rfl mg rfl) ?_)))
 refine zO rfl (aL rfl rfl rfl (zZ Tryz.underlying119)) (zM rfl (zN rfl (zF rfl (CI _ _) (zL rfl (by exact s.ld (k:=0) rfl cq rfl) ?_))))
 refine au.any rfl rfl rfl rfl (OpR.call rfl rfl rfl rfl (An (n:=δ.aj.length) (m:=δ.room) hT s (by omega))) ?_
 rintro v h ⟨q,rfl,s⟩
 refine zA rfl ?_
 refine au.nil ⟨⟨trivial,trivial,trivial,trivial,trivial,trivial,trivial,trivial,trivial,trivial,trivial,trivial⟩,?_⟩
 obtain ⟨Q3,Q4,Q5,Q6,Q7,Q8,Q9,Ob,s⟩:=aQ.1 s
 obtain ⟨iY,CM,e2,s⟩:=dP.1 (s.aa [1])
 dsimp only [bringA,getA,ai,Dk.fresh] at s e2
 rw [List.length_replicate] at s e2
 subst e2
 have iq:CM.length=δ.aj.length:=by
  obtain ⟨a,b,q1,q2,q3⟩:=s.at (k:=1) rfl
  rw [nU q3,List.length_replicate]
 obtain ⟨Oc,s⟩:=iM.1 (s.aa [12])
 dsimp only [bringA,getA,ai] at s
 have Od:Oc.length=δ.waiting.length*2:=by
  obtain ⟨a,b,q1,q2,q3⟩:=s.at (k:=1) rfl
  exact sS q3
 have s:=s.aa [4,10,2,9]
 dsimp only [bringA,getA,ai] at s
 refine zw ?_
 have s0:=s
 refine WP.drawn [none,none,none,none,none,none,none,none,none] rfl (by kernel_rfl) (by kernel_rfl) ?_
 refine zM rfl (zN rfl (zF rfl (i_ _ _) (zL rfl (by exact s.ld (k:=0) rfl mg rfl) ?_)))
 refine zM rfl (zN rfl (zF rfl (i_ _ _) (zL rfl (by exact s.ld (k:=1) rfl mg rfl) ?_)))
 refine au.any rfl rfl rfl rfl (OpR.L1 rfl (s.aa [2,2]) iq vH rfl rfl rfl rfl) ?_
 intro r h s
 dsimp only [lI,ai,bringA] at s
 refine au.nil ⟨⟨trivial,trivial,trivial,trivial,trivial,trivial,trivial,trivial,trivial,trivial⟩,?_⟩
 refine zw (zg rfl (zm rfl (zn rfl (zf rfl (nh _ _) (zl rfl (by exact s.ld (k:=3) rfl vt rfl) ?_)))))
 refine zo rfl (aL rfl rfl rfl (s.iH (n:=δ.waiting.length) (j:=4) rfl Od (by decide) Tryz.underlying120)) ?_
 refine zm rfl (zv (WP.block ?_))
 have s:=((s.aa [13]).dup (aq.each aq.hO _ _)).aa [7,4,2,0,3,15]
 dsimp only [ai,bringA,getA] at s
 refine Et hT rfl rfl (fun w hw=>(hW w hw).1) hn hX J δ.waiting.length 0 cs δ.aj h _ _ (Nat.zero_add _) vH rfl s ⟨rfl,rfl,rfl,rfl,rfl,rfl,trivial⟩ (fun E h CM P hE hP h1 h2 s => ?_)
 rw [List.drop_zero] at hP
 subst hP
 refine WP.has hE ?_
 have t1:=dP.2 ⟨iY,CM,rfl,by rw [h2]; exact s.aa [2,2]⟩
 rw [h2] at t1
 dsimp only [ai,bringA] at t1
 have t2:=aQ (δ:={ Dk.fresh δ.aj.length δ.room with aj:=layW c 0 δ.waiting δ.aj }).2 ⟨_,_,_,_,_,_,_,_,t1.aa [2,0,7,7,7,7,7,7]⟩
 dsimp only [ai,bringA] at t2
 have t3:=dP.2 ⟨id,cs,rfl,t2.aa [5,4]⟩
 dsimp only [ai,bringA] at t3
 have t4:=(iM.2 ⟨_,t3.aa [3,2]⟩).del 5
 dsimp only [ai,bringA] at t4
 have s:Sat h (az q { Dk.fresh δ.aj.length δ.room with aj:=layW c 0 δ.waiting δ.aj }::az p δ::X::S):=(aQ.2 ⟨_,_,_,_,_,_,_,_,t4.aa [4,1,0,2,2,2,2,2,0,0]⟩).aa [1]
 have sk:=s
 obtain ⟨Wi,Wj,Wk,Wl,Wm,Wn,Wo,VK,s⟩:=aQ.1 (s.aa [1])
 dsimp only [lI,ai,bringA] at s
 have hr:∀E' h',look E' 4=some (.ptr q 0)→Sat h' (az q (ia δ c)::az p δ::X::S)→∃v,gw Tryz.prog E' h' [.tmp 4]=some v∧∃q,v=.ptr q 0∧Sat h' (az q (ia δ c)::az p δ::X::S):=fun E' h' e s'=>⟨_,oO e,q,rfl,s'⟩
 refine zw (zg rfl (zm rfl (zn rfl (zf rfl (nR _ _) (zl rfl (by exact s.ld (k:=0) rfl yN rfl) ?_)))))
 cases I:δ.gQ with
 | none =>
  rw [I] at s
  obtain ⟨rfl,_⟩:=cL.1 (s.aa [6])
  refine ae.aE rfl rfl rfl (af rfl rfl (Kl Tryz.underlying121)) (rfl) (zv (zj rfl (WP.skip ?_)))
  refine yg hT sk hX U Kv Of ⟨rfl,rfl,rfl,trivial⟩ (fun E' h' e s'=>⟨trivial,hr E' h' e ?_⟩)
  rw [ia,I]
  exact s'
 | some w =>
  rw [I] at s
  obtain ⟨tid,s⟩:=eA.1 (s.aa [6])
  obtain ⟨u,s⟩:=eA.1 s
  obtain ⟨rfl,_⟩:=cL.1 (cG.1 s)
  refine ae.aR rfl rfl rfl (af rfl rfl (Pk Tryz.underlying121)) (rfl) (zv (zi rfl ?_))
  refine Ev (w:=w) hT sk hX hn I (by show w.1<(layW c 0 δ.waiting δ.aj).length; rw [td]; exact (ht w I).1) (ht w I).2 (by show (layW c 0 δ.waiting δ.aj).length≤65536; rw [td]; exact J) (C6 (fun w hw=>(hW w hw).2) U.aj) ⟨rfl,rfl,rfl,trivial⟩ (fun E h hE s => ?_)
  refine yg hT s hX U Kv Of hE (fun E' h' e s'=>⟨trivial,hr E' h' e ?_⟩)
  rw [ia,I]
  exact s'
end
end Go.Proofs.YtconhghphklfjaaGreat.Am
