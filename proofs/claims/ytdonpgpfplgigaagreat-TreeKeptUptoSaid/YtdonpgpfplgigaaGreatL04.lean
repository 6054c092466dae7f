/- TreeKept: a part of its proof; conditions: its statement's. -/
import Derived.Test.YtdonpgpfplgigaaGreatL02
import Derived.Test.YtdonpgpfplgigaaGreatL03
set_option linter.defProp false
namespace Go.Proofs.YtdonpgpfplgigaaGreat.Am
open Go Go.Maps Go.Sort Go.Shelf Go.RowKit
def bh:=@Tryz.underlying98
def j7:=@Tryz.underlying45
def kU:=@Tryz.underlying32
def Df:=@Tryz.underlying213
def yS:=@Tryz.underlying211
def Ie:=@Tryz.underlying269
def Ig:=@Tryz.underlying278
abbrev af {α:Type}:Option α:=none
variable {X:aI} {C:fB} {Q:Ex→List (Nat×V)→H→Prop} {h:H} {kd pg:Int} {now:List (Int×List Nat)} {E:List (Nat×V)} {S:List aI} {l b data:List Nat} {cs pre post args:List V} {g n k i size bf a d z p6 id off q j tx pv nx j1 j2 p1 r c8 bA:Nat} {y:Operand} {P:Program} {α:Type} {t e:TypeId} {x u bv dt w v' wh di:V}
theorem aaM (m:Nat): AnyZI.SortsIn Tryz.prog Tryz.sorted61_ren Fence.wide m :=
 ⟨fun mU off cap ss W hH I J=>callsIn_wide.2 (AnyM.slices_Sort_int Tryz.sort143 mU off cap ss W hH I J),
  fun p cap W=>callsIn_wide.2 (AnyM.slices_Sort_int_none Tryz.sort143 p cap W)⟩
theorem Le (eg:∀args w,(callFunc g args).run Tryz.prog w=.ok (.enter g args) w){Bm:Nat}{D0:DataW Unit}{w:World}(kZ:Maps.size D0≤maxLen)(I:Maps.size D0*8≤140737488355328)
 (abO:SeqGives Fence.wide 2 Tryz.prog g #[.pointer (some ⟨Bm,0,none⟩)] encZ (fun J=>J.Perm (intKeys D0)) (Maps.size D0) w):
  Calls Tryz.prog 61 #[.func (.func g) #[] #[.pointer (some ⟨Bm,0,none⟩)]] w fun e w'=>∃(v:Value) (J:List Int),e=.returned v∧J.Perm (intKeys D0) ∧
   w'.ownsRow w.heap.size 3 1 v J.length ((J.mergeSort (fun x y=>decide (x≤y))).map encZ)∧(v=.slice none 0 0↔J=[])∧Below w.heap.size w w' :=
 (callsIn_wide (n:=5)).1 (AnyZI.sorted_in Tryz.sorted61 Fence.wide 5 aa aa aa aa rfl (by omega) (aaM _) (enters_of Tryz.func143 (by rfl) rfl) g _ aa eg _ _ kZ I _ abO)
def A9 : List Nat:=[144,205]
theorem Pk : F1 Tryz.prog 61 3 A9:=by
 intro g hg Bm b nn D0 w hB hm J kZ I
 simp only[A9,gm,jw,mL] at hg
 rcases hg with rfl|rfl
 ·exact Le (enters_of Tryz.func144 (by rfl) rfl) kZ I (AnyZI.keys_gives (ρ:=Tryz.keys62_ren) { Tryz.keys62 with } Fence.wide _ aa rfl (by omega) Bm b nn D0 w hB hm J)
 ·exact Le (enters_of Tryz.func205 (by rfl) rfl) kZ I (AnyZI.keys_gives (ρ:=Tryz.keys169_ren) { Tryz.keys169 with } Fence.wide _ aa rfl (by omega) Bm b nn D0 w hB hm J)
end Go.Proofs.YtdonpgpfplgigaaGreat.Am
namespace Go.Proofs.YtdonpgpfplgigaaGreat.Am
open Go
variable {X:aI} {C:fB} {Q:Ex→List (Nat×V)→H→Prop} {h:H} {kd pg:Int} {now:List (Int×List Nat)} {E:List (Nat×V)} {S:List aI} {l b data:List Nat} {cs pre post args:List V} {g n k i size bf a d z p6 id off q j tx pv nx j1 j2 p1 r c8 bA:Nat} {y:Operand} {P:Program} {α:Type} {t e:TypeId} {x u bv dt w v' wh di:V}
def Ih : List Nat:=[189,209,210,191,190,200,192,140]
structure Std (told:cy): Prop where
 free:∀f,inL Ih f=true→told f=none
 more:told 211=some toldMore
theorem wrap_u64 (h:n<18446744073709551616): IntKind.wrap .u64 (n:Int)=(n:Int):=by
 grind[IntKind.wrap,IntKind.bits,IntKind.signed]
theorem wrap_u8 (n:Nat): IntKind.wrap .u8 (n:Int)=((n%256:Nat):Int):=by
 rfl
def digits : Nat→Nat→List Nat
 |0,n=>[n%128]
 |k+1,n=>if n<128 then[n] else(n%128+128)::digits k (n/128)
set_option maxRecDepth 10000 in
theorem aaN (h:n<256): Nat.lor n 128=n%128+128:=by
 have:∀m:Fin 256,Nat.lor m.1 128=m.1%128+128:=by decide
 exact this ⟨n,h⟩
theorem MX (h:n<256): intV .or .u8 (n:Int) 128=some (.int .u8 ((n%128+128:Nat):Int)):=by
 have I:((n:Int)%(2^(IntKind.u8).bits:Int)).toNat=n:=by grind[IntKind.bits]
 have J:((128:Int)%(2^(IntKind.u8).bits:Int)).toNat=128:=by rfl
 grind[intV,bitsV,aaN,wrap_u8]
theorem abP : shiftV .shr .u64 (n:Int) 7=some (.int .u64 ((n/128:Nat):Int)):=by
 grind[shiftV,IntKind.bits]
section
variable {told:cy}
noncomputable def vtX : Code:=unloop (unblk (leftC (dx ((Tryz.f209.body).getD .skip))))
theorem u9 : convV Tryz.prog h 42 5 (.int .u64 (n:Int))=some (.int .u8 ((n%256:Nat):Int),h):=by
 simp[convV,wrap_u8]
theorem yT (h:n<128): digits k n=[n]:=by
 cases k<;>grind[digits]
theorem Dg (hn:n<128)(I:look E 1=some (.int .u64 (n:Int)))
 (J:Q (.exit 0) ((6,.bool false)::(5,.int .u64 (n:Int))::E) h): WP ⟨Tryz.prog,told⟩ 20 (.loop vtX) E h Q:=by
 refine WP.loop (WP.seq (WP.seq (WP.region rfl ?_)))
 refine zo rfl (bV I) (zo rfl (az (v:=.int .u64 (n:Int)) (u:=.int .u64 128) (r:=.bool false) rfl rfl (by simp only[binV,ikBeq,ag,intV];congr 2;simp;omega)) ?_)
 exact aA.nil (WP.cond (t:=false) rfl (WP.exit J))
theorem J6 : ∀(k n:Nat) (l:List Nat) (s:V) (h:H) (E:List (Nat×V)) (Q:Ex→List (Nat×V)→H→Prop),lT h→jz h s l→n<128^(k+1)→k≤9→l.length+k+1≤140737488355328 →
  look E 0=some s→look E 1=some (.int .u64 (n:Int)) →
  (∀E' h' s' l' (m:Nat),look E' 0=some s'→look E' 1=some (.int .u64 (m:Int))→m<128→l'++[m]=l++digits k n→jz h' s' l'→er (2*k) (rowIds s) h h'→(∀i∈rowIds s',i∈rowIds s∨h.next≤i)→Q (.exit 0) E' h') →
  WP ⟨Tryz.prog,told⟩ 20 (.loop vtX) E h Q:=by
 intro k
 induction k with
 |zero =>
  intro n l s h E Q hw hs hn _ _ h0 J hq
  have I:n<128:=by omega
  exact Dg I J (hq _ h s l n h0 J I (by rw[yT I]) hs (er.refl hw _) (fun i hi=>.inl hi))
 |succ k ih =>
  intro n l s h E Q hw hs hn hk hl h0 J hq
  by_cases I:n<128
  ·exact Dg I J (hq _ h s l n h0 J I (by rw[yT I]) hs ((er.refl hw _).mono (eN _) (fun _ h=>h)) (fun i hi=>.inl hi))
  ·have hd:n/128<128^(k+1):=by
    omega
   refine WP.loop (WP.seq (WP.seq (WP.region rfl ?_)))
   refine zo rfl (bV J) (zo rfl (az (v:=.int .u64 (n:Int)) (u:=.int .u64 128) (r:=.bool true) rfl rfl (by simp only[binV,ikBeq,ag,intV];congr 2;simp;omega)) ?_)
   refine aA.nil (WP.cond (t:=true) rfl (WP.skip ?_))
   refine WP.block (WP.seq (WP.region rfl ?_))
   refine zo rfl (bV h0) (zo rfl (bV J) (zo rfl (b8 (v:=.int .u64 (n:Int)) rfl u9) (zo rfl (az (v:=.int .u8 ((n%256:Nat):Int)) (u:=.int .u8 128) (r:=.int .u8 ((n%256%128+128:Nat):Int)) rfl rfl (by exact MX (by omega))) ?_)))
   refine aA.MI (b:=n%256%128+128) rfl hw rfl rfl rfl rfl rfl rfl (by omega) (fun v h₁ b1 k1 f1 => ?_)
   have f_:jz h₁ s l:=hs.nO hw k1 (fun i _=>jw)
   refine aA.app (s:=s) (x:=v) rfl k1.wf rfl rfl rfl rfl rfl rfl rfl f_ b1.view (by grind) (fun v2 aaO b2 k2 f2 => ?_)
   have j8:er 2 (rowIds s) h aaO:=(k1.mono (aM _) (fun i hi=>by grind)).trans k2 (fun i hi=>.inl hi)
   refine za rfl ?_
   refine aA.nil (WP.region rfl ?_)
   refine zo rfl (bV J) (zo rfl (az (v:=.int .u64 (n:Int)) (u:=.int .u64 7) (r:=.int .u64 ((n/128:Nat):Int)) rfl rfl abP) (zk 2 rfl ?_))
   refine ih (n/128) (l++[n%256%128+128]) v2 aaO _ Q j8.wf b2 hd (by omega) (by grind) rfl rfl (fun E' h' s' l' m q1 q2 q3 q4 q5 q6 q7 => ?_)
   refine hq E' h' s' l' m q1 q2 q3 ?_ q5 ?_ (fun i hi => ?_)
   ·grind[digits]
   ·exact(j8.trans q6 (fun i hi=>(f2 i hi).imp_right (fun h=>cX k1.le h))).mono (by omega) (fun i hi=>hi)
   ·rcases q7 i hi with h3|h3
    ·exact(f2 i h3).imp_right (fun h=>cX k1.le h)
    ·exact .inr (cX j8.le h3)
theorem Ga (hT:Std told){s:V}(hw:lT h)(hs:jz h s l)(hn:n<128^(k+1))(hk:k≤9)(hl:l.length+k+1≤140737488355328):
  Call ⟨Tryz.prog,told⟩ 209 [s,.int .u64 (n:Int)] h fun v h'=>jz h' v (l++digits k n)∧er (2*k+2) (rowIds s) h h'∧∀i∈rowIds v,i∈rowIds s∨h.next≤i:=by
 refine Call.of_wp (hT.free _ rfl) Tryz.func209 rfl rfl ?_
 refine WP.seq (WP.region rfl (aA.op rfl rfl rfl (gT rfl) (aA.nil ?_)))
 refine WP.seq (WP.block ?_)
 refine J6 k n l s h _ _ hw hs hn hk hl rfl rfl (fun E' h' s' l' m q1 q2 q3 q4 q5 I q7 => ?_)
 have Bx:l'.length=l.length+(digits k n).length-1:=by
  have:=dn List.length q4
  simp at this
  omega
 have J:∀(k n:Nat),(digits k n).length≤k+1:=by
  intro k
  induction k<;>grind[digits]
 have adB:=J k n
 refine WP.seq (WP.region rfl ?_)
 refine zo rfl (bV q1) (zo rfl (bV q2) (zo rfl (b8 (v:=.int .u64 (m:Int)) rfl u9) ?_))
 refine aA.MI (b:=m%256) rfl I.wf rfl rfl rfl rfl rfl rfl (by omega) (fun v h₁ b1 k1 f1 => ?_)
 have f_:jz h₁ s' l':=q5.nO I.wf k1 (fun i _=>jw)
 refine aA.app (s:=s') (x:=v) rfl k1.wf rfl rfl rfl rfl rfl rfl rfl f_ b1.view (by grind) (fun v2 aaO b2 k2 f2 => ?_)
 refine za rfl ?_
 refine aA.nil (WP.ret ?_)
 refine⟨aa,v2,rfl,?_,?_,fun i hi => ?_⟩
 ·grind
 ·refine((I.trans k1 (fun i hi=>by grind)).trans k2 (fun i hi => ?_)).mono (by omega) (fun i hi=>hi)<;>grind
 ·rcases f2 i hi with h3|h3
  ·grind
  ·exact .inr (by have:=I.le;have:=k1.le;omega)
theorem Ii (I:n<18446744073709551616): convV Tryz.prog h 3 42 (.int .i64 (n:Int))=some (.int .u64 (n:Int),h):=by
 simp_all[convV,wrap_u64]
theorem gL : ∀(k n:Nat),(digits k n).length≤k+1:=by
 intro k
 induction k<;>grind[digits]
theorem VV (I:Std told){s:V}{m:List Nat}(hw:lT h)(hs:jz h s l)(J:View h x m)(hd:∀i∈rowIds x,i∉rowIds s)(hn:m.length<128^(k+1))(hk:k≤9)(hl:l.length+k+1+m.length≤140737488355328):
  Call ⟨Tryz.prog,told⟩ 210 [s,x] h fun v h'=>jz h' v (l++digits k m.length++m)∧er (2*k+3) (rowIds s) h h'∧∀i∈rowIds v,i∈rowIds s∨h.next≤i:=by
 refine Call.of_wp (I.free _ rfl) Tryz.func210 rfl rfl ?_
 refine WP.seq (WP.region rfl (aA.op rfl rfl rfl (gT rfl) (aA.nil ?_)))
 refine WP.seq (WP.region rfl ?_)
 refine zk 2 rfl (zo rfl (aC (v:=x) rfl rfl rfl J.len) (zo rfl (b8 (v:=.int .i64 (m.length:Int)) rfl (Ii (by omega))) ?_))
 refine aA.call rfl rfl rfl rfl rfl rfl rfl (Ga I (k:=k) hw hs hn hk (by omega)) (fun v h₁ ⟨b1,k1,f1⟩ => ?_)
 refine zm rfl ?_
 have Lf:=gL k m.length
 refine aA.app (s:=v) (x:=x) rfl k1.wf rfl rfl rfl rfl rfl rfl rfl b1 (J.nO hw k1 hd) (by grind) (fun v2 aaO b2 k2 f2 => ?_)
 refine aA.op rfl rfl rfl (gT rfl) (aA.nil (WP.ret ?_))
 refine⟨aa,v2,rfl,b2,(k1.trans k2 f1).mono (by omega) (fun i hi=>hi),fun i hi => ?_⟩
 rcases f2 i hi with h3|h3
 ·grind
 ·exact .inr (cX k1.le h3)
def le : Nat→Nat→List Nat
 |0,_=>[]
 |k+1,n=>(n%256)::le k (n/256)
theorem dH : ∀(k n:Nat),(le k n).length=k:=by
 intro k
 induction k<;>grind[le]
theorem MY : ∀(k n:Nat),∀b∈le k n,b<256:=by
 intro k
 induction k with
 |zero=>intro n b I;cases I
 |succ k J =>
  intro n b I
  rcases List.mem_cons.1 I with rfl|I<;>grind
noncomputable def lyX : Code:=unloop (unblk (dx (leftC (dx ((Tryz.f189.body).getD .skip)))))
theorem abQ (hi:i≤8): shiftV .shr .u64 (n:Int) ((8*i:Nat):Int)=some (.int .u64 ((n/256^i:Nat):Int)):=by
 simp only[shiftV,IntKind.bits,dm]
 rw[show min (8*i) 64=8*i by omega,show decide (((8*i:Nat):Int)<0)=false by rfl,aS]
 rw[Int.fdiv_eq_ediv_of_nonneg _ (Int.pow_nonneg (by omega))]
 rw[show(256:Nat)^i=2^(8*i) by rw[Nat.pow_mul]]
 push_cast
 rfl
theorem Su (fM:size≤8): ∀(j i:Nat) (l:List Nat) (s:V) (h:H) (E:List (Nat×V)) (Q:Ex→List (Nat×V)→H→Prop),lT h→jz h s l→i+j=size→l.length+j≤140737488355328 →
  look E 0=some s→look E 2=some (.int .u64 (n:Int))→look E 8=some (.int .i64 (size:Int))→look E 9=some (.int .i64 (i:Int)) →
  (∀E' h' s',look E' 0=some s'→jz h' s' (l++le j (n/256^i))→er (2*j) (rowIds s) h h'→(∀i∈rowIds s',i∈rowIds s∨h.next≤i)→Q (.exit 0) E' h') →
  WP ⟨Tryz.prog,told⟩ 22 (.loop lyX) E h Q:=by
 intro j
 induction j with
 |zero =>
  intro i l s h E Q hw hs hi _ h0 h2 h8 h9 hq
  refine WP.loop (WP.seq (WP.region rfl ?_))
  refine zo rfl (az (v:=.int .i64 (i:Int)) (u:=.int .i64 (size:Int)) (r:=.bool false) h9 h8 (by simp_all[binV,ikBeq,intV])) ?_
  refine aA.nil (WP.seq (WP.cond (t:=false) rfl (WP.exit ?_)))
  exact hq _ h s h0 (by simpa[le] using hs) (er.refl hw _) (fun i hi=>.inl hi)
 |succ j ih =>
  intro i l s h E Q hw hs hi hl h0 h2 h8 h9 hq
  refine WP.loop (WP.seq (WP.region rfl ?_))
  refine zo rfl (az (v:=.int .i64 (i:Int)) (u:=.int .i64 (size:Int)) (r:=.bool true) h9 h8 (by simp only[binV,ikBeq,ag,intV];congr 2;simp;omega)) ?_
  refine aA.nil (WP.seq (WP.cond (t:=true) rfl (WP.skip ?_)))
  refine WP.seq (WP.block (WP.seq (WP.region rfl ?_)))
  refine zo rfl (bV h9) ?_
  refine aA.op rfl rfl rfl (gT rfl) (aA.nil (WP.region rfl ?_))
  refine zo rfl (bV h0) (zo rfl (bV h2) (zm rfl ?_))
  refine aA.op rfl rfl rfl (az (v:=.int .i64 8) (u:=.int .i64 (i:Int)) (r:=.int .i64 ((8*i:Nat):Int)) rfl rfl (by
   simp only[binV,ikBeq,ag,intV]
   rw[show(8:Int)*(i:Int)=((8*i:Nat):Int) by rfl,wrap_i64 (by omega)])) ?_
  refine zo rfl (az (v:=.int .u64 (n:Int)) (u:=.int .i64 ((8*i:Nat):Int)) (r:=.int .u64 ((n/256^i:Nat):Int)) rfl rfl (by exact abQ (by omega))) ?_
  refine zo rfl (b8 (v:=.int .u64 ((n/256^i:Nat):Int)) rfl u9) ?_
  refine aA.MI (b:=n/256^i%256) rfl hw rfl rfl rfl rfl rfl rfl (by omega) (fun v h₁ b1 k1 f1 => ?_)
  have f_:jz h₁ s l:=hs.nO hw k1 (fun i _=>jw)
  refine aA.app (s:=s) (x:=v) rfl k1.wf rfl rfl rfl rfl rfl rfl rfl f_ b1.view (by grind) (fun v2 I b2 k2 f2 => ?_)
  have J:er 2 (rowIds s) h I:=(k1.mono (aM _) (fun i hi=>by grind)).trans k2 (fun i hi=>.inl hi)
  refine aA.op rfl rfl rfl (gT rfl) (aA.nil (WP.region rfl ?_))
  refine zo rfl (az (v:=.int .i64 (i:Int)) (u:=.int .i64 1) h9 rfl (by simp only[binV,ikBeq,ag];exact yA (by omega))) ?_
  refine aA.op rfl rfl rfl (bV rfl) (aA.nil ?_)
  refine ih (i+1) (l++[n/256^i%256]) v2 I _ Q J.wf b2 (by omega) (by grind) rfl h2 h8 rfl (fun E' h' s' q1 q2 q3 q4 => ?_)
  refine hq E' h' s' q1 ?_ ?_ (fun i hi => ?_)
  ·grind[Nat.div_div_eq_div_mul,le]
  ·exact(J.trans q3 (fun i hi=>(f2 i hi).imp_right (fun h=>cX k1.le h))).mono (by omega) (fun i hi=>hi)
  ·rcases q4 i hi with h3|h3
   ·exact(f2 i h3).imp_right (fun h=>cX k1.le h)
   ·exact .inr (cX J.le h3)
theorem Pm (J:Std told){s:V}(hw:lT h)(hs:jz h s l)(I:size≤8)(hl:l.length+size≤140737488355328):
  Call ⟨Tryz.prog,told⟩ 189 [s,.int .i64 (size:Int),.int .u64 (n:Int)] h fun v h'=>jz h' v (l++le size n)∧er (2*size) (rowIds s) h h'∧∀i∈rowIds v,i∈rowIds s∨h.next≤i:=by
 refine Call.of_wp (J.free _ rfl) Tryz.func189 rfl rfl ?_
 refine WP.seq (WP.region rfl (aA.op rfl rfl rfl (gT rfl) (aA.nil ?_)))
 refine WP.seq (WP.seq (WP.region rfl ?_))
 refine zm rfl ?_
 refine aA.op rfl rfl rfl (bV rfl) (aA.nil (WP.block ?_))
 refine Su I size 0 l s h _ _ hw hs (by omega) hl rfl rfl rfl rfl (fun E' h' s' q1 q2 q3 q4 => ?_)
 refine WP.seq (WP.region rfl ?_)
 refine zo rfl (bV q1) ?_
 refine aA.op rfl rfl rfl (gT rfl) (aA.nil (WP.ret ?_))
 exact⟨aa,s',rfl,by grind,q3,q4⟩
theorem MZ : ∀(l:List Nat),(∀b∈l,b<256)→bytesIn (ofBytes l)=some l:=by
 intro l
 induction l<;>grind[List.mem_cons_self,bytesIn,ofBytes]
def B2 (s:Nat)(l:List Nat): Nat:=Nat.xor (crcL (Nat.xor s 4294967295) l) 4294967295
theorem E4 {s:Nat}(hs:s<4294967296)(I:∀b∈l,b<256): B2 s l<4294967296:=nZ (EO l _ (nZ hs (by omega)) I) (by omega)
theorem Lh (hT:Std told){s:Nat}(J:View h x l)(hl:l.length≤4611686018427387904)(hs:s<4294967296):
  gQ ⟨Tryz.prog,told⟩ 211 [.int .u32 (s:Int),x] h (.int .u32 (B2 s l:Nat)) h:=by
 refine gQ.told hT.more CO rfl ?_
 have I:=J
 obtain⟨hb,I⟩:=I
 rcases I with⟨rfl|⟨ea,rfl⟩,rfl⟩|⟨id,off,cap,n,cs,st,rfl,hg,h1,h2,h3,h4⟩
 ·simp only[toldMore]
  rw[show(decide ((0:Int)≤(s:Int))&&decide ((s:Int)<4294967296))=true by grind]
  rfl
 ·simp only[toldMore]
  rw[show(decide ((0:Int)≤(s:Int))&&decide ((s:Int)<4294967296))=true by grind]
  rfl
 ·simp only[toldMore]
  rw[show(decide ((0:Int)≤(s:Int))&&decide ((s:Int)<4294967296)&&Nat.ble l.length 4611686018427387904)=true by simp[aP];omega,ag,(View.rdN J).2]
  simp only[MZ l hb]
  rfl
theorem aaP (I:Std told)(J:View h x l)(hl:l.length≤4611686018427387904):
  Call ⟨Tryz.prog,told⟩ 200 [x] h fun v h'=>v=.int .u32 (B2 0 l:Nat)∧h'=h:=by
 refine Call.of_wp (I.free _ rfl) Tryz.func200 rfl rfl ?_
 refine WP.seq (WP.region rfl (aA.op rfl rfl rfl (gT rfl) (aA.nil ?_)))
 refine WP.seq (WP.region rfl ?_)
 refine zm rfl ?_
 refine aA.call (yy:=fun v h'=>v=.int .u32 (B2 0 l:Nat)∧h'=h) rfl rfl rfl rfl rfl rfl rfl ⟨_,_,Lh (s:=0) I J hl (by omega),rfl,rfl⟩ (fun v h₁ ⟨e1,e2⟩ => ?_)
 subst e1;subst e2
 exact aA.op rfl rfl rfl (gT rfl) (aA.nil (WP.ret ⟨aa,_,rfl,rfl,rfl⟩))
def Dh (bf:Nat)(l:List Nat): Nat:=B2 (B2 0 (le 8 bf)) l
theorem Sv (I:∀b∈l,b<256): Dh bf l<4294967296:=E4 (E4 (by omega) (MY 8 bf)) I
theorem Pn (J:Std told)(hw:lT h)(hx:View h x l)(hl:l.length≤4611686018427387904):
  Call ⟨Tryz.prog,told⟩ 192 [.int .u64 (bf:Int),x] h fun v h'=>v=.int .u32 (Dh bf l:Nat)∧er 16 [] h h':=by
 refine Call.of_wp (J.free _ rfl) Tryz.func192 rfl rfl ?_
 refine WP.seq (WP.region rfl (aA.op rfl rfl rfl (gT rfl) (aA.nil ?_)))
 refine WP.seq (WP.region rfl ?_)
 refine zm rfl ?_
 refine aA.call rfl rfl rfl rfl rfl rfl rfl (Pm (size:=8) (s:=.aV) (l:=[]) (n:=bf) J hw ⟨by simp,.inl ⟨rfl,rfl⟩⟩ (by omega) (by simp)) (fun v h₁ ⟨b1,k1,f1⟩ => ?_)
 rw[cO] at b1
 refine aA.call rfl rfl rfl rfl rfl rfl rfl (aaP J b1.view (by rw[dH];omega)) (fun v2 I ⟨e1,e2⟩ => ?_)
 subst e1;subst e2
 refine zm rfl ?_
 refine aA.call (yy:=fun v h'=>v=.int .u32 (Dh bf l:Nat)∧h'=I) rfl rfl rfl rfl rfl rfl rfl
  ⟨_,_,Lh (s:=B2 0 (le 8 bf)) J (hx.nO hw k1 (fun i _ hi=>by simp[rowIds] at hi)) hl (E4 (by omega) (MY 8 bf)),rfl,rfl⟩ (fun v3 adb ⟨e3,e4⟩ => ?_)
 subst e3;subst e4
 exact aA.op rfl rfl rfl (gT rfl) (aA.nil (WP.ret ⟨aa,_,rfl,rfl,k1.mono (aM _) (fun i hi=>by simp[rowIds] at hi)⟩))
end
def Yy : List Nat:=[]
def Yz : List Nat:=[32]
def YA : List Nat:=[]
def YB : List Nat:=[]
def YC : List Nat:=[]
def YD : List Nat:=[116,52]
def Ij : List Nat:=Yy++(Yz++(YA++(YB++(YC++(YD++[211,61,206,171,172])))))
structure W (told:cy): Prop where
 free:∀f,inL Ij f=false→told f=none
 more:told 211=some toldMore
 sorted:told 61=some (toldSorted A9)
theorem W.UA {told:cy}(I:W told): Std told:=by
 refine⟨fun f J=>I.free f ?_,I.more⟩
 have:∀f∈Ih,inL Ij f=false:=by decide
 grind[Ov]
def v7 (v:V): Option (List Nat)→aI
 |none=>.pu (v=.aV)
 |some b=>.an (.pu (v≠.aV)) (.bK v b)
theorem aJ.v7 (v:V)(o:Option (List Nat)): aJ (Am.v7 v o):=by
 cases o with
 |none=>exact aJ.pu _
 |some b=>exact aJ.an (aJ.pu _) (aJ.bK _ _)
def each {α:Type}(f:V→α→aI): List V→List α→aI
 |[],[]=>.pu True
 |v::l,x::m=>.an (f v x) (each f l m)
 |_,_=>.pu False
theorem aJ.each {f:V→α→aI}(I:∀v x,aJ (f v x)): ∀(l:List V) (m:List α),aJ (Am.each f l m):=by
 intro l
 induction l with
 |nil=>intro m;cases m<;>exact aJ.pu _
 |cons v l J=>intro m;cases m with
  |nil=>exact aJ.pu _
  |cons x m=>exact aJ.an (I _ _) (J m)
section
variable {f:V→α→aI} {a b:PM}
theorem B3 : ∀ {l:List V} {m:List α},(each f l m).p a b→l.length=m.length:=by
 intro l
 induction l with
 |nil=>intro m h;cases m with
  |nil=>rfl
  |cons x m=>exact h.elim
 |cons v l I=>intro m h;cases m with
  |nil=>exact h.elim
  |cons x m=>simp only[aZ,I h.2]
theorem Ik : ∀ {l:List V} {m:List α} {i:Nat} {v:V} {x:α},(each f l m).p a b→l[i]?=some v→m[i]?=some x→(f v x).p a b:=by
 intro l
 induction l with
 |nil=>simp
 |cons u l J=>intro m i v x h hv I;cases m with
  |nil=>grind
  |cons y m =>
   cases i with
   |zero=>simp at hv I;subst hv;subst I;exact h.1
   |succ i=>exact J h.2 hv I
theorem Il : ∀ {l:List V} {m:List α} {I:List V} {m':List α},(each f l m).p a b→(each f I m').p a b→(each f (l++I) (m++m')).p a b:=by
 intro l
 induction l with
 |nil=>intro m I m' h hv;cases m with
  |nil=>exact hv
  |cons x m=>exact h.elim
 |cons u l J=>intro m I m' h hv;cases m with
  |nil=>exact h.elim
  |cons y m=>exact⟨h.1,J h.2 hv⟩
theorem Li {us:List V}{cs:List α}{c:α}(J:∀v x,aJ (f v x))(s:Sat h (each f us cs::S))(I:cs[i]?=some c): ∃u,us[i]?=some u∧Sat h (f u c::each f us cs::S):=by
 obtain⟨a,b,q1,q2,q3⟩:=s.at (k:=0) rfl
 have hl:=B3 q3
 have hi:=(List.getElem?_eq_some_iff.1 I).1
 have hu:us[i]?=some (us[i]'(by omega)):=aG _
 exact⟨_,hu,(s.dup (aJ.each J _ _)).dG fun a b h=>Ik h hu I⟩
end
abbrev Wr := Nat×List Nat
structure Dk where
 room:Nat
 bD:List (Option (List Nat))
 waiting:List Wr
 now:List (Int×List Nat)
 log:List Nat
 fG:Nat
 mark:List Nat
 cn:Int
 dead:Bool
 E5:Option Wr
 tail:List Nat
variable {δ:Dk}
def Po (room:Nat)(pg wt I lg:V)(J:Nat)(mk:V)(fu ops:Int)(dead:Bool)(tn tl:V): List V :=
 [.int .i64 (room:Int),pg,wt,I,lg,.int .i64 (J:Int),mk,.int .i64 fu,.int .i64 ops,.bool dead,tn,tl]
def Di : List V→List Wr→aI
 |[],[]=>.pu True
 |p::v::l,x::m=>.an (.an (.pu (p=.int .i64 (x.1:Int)∧v≠.aV)) (.bK v x.2)) (Di l m)
 |_,_=>.pu False
theorem aJ.wr : ∀(m:List Wr) (l:List V),aJ (Di l m):=by
 intro m
 induction m with
 |nil=>intro l;cases l with
  |nil=>exact aJ.pu _
  |cons v l=>cases l<;>exact aJ.pu _
 |cons x m I=>intro l;cases l with
  |nil=>exact aJ.pu _
  |cons v l=>cases l with
   |nil=>exact aJ.pu _
   |cons u l=>exact aJ.an (aJ.an (aJ.pu _) (aJ.bK _ _)) (I l)
theorem VW {a b:PM}: ∀ {m:List Wr} {l:List V} {x:Wr} {v:V},(Di l m).p a b→v≠.aV→(aI.bK v x.2).p a b→(Di (l++[.int .i64 (x.1:Int),v]) (m++[x])).p a b:=by
 intro m
 induction m with
 |nil=>intro l x v h I hv;cases l with
  |nil=>exact⟨⟨⟨rfl,I⟩,hv⟩,aa⟩
  |cons u l=>cases l<;>exact h.elim
 |cons y m J=>intro l x v h I hv;cases l with
  |nil=>exact h.elim
  |cons u l=>cases l with
   |nil=>exact h.elim
   |cons w l=>exact⟨h.1,J h.2 I hv⟩
theorem VX {a b:PM}: ∀ {m:List Wr} {l:List V},(Di l m).p a b→l.length=m.length*2:=by
 intro m
 induction m with
 |nil=>intro l h;cases l with
  |nil=>rfl
  |cons u l=>cases l<;>exact h.elim
 |cons y m I=>intro l h;cases l with
  |nil=>exact h.elim
  |cons u l=>cases l with
   |nil=>exact h.elim
   |cons w l=>have:=I h.2;simp only[aZ];omega
def oh (v:V)(m:List (Option (List Nat))): aI:=xs fun id:Nat=>xs fun cs:List V=>star [.pu (v=.sl id 0 m.length (.exact m.length)),pt id (.cells m.length cs false),each v7 cs m]
def A_ (v:V)(m:List Wr): aI:=xs fun cs:List V=>star [.arr 2 v cs,Di cs m]
def Dj (v:V): Option Wr→aI
 |none=>.pu (v=.cU)
 |some x=>xs fun id:Nat=>xs fun u:V=>star [.pu (v=.ptr id 0),pt id (.cells 2 [.int .i64 (x.1:Int),u] false),.bK u x.2]
def bM (p:Nat)(δ:Dk): aI:=xs fun pg:V=>xs fun wt:V=>xs fun I:V=>xs fun lg:V=>xs fun mk:V=>xs fun J:V=>xs fun tl:V=>xs fun ops:Int =>
 star [pt p (.cells 12 (Po δ.room pg wt I lg δ.fG mk δ.cn ops δ.dead J tl) false),oh pg δ.bD,A_ wt δ.waiting,nf (fun v b=>.bK v b) I δ.now,aQ lg δ.log,l9 mk δ.mark,Dj J δ.E5,l9 tl δ.tail]
section
variable {p:Nat}
theorem dg : Sat h (bM p δ::S)↔∃pg wt I lg mk J tl ops,Sat h (pt p (.cells 12 (Po δ.room pg wt I lg δ.fG mk δ.cn ops δ.dead J tl) false)::oh pg δ.bD::A_ wt δ.waiting::nf (fun v b=>.bK v b) I δ.now::aQ lg δ.log::l9 mk δ.mark::Dj J δ.E5::l9 tl δ.tail::S):=by
 simp[bM,iC,cG]
theorem p_ {v:V}{m:List (Option (List Nat))}: Sat h (oh v m::S)↔∃id cs,v=.sl id 0 m.length (.exact m.length)∧Sat h (pt id (.cells m.length cs false)::each v7 cs m::S):=by
 simp[oh,iC,cG,pT]
theorem yU {v:V}{m:List Wr}: Sat h (A_ v m::S)↔∃cs,Sat h (.arr 2 v cs::Di cs m::S):=by
 grind[A_,iC,cG]
end
section
variable {told:cy} {v:V}
def Dl (s:Nat)(l:List Nat): Nat:=Nat.xor (crcL (Nat.xor s 4294967295) l) 4294967295
theorem B4 {s:Nat}(hs:s<4294967296)(I:∀b∈l,b<256): Dl s l<4294967296:=nZ (EO _ _ (nZ hs (by omega)) I) (by omega)
theorem VY (hT:W told){s:Nat}(sa:Sat h S)(hk:getA S k=some X)(hX:bX X (b5 v l))(hs:s<4294967296)(hl:l.length≤4611686018427387904):
  Call ⟨Tryz.prog,told⟩ 211 [.int .u32 (s:Int),v] h fun r h'=>r=.int .u32 (Dl s l:Nat)∧h'=h:=by
 have hv:=sa.aq hk hX
 refine⟨_,_,gQ.told hT.more CO rfl ?_,rfl,rfl⟩
 have I:vR (s:Int) l=.int .u32 (Dl s l:Nat):=by rfl
 have J:=hv
 rcases J.2 with⟨rfl|⟨ea,rfl⟩,rfl⟩|⟨id,off,cap,n,cs,st,rfl,_⟩
 ·grind[toldMore]
 ·grind[toldMore]
 ·simp only[toldMore]
  rw[show(decide ((0:Int)≤(s:Int))&&decide ((s:Int)<4294967296)&&Nat.ble l.length 4611686018427387904)=true by simp;omega,ag,hv.rdN.2]
  simp only
  have:∀l:List Nat,(∀b∈l,b<256)→bytesIn (ofBytes l)=some l:=by
   intro l
   induction l with
   |nil=>intro _;rfl
   |cons b l ih =>
    intro hb
    grind[ofBytes,bytesIn,List.mem_cons_self]
  rw[this l hv.1]
  simp only[I]
end
section
variable {told:cy} {p:Nat}
theorem nG (J:W told)(s:Sat h (X::S))(I:bX X (b5 x l))(hl:l.length<1073741824):
  Call ⟨Tryz.prog,told⟩ 114 [x] h fun v h'=>Sat h' (aQ v l::X::S):=by
 refine Call.of_wp (J.free _ rfl) Tryz.func114 rfl rfl (zK 7 rfl (zo rfl (aC rfl rfl rfl (au ak (s.aq (k:=0) rfl I))) (aA.any rfl rfl rfl (OpR.rC rfl s rfl rfl rfl rfl hl) ?_)))
 intro v h s
 refine zm rfl (aA.any rfl rfl rfl (OpR.lX rfl s I rfl rfl rfl rfl (by simp;omega)) ?_)
 intro v h s
 exact zk 2 rfl (WP.ret ⟨aa,_,rfl,s⟩)
theorem wY (J:W told)(s:Sat h (X::S))(I:bX X (b5 x l))(hl:l.length<1073741824):
  Call ⟨Tryz.prog,told⟩ 145 [x] h fun v h'=>Sat h' (aQ v l::X::S):=by
 refine Call.of_wp (J.free _ rfl) Tryz.func145 rfl rfl (zK 7 rfl (zo rfl (aC rfl rfl rfl (au ak (s.aq (k:=0) rfl I))) (aA.any rfl rfl rfl (OpR.rC rfl s rfl rfl rfl rfl hl) ?_)))
 intro v h s
 refine zm rfl (aA.any rfl rfl rfl (OpR.lX rfl s I rfl rfl rfl rfl (by simp;omega)) ?_)
 intro v h s
 exact zk 2 rfl (WP.ret ⟨aa,_,rfl,s⟩)
theorem sA (J:W told)(s:Sat h (X::S))(I:bX X (b5 x l))(hl:l.length<1073741824):
  Call ⟨Tryz.prog,told⟩ 109 [x] h fun v h'=>Sat h' (aQ v l::X::S):=by
 refine Call.of_wp (J.free _ rfl) Tryz.func109 rfl rfl (zK 7 rfl (zo rfl (aC rfl rfl rfl (au ak (s.aq (k:=0) rfl I))) (aA.any rfl rfl rfl (OpR.rC rfl s rfl rfl rfl rfl hl) ?_)))
 intro v h s
 refine zm rfl (aA.any rfl rfl rfl (OpR.lX rfl s I rfl rfl rfl rfl (by simp;omega)) ?_)
 intro v h s
 exact zk 2 rfl (WP.ret ⟨aa,_,rfl,s⟩)
theorem B5 (I:W told)(s:Sat h (bM p δ::S)): Call ⟨Tryz.prog,told⟩ 97 [.ptr p 0] h fun v h'=>v=.int .i64 (δ.bD.length:Int)∧h'=h:=by
 obtain⟨pg,wt,J,lg,mk,tn,tl,ops,s⟩:=dg.1 s
 obtain⟨id,cs,rfl,s'⟩:=p_.1 (s.ae [1])
 exact Call.of_wp (I.free _ rfl) Tryz.func97 rfl rfl (zK 8 rfl (zY s 0 EU je rfl (zo rfl (aC rfl rfl rfl (mP rfl bh)) (zk 2 rfl (WP.ret ⟨aa,_,rfl,rfl,rfl⟩)))))
theorem Pp (hT:W told){n:Int}(s:Sat h (bM p δ::S)): Call ⟨Tryz.prog,told⟩ 199 [.ptr p 0,.int .i64 n] h fun v h'=>h'=h∧((0≤n∧n<δ.bD.length∧v=.bool true)∨(¬(0≤n∧n<δ.bD.length)∧v=.bool false)):=by
 obtain⟨pg,wt,nw,lg,mk,tn,tl,ops,s⟩:=dg.1 s
 obtain⟨id,cs,rfl,s'⟩:=p_.1 (s.ae [1])
 refine Call.of_wp (hT.free _ rfl) Tryz.func199 rfl rfl (zK 7 rfl ?_)
 refine zd rfl (az rfl rfl kC) ?_ ?_
 ·intro J
  have J:0≤n:=by simpa using J
  refine zk 4 rfl (zY s 0 EU je rfl (zo rfl (aC rfl rfl rfl (mP rfl bh)) ?_))
  refine zd rfl (az rfl rfl aL) ?_ ?_
  ·intro I
   have I:n<δ.bD.length:=by simpa using I
   exact zk 3 rfl (WP.ret ⟨aa,_,rfl,rfl,.inl ⟨J,I,rfl⟩⟩)
  ·intro I
   have I:¬ n<δ.bD.length:=by simpa using I
   exact zk 3 rfl (WP.ret ⟨aa,_,rfl,rfl,.inr ⟨fun h=>I h.2,rfl⟩⟩)
 ·intro J
  have J:¬ 0≤n:=by simpa using J
  exact zk 11 rfl (WP.ret ⟨aa,_,rfl,rfl,.inr ⟨fun h=>J h.1,rfl⟩⟩)
def Dk.Im (δ:Dk): Nat:=δ.fG
def Dk.fg (δ:Dk): Dk:={ δ with cn:=if 0<δ.cn then δ.cn-1 else δ.cn }
def Dk.die (δ:Dk): Dk:={ δ with dead:=true }
theorem yV (hT:W told)(s:Sat h (bM p δ::S))(hf:δ.cn<4294967296):
  Call ⟨Tryz.prog,told⟩ 193 [.ptr p 0] h fun v h'=>(δ.cn=0∧v=.bool false∧Sat h' (bM p δ.die::S))∨(δ.cn≠0∧v=.bool true∧Sat h' (bM p δ.fg::S)):=by
 obtain⟨pg,wt,nw,lg,mk,tn,tl,ops,s⟩:=dg.1 s
 refine Call.of_wp (hT.free _ rfl) Tryz.func193 rfl rfl (zK 9 rfl (zY s 0 A0 bZ rfl ?_))
 refine zd rfl (az rfl rfl ej) ?_ ?_
 ·intro J
  refine zk 6 rfl (zf rfl (o8 _ _) ?_)
  refine zS rfl (by exact s.lu (k:=0) rfl BE rfl (by decide) rfl rfl) (fun h s => ?_)
  refine zk 5 rfl (WP.ret ⟨aa,_,rfl,?_⟩)
  have J:δ.cn=0:=by simpa using J
  exact .inl ⟨J,rfl,dg.2 ⟨pg,wt,nw,lg,mk,tn,tl,ops,s⟩⟩
 ·intro J
  have J:δ.cn≠0:=by simpa using J
  refine zk 8 rfl (zY s 0 A0 bZ rfl ?_)
  refine zd rfl (az rfl rfl cL) ?_ ?_
  ·intro I
   have I:0<δ.cn:=by simpa using I
   refine zk 5 rfl (zY s 0 A0 bZ rfl (zb rfl (by exact ei (ay (by omega) (by omega))) ?_))
   refine zn rfl (zf rfl (A0 _ _) ?_)
   refine zS rfl (by exact s.lu (k:=0) rfl jO rfl (by decide) rfl rfl) (fun h s => ?_)
   refine zk 5 rfl (zY s 0 A1 bZ rfl (zb rfl (by rfl) ?_))
   refine zn rfl (zf rfl (A1 _ _) ?_)
   refine zS rfl (by exact s.lu (k:=0) rfl jO rfl (by decide) rfl rfl) (fun h s => ?_)
   exact zk 5 rfl (WP.ret ⟨aa,_,rfl,.inr ⟨J,rfl,dg.2 ⟨pg,wt,nw,lg,mk,tn,tl,_,by simp only[Dk.fg,aH I];exact s⟩⟩⟩)
  ·intro I
   have I:¬ 0<δ.cn:=by simpa using I
   refine zk 7 rfl (zY s 0 A1 bZ rfl (zb rfl (by rfl) ?_))
   refine zn rfl (zf rfl (A1 _ _) ?_)
   refine zS rfl (by exact s.lu (k:=0) rfl jO rfl (by decide) rfl rfl) (fun h s => ?_)
   exact zk 5 rfl (WP.ret ⟨aa,_,rfl,.inr ⟨J,rfl,dg.2 ⟨pg,wt,nw,lg,mk,tn,tl,_,by simp only[Dk.fg,ax I];exact s⟩⟩⟩)
def Dk.at (δ:Dk)(n:Int): List Nat:=match lookL n δ.now with
 |some b=>b
 |none=>match δ.bD[n.toNat]? with
  |some (some b)=>b
  |_=>List.replicate 512 0
theorem M3 {v:V}{m:List (Option (List Nat))}(s:Sat h (oh v m::S))(hi:i<m.length):
  ∃id u,v=.sl id 0 m.length (.exact m.length)∧(∀(P:Program) (t:TypeId),isAggT P t=some false→loadV P h t (.ptr id i)=some u)∧Sat h (v7 u m[i]::oh v m::S):=by
 obtain⟨id,cs,rfl,s1⟩:=p_.1 s
 obtain⟨a,b,q1,q2,I⟩:=s1.at (k:=1) rfl
 have hl:=B3 I
 have hu:cs[i]?=some (cs[i]'(by omega)):=aG _
 have s2:Sat h (each v7 cs m::pt id (.cells m.length cs false)::S):=s1.ae [1]
 have J:=s2.dup (aJ.each aJ.v7 cs m)
 have s4:Sat h (v7 (cs[i]'(by omega)) m[i]::each v7 cs m::pt id (.cells m.length cs false)::S):=J.dG fun a b h=>Ik h hu (aG hi)
 refine⟨id,cs[i]'(by omega),rfl,fun P t ht=>yF ht (s1.row (k:=0) rfl) (by rw[eX,hu]),?_⟩
 have s5:Sat h (pt id (.cells m.length cs false)::each v7 cs m::v7 (cs[i]'(by omega)) m[i]::S):=s4.ae [2,1]
 exact(p_.2 ⟨id,cs,rfl,s5⟩:Sat h (oh _ m::v7 (cs[i]'(by omega)) m[i]::S)).ae [1]
theorem Sw (hT:W told){n:Int}(s:Sat h (bM p δ::S))(hl:(δ.at n).length=512): Call ⟨Tryz.prog,told⟩ 148 [.ptr p 0,.int .i64 n] h fun v h' =>
  (δ.dead=true∧v=.aW [.aV,.int .i64 9]∧Sat h' (bM p δ::S)) ∨
  (δ.dead=false∧¬(0≤n∧n<δ.bD.length)∧v=.aW [.aV,.int .i64 1]∧Sat h' (bM p δ::S)) ∨
  (δ.dead=false∧0≤n∧n<δ.bD.length∧∃b,v=.aW [b,.int .i64 0]∧Sat h' (aQ b (δ.at n)::bM p δ::S)):=by
 have s0:=s
 obtain⟨pg,wt,nw,lg,mk,tn,tl,ops,s⟩:=dg.1 s
 refine Call.of_wp (hT.free _ rfl) Tryz.func148 rfl rfl (zK 6 rfl (WP.block (zK 4 rfl (zY s 0 o8 qn rfl (zk 2 rfl ?_)))))
 refine WP.split rfl ?_ ?_
 ·intro hd
  exact zK 5 rfl (WP.ret ⟨aa,_,rfl,.inl ⟨hd,rfl,s0⟩⟩)
 ·intro hd
  refine zK 4 rfl (zc rfl (Pp hT s0) ?_)
  rintro v h' ⟨rfl,(⟨J,tJ,rfl⟩|⟨hn,rfl⟩)⟩
  ·skip
   refine zo rfl (eG rfl rfl) (za rfl (zv (zj rfl (WP.skip (zg rfl (zk 2 rfl (zf rfl (K5 _ _) (zl rfl (by exact s.ld (k:=0) rfl oB rfl) ?_))))))))
   refine zm rfl ?_
   have s1:Sat h' (nf (fun v b=>.bK v b) nw δ.now::pt p (.cells 12 (Po δ.room pg wt nw lg δ.fG mk δ.cn ops δ.dead tn tl) false)::oh pg δ.bD::A_ wt δ.waiting::aQ lg δ.log::l9 mk δ.mark::Dj tn δ.E5::l9 tl δ.tail::S):=s.ae [3]
   rcases l_ (n:=n) (fun _ _=>aJ.bK _ _) s1 rD bP k8 with⟨g1,g2,_⟩|⟨u,b,g1,g2,_,s2⟩
   ·refine aA.op rfl rfl rfl (jo rfl rfl g2) ?_
    refine zk 10 rfl (zo rfl (eG rfl rfl) (zk 5 rfl (zY s 0 EU je rfl (zm rfl ?_))))
    have hi:n.toNat<δ.bD.length:=by omega
    obtain⟨id,u,rfl,g3,s3⟩:=M3 (s.ae [1]) hi
    refine zo rfl (bx (r:=.ptr id n.toNat) rfl rfl (by rw[abJ,show(decide (0≤n)&&decide (n<((δ.bD.length:Nat):Int)))=true by simp;omega,ag];simp)) ?_
    refine zl rfl (g3 _ _ ah) (zk 6 rfl ?_)
    have I:δ.at n=match δ.bD[n.toNat] with|some b=>b|none=>List.replicate 512 0:=by
     simp only[Dk.at,g1,aG hi]
     cases δ.bD[n.toNat]<;>rfl
    cases hp:δ.bD[n.toNat] with
    |none =>
     rw[hp] at s3 I
     have I:δ.at n=List.replicate 512 0:=I
     obtain⟨rfl,_⟩:=pT.1 s3
     refine zt rfl ((by exact az rfl rfl (by simp only[binV,eqV,ak];rfl))) (rfl) ?_
     refine zk 4 rfl (aA.any rfl rfl rfl (OpR.G6 rfl s0 rfl rfl rfl rfl (by decide)) ?_)
     intro v h s
     exact zk 3 rfl (WP.ret ⟨aa,_,rfl,.inr (.inr ⟨hd,J,tJ,v,rfl,by rw[I];exact s⟩)⟩)
    |some b =>
     rw[hp] at s3 I
     have I:δ.at n=b:=I
     have s4:Sat h' (aI.an (.pu (u≠.aV)) (.bK u b)::oh _ δ.bD::_):=s3
     have hu:u≠.aV:=by
      obtain⟨a,b,q1,q2,q3⟩:=s4.at (k:=0) rfl
      exact q3.1
     have s5:Sat h' (.bK u b::bM p δ::S):=by
      have s6:=s4.dG (B:=.bK u b) fun a b h=>h.2
      exact(dg.2 ⟨_,wt,nw,lg,mk,tn,tl,ops,s6.ae [2,1,1,1,1,1,1,1]⟩:Sat h' (bM p δ::.bK u b::S)).ae [1]
     have Pq:∃a b c d,u=.sl a b c d:=by
      rcases (s5.aq (k:=0) rfl (aY _ _)).2 with⟨_,e⟩|⟨a,b,c,_,_,_,e,_⟩
      ·rw[I,e] at hl;simp at hl
      ·exact⟨_,_,_,_,e⟩
     obtain⟨a,b',c,d,rfl⟩:=Pq
     refine zh rfl ((by exact az rfl rfl (by simp only[binV,eqV,ak];rfl))) (rfl) ?_
     refine zk 6 rfl (zc rfl (nG hT s5 (aY _ _) (by rw[←I,hl];decide)) ?_)
     intro v h s
     exact zk 3 rfl (WP.ret ⟨aa,_,rfl,.inr (.inr ⟨hd,J,tJ,v,rfl,by rw[I];exact s.del 1⟩)⟩)
   ·skip
    refine zo rfl (jo rfl rfl g2) (zk 10 rfl (zo rfl (eG rfl rfl) (zk 7 rfl ?_)))
    have I:δ.at n=b:=by simp only[Dk.at,g1]
    have Pq:∃a b c d,u=.sl a b c d:=by
     rcases (s2.aq (k:=0) rfl (aY _ _)).2 with⟨_,e⟩|⟨a,b,c,_,_,_,e,_⟩
     ·rw[I,e] at hl;simp at hl
     ·exact⟨_,_,_,_,e⟩
    obtain⟨a,b',c,d,rfl⟩:=Pq
    refine zh rfl ((by exact az rfl rfl (by simp only[binV,eqV,ak];rfl))) (rfl) ?_
    refine zk 6 rfl (zc rfl (nG hT s2 (aY _ _) (by rw[←I,hl];decide)) ?_)
    intro v h s
    refine zk 3 rfl (WP.ret ⟨aa,_,rfl,?_⟩)
    have s:=dg.2 ⟨pg,wt,nw,lg,mk,tn,tl,ops,s.ae [3,3,3,2,2,2,2,2]⟩
    exact .inr (.inr ⟨hd,J,tJ,v,rfl,by rw[I];exact(s.del 2).ae [1,0]⟩)
  ·skip
   exact zo rfl (eG rfl rfl) (zk 8 rfl (WP.ret ⟨aa,_,rfl,.inr (.inl ⟨hd,hn,rfl,s0⟩)⟩))
theorem J7 (I:W told)(s:Sat h (bM p δ::S)): Call ⟨Tryz.prog,told⟩ 180 [.ptr p 0] h fun v h'=>v=.int .i64 (δ.Im:Int)∧h'=h:=by
 obtain⟨pg,wt,J,lg,mk,tn,tl,ops,s⟩:=dg.1 s
 exact Call.of_wp (I.free _ rfl) Tryz.func180 rfl rfl (zK 8 rfl (zY s 0 K6 bZ rfl (zk 2 rfl (WP.ret ⟨aa,_,rfl,rfl,rfl⟩))))
theorem Io (I:W told)(s:Sat h (bM p δ::S)): Call ⟨Tryz.prog,told⟩ 36 [.ptr p 0] h fun v h'=>v=.bool δ.dead∧h'=h:=by
 obtain⟨pg,wt,J,lg,mk,tn,tl,ops,s⟩:=dg.1 s
 exact Call.of_wp (I.free _ rfl) Tryz.func36 rfl rfl (zK 8 rfl (zY s 0 o8 qn rfl (zk 2 rfl (WP.ret ⟨aa,_,rfl,rfl,rfl⟩))))
theorem Pr (hT:W told)(s:Sat h (bM p δ::S))(hf:δ.cn<4294967296): Call ⟨Tryz.prog,told⟩ 175 [.ptr p 0] h fun v h' =>
  (δ.dead=true∧v=.int .i64 9∧Sat h' (bM p δ::S))∨(δ.dead=false∧δ.cn=0∧v=.int .i64 9∧Sat h' (bM p δ.die::S)) ∨
  (δ.dead=false∧δ.cn≠0∧v=.int .i64 0∧Sat h' (bM p { δ.fg with fG:=δ.log.length }::S)):=by
 have s0:=s
 obtain⟨pg,wt,nw,lg,mk,tn,tl,ops,s⟩:=dg.1 s
 refine Call.of_wp (hT.free _ rfl) Tryz.func175 rfl rfl (zK 9 rfl (zf rfl (o8 _ _) ?_))
 refine zd rfl (o_load rfl (s.ld (k:=0) rfl qn rfl)) ?_ ?_
 ·intro I
  exact zk 11 rfl (WP.ret ⟨aa,_,rfl,.inl ⟨I,rfl,s0⟩⟩)
 ·intro I
  refine zk 2 rfl (zc rfl (yV hT s0 hf) ?_)
  rintro v h (⟨J,rfl,s⟩|⟨J,rfl,s⟩)
  ·skip
   exact zo rfl (eG rfl rfl) (zk 7 rfl (WP.ret ⟨aa,_,rfl,.inr (.inl ⟨I,J,rfl,s⟩)⟩))
  ·skip
   obtain⟨pg,wt,nw,lg,mk,tn,tl,ops,s⟩:=dg.1 s
   dsimp only[Dk.fg] at s
   refine zo rfl (eG rfl rfl) (zk 9 rfl (zY s 0 vW ah rfl (zo rfl (aC rfl rfl rfl (au ak (s.aq (k:=4) rfl (aK _ _)))) (zn rfl (zf rfl (K6 _ _) ?_)))))
   refine zS rfl (by exact s.lu (k:=0) rfl jO rfl (by decide) rfl rfl) (fun h s => ?_)
   exact zk 5 rfl (WP.ret ⟨aa,_,rfl,.inr (.inr ⟨I,J,rfl,dg.2 ⟨pg,wt,nw,lg,mk,tn,tl,ops,s⟩⟩)⟩)
theorem M4 (hT:W told)(s:Sat h (bM p δ::X::S))(hX:bX X (b5 x b))(hb:b.length<1073741824)(hf:δ.cn<4294967296)(hl:δ.log.length≤4294967296)(hr:δ.room≤4294967296):
  Call ⟨Tryz.prog,told⟩ 141 [.ptr p 0,x] h fun v h' =>
  (δ.dead=true∧v=.int .i64 9∧Sat h' (bM p δ::X::S))∨(δ.dead=false∧δ.room<δ.log.length+b.length∧v=.int .i64 7∧Sat h' (bM p δ::X::S)) ∨
  (δ.dead=false∧δ.log.length+b.length≤δ.room∧δ.cn=0∧v=.int .i64 9∧Sat h' (bM p { δ.die with tail:=b }::X::S)) ∨
  (δ.dead=false∧δ.log.length+b.length≤δ.room∧δ.cn≠0∧v=.int .i64 0∧Sat h' (bM p { δ.fg with log:=δ.log++b }::X::S)):=by
 have s0:=s
 obtain⟨pg,wt,nw,lg,mk,tn,tl,ops,s⟩:=dg.1 s
 refine Call.of_wp (hT.free _ rfl) Tryz.func141 rfl rfl (zK 5 rfl (WP.block (zK 4 rfl (zf rfl (o8 _ _) ?_))))
 refine zd rfl (o_load rfl (s.ld (k:=0) rfl qn rfl)) ?_ ?_
 ·intro J
  exact zk 7 rfl (WP.ret ⟨aa,_,rfl,.inl ⟨J,rfl,s0⟩⟩)
 ·intro J
  refine zk 4 rfl (WP.drawn [af,af,af,af,af,af,af,af,af,af,af,af,af,af] rfl (by kernel_rfl) (by kernel_rfl) ?_)
  refine zM rfl (zO rfl (aC rfl rfl rfl (au ak (s.aq (k:=8) rfl hX))) (zM rfl (zN rfl (zF rfl (VM _ _) (zL rfl (s.ld (k:=0) rfl bZ rfl) (zM rfl (zN rfl (zF rfl (vW _ _) (zL rfl (s.ld (k:=0) rfl ah rfl) (zO rfl (aC rfl rfl rfl (au ak (s.aq (k:=4) rfl (aK _ _)))) (zO rfl (az rfl rfl (by exact ei (ay (by omega) (by omega)))) ?_)))))))))))
  refine aE.Ye rfl rfl rfl rfl (az rfl rfl cL) ?_ ?_
  ·intro I
   have I:δ.room<δ.log.length+b.length:=by simp at I;omega
   refine zA rfl ?_
   refine aE.nil ⟨⟨aa,aa,aa,aa,aa,aa,aa,aa,aa,aa,aa,aa,aa,aa,aa⟩,?_⟩
   exact zK 5 rfl (WP.ret ⟨aa,_,rfl,.inr (.inl ⟨J,I,rfl,s0⟩)⟩)
  ·intro I
   have I:δ.log.length+b.length≤δ.room:=by simp at I;omega
   refine zA rfl ?_
   refine aE.nil ⟨⟨aa,aa,aa,aa,aa,aa,aa,aa,aa,aa,aa,aa,aa,aa,aa⟩,?_⟩
   refine zK 4 rfl (zc rfl (yV hT s0 hf) ?_)
   rintro v h (⟨h0,rfl,s⟩|⟨h0,rfl,s⟩)
   ·skip
    refine zo rfl (eG rfl rfl) (zk 7 rfl (zc rfl (nG hT (s.ae [1]) hX hb) ?_))
    intro v h s
    have s:=(s.fD).ae [2,0,0]
    obtain⟨pg,wt,nw,lg,mk,tn,tl,ops,s⟩:=dg.1 s
    have hv:=(s.aq (k:=8) rfl (aY _ _)).cells
    refine zn rfl (zf rfl (Sh _ _) (zS rfl (s.lu (k:=0) rfl eZ rfl (by decide) hv.1 hv.2) ?_))
    intro h s
    exact zk 5 rfl (WP.ret ⟨aa,_,rfl,.inr (.inr (.inl ⟨J,I,h0,rfl,dg.2 ⟨pg,wt,nw,lg,mk,tn,v,ops,s.del 7⟩⟩))⟩)
   ·skip
    obtain⟨pg,wt,nw,lg,mk,tn,tl,ops,s⟩:=dg.1 s
    dsimp only[Dk.fg] at s
    refine zo rfl (eG rfl rfl) (za rfl (zv (zj rfl (WP.skip (zg rfl (zk 3 rfl (zf rfl (vW _ _) (zl rfl (by exact s.ld (k:=0) rfl ah rfl) ?_))))))))
    refine zm rfl (aA.any rfl rfl rfl (OpR.lX rfl (s.ae [4,7]) hX rfl rfl rfl rfl (by show δ.log.length+_≤_;omega)) ?_)
    intro v h s
    have hv:=(s.buf (k:=0) rfl).view.cells
    refine zn rfl (zf rfl (vW _ _) (zS rfl (s.lu (k:=2) rfl eZ rfl (by decide) hv.1 hv.2) ?_))
    intro h s
    exact zk 5 rfl (WP.ret ⟨aa,_,rfl,.inr (.inr (.inr ⟨J,I,h0,rfl,dg.2 ⟨pg,wt,nw,v,mk,tn,tl,ops,s.ae [2,2,2,2,0,1,1,1]⟩⟩))⟩)
end
section
variable {told:cy} {p:Nat}
def Dk.wr (δ:Dk)(n:Int)(b:List Nat): Dk:={ δ.fg with waiting:=δ.waiting++[(n.toNat,b)],now:=cY n b δ.now }
theorem VZ : ∃i,Tryz.prog.info? 185=some i∧i.size=2∧i.bytes=32 :=
 ⟨_,(show Tryz.prog.info? 185=some ((Tryz.prog.info? 185).getD default) by kernel_rfl),by kernel_rfl,by kernel_rfl⟩
theorem Sat.YE {m:List Wr}{x:Wr}(s:Sat h (.bK u x.2::Di cs m::S))(hu:u≠.aV): Sat h (Di (cs++[.int .i64 (x.1:Int),u]) (m++[x])::S) :=
 s.two (aJ.bK _ _) (aJ.wr _ _) fun _ _ I J=>VW J hu I
theorem Ps (hT:W told){n:Int}(s:Sat h (bM p δ::X::S))(hX:bX X (b5 x b))(hb:b.length<1073741824)(hf:δ.cn<4294967296)(hw:δ.waiting.length≤268435456):
  Call ⟨Tryz.prog,told⟩ 183 [.ptr p 0,.int .i64 n,x] h fun v h' =>
  (δ.dead=true∧v=.int .i64 9∧Sat h' (bM p δ::X::S)) ∨
  (δ.dead=false∧¬(0≤n∧n<δ.bD.length∧b.length=512)∧v=.int .i64 1∧Sat h' (bM p δ::X::S)) ∨
  (δ.dead=false∧0≤n∧n<δ.bD.length∧b.length=512∧δ.cn=0∧v=.int .i64 9∧Sat h' (bM p { δ.die with E5:=some (n.toNat,b) }::X::S)) ∨
  (δ.dead=false∧0≤n∧n<δ.bD.length∧b.length=512∧δ.cn≠0∧v=.int .i64 0∧Sat h' (bM p (δ.wr n b)::X::S)):=by
 have J:=s
 obtain⟨pg,wt,nw,lg,mk,tn,tl,ops,s⟩:=dg.1 s
 refine Call.of_wp (hT.free _ rfl) Tryz.func183 rfl rfl (zK 5 rfl (WP.block (zK 4 rfl (zf rfl (o8 _ _) ?_))))
 refine zd rfl (o_load rfl (s.ld (k:=0) rfl qn rfl)) ?_ ?_
 ·intro hd
  exact zk 7 rfl (WP.ret ⟨aa,_,rfl,.inl ⟨hd,rfl,J⟩⟩)
 ·intro hd
  refine zk 7 rfl (zc rfl (Pp hT J) ?_)
  rintro v h' ⟨rfl,(⟨BG,tJ,rfl⟩|⟨hn,rfl⟩)⟩
  ·skip
   refine zo rfl (eG rfl rfl) (zk 2 rfl (zo rfl (aC rfl rfl rfl (au ak (s.aq (k:=8) rfl hX))) ?_))
   refine zd rfl (az rfl rfl aN) ?_ ?_
   ·intro I
    have I:b.length≠512:=by simp at I;omega
    exact zk 8 rfl (WP.ret ⟨aa,_,rfl,.inr (.inl ⟨hd,fun q=>I q.2.2,rfl,J⟩)⟩)
   ·intro I
    have I:b.length=512:=by simp at I;omega
    refine zk 2 rfl (zv (zj rfl (WP.skip (zg rfl (zk 2 rfl (zc rfl (nG hT (J.ae [1]) hX hb) ?_))))))
    intro u h s
    obtain⟨lz,_,cap,_,rfl,_⟩:=s.dP (by omega)
    have s:=s.fD
    have YF:((n.toNat:Nat):Int)=n:=by omega
    refine zo rfl (cP rfl (by rw[aax];rfl)) ?_
    refine aA.cB s rfl rfl rfl (cF MR) (fun p7 h s => ?_)
    refine zS rfl (s.iK (j:=0) rfl MQ rfl rfl) (fun h s => ?_)
    refine zk 5 rfl (zc rfl (yV hT (s.ae [3]) hf) ?_)
    rintro v h (⟨h0,rfl,s⟩|⟨h0,rfl,s⟩)
    ·skip
     obtain⟨pg,wt,nw,lg,mk,tn,tl,ops,s⟩:=dg.1 s
     refine zo rfl (eG rfl rfl) (zk 6 rfl (zf rfl (Sg _ _) ?_))
     refine zS rfl (by exact s.lu (k:=0) rfl aat rfl (by decide) rfl rfl) (fun h s => ?_)
     dsimp only[Po,V.cells,List.length_cons,List.length_nil,Nat.reduceAdd,aT,bringA,List.take,List.drop,List.cons_append,List.nil_append,setA,List.set] at s
     refine zk 5 rfl (WP.ret ⟨aa,_,rfl,?_⟩)
     have s1:=s.ae [8,8,8]
     have s2:Sat h (Dj _ (some (n.toNat,b))::_):=iC.2 ⟨_,iC.2 ⟨_,cG.2 (pT.2 ⟨rfl,by rw[YF];exact s1⟩)⟩⟩
     have s3:=(s2.del 8).ae [2,2,2,2,2,2,0,1,0]
     exact .inr (.inr (.inl ⟨hd,BG,tJ,I,h0,rfl,dg.2 ⟨_,_,_,_,_,_,_,_,s3⟩⟩))
    ·skip
     obtain⟨pg,wt,nw,lg,mk,tn,tl,ops,s⟩:=dg.1 s
     dsimp only[Dk.fg] at s
     obtain⟨cs,sw⟩:=yU.1 (s.ae [2])
     have s:=sw.ae [2,8,0,0]
     dsimp only[Po,V.cells,List.length_cons,List.length_nil,Nat.reduceAdd,aT,bringA,List.take,List.drop,List.cons_append,List.nil_append,setA,getA] at s
     have J:=s
     have Dm:=(s.rQ (j:=2) rfl).2.2
     refine zo rfl (eG rfl rfl) (zk 4 rfl (WP.drawn [some (0,3),some (0,2),some (0,2),some (0,2),some (0,2),af,af,af,af,af,af] rfl (by kernel_rfl) (by kernel_rfl) ?_))
     refine zM rfl (zM rfl (zN rfl (zF rfl (EV _ _) (zL rfl (s.ld (k:=0) rfl MP rfl) (zL rfl (s.cg (k:=1) rfl aaw MQ) ?_)))))
     obtain⟨i1,eT,gC,om⟩:=VZ
     obtain⟨sv,h1,e1,s1⟩:=jB (P:=Tryz.prog) (x:=.agg [.int .i64 n,.sl lz 0 b.length cap]) s Tryz.underlying169 MR MQ rfl (by decide) (by decide) rfl rfl
     dsimp only[V.cells] at s1
     refine aE.any rfl rfl rfl rfl (OpR.of (R:=fun v h'=>v=sv∧h'=h1) (gI rfl e1) ⟨rfl,rfl⟩) ?_
     rintro v h' ⟨rfl,rfl⟩
     have ff:cs.length=δ.waiting.length*2:=by
      obtain⟨a,b,q1,q2,q3⟩:=s.at (k:=3) rfl
      exact VX q3
     obtain⟨wt',h2,e2,s2⟩:=gK (s1.ae [3,0]) Tryz.underlying169 eT MR gC (by omega) rfl (by decide) (by simp only[V.cells,aZ,bI];omega)
     dsimp only[aT,bringA] at s2
     refine aE.any rfl rfl rfl rfl (OpR.of (R:=fun v h'=>v=wt'∧h'=h2) (iG rfl rfl e2) ⟨rfl,rfl⟩) ?_
     rintro v h' ⟨rfl,rfl⟩
     have hv:=s2.rQ (j:=0) rfl
     refine zN rfl (zF rfl (EV _ _) (aE.mS rfl rfl rfl (OpR.F6 rfl rfl rfl (s2.lu (k:=2) rfl aas rfl (by decide) hv.1 hv.2.1)) ?_))
     rintro v h ⟨rfl,s⟩
     dsimp only[Nat.reduceAdd,List.set,setA] at s
     refine aE.nil ⟨⟨fun _ _=>.inr ⟨rfl,⟨_,bV rfl⟩,bj _ rfl⟩,fun _ _=>.inr ⟨rfl,⟨_,bV rfl⟩,bj _ rfl⟩,fun _ _=>.inr ⟨rfl,⟨_,su rfl⟩,bj _ rfl⟩,fun _ _=>.inr ⟨rfl,⟨_,lU rfl (EV _ _)⟩,bj _ rfl⟩,ga (.inr ⟨rfl,⟨_,o_load rfl (J.ld (k:=0) rfl MP rfl)⟩,Dm⟩) (.inr ⟨rfl,⟨_,o_load rfl (s1.ld (k:=1) rfl MP rfl)⟩,Dm⟩),aa,aa,aa,aa,aa,aa,aa⟩,?_⟩
     refine zw (WP.drawn [af,af,af,af,af,af,af,af] rfl (by kernel_rfl) (by kernel_rfl) ?_)
     refine zM rfl (zN rfl (zF rfl (K5 _ _) (zL rfl (s.ld (k:=2) rfl oB rfl) (zM rfl (zF rfl (VQ _ _) (zL rfl (s.ld (k:=3) rfl ah rfl) (aE.mS rfl rfl rfl (OpR.mapUpdate rfl rfl rfl rfl (mo (f:=fun v b=>aI.bK v b) (x:=b) (fun _ _=>aJ.bK _ _) (((s.ae [11]).dup (aJ.bK _ _)).ae [0,7]) rD bP)) ?_)))))))
     intro v h s
     dsimp only[aT,bringA] at s
     refine aE.nil ⟨⟨aa,aa,aa,aa,aa,aa,aa,aa,aa⟩,?_⟩
     refine zK 4 rfl (WP.ret ⟨aa,_,rfl,?_⟩)
     have s1:=(s.ae [1,5]).YE (x:=(n.toNat,b)) (by simp)
     rw[YF] at s1
     have s2:=((yU.2 ⟨_,s1.ae [2,0]⟩).del 4).del 2
     exact .inr (.inr (.inr ⟨hd,BG,tJ,I,h0,rfl,dg.2 ⟨_,_,_,_,_,_,_,_,s2.ae [2,2,0,0,0,0,0,0,0]⟩⟩))
  ·skip
   exact zo rfl (eG rfl rfl) (zk 12 rfl (WP.ret ⟨aa,_,rfl,.inr (.inl ⟨hd,fun q=>hn ⟨q.1,q.2.1⟩,rfl,J⟩)⟩))
theorem V0 (J:W told)(s:Sat h (bM p δ::S))(hl:δ.log.length<1073741824): Call ⟨Tryz.prog,told⟩ 177 [.ptr p 0] h fun v h' =>
  (δ.dead=true∧v=.aW [.aV,.int .i64 9]∧Sat h' (bM p δ::S))∨(δ.dead=false∧∃b,v=.aW [b,.int .i64 0]∧Sat h' (aQ b δ.log::bM p δ::S)):=by
 have s0:=s
 obtain⟨pg,wt,nw,lg,mk,tn,tl,ops,s⟩:=dg.1 s
 refine Call.of_wp (J.free _ rfl) Tryz.func177 rfl rfl (zK 10 rfl (zf rfl (o8 _ _) ?_))
 refine zd rfl (o_load rfl (s.ld (k:=0) rfl qn rfl)) ?_ ?_
 ·intro I
  exact zk 7 rfl (WP.ret ⟨aa,_,rfl,.inl ⟨I,rfl,s0⟩⟩)
 ·intro I
  refine zk 7 rfl (zY s 0 vW ah rfl (zc rfl (nG J (s.ae [4]) (aK _ _) hl) ?_))
  intro v h s
  exact zk 3 rfl (WP.ret ⟨aa,_,rfl,.inr ⟨I,v,rfl,(dg.2 ⟨pg,wt,nw,lg,mk,tn,tl,ops,s.ae [2,2,2,2,1,1,1,1,0]⟩).ae [1]⟩⟩)
theorem M5 (J:W told)(s:Sat h (bM p δ::S))(hl:δ.mark.length≤64): Call ⟨Tryz.prog,told⟩ 176 [.ptr p 0] h fun v h' =>
  (δ.dead=true∧v=.aW [.aV,.int .i64 9]∧Sat h' (bM p δ::S))∨(δ.dead=false∧∃b,v=.aW [b,.int .i64 0]∧Sat h' (aQ b δ.mark::bM p δ::S)):=by
 have s0:=s
 obtain⟨pg,wt,nw,lg,mk,tn,tl,ops,s⟩:=dg.1 s
 refine Call.of_wp (J.free _ rfl) Tryz.func176 rfl rfl (zK 10 rfl (zf rfl (o8 _ _) ?_))
 refine zd rfl (o_load rfl (s.ld (k:=0) rfl qn rfl)) ?_ ?_
 ·intro I
  exact zk 7 rfl (WP.ret ⟨aa,_,rfl,.inl ⟨I,rfl,s0⟩⟩)
 ·intro I
  refine zk 7 rfl (zY s 0 VN ah rfl (zc rfl (nG J (s.ae [5]) (aY _ _) (by omega)) ?_))
  intro v h s
  exact zk 3 rfl (WP.ret ⟨aa,_,rfl,.inr ⟨I,v,rfl,(dg.2 ⟨pg,wt,nw,lg,mk,tn,tl,ops,s.ae [2,2,2,2,2,1,1,1,0]⟩).ae [1]⟩⟩)
def Dk.fresh (bD room:Nat): Dk:={ room:=room,bD:=List.replicate bD none,waiting:=[],now:=[],log:=[],fG:=0,mark:=[],cn := -1,dead:=false,E5:=none,tail:=[] }
theorem V1 : ∃i,Tryz.prog.info? 29=some i∧i.size=1∧i.bytes=24 :=
 ⟨_,(show Tryz.prog.info? 29=some ((Tryz.prog.info? 29).getD default) by kernel_rfl),by kernel_rfl,by kernel_rfl⟩
theorem J8 (v:V): ∀n:Nat,repeatL [v] n=List.replicate n v:=by
 intro n
 induction n with
 |zero=>rfl
 |succ n I=>simp only[repeatL,I,Ei,g9,cO]
theorem Pt {a b:PM}: ∀n:Nat,(each v7 (List.replicate n .aV) (List.replicate n none)).p a b:=by
 intro n
 induction n with
 |zero=>trivial
 |succ n I=>exact⟨rfl,I⟩
theorem Sx (hT:W told){m:Nat}(s:Sat h S)(hn:n<1073741824): Call ⟨Tryz.prog,told⟩ 112 [.int .i64 (n:Int),.int .i64 (m:Int)] h fun v h'=>∃p,v=.ptr p 0∧Sat h' (bM p (Dk.fresh n m)::S):=by
 refine Call.of_wp (hT.free _ rfl) Tryz.func112 rfl rfl (zK 8 rfl ?_)
 obtain⟨i1,I,J,om⟩:=V1
 obtain⟨id,h1,e1,s1⟩:=F9 (P:=Tryz.prog) s bh I k8 J (by omega) rfl (by decide) hn
 refine aA.any rfl rfl rfl (OpR.of (R:=fun v h'=>v=.sl id 0 n (.exact n)∧h'=h1) (wQ rfl rfl e1) ⟨rfl,rfl⟩) ?_
 rintro v h ⟨rfl,rfl⟩
 have s:=s1
 dsimp only[V.cells] at s
 rw[cz,J8] at s
 refine aA.yK s rfl rfl rfl rfl (fun p8 h s => ?_)
 refine zo rfl (cP rfl (by rw[aau];rfl)) ?_
 refine aA.cB s rfl rfl rfl (fH rfl rfl) (fun p10 h s => ?_)
 refine zk 2 rfl (WP.ret ⟨aa,_,rfl,?_⟩)
 have s:=(oE (f:=fun v b=>aI.bK v b) (s.ae [1]))
 have s:=s.qT.qT.rA
 have s:Sat _ (A_ .aV []::_):=yU.2 ⟨[],(s.fq (φ:=True) aa).kS⟩
 have s:Sat _ (Dj .cU none::_):=s.fq rfl
 have s:=s.ae [6,6]
 have hp:Sat _ (oh (.sl id 0 n (.exact n)) (List.replicate n none)::_):=p_.2 ⟨id,List.replicate n .aV,by rw[fc],by
  rw[fc]
  exact(((s.ae [1]).fq (φ:=True) aa).dG fun a b _=>Pt n).ae [1]⟩
 dsimp only[V.cells,List.take,List.length_cons,List.length_nil,Nat.reduceAdd,List.drop,List.cons_append,List.nil_append,aT,bringA,getA] at hp
 exact⟨_,rfl,dg.2 ⟨_,_,_,_,_,_,_,_,hp.ae [1,0,1,4,1,1,0,0]⟩⟩
theorem V2 (hT:W told){n m:Int}(s:Sat h S): Call ⟨Tryz.prog,told⟩ 94 [.int .i64 n,.int .i64 m] h fun v h' =>
  (¬(1≤n∧n≤65536∧0≤m∧m≤16777216)∧v=.aW [.cU,.int .i64 1]∧Sat h' S) ∨
  (1≤n∧n≤65536∧0≤m∧m≤16777216∧∃p,v=.aW [.ptr p 0,.int .i64 0]∧Sat h' (bM p (Dk.fresh n.toNat m.toNat)::S)):=by
 refine Call.of_wp (hT.free _ rfl) Tryz.func94 rfl rfl (zK 9 rfl ?_)
 refine zd rfl (az rfl rfl aL) ?_ ?_
 ·intro hq
  have hq:n<1:=by simpa using hq
  exact zk 19 rfl (WP.ret ⟨aa,_,rfl,.inl ⟨fun q=>by omega,rfl,s⟩⟩)
 ·intro hq
  have hq:1≤n:=by simpa using hq
  refine zk 2 rfl ?_
  refine zd rfl (az rfl rfl cL) ?_ ?_
  ·intro I
   have I:65536<n:=by simpa using I
   exact zk 16 rfl (WP.ret ⟨aa,_,rfl,.inl ⟨fun q=>by omega,rfl,s⟩⟩)
  ·intro I
   have I:n≤65536:=by simpa using I
   refine zk 3 rfl ?_
   refine zd rfl (az rfl rfl aL) ?_ ?_
   ·intro J
    have J:m<0:=by simpa using J
    exact zk 12 rfl (WP.ret ⟨aa,_,rfl,.inl ⟨fun q=>by omega,rfl,s⟩⟩)
   ·intro J
    have J:0≤m:=by simpa using J
    refine zk 3 rfl ?_
    refine zd rfl (az rfl rfl cL) ?_ ?_
    ·intro o_
     have o_:16777216<m:=by simpa using o_
     exact zk 8 rfl (WP.ret ⟨aa,_,rfl,.inl ⟨fun q=>by omega,rfl,s⟩⟩)
    ·intro o_
     have o_:m≤16777216:=by simpa using o_
     refine zk 8 rfl ?_
     obtain⟨n,rfl⟩:∃k:Nat,n=k:=⟨n.toNat,by omega⟩
     obtain⟨m,rfl⟩:∃k:Nat,m=k:=⟨m.toNat,by omega⟩
     refine zc rfl (Sx hT s (by omega)) ?_
     rintro v h ⟨p,rfl,s⟩
     exact zk 3 rfl (WP.ret ⟨aa,_,rfl,.inr ⟨hq,I,J,o_,p,rfl,s⟩⟩)
end
def leN : List Nat→Nat
 |[]=>0
 |b::l=>b+256*leN l
theorem Sy : ∀(l:List Nat) (b:Nat),leN (l++[b])=leN l+b*256^l.length:=by
 intro l
 induction l with
 |nil=>intro b;simp[leN]
 |cons x l I=>intro b;simp only[g9,leN,I,aZ,Nat.pow_succ,Nat.mul_add];rw[←lK,Nat.mul_comm (256^l.length) 256,←Nat.mul_assoc b,Nat.mul_comm b 256,Nat.mul_assoc 256 b]
theorem Ip : ∀(l:List Nat),(∀b∈l,b<256)→leN l<256^l.length:=by
 intro l
 induction l with
 |nil=>intro _;simp[leN]
 |cons x l I =>
  intro h
  have h1:=I (fun b J=>h b (bR _ J))
  have h2:=h x bO
  simp only[leN,aZ,Nat.pow_succ]
  omega
theorem Iq (i:Nat): (256:Nat)^i=2^(8*i):=by rw[Nat.pow_mul]
theorem abR {x:Operand}(hd:d<256)(hi:i≤7): binV P h .shl t x y (.int .u64 (d:Int)) (.int .i64 (8*(i:Int)))=some (.int .u64 ((d*256^i:Nat):Int)):=by
 have J:(256:Nat)^i≤256^7:=vn (by omega) hi
 have I:d*256^i<18446744073709551616:=by
  have:d*256^i≤255*256^7:=oN (by omega) J
  omega
 simp only[binV,shiftV,IntKind.bits]
 have e:(8*(i:Int)).toNat=8*i:=by omega
 rw[e,show min (8*i) 64=8*i by omega,show decide (8*(i:Int)<0)=false by simp;omega,aS]
 have:(d:Int)*2^(8*i)=((d*256^i:Nat):Int):=by rw[Iq];push_cast;rfl
 simp only[this,wrap_u64 I]
theorem or8 {x:Operand}(I:a<256^i)(hd:d<256)(hi:i≤7): binV P h .or t x y (.int .u64 (a:Int)) (.int .u64 ((d*256^i:Nat):Int))=some (.int .u64 ((a+d*256^i:Nat):Int)):=by
 have J:(256:Nat)^i≤256^7:=vn (by omega) hi
 have hm:d*256^i≤255*256^7:=oN (by omega) J
 have h1:((a:Int)%(2^(IntKind.u64).bits:Int)).toNat=a:=by simp only[IntKind.bits];omega
 have h2:(((d*256^i:Nat):Int)%(2^(IntKind.u64).bits:Int)).toNat=d*256^i:=by simp only[IntKind.bits];omega
 have h3:Nat.lor a (d*256^i)=a+d*256^i:=by
  have e:d*256^i=2^(8*i)*d:=by rw[←Iq,Nat.mul_comm]
  have:=Nat.two_pow_add_eq_or_of_lt (i:=8*i) (b:=a) (by rw[←Iq];exact I) d
  rw[←e] at this
  rw[Nat.add_comm a,this]
  exact Nat.or_comm _ _
 simp only[binV,ikBeq,ag,intV,bitsV,h1,h2,h3]
 rw[wrap_u64 (by omega)]
section
variable {told:cy} {v:V}
noncomputable def wdL : Code:=cE [1,1,0,1,0,0] ((Tryz.f110.body).getD .skip)
theorem Pu (hv:View h v l)(hl:l.length≤8): ∀(j i:Nat) (E:List (Nat×V)) (Q:Ex→List (Nat×V)→H→Prop),i+j=l.length →
  Has E [(3,.int .u64 (leN (l.take i))),(6,v),(7,.int .i64 l.length),(8,.int .i64 i)]→(∀E',look E' 3=some (.int .u64 (leN l))→Q (.exit 0) E' h)→WP ⟨Tryz.prog,told⟩ 22 (.loop wdL) E h Q:=by
 intro j
 induction j with
 |zero =>
  intro i E Q hi hE hq
  refine WP.loop (WP.has hE (zg rfl (zC rfl aL (by simp;omega) ?_)))
  refine zk 3 rfl (WP.exit (hq _ ?_))
  rw[gd (by omega)]
  rfl
 |succ j ih =>
  intro i E Q hi hE hq
  have J:l[i]?=some (l[i]'(by omega)):=aG _
  generalize ON:(l[i]'(by omega))=b at J
  have I:b<256:=hv.1 b (aR J)
  obtain⟨id,off,e1,e2⟩:=c7 hv J
  have ht:l.take (i+1)=l.take i++[b]:=by rw[mI,J];rfl
  have cV:leN (l.take i)<256^i:=by
   have:=Ip (l.take i) (fun x hx=>hv.1 x (iA hx))
   rwa [cj,vC (by omega)] at this
  refine WP.loop (WP.has hE (zg rfl (zB rfl aL (by simp;omega) ?_)))
  refine zk 5 rfl (WP.block (zK 3 rfl (zo rfl (bx (r:=.ptr id off) rfl rfl e1) (zl rfl e2 (zk 6 rfl (zo rfl (b8 rfl (by exact jN Tryz.underlying5 dQ (gY (by omega) (by omega)))) ?_))))))
  refine zm rfl (zb rfl (by exact jq (ay (by omega) (by omega))) ?_)
  refine zb rfl (abR I (by omega)) ?_
  refine zb rfl (or8 cV I (by omega)) ?_
  refine za rfl (zv (zr rfl (zb rfl (by exact aO (ay (by omega) (by omega))) ?_)))
  refine zm rfl (zv ?_)
  refine ih (i+1) _ _ (by omega) ?_ hq
  rw[ht,Sy,cj,vC (by omega)]
  exact⟨rfl,rfl,rfl,rfl,aa⟩
theorem E6 (J:W told)(s:Sat h S)(hk:getA S k=some X)(hX:bX X (b5 v l))(hl:l.length≤8): Call ⟨Tryz.prog,told⟩ 110 [v] h fun r h'=>r=.int .u64 (leN l)∧h'=h:=by
 have hv:=s.aq hk hX
 refine Call.of_wp (J.free _ rfl) Tryz.func110 rfl rfl (zK 12 rfl (zo rfl (aC rfl rfl rfl (au ak hv)) (zk 2 rfl (WP.block ?_))))
 refine Pu hv hl l.length 0 _ _ (by omega) ⟨rfl,rfl,rfl,rfl,aa⟩ (fun E' I => ?_)
 exact WP.has (F:=[(3,.int .u64 (leN l))]) ⟨I,aa⟩ (zK 5 rfl (WP.ret ⟨aa,_,rfl,rfl,rfl⟩))
theorem UB (I:W told)(s:Sat h S)(J:getA S k=some X)(hX:bX X (b5 v l))(hl:l.length≤4611686018427387904): Call ⟨Tryz.prog,told⟩ 200 [v] h fun r h'=>r=.int .u32 (Dl 0 l:Nat)∧h'=h:=by
 refine Call.of_wp (I.free _ rfl) Tryz.func200 rfl rfl (zK 7 rfl (zc rfl (VY (s:=0) I s J hX (by decide) hl) ?_))
 rintro v h' ⟨rfl,rfl⟩
 exact zk 2 rfl (WP.ret ⟨aa,_,rfl,rfl,rfl⟩)
def c9 (l:List Nat)(a z:Nat): Nat:=leN ((l.take (a+z)).drop a)
theorem tK (hT:W told){a z:Int}(s:Sat h S)(J:getA S k=some X)(hX:bX X (b5 v l))(ha:0≤a)(hz:1≤z)(Ir:z≤7)(hl:a+z≤l.length)(iq:l.length≤65536):
  Call ⟨Tryz.prog,told⟩ 186 [.agg [v],.int .i64 a,.int .i64 z] h fun r h'=>r=.int .i64 (c9 l a.toNat z.toNat)∧Sat h' S:=by
 have hv:=s.aq J hX
 obtain⟨pi,po,pc,rfl⟩:=gp hv (by omega)
 refine Call.of_wp (hT.free _ rfl) Tryz.func186 rfl rfl (zg rfl ?_)
 refine aA.cB s rfl rfl rfl (fH rfl rfl) (fun p3 h s => ?_)
 refine zk 4 rfl (zY s 0 dZ ah rfl (zk 3 rfl (zb rfl (by exact aO (ay (by omega) (by omega))) ?_)))
 refine zk 2 rfl (zb rfl (by exact aO (ay (by omega) (by omega))) ?_)
 have iI:=qU (s.aq (jA J) hX) (a:=a.toNat) (b:=(a+z).toNat) (c:=(a+z).toNat) (by omega) (by omega) (by omega) (by omega)
 refine zo rfl (bS (p:=some (.int .i64 a)) (q:=some (.int .i64 (a+z))) (m:=some (.int .i64 (a+z))) rfl rfl rfl rfl (b9 ha) (b9 (by omega)) (b9 (by omega)) iI) ?_
 have hlen:((l.take (a+z).toNat).drop a.toNat).length=z.toNat:=by simp;omega
 refine zc rfl (E6 hT s (jA J) (yQ hX (a:=a.toNat) (b:=(a+z).toNat) (c:=(a+z).toNat) (by omega) (by omega) (by omega) (by omega)) (by omega)) ?_
 rintro r h' ⟨rfl,rfl⟩
 have I:=Ip ((l.take (a+z).toNat).drop a.toNat) (fun x hx=>hv.1 x (iA (gF hx)))
 have hp:256^z.toNat≤256^7:=vn (by omega) (by omega)
 rw[hlen] at I
 have e:(a+z).toNat=a.toNat+z.toNat:=by omega
 rw[e] at I ⊢
 refine zo rfl (b8 rfl (by exact jN dQ bP (ay (by omega) (by omega)))) ?_
 exact zk 2 rfl (WP.ret ⟨aa,_,rfl,rfl,s.drop⟩)
theorem Dn (I:∀b∈l,b<256): c9 l a z<256^z:=by
 have:=Ip ((l.take (a+z)).drop a) (fun x J=>I x (iA (gF J)))
 have h2:((l.take (a+z)).drop a).length≤z:=by simp;omega
 exact iZ this (vn (by omega) h2)
def jf (l:List Nat): Nat:=c9 l 14 2
def dw (l:List Nat): Nat:=c9 l 16 2
def bu (l:List Nat)(i:Nat): Nat:=c9 l (26+4*i) 2
def dR (l:List Nat)(i:Nat): Nat:=c9 l (26+4*i+2) 2
theorem fJ (I:W told)(s:Sat h S)(J:getA S k=some X)(hX:bX X (b5 v l))(hl:l.length=512):
  Call ⟨Tryz.prog,told⟩ 120 [.agg [v]] h fun r h'=>r=.int .i64 (jf l)∧Sat h' S:=by
 have hv:=s.aq J hX
 obtain⟨pi,po,pc,rfl⟩:=gp hv (by omega)
 refine Call.of_wp (I.free _ rfl) Tryz.func120 rfl rfl (zg rfl ?_)
 refine aA.cB s rfl rfl rfl (fH rfl rfl) (fun p1 h s => ?_)
 refine zk 4 rfl (zl rfl (s.cg (k:=0) rfl br aU) (zc rfl (tK I s (jA J) hX (by decide) (by decide) (by decide) (by omega) (by omega)) ?_))
 rintro r h' ⟨rfl,s⟩
 exact zk 2 rfl (WP.ret ⟨aa,_,rfl,rfl,s.drop⟩)
theorem yW (I:W told)(s:Sat h S)(J:getA S k=some X)(hX:bX X (b5 v l))(hl:l.length=512):
  Call ⟨Tryz.prog,told⟩ 124 [.agg [v]] h fun r h'=>r=.int .i64 (dw l)∧Sat h' S:=by
 have hv:=s.aq J hX
 obtain⟨pi,po,pc,rfl⟩:=gp hv (by omega)
 refine Call.of_wp (I.free _ rfl) Tryz.func124 rfl rfl (zg rfl ?_)
 refine aA.cB s rfl rfl rfl (fH rfl rfl) (fun p1 h s => ?_)
 refine zk 4 rfl (zl rfl (s.cg (k:=0) rfl br aU) (zc rfl (tK I s (jA J) hX (by decide) (by decide) (by decide) (by omega) (by omega)) ?_))
 rintro r h' ⟨rfl,s⟩
 exact zk 2 rfl (WP.ret ⟨aa,_,rfl,rfl,s.drop⟩)
end
def xN (t:List Bool): List V:=t.map V.bool
theorem V3 (t:List Bool)(k:Nat)(b:Bool): (xN t).set k (.bool b)=xN (t.set k b):=by simp[xN,AB]
theorem Lj {t:List Bool}(I:k<t.length): nth (xN t) k=some (.bool (t.getD k false)):=by
 rw[eX];simp[xN,aG I]
theorem Sz : zeroT Tryz.prog 257=some (.agg (xN (List.replicate 512 false))):=by kernel_rfl
def markL : Nat→Nat→List Bool→Option (List Bool)
 |0,_,t=>some t
 |n+1,k,t=>if t.getD k false then none else markL n (k+1) (t.set k true)
def cellsL (l:List Nat)(low:Nat): Nat→Nat→List Bool→Bool
 |0,_,_=>true
 |n+1,i,t=>if bu l i<low∨512<bu l i+dR l i then false else match markL (dR l i) (bu l i) t with
  |none=>false
  |some t'=>cellsL l low n (i+1) t'
def b7 (l:List Nat): Bool:=decide (l.length=512)&&(decide (l.getD 13 0=0)&&(decide (26+4*jf l≤dw l∧dw l≤512)&&cellsL l (dw l) (jf l) 0 (List.replicate 512 false)))
theorem Pv : ∀(n k:Nat) (t t':List Bool),markL n k t=some t'→t'.length=t.length:=by
 intro n
 induction n with
 |zero=>intro k t t' h;simp only[markL] at h;injection h with h;subst h;rfl
 |succ n I =>
  intro k t t' h
  simp only[markL] at h
  split at h
  ·cases h
  ·have:=I _ _ _ h;simpa using this
section
variable {told:cy} {v:V}
theorem qF (I:W told)(s:Sat h S)(J:getA S k=some X)(hX:bX X (b5 v l))(hl:l.length=512)(hi:30+4*i≤512):
  Call ⟨Tryz.prog,told⟩ 121 [.agg [v],.int .i64 (i:Int)] h fun r h'=>r=.aW [.int .i64 (bu l i),.int .i64 (dR l i)]∧Sat h' S:=by
 have hv:=s.aq J hX
 obtain⟨pi,po,pc,rfl⟩:=gp hv (by omega)
 have e1:(26+4*(i:Int)).toNat=26+4*i:=by omega
 have e2:(26+4*(i:Int)+2).toNat=26+4*i+2:=by omega
 refine Call.of_wp (I.free _ rfl) Tryz.func121 rfl rfl (zg rfl ?_)
 refine aA.cB s rfl rfl rfl (fH rfl rfl) (fun p2 h s => ?_)
 refine zk 6 rfl (zb rfl (by exact jq (ay (by omega) (by omega))) ?_)
 refine zb rfl (by exact aO (ay (by omega) (by omega))) ?_
 refine zk 3 rfl ?_
 have s0:=s
 refine WP.drawn [af,af,af,some (0,2),some (0,2),some (0,2),af,af,af] rfl (by kernel_rfl) (by kernel_rfl) ?_
 refine zL rfl (s.cg (k:=0) rfl br aU) (zM rfl (aE.any rfl rfl rfl rfl (OpR.call rfl rfl rfl rfl (tK I s (jA J) hX (by omega) (by decide) (by decide) (by omega) (by omega))) ?_))
 rintro r h' ⟨rfl,s⟩
 rw[e1]
 have s1:=s
 refine zL rfl (s.cg (k:=0) rfl br aU) (zM rfl (zO rfl (az rfl rfl (by exact aO (ay (by omega) (by omega)))) ?_))
 refine aE.any rfl rfl rfl rfl (OpR.call rfl rfl rfl rfl (tK I s (jA J) hX (by omega) (by decide) (by decide) (by omega) (by omega))) ?_
 rintro r h' ⟨rfl,s⟩
 rw[e2]
 refine zA rfl (zA rfl ?_)
 refine aE.nil ⟨⟨aa,aa,aa,ga (.inr ⟨rfl,⟨_,o_load rfl (s0.cg (k:=0) rfl br aU)⟩,bj _ rfl⟩) (.inr ⟨rfl,⟨_,o_load rfl (s1.cg (k:=0) rfl br aU)⟩,bj _ rfl⟩),fun _ _=>.inr ⟨rfl,⟨_,bV rfl⟩,bj _ rfl⟩,fun _ _=>.inr ⟨rfl,⟨_,az rfl rfl (by exact aO (ay (by omega) (by omega)))⟩,bj _ rfl⟩,aa,aa,aa,aa⟩,?_⟩
 refine WP.ret ⟨aa,_,rfl,?_⟩
 exact⟨rfl,s.drop⟩
noncomputable def gdO : Code:=cE [1,1,1,1,1,1,0,1,0,0] ((Tryz.f134.body).getD .skip)
noncomputable def gdI : Code:=cE [1,1,1,1,1,1,0,1,0,0,1,1,0,0,1,1,1,1,0,0] ((Tryz.f134.body).getD .skip)
theorem M6 {v3 v4 v5 v35 v36:V}(UC:a+z≤512): ∀(m q:Nat) (t:List Bool) (h:H) (E:List (Nat×V)) (Q:Ex→List (Nat×V)→H→Prop),q+m=a+z→t.length=512 →
  Sat h (pt p6 (.cells 512 (xN t) false)::S)→Has E [(3,v3),(4,v4),(5,v5),(6,.ptr p6 0),(8,.int .i64 (a:Int)),(9,.int .i64 (z:Int)),(10,.int .i64 (q:Int)),(35,v35),(36,v36)] →
  (markL m q t=none→∀E' h',look E' 2=some (.bool false)→Sat h' S→Q .ret E' h') →
  (∀t' E' h',markL m q t=some t'→Has E' [(3,v3),(4,v4),(5,v5),(6,.ptr p6 0),(35,v35),(36,v36)]→Sat h' (pt p6 (.cells 512 (xN t') false)::S)→Q (.exit 2) E' h') →
  WP ⟨Tryz.prog,told⟩ 68 (.loop gdI) E h Q:=by
 intro m
 induction m with
 |zero =>
  intro q t h E Q hq ht s hE J hx
  refine WP.loop (WP.has hE (zK 6 rfl (zb rfl (by exact aO (ay (by omega) (by omega))) ?_)))
  refine zC rfl aL (by simp;omega) ?_
  exact zk 2 rfl (WP.exit (hx t _ _ rfl ⟨rfl,rfl,rfl,rfl,rfl,rfl,aa⟩ s))
 |succ m ih =>
  intro q t h E Q hq ht s hE J hx
  have I:q<t.length:=by omega
  refine WP.loop (WP.has hE (zK 6 rfl (zb rfl (by exact aO (ay (by omega) (by omega))) ?_)))
  refine zB rfl aL (by simp;omega) ?_
  refine zk 4 rfl (WP.block (zK 4 rfl (zo rfl (bx (r:=.ptr p6 q) rfl rfl (by rw[Ux,show(decide ((0:Int)≤(q:Int))&&decide ((q:Int)<((512:Nat):Int)))=true by simp;omega,ag];simp)) ?_)))
  cases hm:t.getD q false with
  |true =>
   refine zt rfl (o_load rfl (s.ld (k:=0) rfl qn (Lj I))) (hm) (zk 6 rfl (WP.ret ?_))
   refine J ?_ _ _ rfl s.drop
   rw[markL,aH hm]
  |false =>
   refine zh rfl (o_load rfl (s.ld (k:=0) rfl qn (Lj I))) (hm) (zk 5 rfl (zo rfl (bx (r:=.ptr p6 q) rfl rfl (by rw[Ux,show(decide ((0:Int)≤(q:Int))&&decide ((q:Int)<((512:Nat):Int)))=true by simp;omega,ag];simp)) ?_))
   refine zS rfl (s.lu (k:=0) rfl BE (by simp[xN,ht]) (by omega) rfl rfl) ?_
   intro h s
   dsimp only[setA] at s
   rw[V3] at s
   refine zv (zr rfl (zm rfl (zb rfl (by exact aO (ay (by omega) (by omega))) ?_)))
   refine za rfl (zv ?_)
   have e:markL (m+1) q t=markL m (q+1) (t.set q true):=by rw[markL,ax (by rw[hm];decide)]
   rw[e] at J hx
   exact ih (q+1) (t.set q true) h _ Q (by omega) (by simp[ht]) s ⟨rfl,rfl,rfl,rfl,rfl,rfl,rfl,rfl,rfl,aa⟩ J hx
theorem M7 (hT:W told){p3:Nat}{low:Nat}(hX:bX X (b5 x l))(hl:l.length=512)(cV:∀b∈l,b<256)(FW:x.cells=[x])(hx2:storable x=true)(hn:n=jf l)(qa:26+4*n≤low)(adm:low≤512): ∀(m i:Nat) (t:List Bool) (h:H) (E:List (Nat×V)) (Q:Ex→List (Nat×V)→H→Prop),i+m=n→t.length=512 →
  Sat h (pt p6 (.cells 512 (xN t) false)::pt p3 (.cells 1 [x] false)::X::S)→Has E [(3,.ptr p3 0),(4,.int .i64 (n:Int)),(5,.int .i64 (low:Int)),(6,.ptr p6 0),(35,.int .i64 (n:Int)),(36,.int .i64 (i:Int))] →
  (cellsL l low m i t=false→∀E' h',look E' 2=some (.bool false)→Sat h' (X::S)→Q .ret E' h') →
  (cellsL l low m i t=true→∀E' h',Sat h' (X::S)→Q (.exit 0) E' h') →
  WP ⟨Tryz.prog,told⟩ 68 (.loop gdO) E h Q:=by
 intro m
 induction m with
 |zero =>
  intro i t h E Q hi ht s hE J hx
  refine WP.loop (WP.has hE (zg rfl (zC rfl aL (by simp;omega) ?_)))
  exact zk 3 rfl (WP.exit (hx rfl _ _ s.drop.drop))
 |succ m ih =>
  intro i t h E Q hi ht s hE J hx
  have hf:=Dn (l:=l) (a:=26+4*i) (z:=2) cV
  have hz:=Dn (l:=l) (a:=26+4*i+2) (z:=2) cV
  have ef:bu l i=c9 l (26+4*i) 2:=rfl
  have ez:dR l i=c9 l (26+4*i+2) 2:=rfl
  refine WP.loop (WP.has hE (zg rfl (zB rfl aL (by simp;omega) ?_)))
  refine zk 5 rfl (WP.block (zK 7 rfl (zl rfl (s.cg (k:=1) rfl br aU) (zm rfl (zc rfl (qF (i:=i) hT s (k:=2) rfl hX hl (by omega)) ?_)))))
  rintro r h' ⟨rfl,s⟩
  refine zk 11 rfl ?_
  refine zd rfl (az rfl rfl aL) ?_ ?_
  ·intro hq
   have hq:bu l i<low:=by simp at hq;omega
   refine zk 12 rfl (WP.ret ?_)
   refine J ?_ _ _ rfl s.drop.drop
   rw[cellsL,aH (.inl hq)]
  ·intro hq
   have hq:low≤bu l i:=by simp at hq;omega
   refine zk 3 rfl (zb rfl (by exact aO (ay (by omega) (by omega))) ?_)
   refine zd rfl (az rfl rfl cL) ?_ ?_
   ·intro I
    have I:512<bu l i+dR l i:=by simp at I;omega
    refine zk 7 rfl (WP.ret ?_)
    refine J ?_ _ _ rfl s.drop.drop
    rw[cellsL,aH (.inr I)]
   ·intro I
    have I:bu l i+dR l i≤512:=by simp at I;omega
    refine zk 9 rfl (WP.block ?_)
    have e:cellsL l low (m+1) i t=(match markL (dR l i) (bu l i) t with|none=>false|some t'=>cellsL l low m (i+1) t'):=by rw[cellsL,ax (by omega)]
    rw[e] at J hx
    refine M6 I (dR l i) (bu l i) t _ _ _ rfl ht s ⟨rfl,rfl,rfl,rfl,rfl,rfl,rfl,rfl,rfl,aa⟩ (fun hm E' h' h2 s' => ?_) (fun t' E' h' hm fh s' => ?_)
    ·rw[hm] at J
     exact J rfl _ _ h2 s'.drop
    ·rw[hm] at J hx
     refine WP.has fh (zr rfl (zb rfl (by exact aO (ay (by omega) (by omega))) ?_))
     refine zm rfl (zv ?_)
     exact ih (i+1) t' h' _ Q (by omega) (by rw[Pv _ _ _ _ hm,ht]) s' ⟨rfl,rfl,rfl,rfl,rfl,rfl,aa⟩ J hx
theorem Lk (hT:W told)(s:Sat h (X::S))(hX:bX X (b5 v l))(iq:l.length<9223372036854775808):
  Call ⟨Tryz.prog,told⟩ 134 [v] h fun r h'=>r=.bool (b7 l)∧Sat h' (X::S):=by
 have hv:=s.aq (k:=0) rfl hX
 refine Call.of_wp (hT.free _ rfl) Tryz.func134 rfl rfl (zK 8 rfl (zo rfl (aC rfl rfl rfl (au ak (s.aq (k:=0) rfl hX))) ?_))
 refine zd rfl (az rfl rfl aN) ?_ ?_
 ·intro hq
  have hq:l.length≠512:=by simp at hq;omega
  exact zk 12 rfl (WP.ret ⟨aa,_,rfl,by rw[b7,eM hq,kG],s⟩)
 ·intro hq
  have hq:l.length=512:=by simp at hq;omega
  have hb:l[13]?=some (l[13]'(by omega)):=aG _
  generalize ON:(l[13]'(by omega))=b at hb
  have xO:l.getD 13 0=b:=by rw[qv,hb];rfl
  obtain⟨id,off,e1,e2⟩:=c7 hv hb
  refine zk 2 rfl (zo rfl (bx (r:=.ptr id off) rfl rfl e1) (zl rfl e2 ?_))
  refine zd rfl (az rfl rfl aN) ?_ ?_
  ·intro I
   have I:b≠0:=by simp at I;omega
   exact zk 7 rfl (WP.ret ⟨aa,_,rfl,by rw[b7,dy hq,xO,eM I,kG,Bool.and_false],s⟩)
  ·intro I
   have I:b=0:=by simp at I;omega
   obtain⟨pi,po,pc,rfl⟩:=gp hv (by omega)
   refine zk 7 rfl (zo rfl (cP rfl (by rw[wV];rfl)) ?_)
   refine aA.cB s rfl rfl rfl (cF iJ) (fun p3 h s => ?_)
   refine zS rfl (s.iK (j:=0) rfl aU rfl rfl) (fun h s => ?_)
   refine zk 2 rfl ?_
   have s0:=s
   refine WP.drawn [none,none,some (0,2),af,af,af] rfl (by kernel_rfl) (by kernel_rfl) ?_
   refine zL rfl (s.cg (k:=0) rfl br aU) (aE.any rfl rfl rfl rfl (OpR.call rfl rfl rfl rfl (fJ hT s (k:=1) rfl hX hq)) ?_)
   rintro r h' ⟨rfl,s⟩
   have s1:=s
   refine zL rfl (s.cg (k:=0) rfl br aU) (aE.any rfl rfl rfl rfl (OpR.call rfl rfl rfl rfl (yW hT s (k:=1) rfl hX hq)) ?_)
   rintro r h' ⟨rfl,s⟩
   refine zA rfl (zA rfl ?_)
   refine aE.nil ⟨⟨aa,aa,ga (.inr ⟨rfl,⟨_,o_load rfl (s0.cg (k:=0) rfl br aU)⟩,bj _ rfl⟩) (.inr ⟨rfl,⟨_,o_load rfl (s1.cg (k:=0) rfl br aU)⟩,bj _ rfl⟩),aa,aa,aa,aa⟩,?_⟩
   have Hv:=Dn (l:=l) (a:=14) (z:=2) hv.1
   have xK:=Dn (l:=l) (a:=16) (z:=2) hv.1
   have ec:jf l=c9 l 14 2:=rfl
   have el:dw l=c9 l 16 2:=rfl
   refine zK 4 rfl (zb rfl (by exact jq (ay (by omega) (by omega))) ?_)
   refine zb rfl (by exact aO (ay (by omega) (by omega))) ?_
   refine zm rfl ?_
   refine zd rfl (az rfl rfl cL) ?_ ?_
   ·intro J
    have J:dw l<26+4*jf l:=by simp at J;omega
    exact zk 10 rfl (WP.ret ⟨aa,_,rfl,by rw[b7,dy hq,xO,dy I,eM (by omega:¬(26+4*jf l≤dw l∧dw l≤512))];rfl,s.drop⟩)
   ·intro J
    have J:26+4*jf l≤dw l:=by simp at J;omega
    refine zk 2 rfl ?_
    refine zd rfl (az rfl rfl cL) ?_ ?_
    ·intro o_
     have o_:512<dw l:=by simp at o_;omega
     exact zk 7 rfl (WP.ret ⟨aa,_,rfl,by rw[b7,dy hq,xO,dy I,eM (by omega:¬(26+4*jf l≤dw l∧dw l≤512))];rfl,s.drop⟩)
    ·intro o_
     have o_:dw l≤512:=by simp at o_;omega
     refine zk 6 rfl (aA.cB s rfl rfl rfl (cF Sz) ?_)
     intro p6 h s
     have Is:(xN (List.replicate 512 false)).length=512:=by rw[xN,cq,fc]
     dsimp only[V.cells] at s
     rw[Is] at s
     refine zk 7 rfl (WP.block ?_)
     have hg:b7 l=cellsL l (dw l) (jf l) 0 (List.replicate 512 false):=by
      rw[b7,dy hq,xO,dy I,dy (⟨J,o_⟩:26+4*jf l≤dw l∧dw l≤512)];rfl
     refine M7 hT hX hq hv.1 rfl rfl rfl J o_ (jf l) 0 (List.replicate 512 false) _ _ _ (by omega) fc s ⟨rfl,rfl,rfl,rfl,rfl,rfl,aa⟩ (fun hc E' h' h2 s' => ?_) (fun hc E' h' s' => ?_)
     ·rw[hg,hc]
      exact⟨aa,_,EP h2,rfl,s'⟩
     ·rw[hg,hc]
      exact WP.has (F:=[]) aa (zK 4 rfl (WP.ret ⟨aa,_,rfl,rfl,s'⟩))
end
section
variable {told:cy} {v:V}
theorem Dp (I:W told)(s:Sat h (aQ v l::S))(J:z≤8)(hl:l.length+z≤140737488355328):
  Call ⟨Tryz.prog,told⟩ 189 [v,.int .i64 (z:Int),.int .u64 (n:Int)] h fun r h'=>Sat h' (aQ r (l++le z n)::S) :=
 (Pm I.UA s.wf (s.buf (k:=0) rfl) J hl).mono fun _ _ ⟨h1,h2,h3⟩=>s.AV h2 h1 h3
theorem ng (hT:W told)(s:Sat h (aQ v l::S))(hz:1≤z)(Ir:z≤8)(hl:a+z≤l.length)(iq:l.length≤65536):
  Call ⟨Tryz.prog,told⟩ 130 [.agg [v],.int .i64 (a:Int),.int .i64 (z:Int),.int .u64 (n:Int)] h fun r h'=>r=.aW []∧Sat h' (aQ v (aF l a (le z n))::S):=by
 obtain⟨I,_,cap,_,rfl,_⟩:=s.dP (by omega)
 refine Call.of_wp (hT.free _ rfl) Tryz.func130 rfl rfl (zg rfl ?_)
 refine aA.cB s rfl rfl rfl (fH rfl rfl) (fun p4 h s => ?_)
 refine zv ?_
 have s0:=s
 refine WP.drawn [some (0,2),some (0,2),some (0,2),some (0,2),some (0,2),some (0,2),some (0,2),af,af,af,af] rfl (by kernel_rfl) (by kernel_rfl) ?_
 refine zF rfl (dZ _ _) (zL rfl (s.ld (k:=0) rfl ah rfl) (zM rfl (zM rfl (zM rfl (zO rfl (az rfl rfl (by exact aO (ay (by omega) (by omega)))) ?_)))))
 have ez:((a:Int)+(z:Int)).toNat=a+z:=by omega
 have ea:((a:Int)).toNat=a:=by omega
 refine zO rfl (bS (p:=some (.int .i64 (a:Int))) (q:=some (.int .i64 ((a:Int)+(z:Int)))) (m:=none) (p':=some a) (q':=some (a+z)) (m':=none) rfl rfl rfl rfl (by rw[b9 (by omega),ea]) (by rw[b9 (by omega),ez]) rfl (fI (s.buf (k:=1) rfl).view (by omega) hl).1) ?_
 refine zM rfl (zM rfl (aE.any rfl rfl rfl rfl (OpR.call rfl rfl rfl rfl (Dp hT s.rA Ir (by simp;omega))) ?_))
 intro u h s
 have s:=s.ae [1,1,0]
 dsimp only[List.nil_append,V.cells,List.length_cons,List.length_nil,Nat.reduceAdd,bringA,getA,aT] at s
 have s1:=s
 refine aE.any rfl rfl rfl rfl (OpR.aaL rfl (s.ae [1,1]) (aK _ _) rfl rfl rfl rfl (by omega) hl (by simp[dH];omega)) ?_
 intro r h s
 have hs:∃q c,slR (V.sl I 0 l.length cap) a (a+z)=.sl I q (a+z-a) c:=by
  cases cap with
  |exact c=>exact⟨_,_,rfl⟩
  |rest e alt=>exact⟨_,_,rfl⟩
 obtain⟨q,c,hs⟩:=hs
 have J:(slR (V.sl I 0 l.length cap) a (a+z)).beq (slR (V.sl I 0 l.length cap) a (a+z))=true:=by rw[hs];exact wS _ _ _ _
 refine aE.nil ⟨⟨fun _ _=>.inr ⟨rfl,⟨_,lU rfl (dZ _ _)⟩,bj _ rfl⟩,ga (.inr ⟨rfl,⟨_,o_load rfl (s0.ld (k:=0) rfl ah rfl)⟩,bj _ rfl⟩) (.inr ⟨rfl,⟨_,o_load rfl (s1.ld (k:=0) rfl ah rfl)⟩,bj _ rfl⟩),fun _ _=>.inr ⟨rfl,⟨_,bV rfl⟩,bj _ rfl⟩,fun _ _=>.inr ⟨rfl,⟨_,bV rfl⟩,bj _ rfl⟩,fun _ _=>.inr ⟨rfl,⟨_,bV rfl⟩,bj _ rfl⟩,fun _ _=>.inr ⟨rfl,⟨_,az rfl rfl (by exact aO (ay (by omega) (by omega)))⟩,bj _ rfl⟩,ga (.inr ⟨rfl,⟨_,bS (p:=some (.int .i64 (a:Int))) (q:=some (.int .i64 ((a:Int)+(z:Int)))) (m:=none) (p':=some a) (q':=some (a+z)) (m':=none) rfl rfl rfl rfl (by rw[b9 (by omega),ea]) (by rw[b9 (by omega),ez]) rfl (fI (s0.buf (k:=1) rfl).view (by omega) hl).1⟩,J⟩) (.inr ⟨rfl,⟨_,bS (p:=some (.int .i64 (a:Int))) (q:=some (.int .i64 ((a:Int)+(z:Int)))) (m:=none) (p':=some a) (q':=some (a+z)) (m':=none) rfl rfl rfl rfl (by rw[b9 (by omega),ea]) (by rw[b9 (by omega),ez]) rfl (fI (s1.buf (k:=1) rfl).view (by omega) hl).1⟩,J⟩),aa,aa,aa,aa,aa⟩,?_⟩
 refine⟨aa,_,rfl,rfl,?_⟩
 rw[show a+z-a=z by omega,gd (by rw[dH];omega)] at s
 exact(s.del 1).del 1
theorem rE (hT:W told)(s:Sat h (X::S))(hX:bX X (b5 v l))(J:l.length<9223372036854775808):
  Call ⟨Tryz.prog,told⟩ 185 [v] h fun r h'=>Sat h' (X::S)∧((b7 l=true∧r=.aW [.agg [v],.int .i64 0])∨(b7 l=false∧r=.aW [.agg [.aV],.int .i64 4])):=by
 have hv:=s.aq (k:=0) rfl hX
 refine Call.of_wp (hT.free _ rfl) Tryz.func185 rfl rfl (zg rfl ?_)
 refine aA.cB s rfl rfl rfl (cF iJ) (fun p2 h s => ?_)
 refine zk 6 rfl (zc rfl (Lk hT (s.ae [1]) hX J) ?_)
 rintro r h' ⟨rfl,s⟩
 cases hg:b7 l with
 |true =>
  have I:1≤l.length:=by
   have:l.length=512:=by simp only[b7,bF,i_] at hg;exact hg.1
   omega
  obtain⟨pi,po,pc,rfl⟩:=gp hv I
  refine zo rfl (eG rfl rfl) (zk 6 rfl (zo rfl (cP rfl (by rw[wV];rfl)) ?_))
  refine zS rfl (s.iK (j:=1) rfl aU rfl rfl) (fun h s => ?_)
  refine zk 2 rfl ?_
  refine WP.ret ⟨aa,_,G2 rfl (s.cg (k:=1) rfl br aU) rfl,?_⟩
  exact⟨s.del 1,.inl ⟨rfl,rfl⟩⟩
 |false =>
  refine zo rfl (eG rfl rfl) (zk 4 rfl (zo rfl (cP rfl (by rw[wV];rfl)) ?_))
  refine zS rfl (s.iK (j:=1) rfl aU rfl rfl) (fun h s => ?_)
  refine zk 2 rfl ?_
  refine WP.ret ⟨aa,_,G2 rfl (s.cg (k:=1) rfl br aU) rfl,?_⟩
  exact⟨s.del 1,.inr ⟨rfl,rfl⟩⟩
theorem iR (I:b7 l=true): l.length=512:=by simp only[b7,bF,i_] at I;exact I.1
theorem pn (hT:W told)(s:Sat h (X::S))(J:bX X (b5 v l))(iq:l.length<9223372036854775808):
  Call ⟨Tryz.prog,told⟩ 119 [v] h fun r h'=>(b7 l=true∧∃u,r=.aW [.agg [u],.int .i64 0]∧Sat h' (aQ u l::X::S))∨(b7 l=false∧r=.aW [.agg [.aV],.int .i64 4]∧Sat h' (X::S)):=by
 have hv:=s.aq (k:=0) rfl J
 refine Call.of_wp (hT.free _ rfl) Tryz.func119 rfl rfl (zg rfl ?_)
 refine aA.cB s rfl rfl rfl (cF iJ) (fun p2 h s => ?_)
 refine zk 5 rfl (zc rfl (rE hT (s.ae [1]) J iq) ?_)
 rintro r h' ⟨s,(⟨I,rfl⟩|⟨I,rfl⟩)⟩
 ·have YG:=iR I
  obtain⟨pi,po,pc,rfl⟩:=gp hv (by omega)
  refine zk 3 rfl ?_
  refine aA.cB s rfl rfl rfl (cF iJ) (fun p4 h s => ?_)
  refine zS rfl (s.iK (j:=0) rfl aU rfl rfl) (fun h s => ?_)
  refine zk 6 rfl (zC rfl aN (rfl) (zk 4 rfl ?_))
  have s0:=s
  refine WP.drawn [af,af,af,af,some (0,2),some (0,2),af,af,af,af] rfl (by kernel_rfl) (by kernel_rfl) ?_
  refine zF rfl (dZ _ _) (zL rfl (s.ld (k:=0) rfl ah rfl) (zO rfl (aC rfl rfl rfl (mP rfl ak)) (aE.any rfl rfl rfl rfl (OpR.rC rfl s rfl rfl rfl rfl (by omega)) ?_)))
  intro u h s
  have s:=s.ae [1,1,1,0]
  have s1:=s
  refine zF rfl (dZ _ _) (zL rfl (s.ld (k:=0) rfl ah rfl) (aE.any rfl rfl rfl rfl (OpR.lX rfl (s.ae [3,1]) J rfl rfl rfl rfl (by simp;omega)) ?_))
  intro u2 h s
  rw[cO] at s
  obtain⟨lz,_,cap,_,rfl,_⟩:=s.dP (by omega)
  have s2:=s
  refine zO rfl (cP rfl (by rw[wV];rfl)) ?_
  refine aE.mS rfl rfl rfl (OpR.F6 rfl rfl rfl (s.iK (j:=3) rfl aU rfl rfl)) ?_
  rintro w h ⟨rfl,s⟩
  have s3:=s
  refine zA rfl ?_
  refine aE.nil ⟨⟨aa,aa,aa,aa,fun _ _=>.inr ⟨rfl,⟨_,lU rfl (dZ _ _)⟩,bj _ rfl⟩,ga (.inr ⟨rfl,⟨_,o_load rfl (s0.ld (k:=0) rfl ah rfl)⟩,bj _ rfl⟩) (.inr ⟨rfl,⟨_,o_load rfl (s1.ld (k:=0) rfl ah rfl)⟩,bj _ rfl⟩),aa,aa,aa,aa,aa⟩,?_⟩
  refine WP.ret ⟨aa,_,G2 rfl (s.cg (k:=3) rfl br aU) rfl,?_⟩
  exact .inl ⟨I,_,rfl,(s.del 2).del 2⟩
 ·skip
  refine zk 3 rfl ?_
  refine aA.cB s rfl rfl rfl (cF iJ) (fun p4 h s => ?_)
  refine zS rfl (s.iK (j:=0) rfl aU rfl rfl) (fun h s => ?_)
  refine zk 6 rfl (zB rfl aN (rfl) (zk 4 rfl (zo rfl (cP rfl (by rw[wV];rfl)) ?_)))
  refine zm rfl ?_
  refine zS rfl (s.iK (j:=2) rfl aU rfl rfl) (fun h s => ?_)
  refine zk 2 rfl ?_
  refine WP.ret ⟨aa,_,G2 rfl (s.cg (k:=2) rfl br aU) rfl,?_⟩
  exact .inr ⟨I,rfl,(s.del 2).del 0⟩
def oF (l:List Nat)(n:Nat): List Nat:=aF l 4 (le 8 n)
def dK (l:List Nat)(n:Nat): List Nat:=aF (oF l n) 0 (le 4 (Dl 0 ((oF l n).drop 4)))
theorem wZ (I:l.length=512): (oF l n).length=512:=by rw[oF,bL (by rw[dH];omega),I]
theorem V4 (I:W told)(s:Sat h (X::S))(hX:bX X (b5 v l))(iq:l.length<9223372036854775808):
  Call ⟨Tryz.prog,told⟩ 151 [v,.int .u64 (n:Int)] h fun r h'=>(b7 l=true∧∃u,r=.aW [u,.int .i64 0]∧Sat h' (aQ u (dK l n)::X::S))∨(b7 l=false∧r=.aW [.aV,.int .i64 4]∧Sat h' (X::S)):=by
 refine Call.of_wp (I.free _ rfl) Tryz.func151 rfl rfl (zK 8 rfl (zc rfl (pn I s hX iq) ?_))
 rintro r h' (⟨hg,u,rfl,s⟩|⟨hg,rfl,s⟩)
 ·have J:=iR hg
  have yX:(oF l n).length=512:=wZ J
  obtain⟨lz,_,cap,_,rfl,_⟩:=s.dP (by omega)
  refine zk 3 rfl ?_
  refine aA.cB s rfl rfl rfl (cF iJ) (fun p6 h s => ?_)
  refine zS rfl (s.iK (j:=0) rfl aU rfl rfl) (fun h s => ?_)
  refine zk 6 rfl (zC rfl aN (rfl) (zk 5 rfl (zl rfl (s.cg (k:=0) rfl br aU) (zm rfl (zc rfl (ng (a:=4) (z:=8) I (s.ae [1]) (by decide) (by decide) (by omega) (by omega)) ?_)))))
  rintro r h' ⟨rfl,s⟩
  have s:=s.ae [1,0]
  have s:Sat _ (_::aQ _ (oF l n)::_):=s
  refine zk 2 rfl ?_
  have s0:=s
  have Ll:=(s.buf (k:=1) rfl).view.1
  have ec:(oF l n).length=l.length:=by omega
  rw[←ec] at *
  refine WP.drawn [some (0,2),af,af,af,af,af,af] rfl (by kernel_rfl) (by kernel_rfl) ?_
  refine zL rfl (s.cg (k:=0) rfl br aU) (zF rfl (dZ _ _) (zL rfl (s.ld (k:=0) rfl ah rfl) (zO rfl (bS (p:=some (.int .i64 4)) (q:=none) (m:=none) (p':=some 4) (q':=none) (m':=none) rfl rfl rfl rfl rfl rfl rfl (gJ (s.buf (k:=1) rfl).view (a:=4) (by omega)).1) ?_)))
  refine aE.any rfl rfl rfl rfl (OpR.call rfl rfl rfl rfl (UB I s (k:=1) rfl (Lc (aK _ _) (a:=4) (by omega)) (by simp;omega))) ?_
  rintro r h' ⟨rfl,rfl⟩
  have s1:=s
  have hc:=B4 (s:=0) (l:=(oF l n).drop 4) (by decide) (fun x hx=>Ll x (gF hx))
  refine aE.op rfl rfl rfl (by simp only[isEff,dQ]) (b8 rfl (by exact jN Tryz.underlying260 dQ (gY (by omega) (by omega)))) ?_
  refine aE.any rfl rfl rfl rfl (OpR.call rfl rfl rfl rfl (ng (a:=0) (z:=4) I (s.ae [1]) (by decide) (by decide) (by omega) (by omega))) ?_
  rintro r h ⟨rfl,s⟩
  have s:=s.ae [1,0]
  refine aE.nil ⟨⟨ga (.inr ⟨rfl,⟨_,o_load rfl (s0.cg (k:=0) rfl br aU)⟩,bj _ rfl⟩) (.inr ⟨rfl,⟨_,o_load rfl (s1.cg (k:=0) rfl br aU)⟩,bj _ rfl⟩),aa,aa,aa,aa,aa,aa,aa⟩,?_⟩
  exact zg rfl (zY s 0 dZ ah rfl (zk 3 rfl (WP.ret ⟨aa,_,rfl,.inl ⟨hg,_,rfl,s.drop⟩⟩)))
 ·skip
  refine zk 3 rfl ?_
  refine aA.cB s rfl rfl rfl (cF iJ) (fun p6 h s => ?_)
  refine zS rfl (s.iK (j:=0) rfl aU rfl rfl) (fun h s => ?_)
  exact zk 6 rfl (zB rfl aN (rfl) (zk 8 rfl (WP.ret ⟨aa,_,rfl,.inr ⟨hg,rfl,s.drop⟩⟩)))
theorem abS {d:TypeId}{x:Operand}{r:V}(I:bq E x=some v)(J:arrPtrV P d v=some r): opE P E h (.sliceToArrayPointer d x)=some (r,h):=by simp only[opE,jL,I,J,bB]
theorem V5 {cap:Cap}(hv:View h (.sl id off n cap) l)(I:isAggT P t=some true)(hs:bg P t=some l.length): loadV P h t (.ptr id off)=some (.agg (ofBytes l)):=by
 have:=hv.rdN
 obtain⟨rfl,J⟩:=this
 simp only[loadV,I,hs,J,fQ]
theorem GR : ∀(l m:List Nat),l.length=m.length→intsBeq .u8 (ofBytes l) (ofBytes m)=some (decide (l=m)):=by
 intro l
 induction l with
 |nil=>intro m hm;cases m with
  |nil=>rfl
  |cons x m=>simp at hm
 |cons x l J=>intro m hm;cases m with
  |nil=>simp at hm
  |cons y m =>
   have hi:=J m (by simpa using hm)
   simp only[ofBytes,jb] at hi ⊢
   simp only[intsBeq,ikBeq,jc,ag,hi,pX]
   by_cases I:x=y
   ·subst I;simp
   ·have:¬ ((x:Int)=(y:Int)):=by omega
    simp[this,I]
theorem SB : buildV Tryz.prog 269 []=some (.agg (ofBytes (List.replicate 512 0))):=by kernel_rfl
theorem UD {x:Operand}{m:List Nat}(hu:P.underlying t=some (.array n e))(he:P.underlying e=some (.int .u8))(hs:bg P e=some 1)(I:l.length=n)(hm:m.length=n):
  binV P h .eql t x y (.agg (ofBytes l)) (.agg (ofBytes m))=some (.bool (decide (l=m))):=by
 simp only[binV,eqArr,hu,he,hs,cQ,I,hm,jd,jc,ag]
 rw[GR l m (by omega)]
 rfl
def iL (l:List Nat): Int:=if l=List.replicate 512 0 then 0 else if b7 l=false then 4 else if c9 l 0 4≠Dl 0 (l.drop 4) then 8 else 0
theorem It (hT:W told)(s:Sat h (X::S))(J:bX X (b5 v l))(iq:l.length<9223372036854775808):
  Call ⟨Tryz.prog,told⟩ 149 [v] h fun r h'=>r=.int .i64 (iL l)∧Sat h' (X::S):=by
 have hv:=s.aq (k:=0) rfl J
 have hz:(List.replicate 512 0).length=512:=fc
 -- what follows when the page is no page of noughts
 refine Call.of_wp (hT.free _ rfl) Tryz.func149 rfl rfl (zK 8 rfl (zo rfl (aC rfl rfl rfl (au ak (s.aq (k:=0) rfl J))) ?_))
 refine zd rfl (az rfl rfl ej) ?_ ?_
 ·intro hq
  have hq:l.length=512:=by simp at hq;omega
  obtain⟨pi,po,pc,rfl⟩:=gp hv (by omega)
  refine zk 2 rfl (zo rfl (abS (r:=.ptr pi po) rfl (by simp only[arrPtrV,Ie];rw[hq];rfl)) ?_)
  refine zl rfl (V5 hv aaG (by rw[hq];exact aaF)) ?_
  refine zo rfl (cP rfl SB) ?_
  by_cases hn:l=List.replicate 512 0
  ·skip
   exact zB rfl (UD Ie Tryz.underlying5 K3 hq hz) (decide_eq_true hn) (zk 7 rfl (WP.ret ⟨aa,_,rfl,by rw[iL,aH hn],s⟩))
  ·skip
   refine zC rfl (UD Ie Tryz.underlying5 K3 hq hz) (decide_eq_false hn) (zk 7 rfl (zc rfl (rE hT s J iq) ?_))
   rintro r h' ⟨s,(⟨hg,rfl⟩|⟨hg,rfl⟩)⟩
   ·refine aA.op rfl rfl rfl (bV rfl) ?_
    refine zk 2 rfl ?_
    refine aA.cB s rfl rfl rfl (cF iJ) (fun p3 h s => ?_)
    dsimp only[V.cells,List.length_cons,List.length_nil,Nat.reduceAdd] at s
    refine zS rfl (s.iK (j:=0) rfl aU rfl rfl) (fun h s => ?_)
    dsimp only[setA] at s
    refine zk 3 rfl (WP.block (zK 3 rfl (zC rfl aN (rfl) (zk 4 rfl ?_))))
    have s0:=s
    refine WP.drawn [none,none,some (0,2),some (0,2),af,af,af,af] rfl (by kernel_rfl) (by kernel_rfl) ?_
    refine zL rfl (s.cg (k:=0) rfl br aU) (aE.any rfl rfl rfl rfl (OpR.call rfl rfl rfl rfl (tK hT s (k:=1) rfl J (by decide) (by decide) (by decide) (by omega) (by omega))) ?_)
    rintro r h' ⟨rfl,s⟩
    have s1:=s
    refine zM rfl (zO rfl (bS (p:=some (.int .i64 4)) (q:=none) (m:=none) (p':=some 4) (q':=none) (m':=none) rfl rfl rfl rfl rfl rfl rfl (gJ (s.aq (k:=1) rfl J) (a:=4) (by omega)).1) ?_)
    refine aE.any rfl rfl rfl rfl (OpR.call rfl rfl rfl rfl (UB hT s (k:=1) rfl (Lc J (a:=4) (by omega)) (by simp;omega))) ?_
    rintro r h' ⟨rfl,rfl⟩
    have hc:=B4 (s:=0) (l:=l.drop 4) (by decide) (fun x hx=>hv.1 x (gF hx))
    have hs:∃q c,slR (V.sl pi po l.length pc) 4 l.length=.sl pi q (l.length-4) c:=by
     cases pc with
     |exact c=>exact⟨_,_,rfl⟩
     |rest e alt=>exact⟨_,_,rfl⟩
    obtain⟨q,c,hs⟩:=hs
    have UE:(slR (V.sl pi po l.length pc) 4 l.length).beq (slR (V.sl pi po l.length pc) 4 l.length)=true:=by rw[hs];exact wS _ _ _ _
    refine aE.op rfl rfl rfl (by simp only[isEff,bP]) (b8 rfl (by exact jN Tryz.underlying260 bP (ay (by omega) (by omega)))) ?_
    by_cases I:c9 l 0 4=Dl 0 (l.drop 4)
    ·skip
     refine aE.rX rfl rfl rfl rfl (az rfl rfl aN) (by simp;exact_mod_cast I) ?_
     refine zA rfl ?_
     refine aE.nil ⟨⟨aa,aa,fun _ _=>.inr ⟨rfl,⟨_,bV rfl⟩,bj _ rfl⟩,ga (.inr ⟨rfl,⟨_,bS (p:=some (.int .i64 4)) (q:=none) (m:=none) (p':=some 4) (q':=none) (m':=none) rfl rfl rfl rfl rfl rfl rfl (gJ (s0.aq (k:=1) rfl J) (a:=4) (by omega)).1⟩,UE⟩) (.inr ⟨rfl,⟨_,bS (p:=some (.int .i64 4)) (q:=none) (m:=none) (p':=some 4) (q':=none) (m':=none) rfl rfl rfl rfl rfl rfl rfl (gJ (s1.aq (k:=1) rfl J) (a:=4) (by omega)).1⟩,UE⟩),aa,aa,aa,aa,aa⟩,?_⟩
     refine zj rfl (WP.skip (zg rfl (za rfl (zv ?_))))
     refine WP.ret ⟨aa,_,rfl,?_⟩
     exact⟨by rw[iL,ax hn,ax (by rw[hg];decide),ax (by simpa using I)],s.drop⟩
    ·skip
     refine aE.vV rfl rfl rfl rfl (az rfl rfl aN) (by simp;exact_mod_cast I) ?_
     refine zA rfl ?_
     refine aE.nil ⟨⟨aa,aa,fun _ _=>.inr ⟨rfl,⟨_,bV rfl⟩,bj _ rfl⟩,ga (.inr ⟨rfl,⟨_,bS (p:=some (.int .i64 4)) (q:=none) (m:=none) (p':=some 4) (q':=none) (m':=none) rfl rfl rfl rfl rfl rfl rfl (gJ (s0.aq (k:=1) rfl J) (a:=4) (by omega)).1⟩,UE⟩) (.inr ⟨rfl,⟨_,bS (p:=some (.int .i64 4)) (q:=none) (m:=none) (p':=some 4) (q':=none) (m':=none) rfl rfl rfl rfl rfl rfl rfl (gJ (s1.aq (k:=1) rfl J) (a:=4) (by omega)).1⟩,UE⟩),aa,aa,aa,aa,aa⟩,?_⟩
     exact zK 5 rfl (WP.ret ⟨aa,_,rfl,by rw[iL,ax hn,ax (by rw[hg];decide),aH I],s.drop⟩)
   ·skip
    refine zk 3 rfl ?_
    refine aA.cB s rfl rfl rfl (cF iJ) (fun p3 h s => ?_)
    refine zS rfl (s.iK (j:=0) rfl aU rfl rfl) (fun h s => ?_)
    exact zk 3 rfl (WP.block (zK 3 rfl (zB rfl aN (rfl) (zk 8 rfl (WP.ret ⟨aa,_,rfl,by rw[iL,ax hn,aH hg],s.drop⟩)))))
 ·intro hq
  have hq:l.length≠512:=by simp at hq;omega
  have hn:l≠List.replicate 512 0:=fun e=>hq (by rw[e,hz])
  have hg:b7 l=false:=by rw[b7,eM hq,kG]
  refine zk 13 rfl (zc rfl (rE hT s J iq) ?_)
  rintro r h' ⟨s,(⟨H8,rfl⟩|⟨_,rfl⟩)⟩
  ·rw[hg] at H8;cases H8
  ·refine aA.op rfl rfl rfl (bV rfl) ?_
   refine zk 2 rfl ?_
   refine aA.cB s rfl rfl rfl (cF iJ) (fun p3 h s => ?_)
   refine zS rfl (s.iK (j:=0) rfl aU rfl rfl) (fun h s => ?_)
   exact zk 3 rfl (WP.block (zK 3 rfl (zB rfl aN (rfl) (zk 8 rfl (WP.ret ⟨aa,_,rfl,by rw[iL,ax hn,aH hg],s.drop⟩)))))
theorem rF {b:Nat}(hv:View h v l)(hb:l[i]?=some b)(he:indexAddrV Tryz.prog 29 v (.int .i64 (i:Int))=some (.ptr id off)): loadV Tryz.prog h 5 (.ptr id off)=some (.int .u8 (b:Int)):=by
 obtain⟨I,off',J,e2⟩:=c7 hv hb
 rw[he] at J
 have e3:V.ptr id off=V.ptr I off':=bp J
 rw[e3]
 exact e2
theorem E7 (hT:W told)(s:Sat h (X::S))(I:bX X (b5 v l))(iq:l.length<9223372036854775808):
  Call ⟨Tryz.prog,told⟩ 159 [v] h fun r h'=>Sat h' (X::S)∧((b7 l=true∧r=.aW [.int .i64 (l.getD 12 0:Nat),.int .u64 (c9 l 4 8),.int .i64 (c9 l 18 4),.int .i64 (c9 l 22 4),.int .i64 0]) ∨
   (b7 l=false∧r=.aW [.int .i64 0,.int .u64 0,.int .i64 0,.int .i64 0,.int .i64 4])):=by
 have hv:=s.aq (k:=0) rfl I
 refine Call.of_wp (hT.free _ rfl) Tryz.func159 rfl rfl (zK 11 rfl (zc rfl (rE hT s I iq) ?_))
 rintro r h' ⟨s,(⟨hg,rfl⟩|⟨hg,rfl⟩)⟩
 ·have hq:=iR hg
  obtain⟨pi,po,pc,rfl⟩:=gp hv (by omega)
  have J:l[12]?=some (l[12]'(by omega)):=aG _
  generalize ON:(l[12]'(by omega))=b at J
  have nX:b<256:=hv.1 b (aR J)
  have xO:l.getD 12 0=b:=by rw[qv,J];rfl
  rw[xO]
  refine zk 3 rfl ?_
  refine aA.cB s rfl rfl rfl (cF iJ) (fun p7 h s => ?_)
  refine zS rfl (s.iK (j:=0) rfl aU rfl rfl) (fun h s => ?_)
  refine zk 6 rfl (zC rfl aN (rfl) (zk 4 rfl ?_))
  have s0:=s
  obtain⟨id,off,e1,e2⟩:=c7 (s.aq (k:=1) rfl I) J
  refine WP.drawn [some (0,4),some (0,4),some (0,4),some (0,4),af,af,af,some (0,2),none,some (0,3),af,af,af,af,af,af] rfl (by kernel_rfl) (by kernel_rfl) ?_
  refine zM rfl (zO rfl (bx (r:=.ptr id off) rfl rfl e1) (zL rfl (rF (s.aq (k:=1) rfl I) J e1) (aE.op rfl rfl rfl (by simp only[isEff,bP]) (b8 rfl (by exact jN Tryz.underlying5 bP (ay (by omega) (by omega)))) ?_)))
  refine zM rfl (zO rfl (bS (p:=some (.int .i64 4)) (q:=some (.int .i64 12)) (m:=none) (p':=some 4) (q':=some 12) (m':=none) rfl rfl rfl rfl rfl rfl rfl (fI (s.aq (k:=1) rfl I) (a:=4) (b:=12) (by omega) (by omega)).1) ?_)
  refine aE.any rfl rfl rfl rfl (OpR.call rfl rfl rfl rfl (E6 hT s (k:=1) rfl (wW I (a:=4) (b:=12) (by omega) (by omega)) (by simp;omega))) ?_
  rintro r h' ⟨rfl,rfl⟩
  have s1:=s
  refine zL rfl (s.cg (k:=0) rfl br aU) (aE.any rfl rfl rfl rfl (OpR.call rfl rfl rfl rfl (tK hT s (k:=1) rfl I (by decide) (by decide) (by decide) (by omega) (by omega))) ?_)
  rintro r h' ⟨rfl,s⟩
  have s2:=s
  refine zL rfl (s.cg (k:=0) rfl br aU) (aE.any rfl rfl rfl rfl (OpR.call rfl rfl rfl rfl (tK hT s (k:=1) rfl I (by decide) (by decide) (by decide) (by omega) (by omega))) ?_)
  rintro r h' ⟨rfl,s⟩
  refine zA rfl (zA rfl (zA rfl (zA rfl (zA rfl ?_))))
  refine aE.nil ⟨⟨fun _ _=>.inr ⟨rfl,⟨_,bV rfl⟩,bj _ rfl⟩,fun _ _=>.inr ⟨rfl,⟨_,bx (r:=.ptr id off) rfl rfl e1⟩,bj _ rfl⟩,yJ (.inr ⟨rfl,⟨_,o_load rfl (rF (s0.aq (k:=1) rfl I) J e1)⟩,bj _ rfl⟩) (.inr ⟨rfl,⟨_,o_load rfl (rF (s1.aq (k:=1) rfl I) J e1)⟩,bj _ rfl⟩) (.inr ⟨rfl,⟨_,o_load rfl (rF (s2.aq (k:=1) rfl I) J e1)⟩,bj _ rfl⟩) (.inr ⟨rfl,⟨_,o_load rfl (rF (s.aq (k:=1) rfl I) J e1)⟩,bj _ rfl⟩),fun _ _=>.inr ⟨rfl,⟨_,b8 rfl (by exact jN Tryz.underlying5 bP (ay (by omega) (by omega)))⟩,bj _ rfl⟩,aa,aa,aa,ga (.inr ⟨rfl,⟨_,o_load rfl (s0.cg (k:=0) rfl br aU)⟩,bj _ rfl⟩) (.inr ⟨rfl,⟨_,o_load rfl (s1.cg (k:=0) rfl br aU)⟩,bj _ rfl⟩),aa,C4 (.inr ⟨rfl,⟨_,o_load rfl (s0.cg (k:=0) rfl br aU)⟩,bj _ rfl⟩) (.inr ⟨rfl,⟨_,o_load rfl (s1.cg (k:=0) rfl br aU)⟩,bj _ rfl⟩) (.inr ⟨rfl,⟨_,o_load rfl (s2.cg (k:=0) rfl br aU)⟩,bj _ rfl⟩),aa,aa,aa,aa,aa,aa,aa⟩,?_⟩
  refine WP.ret ⟨aa,_,rfl,?_⟩
  exact⟨s.drop,.inl ⟨hg,rfl⟩⟩
 ·skip
  refine zk 3 rfl ?_
  refine aA.cB s rfl rfl rfl (cF iJ) (fun p7 h s => ?_)
  refine zS rfl (s.iK (j:=0) rfl aU rfl rfl) (fun h s => ?_)
  exact zk 6 rfl (zB rfl aN (rfl) (zk 11 rfl (WP.ret ⟨aa,_,rfl,s.drop,.inr ⟨hg,rfl⟩⟩)))
end
structure Lg where
 base:Nat
 b:List Nat
 cZ:List Nat
 forced:Nat
 check:Nat
variable {μ:Lg}
def cf (l:List Nat): List V:=l.map fun(n:Nat)=>V.int .i64 (n:Int)
theorem iD (l:List Nat): (cf l).length=l.length:=by simp[cf]
def YH (p base:Nat)(bv I:V)(forced check:Nat): List V:=[.ptr p 0,.int .u64 (base:Int),bv,I,.int .i64 (forced:Int),.int .u64 (check:Int)]
def cM (q p:Nat)(μ:Lg): aI:=xs fun bv:V=>xs fun I:V=>star [pt q (.cells 6 (YH p μ.base bv I μ.forced μ.check) false),aQ bv μ.b,.arr 1 I (cf μ.cZ)]
structure Lg.Ok (μ:Lg): Prop where
 size:μ.base+μ.b.length≤1099511627776
 many:μ.cZ.length≤16777216
 low:∀s∈μ.cZ,s<μ.b.length
 E8:μ.cZ.Pairwise (· < ·)
 forced:μ.forced≤μ.b.length
 len:μ.b.length≤16777216
 check:μ.check≤1099511627776
theorem aaQ {x:Operand}{b:Nat}(I:a+b<4611686018427387904): binV P h .quo t x y (.int .i64 ((a:Int)+(b:Int))) (.int .i64 2)=some (.int .i64 (((a+b)/2:Nat):Int)):=by
 simp only[binV,ikBeq,ag,intV]
 rw[show intBeq 2 0=false from rfl,aS,Int.tdiv_eq_ediv_of_nonneg (by omega),ay (by omega) (by omega)]
 congr 2
section
variable {told:cy} {p:Nat} {v:V}
theorem iw : Sat h (cM q p μ::S)↔∃bv I,Sat h (pt q (.cells 6 (YH p μ.base bv I μ.forced μ.check) false)::aQ bv μ.b::.arr 1 I (cf μ.cZ)::S):=by
 simp only[cM,iC,cG,g9,cO]
theorem jg {c:V}(s:Sat h S)(hk:getA S k=some (.arr 1 v cs))(hi:cs[i]?=some c)(hu:P.underlying t=some (.slice e))(I:bg P e=some 1):
  ∃id off,indexAddrV P t v (.int .i64 (i:Int))=some (.ptr id off)∧∀t',isAggT P t'=some false→loadV P h t' (.ptr id off)=some c:=by
 have J:i<cs.length:=(List.getElem?_eq_some_iff.1 hi).1
 obtain⟨m,r,h1,h2,h3⟩:=s.at hk
 rcases h3.2 with⟨_,rfl⟩|⟨id,n,cap,N,rest,rfl,hg,e1,e2,_⟩
 ·simp at hi
 ·refine⟨id,i,?_,fun t' ht=>yF ht (h1 _ _ hg) ?_⟩
  ·simp only[indexAddrV,hu,I,dm]
   rw[show(decide ((0:Int)≤(i:Int))&&decide ((i:Int)<(n:Int)))=true by simp;omega,ag]
   simp
  ·rw[eX,qw J,hi]
theorem Pw (I:W told)(s:Sat h (cM q p μ::S)): Call ⟨Tryz.prog,told⟩ 106 [.ptr q 0] h fun v h'=>v=.int .u64 (μ.base:Int)∧h'=h:=by
 obtain⟨bv,J,s⟩:=iw.1 s
 exact Call.of_wp (I.free _ rfl) Tryz.func106 rfl rfl (zK 8 rfl (zY s 0 vX pU rfl (zk 2 rfl (WP.ret ⟨aa,_,rfl,rfl,rfl⟩))))
theorem J9 (I:W told)(s:Sat h (cM q p μ::S)): Call ⟨Tryz.prog,told⟩ 107 [.ptr q 0] h fun v h'=>v=.int .u64 (μ.check:Int)∧h'=h:=by
 obtain⟨bv,J,s⟩:=iw.1 s
 exact Call.of_wp (I.free _ rfl) Tryz.func107 rfl rfl (zK 8 rfl (zY s 0 VO pU rfl (zk 2 rfl (WP.ret ⟨aa,_,rfl,rfl,rfl⟩))))
theorem E9 (I:W told)(s:Sat h (cM q p μ::S))(J:μ.base+μ.b.length≤1099511627776): Call ⟨Tryz.prog,told⟩ 39 [.ptr q 0] h fun v h'=>v=.int .u64 ((μ.base:Int)+(μ.b.length:Int))∧h'=h:=by
 obtain⟨bv,sv,s⟩:=iw.1 s
 refine Call.of_wp (I.free _ rfl) Tryz.func39 rfl rfl (zK 5 rfl (WP.drawn [af,af,af,af,af,af,af,af,af,af,af,af] rfl (by kernel_rfl) (by kernel_rfl) ?_))
 refine zM rfl (zN rfl (zF rfl (vX _ _) (zL rfl (s.ld (k:=0) rfl pU rfl) (zM rfl (zN rfl (zF rfl (lV _ _) (zL rfl (s.ld (k:=0) rfl ah rfl) (zO rfl (aC rfl rfl rfl (au ak (s.aq (k:=1) rfl (aK _ _)))) (aE.op rfl rfl rfl (by simp only[isEff,dQ]) (b8 rfl (by exact jN bP dQ (gY (by omega) (by omega)))) ?_)))))))))
 refine zO rfl (az rfl rfl (by exact aO (gY (by omega) (by omega)))) ?_
 refine zA rfl ?_
 refine aE.nil ⟨⟨aa,aa,aa,aa,aa,aa,aa,aa,aa,aa,aa,aa,aa⟩,?_⟩
 refine WP.ret ⟨aa,_,rfl,?_⟩
 exact⟨rfl,rfl⟩
theorem M8 (I:W told)(s:Sat h (cM q p μ::S))(J:μ.base+μ.b.length≤1099511627776)(hf:μ.forced≤μ.b.length): Call ⟨Tryz.prog,told⟩ 174 [.ptr q 0] h fun v h'=>v=.int .u64 ((μ.base:Int)+(μ.forced:Int))∧h'=h:=by
 obtain⟨bv,sv,s⟩:=iw.1 s
 refine Call.of_wp (I.free _ rfl) Tryz.func174 rfl rfl (zK 5 rfl (WP.drawn [af,af,af,af,af,af,af,af,af,af,af] rfl (by kernel_rfl) (by kernel_rfl) ?_))
 refine zM rfl (zN rfl (zF rfl (vX _ _) (zL rfl (s.ld (k:=0) rfl pU rfl) (zM rfl (zN rfl (zF rfl (EW _ _) (zL rfl (s.ld (k:=0) rfl bZ rfl) (aE.op rfl rfl rfl (by simp only[isEff,dQ]) (b8 rfl (by exact jN bP dQ (gY (by omega) (by omega)))) ?_))))))))
 refine zO rfl (az rfl rfl (by exact aO (gY (by omega) (by omega)))) ?_
 refine zA rfl ?_
 refine aE.nil ⟨⟨aa,aa,aa,aa,aa,aa,aa,aa,aa,aa,aa,aa⟩,?_⟩
 refine WP.ret ⟨aa,_,rfl,?_⟩
 exact⟨rfl,rfl⟩
def Split (μ:Lg)(n i:Nat): Prop:=i≤μ.cZ.length∧(∀(j s:Nat),j<i→μ.cZ[j]?=some s→μ.base+s<n)∧(∀(j s:Nat),i≤j→μ.cZ[j]?=some s→n≤μ.base+s)
theorem E_ (J:l.Pairwise (· < ·)){b:Nat}(I:i<j)(ha:l[i]?=some a)(hb:l[j]?=some b): a<b:=by
 obtain⟨h1,rfl⟩:=List.getElem?_eq_some_iff.1 ha
 obtain⟨h2,rfl⟩:=List.getElem?_eq_some_iff.1 hb
 exact List.pairwise_iff_getElem.1 J _ _ h1 h2 I
noncomputable def lfL : Code:=cE [1,1,0,0,0] ((Tryz.f207.body).getD .skip)
theorem Px {sv:V}(hn:n<18446744073709551616)(I:μ.Ok)(s:Sat h (pt q (.cells 6 (YH p μ.base bv sv μ.forced μ.check) false)::aQ bv μ.b::.arr 1 sv (cf μ.cZ)::S)): ∀(fuel lo hi:Nat) (E:List (Nat×V)) (Q:Ex→List (Nat×V)→H→Prop),hi-lo≤fuel→lo≤hi→hi≤μ.cZ.length →
  (∀(j s:Nat),j<lo→μ.cZ[j]?=some s→μ.base+s<n)→(∀(j s:Nat),hi≤j→μ.cZ[j]?=some s→n≤μ.base+s) →
  Has E [(0,.ptr q 0),(1,.int .u64 (n:Int)),(5,.int .i64 (lo:Int)),(6,.int .i64 (hi:Int))]→(∀E' i,Split μ n i→look E' 5=some (.int .i64 (i:Int))→Q (.exit 0) E' h)→WP ⟨Tryz.prog,told⟩ 39 (.loop lfL) E h Q:=by
 have UF:=I.many
 have M9:=I.size
 intro fuel
 induction fuel with
 |zero =>
  intro lo hi E Q hf h1 h2 h3 h4 hE hq
  refine WP.loop (WP.has hE (zK 5 rfl (zC rfl aL (by simp;omega) ?_)))
  refine zk 2 rfl (WP.exit ?_)
  have e:lo=hi:=by omega
  exact hq _ lo ⟨by omega,h3,by rw[e];exact h4⟩ rfl
 |succ fuel ih =>
  intro lo hi E Q hf h1 h2 h3 h4 hE hq
  by_cases cV:lo<hi
  ·skip
   refine WP.loop (WP.has hE (zK 5 rfl (zB rfl aL (by simp;omega) ?_)))
   refine zk 3 rfl (WP.block (zK 4 rfl (zb rfl (by exact aO (ay (by omega) (by omega))) ?_)))
   refine zb rfl (aaQ (by omega)) ?_
   refine zk 3 rfl ?_
   generalize hm:(lo+hi)/2=m
   have kR:lo≤m:=by omega
   have Hu:m<hi:=by omega
   obtain⟨st,J⟩:∃st,μ.cZ[m]?=some st:=⟨_,aG (by omega)⟩
   have B0:=I.low st (aR J)
   have hlen:=I.len
   have hc:(cf μ.cZ)[m]?=some (.int .i64 (st:Int)):=by simp[cf,J]
   obtain⟨id,off,e1,e2⟩:=jg (P:=Tryz.prog) s (k:=2) rfl hc cC jO
   refine WP.drawn [af,af,af,af,af,af,af,af,af,af,af,af,af,af,af] rfl (by kernel_rfl) (by kernel_rfl) ?_
   refine zM rfl (zN rfl (zF rfl (vX _ _) (zL rfl (s.ld (k:=0) rfl pU rfl) (zM rfl (zN rfl (zF rfl (qC _ _) (zL rfl (s.ld (k:=0) rfl BX rfl) (zM rfl (zO rfl (bx (r:=.ptr id off) rfl rfl e1) (zL rfl (e2 _ bZ) (aE.op rfl rfl rfl (by simp only[isEff,dQ]) (b8 rfl (by exact jN bP dQ (gY (by omega) (by omega)))) ?_)))))))))))
   refine zO rfl (az rfl rfl (by exact aO (gY (by omega) (by omega)))) ?_
   refine zM rfl ?_
   by_cases xK:μ.base+st<n
   ·skip
    refine aE.vV rfl rfl rfl rfl (az rfl rfl aL) (by simp;omega) ?_
    refine aE.nil ⟨⟨aa,aa,aa,aa,aa,aa,aa,aa,aa,aa,aa,aa,aa,aa,aa,aa⟩,?_⟩
    refine zK 3 rfl (zb rfl (by exact aO (ay (by omega) (by omega))) ?_)
    refine za rfl (zv ?_)
    refine ih (m+1) hi _ Q (by omega) (by omega) h2 (fun j s hj hs => ?_) h4 ⟨rfl,rfl,rfl,rfl,aa⟩ hq
    by_cases YI:j=m
    ·subst YI;rw[J] at hs;injection hs with hs;omega
    ·have:=E_ I.E8 (show j<m by omega) hs J;omega
   ·skip
    refine aE.rX rfl rfl rfl rfl (az rfl rfl aL) (by simp;omega) ?_
    refine aE.nil ⟨⟨aa,aa,aa,aa,aa,aa,aa,aa,aa,aa,aa,aa,aa,aa,aa,aa⟩,?_⟩
    refine zj rfl (zr rfl (zk 2 rfl (zv ?_)))
    refine ih lo m _ Q (by omega) kR (by omega) h3 (fun j s hj hs => ?_) ⟨rfl,rfl,rfl,rfl,aa⟩ hq
    by_cases YI:j=m
    ·subst YI;rw[J] at hs;injection hs with hs;omega
    ·have:=E_ I.E8 (show m<j by omega) J hs;omega
  ·skip
   refine WP.loop (WP.has hE (zK 5 rfl (zC rfl aL (by simp;omega) ?_)))
   refine zk 2 rfl (WP.exit ?_)
   have e:lo=hi:=by omega
   exact hq _ lo ⟨by omega,h3,by rw[e];exact h4⟩ rfl
theorem V6 (hT:W told)(s:Sat h (cM q p μ::S))(I:μ.Ok)(hn:n<18446744073709551616): Call ⟨Tryz.prog,told⟩ 207 [.ptr q 0,.int .u64 (n:Int)] h fun v h'=>h'=h∧∃i,Split μ n i∧v=.int .i64 (i:Int):=by
 obtain⟨bv,sv,s⟩:=iw.1 s
 refine Call.of_wp (hT.free _ rfl) Tryz.func207 rfl rfl (zK 5 rfl (WP.drawn [af,af,af,af,af,af,af] rfl (by kernel_rfl) (by kernel_rfl) ?_))
 refine zM rfl (zN rfl (zF rfl (qC _ _) (zL rfl (s.ld (k:=0) rfl BX rfl) (zO rfl (aC rfl rfl rfl (s.eY (n:=μ.cZ.length) (j:=2) rfl (by rw[iD,cz]) (by decide) cC)) ?_))))
 refine zA rfl (zA rfl ?_)
 refine aE.nil ⟨⟨aa,aa,aa,aa,aa,aa,aa,aa⟩,?_⟩
 refine zw (WP.block ?_)
 refine Px hn I s μ.cZ.length 0 μ.cZ.length _ _ (by omega) (by omega) (by omega) (fun j s hj _=>by omega) (fun j s hj hs => ?_) ⟨rfl,rfl,rfl,rfl,aa⟩ (fun E' i hi J => ?_)
 ·rw[Ee (by omega)] at hs;cases hs
 ·skip
  exact WP.has (F:=[(5,.int .i64 (i:Int))]) ⟨J,aa⟩ (zK 5 rfl (WP.ret ⟨aa,_,rfl,rfl,i,hi,rfl⟩))
def Lg.hasB (μ:Lg)(n:Nat): Bool:=μ.cZ.any fun s=>decide (μ.base+s=n)
theorem Split.has (hs:Split μ n i)(hr:μ.cZ.Pairwise (· < ·)): μ.hasB n=true↔∃s,μ.cZ[i]?=some s∧μ.base+s=n:=by
 rw[Lg.hasB,List.any_eq_true]
 constructor
 ·rintro⟨s,h1,I⟩
  have I:μ.base+s=n:=by simpa using I
  obtain⟨j,J⟩:=Ap h1
  have nW:i≤j:=by
   rcases oQ j i with h|h
   ·have:=hs.2.1 j s h J;omega
   ·exact h
  by_cases he:i=j
  ·subst he;exact⟨s,J,I⟩
  ·have Py:=(List.getElem?_eq_some_iff.1 J).1
   have hi:μ.cZ[i]?=some (μ.cZ[i]'(by omega)):=aG _
   have h3:=hs.2.2 i _ (aM _) hi
   have h4:=E_ hr (show i<j by omega) hi J
   omega
 ·rintro⟨s,h1,I⟩
  exact⟨s,aR h1,by simpa using I⟩
theorem Pz {st:Nat}(I:μ.cZ[i]?=some st): (cf μ.cZ)[i]?=some (.int .i64 (st:Int)):=by simp[cf,I]
theorem V7 (hT:W told)(s:Sat h (cM q p μ::S))(I:μ.Ok)(hn:n<18446744073709551616): Call ⟨Tryz.prog,told⟩ 181 [.ptr q 0,.int .u64 (n:Int)] h fun v h'=>h'=h∧v=.bool (μ.hasB n):=by
 have s0:=s
 obtain⟨bv,sv,s⟩:=iw.1 s
 have UF:=I.many
 have M9:=I.size
 refine Call.of_wp (hT.free _ rfl) Tryz.func181 rfl rfl (zK 8 rfl (zc rfl (V6 hT s0 I hn) ?_))
 rintro v h' ⟨rfl,i,hi,rfl⟩
 have hh:=hi.has I.E8
 refine zk 3 rfl (WP.drawn [af,af,af,af,af,af,af,af,af,af,af,af,af,af,af,af,af,af,af,af,af,af,af,af,af] rfl (by kernel_rfl) (by kernel_rfl) ?_)
 refine zM rfl (zM rfl (zN rfl (zF rfl (qC _ _) (zL rfl (s.ld (k:=0) rfl BX rfl) (zO rfl (aC rfl rfl rfl (s.eY (n:=μ.cZ.length) (j:=2) rfl (by rw[iD,cz]) (by decide) cC)) ?_)))))
 by_cases yD:i<μ.cZ.length
 ·skip
  refine aE.vV rfl rfl rfl rfl (az rfl rfl aL) (by simp;omega) ?_
  obtain⟨st,J⟩:∃st,μ.cZ[i]?=some st:=⟨_,aG yD⟩
  have B0:=I.low st (aR J)
  obtain⟨id,off,e1,e2⟩:=jg (P:=Tryz.prog) s (k:=2) rfl (Pz J) cC jO
  refine zM rfl (zM rfl (zN rfl (zF rfl (vX _ _) (zL rfl (s.ld (k:=0) rfl pU rfl) (zM rfl (zN rfl (zF rfl (qC _ _) (zL rfl (s.ld (k:=0) rfl BX rfl) (zM rfl (zO rfl (bx (r:=.ptr id off) rfl rfl e1) (zL rfl (e2 _ bZ) (aE.op rfl rfl rfl (by simp only[isEff,dQ]) (b8 rfl (by exact jN bP dQ (gY (by omega) (by omega)))) ?_))))))))))))
  refine zO rfl (az rfl rfl (by exact aO (gY (by omega) (by omega)))) ?_
  refine zM rfl ?_
  by_cases he:μ.base+st=n
  ·skip
   refine aE.vV rfl rfl rfl rfl (az rfl rfl ej) (by simp;omega) ?_
   refine zO rfl (mN rfl rfl) (zA rfl ?_)
   refine aE.nil ⟨⟨aa,aa,aa,aa,aa,aa,aa,aa,aa,aa,aa,aa,aa,aa,aa,aa,aa,aa,aa,aa,aa,aa,aa,aa,aa,aa⟩,?_⟩
   refine WP.ret ⟨aa,_,rfl,?_⟩
   exact⟨rfl,by rw[hh.2 ⟨st,J,he⟩]⟩
  ·skip
   refine aE.rX rfl rfl rfl rfl (az rfl rfl ej) (by simp;omega) ?_
   refine zO rfl (mN rfl rfl) (zA rfl ?_)
   refine aE.nil ⟨⟨aa,aa,aa,aa,aa,aa,aa,aa,aa,aa,aa,aa,aa,aa,aa,aa,aa,aa,aa,aa,aa,aa,aa,aa,aa,aa⟩,?_⟩
   refine WP.ret ⟨aa,_,rfl,?_⟩
   refine⟨rfl,?_⟩
   cases hb:μ.hasB n with
   |false=>rfl
   |true =>
    obtain⟨s',h1,h2⟩:=hh.1 hb
    rw[J] at h1;have:=bp h1;omega
 ·skip
  refine aE.rX rfl rfl rfl rfl (az rfl rfl aL) (by simp;omega) ?_
  refine zM rfl (aE.no (e:=false) rfl rfl rfl rfl (aE.no (e:=false) rfl rfl rfl rfl (aE.no (e:=false) rfl rfl rfl rfl (aE.no (e:=false) rfl rfl rfl rfl (aE.no (e:=false) rfl rfl rfl rfl (aE.no (e:=false) rfl rfl rfl rfl (aE.no (e:=false) rfl rfl rfl rfl (aE.no (e:=false) rfl rfl rfl rfl (aE.no (e:=false) rfl rfl rfl rfl (aE.no (e:=false) rfl rfl rfl rfl (aE.no (e:=false) rfl rfl rfl rfl (aE.no (e:=false) rfl rfl rfl (by simp only[isEff,dQ]) ?_))))))))))))
  refine aE.no (e:=false) rfl rfl rfl rfl (aE.no (e:=false) rfl rfl rfl rfl (aE.no (e:=false) rfl rfl rfl rfl (zO rfl (o5 rfl rfl) (zA rfl ?_))))
  refine aE.nil ⟨⟨aa,aa,aa,aa,aa,aa,aa,aa,aa,aa,aa,aa,aa,aa,aa,aa,aa,aa,aa,aa,aa,aa,aa,aa,aa,aa⟩,?_⟩
  refine WP.ret ⟨aa,_,rfl,?_⟩
  refine⟨rfl,?_⟩
  cases hb:μ.hasB n with
  |false=>rfl
  |true =>
   obtain⟨s',h1,h2⟩:=hh.1 hb
   have:=(List.getElem?_eq_some_iff.1 h1).1
   omega
theorem PA (hT:W told)(s:Sat h (cM q p μ::bM p δ::S))(I:μ.Ok)(hf:δ.cn<4294967296): Call ⟨Tryz.prog,told⟩ 103 [.ptr q 0,.int .u64 (n:Int)] h fun v h' =>
  (n<μ.base+μ.forced∧v=.int .i64 0∧Sat h' (cM q p μ::bM p δ::S)) ∨
  (μ.base+μ.forced≤n∧δ.dead=true∧v=.int .i64 9∧Sat h' (cM q p μ::bM p δ::S)) ∨
  (μ.base+μ.forced≤n∧δ.dead=false∧δ.cn=0∧v=.int .i64 9∧Sat h' (cM q p μ::bM p δ.die::S)) ∨
  (μ.base+μ.forced≤n∧δ.dead=false∧δ.cn≠0∧v=.int .i64 0∧Sat h' (cM q p { μ with forced:=μ.b.length }::bM p { δ.fg with fG:=δ.log.length }::S)):=by
 have M9:=I.size
 have hfo:=I.forced
 have s0:=s
 obtain⟨bv,sv,s⟩:=iw.1 s
 refine Call.of_wp (hT.free _ rfl) Tryz.func103 rfl rfl (zK 9 rfl (zc rfl (M8 hT s0 I.size I.forced) ?_))
 rintro v h' ⟨rfl,rfl⟩
 by_cases cV:n<μ.base+μ.forced
 ·skip
  refine zB rfl aL (by simp;omega) ?_
  exact zk 6 rfl (WP.ret ⟨aa,_,rfl,.inl ⟨cV,rfl,s0⟩⟩)
 ·have hle:μ.base+μ.forced≤n:=by omega
  refine zC rfl aL (by simp;omega) ?_
  refine zk 8 rfl (zY s 0 K7 uX rfl (zc rfl (Pr hT (s0.ae [1]) hf) ?_))
  rintro v h (⟨J,rfl,s⟩|⟨J,h0,rfl,s⟩|⟨J,h0,rfl,s⟩)
  ·refine aA.op rfl rfl rfl (gT rfl) ?_
   exact zk 4 rfl (zB rfl aN (rfl) (zk 7 rfl (WP.ret ⟨aa,_,rfl,.inr (.inl ⟨hle,J,rfl,s.ae [1]⟩)⟩)))
  ·skip
   exact zk 5 rfl (zB rfl aN (rfl) (zk 7 rfl (WP.ret ⟨aa,_,rfl,.inr (.inr (.inl ⟨hle,J,h0,rfl,s.ae [1]⟩))⟩)))
  ·skip
   obtain⟨bv,sv,s⟩:=iw.1 (s.ae [1])
   refine zk 5 rfl (zC rfl aN (rfl) (zk 8 rfl (zY s 0 lV ah rfl (zo rfl (aC rfl rfl rfl (au ak (s.aq (k:=1) rfl (aK _ _)))) (zn rfl (zf rfl (EW _ _) ?_))))))
   refine zS rfl (by exact s.lu (k:=0) rfl jO rfl (by decide) rfl rfl) (fun h s => ?_)
   exact zk 5 rfl (WP.ret ⟨aa,_,rfl,.inr (.inr (.inr ⟨hle,J,h0,rfl,iw.2 ⟨bv,sv,s⟩⟩))⟩)
end
structure eE where
 bE:Int
 pos:Int
 whole:Bool
 b:List Nat
variable {cK:List eE}
def eE.Ok (c:eE): Prop:=0≤c.bE∧c.bE<65536∧0≤c.pos∧c.pos≤512∧(c.b.length:Int)≤512-c.pos∧(c.whole=true→c.pos=0∧c.b.length=512)
instance (c:eE):Decidable c.Ok:=by unfold eE.Ok;infer_instance
def gM (kind:Int)(cK:List eE): Bool:=decide (1≤kind∧kind≤9)&&cK.all fun c=>decide c.Ok
def nM (kd:Int)(tx pv nx:Nat)(dt ch:V): List V:=[.int .i64 kd,.int .u64 (tx:Int),.int .u64 (pv:Int),.int .u64 (nx:Int),dt,ch]
theorem yY {ch:V}(I:storable dt=true)(J:storable ch=true): (nM kd tx pv nx dt ch).all storable=true:=by
 simp only[nM,kI,lM,I,J]
 rfl
def ew : List V→List eE→aI
 |[],[]=>.pu True
 |p::a::w::v::l,x::m=>.an (.an (.pu (p=.int .i64 x.bE∧a=.int .i64 x.pos∧w=.bool x.whole)) (.bK v x.b)) (ew l m)
 |_,_=>.pu False
theorem aJ.qo : ∀(m:List eE) (l:List V),aJ (ew l m):=by
 intro m
 induction m with
 |nil=>intro l;rcases l with _|⟨a,_|⟨b,_|⟨c,_|⟨d,l⟩⟩⟩⟩<;>exact aJ.pu _
 |cons x m I=>intro l;rcases l with _|⟨a,_|⟨b,_|⟨c,_|⟨d,l⟩⟩⟩⟩<;>first|exact aJ.pu _|exact aJ.an (aJ.an (aJ.pu _) (aJ.bK _ _)) (I l)
theorem qG {a b:PM}: ∀ {m:List eE} {l:List V},(ew l m).p a b→l.length=m.length*4:=by
 intro m
 induction m with
 |nil=>intro l h;rcases l with _|⟨x,_|⟨y,_|⟨z,_|⟨d,l⟩⟩⟩⟩<;>first|rfl|exact h.elim
 |cons x m I =>
  intro l h
  rcases l with _|⟨x,_|⟨y,_|⟨z,_|⟨d,l⟩⟩⟩⟩<;>first|exact h.elim|skip
  have:=I h.2
  simp only[aZ]
  omega
theorem B6 {a b:PM}: ∀ {m m':List eE} {l I:List V},(ew l m).p a b→(ew I m').p a b→(ew (l++I) (m++m')).p a b:=by
 intro m
 induction m with
 |nil=>intro m' l I h h';rcases l with _|⟨x,_|⟨y,_|⟨z,_|⟨d,l⟩⟩⟩⟩<;>first|exact h'|exact h.elim
 |cons x m J =>
  intro m' l I h h'
  rcases l with _|⟨x,_|⟨y,_|⟨z,_|⟨d,l⟩⟩⟩⟩<;>first|exact h.elim|exact⟨h.1,J h.2 h'⟩
theorem Iu {a b:PM}: ∀ {m:List eE} {l:List V} {i:Nat} {c:eE},(ew l m).p a b→m[i]?=some c→∃u,(l.drop (i*4)).take 4=[.int .i64 c.bE,.int .i64 c.pos,.bool c.whole,u]∧(aI.bK u c.b).p a b:=by
 intro m
 induction m with
 |nil=>intro l i c h I;simp at I
 |cons x m J =>
  intro l i c h I
  rcases l with _|⟨p,_|⟨q,_|⟨w,_|⟨v,l⟩⟩⟩⟩<;>first|exact h.elim|skip
  obtain⟨⟨⟨h1,h2,h3⟩,h4⟩,h5⟩:=h
  cases i with
  |zero=>simp at I;subst I;exact⟨v,by rw[h1,h2,h3];rfl,h4⟩
  |succ i =>
   simp at I
   obtain⟨u,e1,e2⟩:=J h5 I
   refine⟨u,?_,e2⟩
   rw[←e1,show(i+1)*4=i*4+4 by omega]
   rfl
section
variable {told:cy} {p:Nat} {v:V}
theorem PB {ch:V}{m:List eE}{c:eE}(s:Sat h (.arr 4 ch cs::ew cs m::S))(hc:m[i]?=some c):
  ∃id off u,indexAddrV Tryz.prog 45 ch (.int .i64 (i:Int))=some (.ptr id off)∧loadV Tryz.prog h 206 (.ptr id off)=some (.agg [.int .i64 c.bE,.int .i64 c.pos,.bool c.whole,u]) ∧
   u.cells=[u]∧storable u=true∧u.beq u=true∧Sat h (.bK u c.b::.arr 4 ch cs::ew cs m::S):=by
 obtain⟨a,b,q1,q2,q3⟩:=s.at (k:=1) rfl
 have yD:=(List.getElem?_eq_some_iff.1 hc).1
 have hl:=qG q3
 obtain⟨u,e1,e2⟩:=Iu q3 hc
 obtain⟨id,off,g1,J⟩:=Yv (P:=Tryz.prog) (i:=i) s (j:=0) rfl (by omega) (by decide) j7 A2
 have J:=J aay
 rw[e1] at J
 have s2:Sat h (ew cs m::.arr 4 ch cs::S):=s.ae [1]
 have s3:=(s2.dup (aJ.qo _ _)).dG (B:=.bK u c.b) fun a b h=>by
  obtain⟨u',I,qb⟩:=Iu h hc
  rw[e1] at I
  injection I with _ I
  injection I with _ I
  injection I with _ I
  injection I with I _
  subst I
  exact qb
 have hu:=(s3.aq (k:=0) rfl (aY _ _))
 exact⟨id,off,u,g1,J,hu.cells.1,hu.cells.2,jZ hu,s3.ae [0,1,0]⟩
theorem Lm {ch:V}{m:List eE}(s:Sat h S)(I:getA S j1=some (.arr 4 ch cs))(J:getA S j2=some (ew cs m))(hu:P.underlying t=some (.slice e)): lenV P h t ch=some (.int .i64 m.length):=by
 obtain⟨a,b,q1,q2,q3⟩:=s.at J
 exact s.eY I (qG q3) (by decide) hu
theorem Sat.yZ {ch:V}{m:List eE}(s:Sat h S)(I:getA S j1=some (.arr 4 ch cs))(J:getA S j2=some (ew cs m))(hu:P.underlying t=some (.slice e)): lenV P h t ch=some (.int .i64 m.length):=Lm s I J hu
noncomputable def gwL : Code:=cE [1,1,0,1,0,0] ((Tryz.f190.body).getD .skip)
theorem M_ {ch:V}{m:List eE}: ∀(j i:Nat) (h:H) (E:List (Nat×V)) (Q:Ex→List (Nat×V)→H→Prop),i+j=m.length→m.length<4294967296→(∀c∈m,c.b.length<9223372036854775808) →
  (∀c∈m, -4294967296≤c.pos∧c.pos≤4294967296)→Sat h (.arr 4 ch cs::ew cs m::S)→Has E [(1,.ptr p1 0),(14,ch),(15,.int .i64 m.length),(16,.int .i64 i)] →
  ((m.drop i).all (fun c=>decide c.Ok)=false→∀E' h',look E' 2=some (.bool false)→Sat h' (.arr 4 ch cs::ew cs m::S)→Q .ret E' h') →
  ((m.drop i).all (fun c=>decide c.Ok)=true→∀E' h',Sat h' (.arr 4 ch cs::ew cs m::S)→Q (.exit 0) E' h')→WP ⟨Tryz.prog,told⟩ 61 (.loop gwL) E h Q:=by
 intro j
 induction j with
 |zero =>
  intro i h E Q hi hm hb J s hE hr hx
  refine WP.loop (WP.has hE (zg rfl (zC rfl aL (by simp;omega) ?_)))
  exact zk 3 rfl (WP.exit (hx (by rw[nA (by omega)];rfl) _ _ s))
 |succ j ih =>
  intro i h E Q hi hm hb J s hE hr hx
  have hc:m[i]?=some (m[i]'(by omega)):=aG _
  generalize (m[i]'(by omega))=c at hc
  have y7:=aR hc
  have rY:=hb c y7
  have hcp:=J c y7
  have sB:m.drop i=c::m.drop (i+1):=by
   have:=List.getElem?_eq_some_iff.1 hc
   obtain⟨h1,rfl⟩:=this
   exact mF h1
  rw[sB,kI] at hr hx
  obtain⟨id,off,u,e1,e2,u1,u2,u3,s⟩:=PB s hc
  refine WP.loop (WP.has hE (zg rfl (zB rfl aL (by simp;omega) ?_)))
  refine zk 5 rfl (WP.block (zg rfl (zo rfl (bx (r:=.ptr id off) rfl rfl e1) (zl rfl e2 ?_))))
  refine aA.cB s rfl rfl rfl (cF uq) (fun p4 h s => ?_)
  dsimp only[V.cells,List.length_cons,List.length_nil,Nat.reduceAdd] at s
  refine zS rfl (s.iK (j:=0) rfl A2 rfl (by simp only[kI,lM,u2];rfl)) ?_
  intro h s
  dsimp only[setA] at s
  refine zk 4 rfl (zY s 0 EX bZ rfl ?_)
  refine zd rfl (az rfl rfl aL) ?_ ?_
  ·intro xI
   have xI:c.bE<0:=by simp at xI;omega
   exact zk 30 rfl (WP.ret (hr (by rw[eM (fun q:c.Ok=>by have:=q.1;omega),kG]) _ _ rfl s.drop.drop))
  ·intro xI
   have xI:¬ (c.bE<0):=by simp at xI;omega
   refine zm rfl (zY s 0 EX bZ rfl ?_)
   refine zd rfl (az rfl rfl kC) ?_ ?_
   ·intro PC
    have PC:65536≤c.bE:=by simp at PC;omega
    exact zk 26 rfl (WP.ret (hr (by rw[eM (fun q:c.Ok=>by have:=q.2.1;omega),kG]) _ _ rfl s.drop.drop))
   ·intro PC
    have PC:¬ (65536≤c.bE):=by simp at PC;omega
    refine zk 2 rfl (zY s 0 sV bZ rfl ?_)
    refine zd rfl (az rfl rfl aL) ?_ ?_
    ·intro jS
     have jS:c.pos<0:=by simp at jS;omega
     exact zk 21 rfl (WP.ret (hr (by rw[eM (fun q:c.Ok=>by have:=q.2.2.1;omega),kG]) _ _ rfl s.drop.drop))
    ·intro jS
     have jS:¬ (c.pos<0):=by simp at jS;omega
     refine zk 2 rfl (zY s 0 sV bZ rfl ?_)
     refine zd rfl (az rfl rfl cL) ?_ ?_
     ·intro PD
      have PD:512<c.pos:=by simp at PD;omega
      exact zk 16 rfl (WP.ret (hr (by rw[eM (fun q:c.Ok=>by have:=q.2.2.2.1;omega),kG]) _ _ rfl s.drop.drop))
     ·intro PD
      have PD:¬ (512<c.pos):=by simp at PD;omega
      refine zk 2 rfl (zY s 0 sW ah rfl (zo rfl (aC rfl rfl rfl (au ak (s.aq (k:=1) rfl (aY _ _)))) (zY s 0 sV bZ rfl (zb rfl (by exact ei (ay (by omega) (by omega))) ?_))))
      refine zd rfl (az rfl rfl cL) ?_ ?_
      ·intro o_
       have o_:512-c.pos<(c.b.length:Int):=by simp at o_;omega
       exact zk 7 rfl (WP.ret (hr (by rw[eM (fun q:c.Ok=>by have:=q.2.2.2.2.1;omega),kG]) _ _ rfl s.drop.drop))
      ·intro o_
       have o_:¬ (512-c.pos<(c.b.length:Int)):=by simp at o_;omega
       refine zk 6 rfl (zf rfl (K8 _ _) ?_)
       have uc:∀(h:H) (E:List (Nat×V)),c.Ok→Sat h (.arr 4 ch cs::ew cs m::S)→Has E [(1,.ptr p1 0),(14,ch),(15,.int .i64 m.length),(16,.int .i64 ((i:Int)+1))]→WP ⟨Tryz.prog,told⟩ 61 (.loop gwL) E h Q:=by
        intro h E lB s hE
        rw[dy lB,AA] at hr hx
        exact ih (i+1) h E Q (by omega) hm hb J s hE hr hx
       have CC:c.whole=false∨c.whole=true:=by cases c.whole<;>simp
       rcases CC with hw|hw
       ·skip
        refine zh rfl (o_load rfl (by exact s.ld (k:=0) rfl qn rfl)) (hw) ?_
        refine zk 11 rfl (zv (zj rfl (WP.skip (zr rfl (zb rfl (by exact aO (ay (by omega) (by omega))) ?_)))))
        refine zm rfl (zv ?_)
        refine uc _ _ ?_ ?_ ?_
        ·exact⟨by omega,by omega,by omega,by omega,by omega,fun e=>by rw[hw] at e;cases e⟩
        ·exact s.drop.drop
        ·exact⟨rfl,rfl,rfl,rfl,aa⟩
       ·skip
        refine zt rfl (o_load rfl (s.ld (k:=0) rfl qn rfl)) (hw) (zm rfl (zY s 0 sV bZ rfl ?_))
        refine zd rfl (az rfl rfl aN) ?_ ?_
        ·intro hp
         have hp:c.pos≠0:=by simp at hp;omega
         exact zk 13 rfl (WP.ret (hr (by rw[eM (fun q:c.Ok=>hp (q.2.2.2.2.2 hw).1),kG]) _ _ rfl s.drop.drop))
        ·intro hp
         have hp:c.pos=0:=by simp at hp;omega
         refine zm rfl (zY s 0 sW ah rfl (zo rfl (aC rfl rfl rfl (au ak (s.aq (k:=1) rfl (aY _ _)))) ?_))
         refine zd rfl (az rfl rfl aN) ?_ ?_
         ·intro I
          have I:c.b.length≠512:=by simp at I;omega
          exact zk 8 rfl (WP.ret (hr (by rw[eM (fun q:c.Ok=>I (q.2.2.2.2.2 hw).2),kG]) _ _ rfl s.drop.drop))
         ·intro I
          have I:c.b.length=512:=by simp at I;omega
          refine zk 2 rfl (zv (zj rfl (WP.skip (zr rfl (zb rfl (by exact aO (ay (by omega) (by omega))) ?_)))))
          refine zm rfl (zv ?_)
          refine uc _ _ ?_ ?_ ?_
          ·exact⟨by omega,by omega,by omega,by omega,by omega,fun _=>⟨hp,I⟩⟩
          ·exact s.drop.drop
          ·exact⟨rfl,rfl,rfl,rfl,aa⟩
def Dq (m:List eE): Prop:=m.length<4294967296∧(∀c∈m,c.b.length<4294967296)∧(∀c∈m, -4294967296≤c.pos∧c.pos≤4294967296)
theorem SC (hT:W told){ch:V}{m:List eE}(s:Sat h (.arr 4 ch cs::ew cs m::S))(hd:storable dt=true)(hm:Dq m):
  Call ⟨Tryz.prog,told⟩ 190 [.agg (nM kd tx pv nx dt ch)] h fun r h'=>r=.bool (gM kd m)∧Sat h' (.arr 4 ch cs::ew cs m::S):=by
 have tL:=s.rQ (j:=0) rfl
 have lq:=yY (kd:=kd) (tx:=tx) (pv:=pv) (nx:=nx) hd tL.2.1
 refine Call.of_wp (hT.free _ rfl) Tryz.func190 rfl rfl (zg rfl (aA.cB s rfl rfl rfl (fH rfl lq) ?_))
 intro p1 h s
 refine zk 5 rfl (zY s 0 yN bZ rfl ?_)
 refine zd rfl (az rfl rfl aL) ?_ ?_
 ·intro J
  have J:kd<1:=by simpa using J
  exact zk 11 rfl (WP.ret ⟨aa,_,rfl,by rw[gM,eM (by omega),kG],s.drop⟩)
 ·intro J
  have J:1≤kd:=by simpa using J
  refine zm rfl (zY s 0 yN bZ rfl ?_)
  refine zd rfl (az rfl rfl cL) ?_ ?_
  ·intro I
   have I:9<kd:=by simpa using I
   exact zk 7 rfl (WP.ret ⟨aa,_,rfl,by rw[gM,eM (by omega),kG],s.drop⟩)
  ·intro I
   have I:kd≤9:=by simpa using I
   refine zk 7 rfl (zY s 0 tF ER rfl (zo rfl (aC rfl rfl rfl (Lm s (j1:=1) (j2:=2) rfl rfl j7)) (zk 2 rfl (WP.block ?_))))
   have hg:gM kd m=m.all (fun c=>decide c.Ok):=by rw[gM,dy ⟨J,I⟩,AA]
   refine M_ m.length 0 _ _ _ (by omega) hm.1 (fun c hc=>by have:=hm.2.1 c hc;omega) hm.2.2 s.drop ⟨rfl,rfl,rfl,rfl,aa⟩ (fun hf E' h' h2 s' => ?_) (fun hf E' h' s' => ?_)
   ·rw[hg]
    rw[eC] at hf
    rw[hf]
    exact⟨aa,_,EP h2,rfl,s'⟩
   ·rw[hg]
    rw[eC] at hf
    rw[hf]
    exact WP.has (F:=[]) aa (zK 4 rfl (WP.ret ⟨aa,_,rfl,rfl,s'⟩))
end
def nh (c:eE): List Nat:=digits 9 c.bE.toNat++digits 9 c.pos.toNat++[if c.whole then 1 else 0]++(digits 9 c.b.length++c.b)
def fO (kd:Int)(tx pv nx:Nat)(data:List Nat)(cK:List eE): List Nat :=
 [kd.toNat]++digits 9 tx++digits 9 pv++digits 9 nx++(digits 9 data.length++data)++digits 9 cK.length++cK.flatMap nh
section
variable {told:cy} {p:Nat} {v:V} {m:List Nat}
theorem pq (I:W told)(s:Sat h (aQ v l::S))(hn:n<18446744073709551616)(hl:l.length≤140737488355000):
  Call ⟨Tryz.prog,told⟩ 209 [v,.int .u64 (n:Int)] h fun r h'=>Sat h' (aQ r (l++digits 9 n)::S) :=
 (Ga I.UA (k:=9) s.wf (s.buf (k:=0) rfl) (by omega) (by omega) (by omega)).mono fun _ _ ⟨J,h2,h3⟩=>s.AV h2 J h3
theorem Fa (hT:W told)(s:Sat h (aQ v l::X::S))(I:bX X (b5 w m))(hl:l.length+m.length≤140737488355000):
  Call ⟨Tryz.prog,told⟩ 210 [v,w] h fun r h'=>Sat h' (aQ r (l++(digits 9 m.length++m))::X::S) :=
 (VV hT.UA (k:=9) s.wf (s.buf (k:=0) rfl) (s.aq (k:=1) rfl I) (s.Yw I) (by omega) (by omega) (by omega)).mono fun _ _ ⟨J,h2,h3⟩=>by
  rw[eB] at J
  exact s.AV h2 J h3
noncomputable def bdL : Code:=cE [1,1,1,1,0,1,0,0] ((Tryz.f191.body).getD .skip)
theorem PE (hT:W told){ch:V}(lB:∀c∈cK,c.Ok)(J:Dq cK): ∀(j i:Nat) (sv:V) (l:List Nat) (h:H) (E:List (Nat×V)) (Q:Ex→List (Nat×V)→H→Prop),i+j=cK.length →
  l.length+((cK.drop i).flatMap nh).length≤140737488355000 →
  Sat h (aQ sv l::.arr 4 ch cs::ew cs cK::S)→Has E [(1,.ptr p1 0),(3,sv),(37,ch),(38,.int .i64 cK.length),(39,.int .i64 i)] →
  (∀E' h' I,look E' 3=some I→Sat h' (aQ I (l++(cK.drop i).flatMap nh)::.arr 4 ch cs::ew cs cK::S)→Q (.exit 2) E' h')→WP ⟨Tryz.prog,told⟩ 63 (.loop bdL) E h Q:=by
 intro j
 induction j with
 |zero =>
  intro i sv l h E Q hi hlen s hE hx
  have hm:=J.1
  refine WP.loop (WP.has hE (zg rfl (zC rfl aL (by simp;omega) ?_)))
  refine zk 3 rfl (WP.exit (hx _ _ sv rfl ?_))
  rw[nA (by omega)]
  simpa using s
 |succ j ih =>
  intro i sv l h E Q hi hlen s hE hx
  have hm:=J.1
  have hc:cK[i]?=some (cK[i]'(by omega)):=aG _
  generalize (cK[i]'(by omega))=c at hc
  have y7:=aR hc
  have abT:=lB c y7
  have rY:=J.2.1 c y7
  have sB:cK.drop i=c::cK.drop (i+1):=by
   obtain⟨h1,rfl⟩:=List.getElem?_eq_some_iff.1 hc
   exact mF h1
  rw[sB,fE] at hlen hx
  obtain⟨pg,ps,wh,bb⟩:=c
  obtain⟨q1,q2,q3,q4,_⟩:=abT
  dsimp only at q1 q2 q3 q4 rY
  obtain⟨pg,rfl⟩:∃n:Nat,pg=n:=⟨pg.toNat,by omega⟩
  obtain⟨ps,rfl⟩:∃n:Nat,ps=n:=⟨ps.toNat,by omega⟩
  have SD:nh ⟨pg,ps,wh,bb⟩=digits 9 pg++digits 9 ps++[if wh then 1 else 0]++(digits 9 bb.length++bb):=by simp[nh]
  have Bz:(nh ⟨pg,ps,wh,bb⟩).length=(digits 9 pg).length+(digits 9 ps).length+1+(digits 9 bb.length).length+bb.length:=by rw[SD];simp;omega
  rw[aX,Bz] at hlen
  obtain⟨id,off,u,e1,e2,u1,u2,u3,s⟩:=PB (s.ae [1,1]) hc
  dsimp only at e2
  have s:=s.ae [3,0,0,0]
  dsimp only[aT,bringA,getA] at s
  refine WP.loop (WP.has hE (zg rfl (zB rfl aL (by simp;omega) ?_)))
  refine zk 5 rfl (WP.block (zg rfl (zo rfl (bx (r:=.ptr id off) rfl rfl e1) (zl rfl e2 ?_))))
  refine aA.cB s rfl rfl rfl (cF uq) (fun p7 h s => ?_)
  dsimp only[V.cells,List.length_cons,List.length_nil,Nat.reduceAdd] at s
  refine zS rfl (s.iK (j:=0) rfl A2 rfl (by simp only[kI,lM,u2];rfl)) ?_
  intro h s
  dsimp only[setA] at s
  refine zk 2 rfl ?_
  have s:=s.ae [1,0]
  dsimp only[bringA,getA,aT] at s
  have s0:=s
  refine WP.drawn [af,af,af,af,af,some (0,2),some (0,2),some (0,2),none,none] rfl (by kernel_rfl) (by kernel_rfl) ?_
  refine zM rfl (zF rfl (EX _ _) (zL rfl (s.ld (k:=1) rfl bZ rfl) (aE.op rfl rfl rfl (by simp only[isEff,dQ]) (b8 rfl (by exact jN bP dQ (gY (by omega) (by omega)))) ?_)))
  refine aE.any rfl rfl rfl rfl (OpR.call rfl rfl rfl rfl (pq hT s (by omega) (by omega))) ?_
  intro v1 h s
  have s1:=s
  refine zF rfl (sV _ _) (zL rfl (s.ld (k:=1) rfl bZ rfl) (aE.op rfl rfl rfl (by simp only[isEff,dQ]) (b8 rfl (by exact jN bP dQ (gY (by omega) (by omega)))) ?_))
  refine aE.any rfl rfl rfl rfl (OpR.call rfl rfl rfl rfl (pq hT s (by omega) (by simp;omega))) ?_
  intro v2 h s
  refine zA rfl ?_
  refine aE.nil ⟨⟨aa,aa,aa,aa,aa,fun _ _=>.inr ⟨rfl,⟨_,lU rfl (sV _ _)⟩,bj _ rfl⟩,ga (.inr ⟨rfl,⟨_,o_load rfl (s0.ld (k:=1) rfl bZ rfl)⟩,bj _ rfl⟩) (.inr ⟨rfl,⟨_,o_load rfl (s1.ld (k:=1) rfl bZ rfl)⟩,bj _ rfl⟩),fun _ _=>.inr ⟨rfl,⟨_,b8 rfl (by exact jN bP dQ (gY (by omega) (by omega)))⟩,bj _ rfl⟩,aa,aa,aa⟩,?_⟩
  have YJ:∀(h:H) (E:List (Nat×V)) (I:V),Sat h (aQ I (l++nh ⟨pg,ps,wh,bb⟩)::.arr 4 ch cs::ew cs cK::S)→Has E [(1,.ptr p1 0),(3,I),(37,ch),(38,.int .i64 cK.length),(39,.int .i64 ((i:Int)+1))]→WP ⟨Tryz.prog,told⟩ 63 (.loop bdL) E h Q:=by
   intro h E I s hE
   refine ih (i+1) I _ h E Q (by omega) (by rw[aX,Bz];omega) s hE (fun E' h' sv2 Bx s'=>hx E' h' sv2 Bx ?_)
   rw[eB] at s'
   exact s'
  have UG:=gL 9 pg
  have hlq:=gL 9 ps
  refine zK 7 rfl (zf rfl (K8 _ _) ?_)
  have CC:wh=false∨wh=true:=by cases wh<;>simp
  rcases CC with hw|hw
  ·skip
   refine zh rfl (o_load rfl (s.ld (k:=1) rfl qn rfl)) (hw) (zk 3 rfl ?_)
   have s0:=s
   have F8:=jZ (s.buf (k:=0) rfl).view
   refine WP.drawn [some (0,2),af,af,af,some (0,3),some (0,3),none,none] rfl (by kernel_rfl) (by kernel_rfl) ?_
   refine zM rfl (zM rfl (aE.any rfl rfl rfl rfl (OpR.A8 (n:=0) rfl s rfl rfl rfl (by decide)) ?_))
   intro v3 h s
   have s:=s.ae [1,1,0]
   dsimp only[bringA,getA,aT] at s
   have s1:=s
   refine aE.any rfl rfl rfl rfl (OpR.lX rfl (s.ae [0,1]) (aK _ _) rfl rfl rfl rfl (by simp;omega)) ?_
   intro v4 h s
   have s:=s.del 1
   dsimp only[aT,bringA] at s
   have s2:=s
   refine zF rfl (sW _ _) (zL rfl (s.ld (k:=1) rfl ah rfl) (aE.any rfl rfl rfl rfl (OpR.call rfl rfl rfl rfl (Fa hT (s.ae [0,1]) (aY _ _) (by simp;omega))) ?_))
   intro v5 h s
   dsimp only[aT,bringA] at s
   refine zA rfl ?_
   refine aE.nil ⟨⟨fun _ _=>.inr ⟨rfl,⟨_,bV rfl⟩,F8⟩,aa,aa,aa,fun _ _=>.inr ⟨rfl,⟨_,lU rfl (sW _ _)⟩,bj _ rfl⟩,C4 (.inr ⟨rfl,⟨_,o_load rfl (s0.ld (k:=1) rfl ah rfl)⟩,u3⟩) (.inr ⟨rfl,⟨_,o_load rfl (s1.ld (k:=1) rfl ah rfl)⟩,u3⟩) (.inr ⟨rfl,⟨_,o_load rfl (s2.ld (k:=1) rfl ah rfl)⟩,u3⟩),aa,aa,aa⟩,?_⟩
   refine zr rfl (zb rfl (by exact aO (ay (by omega) (by omega))) ?_)
   refine zm rfl (zv ?_)
   refine YJ _ _ v5 ?_ ?_
   ·rw[SD,hw]
    have s:=(s.del 1).del 1
    dsimp only[aT] at s
    simpa[eB] using s
   ·exact⟨rfl,rfl,rfl,rfl,rfl,aa⟩
  ·skip
   refine zt rfl (o_load rfl (s.ld (k:=1) rfl qn rfl)) (hw) (zk 5 rfl ?_)
   have s0:=s
   have F8:=jZ (s.buf (k:=0) rfl).view
   refine WP.drawn [some (0,2),af,af,af,some (0,3),some (0,3),none,none] rfl (by kernel_rfl) (by kernel_rfl) ?_
   refine zM rfl (zM rfl (aE.any rfl rfl rfl rfl (OpR.A8 (n:=1) rfl s rfl rfl rfl (by decide)) ?_))
   intro v3 h s
   have s:=s.ae [1,1,0]
   dsimp only[bringA,getA,aT] at s
   have s1:=s
   refine aE.any rfl rfl rfl rfl (OpR.lX rfl (s.ae [0,1]) (aK _ _) rfl rfl rfl rfl (by simp;omega)) ?_
   intro v4 h s
   have s:=s.del 1
   dsimp only[aT,bringA] at s
   have s2:=s
   refine zF rfl (sW _ _) (zL rfl (s.ld (k:=1) rfl ah rfl) (aE.any rfl rfl rfl rfl (OpR.call rfl rfl rfl rfl (Fa hT (s.ae [0,1]) (aY _ _) (by simp;omega))) ?_))
   intro v5 h s
   dsimp only[aT,bringA] at s
   refine zA rfl ?_
   refine aE.nil ⟨⟨fun _ _=>.inr ⟨rfl,⟨_,bV rfl⟩,F8⟩,aa,aa,aa,fun _ _=>.inr ⟨rfl,⟨_,lU rfl (sW _ _)⟩,bj _ rfl⟩,C4 (.inr ⟨rfl,⟨_,o_load rfl (s0.ld (k:=1) rfl ah rfl)⟩,u3⟩) (.inr ⟨rfl,⟨_,o_load rfl (s1.ld (k:=1) rfl ah rfl)⟩,u3⟩) (.inr ⟨rfl,⟨_,o_load rfl (s2.ld (k:=1) rfl ah rfl)⟩,u3⟩),aa,aa,aa⟩,?_⟩
   refine zr rfl (zb rfl (by exact aO (ay (by omega) (by omega))) ?_)
   refine zm rfl (zv ?_)
   refine YJ _ _ v5 ?_ ?_
   ·rw[SD,hw]
    have s:=(s.del 1).del 1
    dsimp only[aT] at s
    simpa[eB] using s
   ·exact⟨rfl,rfl,rfl,rfl,rfl,aa⟩
theorem SE (J:W told){kd:Nat}{ch:V}(s:Sat h (X::.arr 4 ch cs::ew cs cK::S))(hX:bX X (b5 dt data))(hg:gM kd cK=true)(I:Dq cK)
 (Iv:tx<18446744073709551616)(UH:pv<18446744073709551616)(y8:nx<18446744073709551616)(hlen:data.length+(cK.flatMap nh).length≤70368744177664):
  Call ⟨Tryz.prog,told⟩ 191 [.agg (nM kd tx pv nx dt ch)] h fun r h'=>Sat h' (aQ r (fO kd tx pv nx data cK)::X::.arr 4 ch cs::ew cs cK::S):=by
 have tL:=s.rQ (j:=1) rfl
 have xP:=s.aq (k:=0) rfl hX
 have Ya:=jZ xP
 have lq:=yY (kd:=kd) (tx:=tx) (pv:=pv) (nx:=nx) xP.cells.2 tL.2.1
 have hk:1≤kd∧kd≤9:=by simp[gM] at hg;omega
 have lB:∀c∈cK,c.Ok:=by
  simp only[gM,bF,mJ,i_] at hg
  exact hg.2
 have hm:=I.1
 have h1:=gL 9 tx
 have h2:=gL 9 pv
 have h3:=gL 9 nx
 have h4:=gL 9 data.length
 have h5:=gL 9 cK.length
 refine Call.of_wp (J.free _ rfl) Tryz.func191 rfl rfl (zg rfl (aA.cB s rfl rfl rfl (fH rfl lq) ?_))
 intro p1 h s
 dsimp only[V.cells] at s
 refine zk 4 rfl (zY s 0 yN bZ rfl (zo rfl (b8 rfl (by exact jN bP Tryz.underlying5 (ru (by omega) (by omega)))) ?_))
 refine aA.any rfl rfl rfl (OpR.A8 (n:=kd) rfl s rfl rfl rfl (by omega)) ?_
 intro v3 h s
 refine zk 5 rfl (zY s 1 Yk pU rfl (zY s 1 Yl pU rfl (zY s 1 Ym pU rfl (zo rfl (cP rfl (by rw[aaH];rfl)) ?_))))
 refine zk 2 rfl (WP.block (WP.loop (zg rfl (zB rfl aL (by decide) ?_))))
 refine zk 5 rfl (WP.block (zg rfl (zo rfl (HQ rfl rfl (r:=.int .u64 (tx:Int)) (by simp only[indexV,Ig,MN,r9,pU];rfl)) ?_)))
 refine zk 5 rfl (zc rfl (pq J s (by omega) (by simp only[aX,aZ,bI];omega)) ?_)
 intro v3 h s
 refine za rfl (zv (zr rfl (zb rfl (by exact aO (ay (by omega) (by omega))) ?_)))
 refine zm rfl (zv (WP.loop (zg rfl (zt rfl (az rfl rfl aL) (by decide) ?_))))
 refine zk 5 rfl (WP.block (zg rfl (zo rfl (HQ rfl rfl (r:=.int .u64 (pv:Int)) (by simp only[indexV,Ig,MN,r9,pU];rfl)) ?_)))
 refine zk 5 rfl (zc rfl (pq J s (by omega) (by simp only[aX,aZ,bI];omega)) ?_)
 intro v3 h s
 refine za rfl (zv (zr rfl (zb rfl (by exact aO (ay (by omega) (by omega))) ?_)))
 refine zm rfl (zv (WP.loop (zg rfl (zt rfl (az rfl rfl aL) (by decide) ?_))))
 refine zk 5 rfl (WP.block (zg rfl (zo rfl (HQ rfl rfl (r:=.int .u64 (nx:Int)) (by simp only[indexV,Ig,MN,r9,pU];rfl)) ?_)))
 refine zk 5 rfl (zc rfl (pq J s (by omega) (by simp only[aX,aZ,bI];omega)) ?_)
 intro v3 h s
 refine za rfl (zv (zr rfl (zb rfl (by exact aO (ay (by omega) (by omega))) ?_)))
 refine zm rfl (zv (WP.loop (zg rfl (zh rfl (az rfl rfl aL) (by decide) ?_))))
 refine zk 3 rfl (WP.exit (zw ?_))
 have s0:=s
 have oX:=jZ (s.buf (k:=0) rfl).view
 refine WP.drawn [af,af,af,af,some (0,2),some (0,2),some (0,2),some (0,2),none,none] rfl (by kernel_rfl) (by kernel_rfl) ?_
 refine zM rfl (zF rfl (Yn _ _) (zL rfl (s.ld (k:=1) rfl ah rfl) (aE.any rfl rfl rfl rfl (OpR.call rfl rfl rfl rfl (Fa J (s.ae [0,1]) hX (by simp only[aX,aZ,bI];omega))) ?_)))
 intro v4 h s
 have s:=s.ae [0,1,0]
 have s1:=s
 refine zF rfl (tF _ _) (zL rfl (s.ld (k:=1) rfl ER rfl) (zO rfl (aC rfl rfl rfl (s.yZ (j1:=3) (j2:=4) rfl rfl j7)) (aE.op rfl rfl rfl (by simp only[isEff,dQ]) (b8 rfl (by exact jN bP dQ (gY (by omega) (by omega)))) ?_)))
 refine aE.any rfl rfl rfl rfl (OpR.call rfl rfl rfl rfl (pq J s (by omega) (by simp only[aX,aZ,bI];omega))) ?_
 intro v5 h s
 refine zA rfl ?_
 refine aE.nil ⟨⟨aa,aa,aa,aa,fun _ _=>.inr ⟨rfl,⟨_,lU rfl (tF _ _)⟩,bj _ rfl⟩,ga (.inr ⟨rfl,⟨_,o_load rfl (s0.ld (k:=1) rfl ER rfl)⟩,tL.2.2⟩) (.inr ⟨rfl,⟨_,o_load rfl (s1.ld (k:=1) rfl ER rfl)⟩,tL.2.2⟩),ga (.inr ⟨rfl,⟨_,aC rfl rfl rfl (s0.yZ (j1:=3) (j2:=4) rfl rfl j7)⟩,bj _ rfl⟩) (.inr ⟨rfl,⟨_,aC rfl rfl rfl (s1.yZ (j1:=3) (j2:=4) rfl rfl j7)⟩,bj _ rfl⟩),fun _ _=>.inr ⟨rfl,⟨_,b8 rfl (by exact jN bP dQ (gY (by omega) (by omega)))⟩,bj _ rfl⟩,aa,aa,aa⟩,?_⟩
 refine zK 3 rfl (zY s 1 tF ER rfl (zo rfl (aC rfl rfl rfl (s.yZ (j1:=3) (j2:=4) rfl rfl j7)) (zk 2 rfl (WP.block ?_))))
 have s:=s.ae [0,2,2,1]
 refine PE J lB I cK.length 0 v5 _ _ _ _ (by omega) (by rw[eC];simp only[aX,aZ,bI];omega) s ⟨rfl,rfl,rfl,rfl,rfl,aa⟩ (fun E' h' YK fh s' => ?_)
 refine WP.has (F:=[(3,YK)]) ⟨fh,aa⟩ (zK 5 rfl (WP.ret ⟨aa,_,rfl,?_⟩))
 have s'':=(s'.ae [0,2,0,0]).del 4
 dsimp only[List.cons_append,List.nil_append,List.drop,aT,bringA,getA] at s''
 simpa[fO,eB] using s''
end
def rR (bf:Nat)(b:List Nat): List Nat:=le 4 b.length++le 4 (Dh bf b)++b
theorem w6 (bf:Nat)(b:List Nat): (rR bf b).length=8+b.length:=by simp[rR,dH];omega
theorem w8 : ∃i,Tryz.prog.info? 3=some i∧i.size=1∧i.bytes=8 :=
 ⟨_,(show Tryz.prog.info? 3=some ((Tryz.prog.info? 3).getD default) by kernel_rfl),by kernel_rfl,by kernel_rfl⟩
section
variable {told:cy} {p:Nat} {v:V} {m:List Nat}
theorem PF (I:W told)(s:Sat h S)(J:getA S k=some X)(hX:bX X (b5 v l))(hl:l.length≤4611686018427387904):
  Call ⟨Tryz.prog,told⟩ 192 [.int .u64 (n:Int),v] h fun r h'=>r=.int .u32 (Dh n l:Nat)∧Sat h' S :=
 (Pn I.UA s.wf (s.aq J hX) hl).mono fun _ _ ⟨h1,h2⟩=>⟨h1,s.nO h2⟩
structure Dr (tx pv nx:Nat)(data:List Nat)(cK:List eE): Prop where
 fit:Dq cK
 tx:tx<18446744073709551616
 pv:pv<18446744073709551616
 nx:nx<18446744073709551616
 len:data.length+(cK.flatMap nh).length≤70368744177664
theorem PG (J:W told){ch:V}(s:Sat h (X::.arr 4 ch cs::ew cs cK::S))(hX:bX X (b5 dt data))(I:Dr tx pv nx data cK):
  Call ⟨Tryz.prog,told⟩ 140 [.agg (nM kd tx pv nx dt ch),.int .u64 (bf:Int)] h fun r h' =>
  (gM kd cK=false∧r=.aW [.aV,.int .i64 1]∧Sat h' (X::.arr 4 ch cs::ew cs cK::S)) ∨
  (gM kd cK=true∧1048576<(fO kd tx pv nx data cK).length∧r=.aW [.aV,.int .i64 2]∧Sat h' (X::.arr 4 ch cs::ew cs cK::S)) ∨
  (gM kd cK=true∧(fO kd tx pv nx data cK).length≤1048576∧∃u,r=.aW [u,.int .i64 0]∧Sat h' (aQ u (rR bf (fO kd tx pv nx data cK))::X::.arr 4 ch cs::ew cs cK::S)):=by
 have tL:=s.rQ (j:=1) rfl
 have xP:=s.aq (k:=0) rfl hX
 have lq:=yY (kd:=kd) (tx:=tx) (pv:=pv) (nx:=nx) xP.cells.2 tL.2.1
 refine Call.of_wp (J.free _ rfl) Tryz.func140 rfl rfl (zg rfl (aA.cB s rfl rfl rfl (fH rfl lq) ?_))
 intro p1 h s
 dsimp only[V.cells] at s
 refine zk 6 rfl (zl rfl (s.cg (k:=0) rfl ES wU) (zc rfl (SC J (s.ae [2,2]) xP.cells.2 I.fit) ?_))
 rintro r h' ⟨rfl,s⟩
 cases hg:gM kd cK with
 |false =>
  exact zo rfl (eG rfl rfl) (zk 7 rfl (WP.ret ⟨aa,_,rfl,.inl ⟨rfl,rfl,(s.ae [3,0,0]).del 3⟩⟩))
 |true =>
  refine zo rfl (eG rfl rfl) (zk 5 rfl (zl rfl (s.cg (k:=2) rfl ES wU) ?_))
  have hk:∃n:Nat,kd=n:=⟨kd.toNat,by simp[gM] at hg;omega⟩
  obtain⟨kd,rfl⟩:=hk
  refine zc rfl (SE J (s.ae [3,0,0]) hX hg I.fit I.tx I.pv I.nx I.len) ?_
  intro u h s
  dsimp only[bringA,getA,aT] at s
  have Is:(fO kd tx pv nx data cK).length<9223372036854775808:=by
   have h1:=gL 9 tx
   have h2:=gL 9 pv
   have h3:=gL 9 nx
   have h4:=gL 9 data.length
   have h5:=gL 9 cK.length
   have h6:=I.len
   simp only[fO,aX,aZ,bI]
   omega
  generalize ON:fO kd tx pv nx data cK=bd at s Is ⊢
  refine zk 6 rfl (zo rfl (aC rfl rfl rfl (au ak (s.aq (k:=0) rfl (aK _ _)))) ?_)
  by_cases Iw:1048576<bd.length
  ·skip
   refine zB rfl cL (by simp;omega) ?_
   exact zk 7 rfl (WP.ret ⟨aa,_,rfl,.inr (.inl ⟨rfl,Iw,rfl,(s.del 4).del 0⟩)⟩)
  ·skip
   refine zC rfl cL (by simp;omega) ?_
   refine zk 6 rfl (zo rfl (aC rfl rfl rfl (au ak (s.aq (k:=0) rfl (aK _ _)))) (zb rfl (by exact aO (ay (by omega) (by omega))) ?_))
   refine aA.any rfl rfl rfl (OpR.rC (c:=8+bd.length) rfl s rfl rfl rfl rfl (by omega)) ?_
   intro v h s
   refine zm rfl (zo rfl (aC rfl rfl rfl (au ak (s.aq (k:=1) rfl (aK _ _)))) (zo rfl (b8 rfl (by exact jN bP dQ (gY (by omega) (by omega)))) ?_))
   refine zc rfl (Dp (z:=4) J s (by decide) (by simp)) ?_
   intro v h s
   have cV:=(s.buf (k:=1) rfl).1
   refine zk 7 rfl (zc rfl (PF (n:=bf) J s (k:=1) rfl (aK _ _) (by omega)) ?_)
   rintro r h ⟨rfl,s⟩
   have iI:=Sv (bf:=bf) cV
   refine zo rfl (b8 rfl (by exact jN Tryz.underlying260 dQ (gY (by omega) (by omega)))) ?_
   refine zc rfl (Dp (z:=4) J s (by decide) (by simp[dH])) ?_
   intro v h s
   refine zk 6 rfl (aA.any rfl rfl rfl (OpR.lX rfl s (aK _ _) rfl rfl rfl rfl (by simp only[aX,dH,bI];omega)) ?_)
   intro v h s
   refine zk 3 rfl (WP.ret ⟨aa,_,rfl,?_⟩)
   refine .inr (.inr ⟨rfl,by omega,v,rfl,?_⟩)
   have s:=(s.del 5).del 1
   dsimp only[aT] at s
   simpa[rR,eB] using s
def Lg.app (μ:Lg)(b:List Nat): Lg:={ μ with b:=μ.b++b,cZ:=μ.cZ++[μ.b.length] }
theorem Na (hT:W told){ch:V}(s:Sat h (cM q p μ::bM p δ::X::.arr 4 ch cs::ew cs cK::S))(hX:bX X (b5 dt data))(dN:Dr tx pv nx data cK)
 (J:μ.Ok)(hf:δ.cn<4294967296)(hl:δ.log.length≤16777216)(hr:δ.room≤16777216):
  Call ⟨Tryz.prog,told⟩ 59 [.ptr q 0,.agg (nM kd tx pv nx dt ch)] h fun r h' =>
  (∃e:Int,r=.aW [.int .u64 0,.int .i64 e]∧((gM kd cK=false∧e=1)∨(gM kd cK=true∧1048576<(fO kd tx pv nx data cK).length∧e=2)∨(gM kd cK=true∧(fO kd tx pv nx data cK).length≤1048576∧δ.dead=true∧e=9) ∨
    (gM kd cK=true∧(fO kd tx pv nx data cK).length≤1048576∧δ.dead=false∧δ.room<δ.log.length+(rR (μ.base+μ.b.length) (fO kd tx pv nx data cK)).length∧e=7))∧Sat h' (cM q p μ::bM p δ::X::.arr 4 ch cs::ew cs cK::S)) ∨
  (gM kd cK=true∧(fO kd tx pv nx data cK).length≤1048576∧δ.dead=false∧δ.log.length+(rR (μ.base+μ.b.length) (fO kd tx pv nx data cK)).length≤δ.room∧δ.cn=0∧r=.aW [.int .u64 0,.int .i64 9] ∧
   Sat h' (cM q p μ::bM p { δ.die with tail:=rR (μ.base+μ.b.length) (fO kd tx pv nx data cK) }::X::.arr 4 ch cs::ew cs cK::S)) ∨
  (gM kd cK=true∧(fO kd tx pv nx data cK).length≤1048576∧δ.dead=false∧δ.log.length+(rR (μ.base+μ.b.length) (fO kd tx pv nx data cK)).length≤δ.room∧δ.cn≠0∧r=.aW [.int .u64 ((μ.base+μ.b.length:Nat):Int),.int .i64 0] ∧
   Sat h' (cM q p (μ.app (rR (μ.base+μ.b.length) (fO kd tx pv nx data cK)))::bM p { δ.fg with log:=δ.log++rR (μ.base+μ.b.length) (fO kd tx pv nx data cK) }::X::.arr 4 ch cs::ew cs cK::S)):=by
 have tL:=s.rQ (j:=3) rfl
 have xP:=s.aq (k:=2) rfl hX
 have lq:=yY (kd:=kd) (tx:=tx) (pv:=pv) (nx:=nx) xP.cells.2 tL.2.1
 have M9:=J.size
 refine Call.of_wp (hT.free _ rfl) Tryz.func59 rfl rfl (zg rfl (aA.cB s rfl rfl rfl (fH rfl lq) ?_))
 intro p1 h s
 dsimp only[V.cells] at s
 have s:=s.ae [1,0]
 refine zk 6 rfl (zc rfl (E9 hT s J.size) ?_)
 rintro v h' ⟨rfl,rfl⟩
 refine zk 4 rfl (zl rfl (s.cg (k:=1) rfl ES wU) (zm rfl (zc rfl (PG (bf:=μ.base+μ.b.length) hT (s.ae [3,3,3]) hX dN) ?_)))
 generalize hrc:rR (μ.base+μ.b.length) (fO kd tx pv nx data cK)=rc
 have Ln:rc.length=8+(fO kd tx pv nx data cK).length:=by rw[←hrc,w6]
 rintro r h' (⟨hg,rfl,s⟩|⟨hg,Iw,rfl,s⟩|⟨hg,BH,u,rfl,s⟩)
 ·dsimp only[bringA,getA,aT] at s
  exact zk 10 rfl (zB rfl aN (rfl) (zk 8 rfl (WP.ret ⟨aa,_,rfl,.inl ⟨1,rfl,.inl ⟨hg,rfl⟩,(s.ae [3,4,0,0,0]).del 5⟩⟩)))
 ·dsimp only[bringA,getA,aT] at s
  exact zk 10 rfl (zB rfl aN (rfl) (zk 8 rfl (WP.ret ⟨aa,_,rfl,.inl ⟨2,rfl,.inr (.inl ⟨hg,Iw,rfl⟩),(s.ae [3,4,0,0,0]).del 5⟩⟩)))
 ·dsimp only[bringA,getA,aT] at s
  have cV:=(s.buf (k:=0) rfl).1
  obtain⟨lz,_,cap,_,rfl,_⟩:=s.dP (by omega)
  obtain⟨bv,sv,s⟩:=iw.1 (s.ae [4])
  refine zk 10 rfl (zC rfl aN (rfl) (zk 8 rfl (zY s 0 K7 uX rfl (zm rfl ?_))))
  have s:=s.ae [8,3]
  refine zc rfl (M4 hT s (aK _ _) (by omega) hf (by omega) (by omega)) ?_
  rintro r h (⟨hd,rfl,s⟩|⟨hd,Ba,rfl,s⟩|⟨hd,I,h0,rfl,s⟩|⟨hd,I,h0,rfl,s⟩)
  ·refine aA.op rfl rfl rfl (gT rfl) ?_
   exact zk 4 rfl (zB rfl aN (rfl) (zk 8 rfl (WP.ret ⟨aa,_,rfl,.inl ⟨9,rfl,.inr (.inr (.inl ⟨hg,BH,hd,rfl⟩)),(iw.2 ⟨bv,sv,((s.ae [2,2,2,0,1,1,1]).del 8).del 7⟩)⟩⟩)))
  ·skip
   exact zk 5 rfl (zB rfl aN (rfl) (zk 8 rfl (WP.ret ⟨aa,_,rfl,.inl ⟨7,rfl,.inr (.inr (.inr ⟨hg,BH,hd,by omega,rfl⟩)),(iw.2 ⟨bv,sv,((s.ae [2,2,2,0,1,1,1]).del 8).del 7⟩)⟩⟩)))
  ·skip
   exact zk 5 rfl (zB rfl aN (rfl) (zk 8 rfl (WP.ret ⟨aa,_,rfl,.inr (.inl ⟨hg,BH,hd,I,h0,rfl,(iw.2 ⟨bv,sv,((s.ae [2,2,2,0,1,1,1]).del 8).del 7⟩)⟩)⟩)))
  ·skip
   have s:=s.ae [2,2,2,1,0,0,0,0]
   refine zk 5 rfl (zC rfl aN (rfl) (zk 4 rfl ?_))
   have s0:=s
   have hbb:=jZ (s.buf (k:=1) rfl).view
   have UI:=(s.rQ (j:=2) rfl).2.2
   refine WP.drawn [some (0,3),some (0,2),some (0,2),some (0,2),some (0,2),af,af,af,af,af,af,af,af,af,af] rfl (by kernel_rfl) (by kernel_rfl) ?_
   refine zM rfl (zM rfl (zN rfl (zF rfl (qC _ _) (zL rfl (s.ld (k:=0) rfl BX rfl) (zM rfl (zN rfl (zF rfl (lV _ _) (zL rfl (s.ld (k:=0) rfl ah rfl) (zO rfl (aC rfl rfl rfl (au ak (s.aq (k:=1) rfl (aK _ _)))) ?_)))))))))
   obtain⟨i1,eT,gC,om⟩:=w8
   obtain⟨iv,h1,e1,s1⟩:=jB (P:=Tryz.prog) (k:=1) (x:=.int .i64 (μ.b.length:Int)) s cC yL jO rfl (by decide) (by decide) rfl rfl
   dsimp only[V.cells] at s1
   refine aE.any rfl rfl rfl rfl (OpR.of (R:=fun v h'=>v=iv∧h'=h1) (gI rfl e1) ⟨rfl,rfl⟩) ?_
   rintro v h' ⟨rfl,rfl⟩
   have UF:=J.many
   obtain⟨YK,h2,e2,s2⟩:=gK (s1.ae [3,0]) cC eT yL gC (by omega) rfl (by decide) (by simp only[iD,aZ,bI];omega)
   refine aE.any rfl rfl rfl rfl (OpR.of (R:=fun v h'=>v=YK∧h'=h2) (iG rfl rfl e2) ⟨rfl,rfl⟩) ?_
   rintro v h' ⟨rfl,rfl⟩
   have hv:=s2.rQ (j:=0) rfl
   refine zN rfl (zF rfl (qC _ _) (aE.mS rfl rfl rfl (OpR.F6 rfl rfl rfl (s2.lu (k:=2) rfl abF rfl (by decide) hv.1 hv.2.1)) ?_))
   rintro v h ⟨rfl,s⟩
   refine aE.nil ⟨⟨fun _ _=>.inr ⟨rfl,⟨_,bV rfl⟩,bj _ rfl⟩,fun _ _=>.inr ⟨rfl,⟨_,bV rfl⟩,bj _ rfl⟩,fun _ _=>.inr ⟨rfl,⟨_,su rfl⟩,bj _ rfl⟩,fun _ _=>.inr ⟨rfl,⟨_,lU rfl (qC _ _)⟩,bj _ rfl⟩,ga (.inr ⟨rfl,⟨_,o_load rfl (s0.ld (k:=0) rfl BX rfl)⟩,UI⟩) (.inr ⟨rfl,⟨_,o_load rfl (s1.ld (k:=1) rfl BX rfl)⟩,UI⟩),aa,aa,aa,aa,aa,aa,aa,aa,aa,aa,aa⟩,?_⟩
   refine zK 5 rfl (zY s 2 lV ah rfl (zm rfl (aA.any rfl rfl rfl (OpR.lX rfl (s.ae [3,3]) (aK _ _) rfl rfl rfl rfl (by have:=J.len;omega)) ?_)))
   intro bv' h s
   have hv:=(s.buf (k:=0) rfl).view.cells
   refine zn rfl (zf rfl (lV _ _) (zS rfl (s.lu (k:=4) rfl eZ rfl (by decide) hv.1 hv.2) ?_))
   intro h s
   refine zk 7 rfl (WP.ret ⟨aa,_,rfl,?_⟩)
   refine .inr (.inr ⟨hg,BH,hd,I,h0,rfl,iw.2 ⟨bv',v,?_⟩⟩)
   have s:=(((s.ae [4,0,1]).del 4).del 3).del 7
   have e:cf (μ.app rc).cZ=cf μ.cZ++[.int .i64 (μ.b.length:Int)]:=by simp[Lg.app,cf]
   rw[e]
   exact s
end
def Dk.iE (δ:Dk): Int×Dk:=if δ.dead=true then(9,δ) else if δ.cn=0 then(9,δ.die) else(0,{ δ.fg with fG:=δ.log.length })
def Dk.dI (δ:Dk)(n:Int)(b:List Nat): Int×Dk:=if δ.dead=true then(9,δ) else if ¬(0≤n∧n<δ.bD.length∧b.length=512) then(1,δ) else
 if δ.cn=0 then(9,{ δ.die with E5:=some (n.toNat,b) }) else(0,δ.wr n b)
def Dk.qH (δ:Dk)(b:List Nat): Int×Dk:=if δ.dead=true then(9,δ) else if δ.room<δ.log.length+b.length then(7,δ) else if δ.cn=0 then(9,{ δ.die with tail:=b }) else(0,{ δ.fg with log:=δ.log++b })
def Dk.qV (δ:Dk)(n:Int): Int:=if δ.dead=true then 9 else if ¬(0≤n∧n<δ.bD.length) then 1 else 0
structure Dk.Ok (δ:Dk): Prop where
 cn:δ.cn<4294967296
 len:δ.log.length≤16777216
 room:δ.room≤16777216
 now:∀e∈δ.now,e.2.length=512
 bD:∀(i:Nat) (b:List Nat),δ.bD[i]?=some (some b)→b.length=512
 fG:δ.fG≤δ.log.length
 many:δ.bD.length≤65536
theorem Dk.Ok.fg (h:δ.Ok): δ.fg.Ok:=⟨by have:=h.cn;simp only[Dk.fg];split<;>omega,h.len,h.room,h.now,h.bD,h.fG,h.many⟩
theorem Dk.Ok.die (h:δ.Ok): δ.die.Ok:=⟨h.cn,h.len,h.room,h.now,h.bD,h.fG,h.many⟩
theorem Dk.Ok.iE (h:δ.Ok): δ.iE.2.Ok:=by
 unfold Dk.iE
 split
 ·exact h
 ·split
  ·exact h.die
  ·exact⟨h.fg.cn,h.len,h.room,h.now,h.bD,aM _,h.many⟩
theorem mc {n:Int}{x:α}: ∀ {l:List (Int×α)},lookL n l=some x→(n,x)∈l:=by
 intro l
 induction l<;>grind[lookL]
theorem Dk.Ok.at (I:δ.Ok)(n:Int): (δ.at n).length=512:=by
 unfold Dk.at
 cases J:lookL n δ.now with
 |some b=>exact I.now _ (mc J)
 |none =>
  cases h2:δ.bD[n.toNat]? with
  |none=>grind
  |some o =>
   cases o with
   |none=>grind
   |some b=>exact I.bD _ _ h2
section
variable {told:cy} {p:Nat} {v:V}
theorem V8 (I:W told){n:Int}(s:Sat h (bM p δ::X::S))(J:bX X (b5 x b))(hb:b.length<1073741824)(hf:δ.cn<4294967296)(hw:δ.waiting.length≤268435456):
  Call ⟨Tryz.prog,told⟩ 183 [.ptr p 0,.int .i64 n,x] h fun v h'=>v=.int .i64 (δ.dI n b).1∧Sat h' (bM p (δ.dI n b).2::X::S):=by
 refine(Ps I s J hb hf hw).mono fun v h' hr => ?_
 grind[Dk.dI]
theorem PI (J:W told){n:Int}(s:Sat h (bM p δ::S))(I:δ.Ok): Call ⟨Tryz.prog,told⟩ 148 [.ptr p 0,.int .i64 n] h fun v h' =>
  (δ.qV n≠0∧v=.aW [.aV,.int .i64 (δ.qV n)]∧Sat h' (bM p δ::S))∨(δ.qV n=0∧∃u,v=.aW [u,.int .i64 0]∧Sat h' (aQ u (δ.at n)::bM p δ::S)):=by
 refine(Sw J s (I.at n)).mono fun v h' hr => ?_
 grind[Dk.qV]
end
abbrev LD := Lg×Dk
def cr (x:LD)(n:Nat): Int×LD:=if n<x.1.base+x.1.forced then(0,x) else if x.2.iE.1≠0 then(x.2.iE.1,(x.1,x.2.iE.2)) else(0,({ x.1 with forced:=x.1.b.length },x.2.iE.2))
def gN (μ:Lg)(kd:Int)(tx pv nx:Nat)(data:List Nat)(cK:List eE): List Nat:=rR (μ.base+μ.b.length) (fO kd tx pv nx data cK)
def bN (x:LD)(kd:Int)(tx pv nx:Nat)(data:List Nat)(cK:List eE): (Nat×Int)×LD :=
 if gM kd cK=false then((0,1),x) else if 1048576<(fO kd tx pv nx data cK).length then((0,2),x) else
 if (x.2.qH (gN x.1 kd tx pv nx data cK)).1≠0 then((0,(x.2.qH (gN x.1 kd tx pv nx data cK)).1),(x.1,(x.2.qH (gN x.1 kd tx pv nx data cK)).2)) else
 ((x.1.base+x.1.b.length,0),(x.1.app (gN x.1 kd tx pv nx data cK),(x.2.qH (gN x.1 kd tx pv nx data cK)).2))
theorem J_ : δ.iE.2.waiting=δ.waiting:=by
 unfold Dk.iE
 split
 ·rfl
 ·split<;>rfl
theorem y9 {x:LD}: (cr x n).2.2.waiting=x.2.waiting:=by
 grind[cr,J_]
theorem Dk.Ok.dI {n:Int}(h:δ.Ok): (δ.dI n b).2.Ok:=by
 unfold Dk.dI
 split
 ·exact h
 ·split
  ·exact h
  ·split
   ·exact⟨h.cn,h.len,h.room,h.now,h.bD,h.fG,h.many⟩
   ·refine⟨h.fg.cn,h.len,h.room,fun e he => ?_,h.bD,h.fG,h.many⟩
    have:∀l:List (Int×List Nat),(∀e∈l,e.2.length=512)→∀e∈cY n b l,e.2.length=512:=by
     intro l
     induction l<;>grind[cY]
    exact this δ.now h.now e he
theorem sC {x:LD}(h:x.2.Ok): (cr x n).2.2.Ok:=by
 unfold cr
 split
 ·exact h
 ·split
  ·exact h.iE
  ·exact h.iE
theorem Lg.Ok.V9 (h:μ.Ok): ({ μ with forced:=μ.b.length }:Lg).Ok:=⟨h.size,h.many,h.low,h.E8,aM _,h.len,h.check⟩
theorem Ka {x:LD}(h:x.1.Ok): (cr x n).2.1.Ok:=by
 unfold cr
 split
 ·exact h
 ·split
  ·exact h
  ·exact h.V9
section
variable {told:cy} {p:Nat} {v:V}
theorem V_ (J:W told)(s:Sat h (cM q p μ::bM p δ::S))(I:μ.Ok)(hf:δ.cn<4294967296): Call ⟨Tryz.prog,told⟩ 103 [.ptr q 0,.int .u64 (n:Int)] h fun v h' =>
  v=.int .i64 (cr (μ,δ) n).1∧Sat h' (cM q p (cr (μ,δ) n).2.1::bM p (cr (μ,δ) n).2.2::S):=by
 refine(PA J s I hf).mono fun v h' hr => ?_
 grind[cr,Dk.iE]
theorem SF (hT:W told){ch:V}(s:Sat h (cM q p μ::bM p δ::X::.arr 4 ch cs::ew cs cK::S))(hX:bX X (b5 dt data))(J:Dr tx pv nx data cK)(YL:μ.Ok)(I:δ.Ok):
  Call ⟨Tryz.prog,told⟩ 59 [.ptr q 0,.agg (nM kd tx pv nx dt ch)] h fun r h' =>
  r=.aW [.int .u64 ((bN (μ,δ) kd tx pv nx data cK).1.1:Nat),.int .i64 (bN (μ,δ) kd tx pv nx data cK).1.2] ∧
  Sat h' (cM q p (bN (μ,δ) kd tx pv nx data cK).2.1::bM p (bN (μ,δ) kd tx pv nx data cK).2.2::X::.arr 4 ch cs::ew cs cK::S):=by
 refine(Na hT s hX J YL I.cn I.len I.room).mono fun v h' hr => ?_
 grind[bN,Dk.qH,gN]
end
structure Fm where
 bE:Int
 b:List Nat
 pins:Int
 fK:Bool
 changed:Bool
structure Pl where
 ai:List Fm
 bJ:List (Int×Int)
 dh:List (Int×(Nat×Bool))
 hand:Nat
variable {π bY:Pl}
def gq (f:Fm)(v:V): List V:=[.int .i64 f.bE,v,.int .i64 f.pins,.bool f.fK,.bool f.changed]
def tM : List V→List Fm→aI
 |[],[]=>.pu True
 |a::v::c::d::e::l,x::m=>.an (.an (.pu (a=.int .i64 x.bE∧c=.int .i64 x.pins∧d=.bool x.fK∧e=.bool x.changed)) (.bK v x.b)) (tM l m)
 |_,_=>.pu False
theorem aJ.fm : ∀(m:List Fm) (l:List V),aJ (tM l m):=by
 intro m
 induction m with
 |nil=>intro l;rcases l with _|⟨a,_|⟨b,_|⟨c,_|⟨d,_|⟨e,l⟩⟩⟩⟩⟩<;>exact aJ.pu _
 |cons x m I=>intro l;rcases l with _|⟨a,_|⟨b,_|⟨c,_|⟨d,_|⟨e,l⟩⟩⟩⟩⟩<;>first|exact aJ.pu _|exact aJ.an (aJ.an (aJ.pu _) (aJ.bK _ _)) (I l)
theorem y_ {a b:PM}: ∀ {m:List Fm} {l:List V} {i:Nat} {f:Fm},(tM l m).p a b→m[i]?=some f→∃pre v post,l=pre++(gq f v++post)∧pre.length=i*5∧(aI.bK v f.b).p a b ∧
  (∀(f':Fm) (v':V) (I b':PM),(aI.bK v' f'.b).p I b'→PM.le a I→PM.le b b'→(tM (pre++(gq f' v'++post)) (m.set i f')).p I b'):=by
 intro m
 induction m with
 |nil=>intro l i f h J;simp at J
 |cons x m ih =>
  intro l i f h J
  rcases l with _|⟨p,_|⟨q,_|⟨w,_|⟨d,_|⟨e,l⟩⟩⟩⟩⟩<;>first|exact h.elim|skip
  obtain⟨⟨⟨h1,h2,h3,h4⟩,h5⟩,h6⟩:=h
  cases i with
  |zero =>
   simp at J
   subst J
   refine⟨[],q,l,?_,rfl,h5,fun f' v' I b' hv ha hb=>⟨⟨⟨rfl,rfl,rfl,rfl⟩,hv⟩,(tM l m).mono _ _ _ _ ha hb h6⟩⟩
   rw[h1,h2,h3,h4];rfl
  |succ i =>
   simp at J
   obtain⟨pre,v,post,e1,e2,e3,e4⟩:=ih h6 J
   refine⟨p::q::w::d::e::pre,v,post,?_,?_,e3,fun f' v' I b' hv ha hb=>⟨⟨⟨h1,h2,h3,h4⟩,aI.mono _ _ _ _ _ ha hb h5⟩,e4 f' v' I b' hv ha hb⟩⟩
   ·rw[e1];rfl
   ·simp only[aZ,e2];omega
theorem Wa {a b:PM}: ∀ {m:List Fm} {l:List V},(tM l m).p a b→l.length=m.length*5:=by
 intro m
 induction m with
 |nil=>intro l h;rcases l with _|⟨a,_|⟨b,_|⟨c,_|⟨d,_|⟨e,l⟩⟩⟩⟩⟩<;>first|rfl|exact h.elim
 |cons x m I =>
  intro l h
  rcases l with _|⟨a,_|⟨b,_|⟨c,_|⟨d,_|⟨e,l⟩⟩⟩⟩⟩<;>first|exact h.elim|skip
  have:=I h.2
  simp only[aZ]
  omega
def eP (c8:Nat)(m:List Fm): aI:=xs fun cs:List V=>star [pt c8 (.cells (m.length*5) cs false),tM cs m]
abbrev Iy (v:V)(m:List (Int×Int)): aI:=nf (fun v x=>.pu (v=.int .i64 x)) v m
abbrev Lo (v:V)(m:List (Int×(Nat×Bool))): aI:=nf (fun v x=>.pu (v=.agg [.int .u64 (x.1:Int),.bool x.2])) v m
def qc (p q c8 n:Nat)(wh di:V)(hand:Nat): List V:=[.ptr p 0,.ptr q 0,.sl c8 0 n (.exact n),wh,di,.int .i64 (hand:Int)]
def e_ (r p q:Nat)(π:Pl): aI:=xs fun c8:Nat=>xs fun wh:V=>xs fun di:V =>
 star [pt r (.cells 6 (qc p q c8 π.ai.length wh di π.hand) false),eP c8 π.ai,Iy wh π.bJ,Lo di π.dh]
section
variable {p:Nat} {v:V} {m:List Fm}
theorem fL : Sat h (e_ r p q π::S)↔∃c8 wh di,Sat h (pt r (.cells 6 (qc p q c8 π.ai.length wh di π.hand) false)::eP c8 π.ai::Iy wh π.bJ::Lo di π.dh::S):=by
 simp only[e_,iC,cG,g9,cO]
theorem jV : Sat h (eP c8 m::S)↔∃cs,Sat h (pt c8 (.cells (m.length*5) cs false)::tM cs m::S):=by
 simp only[eP,iC,cG,g9,cO]
theorem jj {f:Fm}(s:Sat h (eP c8 m::S))(hf:m[i]?=some f): ∃pre v post,pre.length=i*5∧(pre++(gq f v++post)).length=m.length*5 ∧
  Sat h (pt c8 (.cells (m.length*5) (pre++(gq f v++post)) false)::tM (pre++(gq f v++post)) m::.bK v f.b::S):=by
 obtain⟨cs,s⟩:=jV.1 s
 obtain⟨a,b,q1,q2,q3⟩:=s.at (k:=1) rfl
 obtain⟨pre,v,post,e1,e2,e3,_⟩:=y_ q3 hf
 have hl:=Wa q3
 subst e1
 refine⟨pre,v,post,e2,hl,?_⟩
 have s1:Sat h (tM (pre++(gq f v++post)) m::pt c8 (.cells (m.length*5) (pre++(gq f v++post)) false)::S):=s.ae [1]
 have s2:=(s1.dup (aJ.fm _ _)).dG (B:=.bK v f.b) fun a' b' h'=>by
  obtain⟨abU,v',I,J,qb,e3',_⟩:=y_ h' hf
  have:=Ey J (by omega)
  obtain⟨_,h5⟩:=this
  have h6:=dn (fun l=>l[1]?) h5
  simp[gq] at h6
  subst h6
  exact e3'
 exact s2.ae [2,1,0]
theorem gE {f f':Fm}(s:Sat h (pt c8 (.cells n (pre++(gq f' v'++post)) false)::tM (pre++(gq f v++post)) m::.bK v' f'.b::S))(hn:n=m.length*5)(hf:m[i]?=some f)(hp:pre.length=i*5): Sat h (eP c8 (m.set i f')::S):=by
 subst hn
 have s1:Sat h (tM (pre++(gq f v++post)) m::.bK v' f'.b::pt c8 (.cells (m.length*5) (pre++(gq f' v'++post)) false)::S):=s.ae [1,1,0]
 have s2:=s1.two (C:=tM (pre++(gq f' v'++post)) (m.set i f')) (aJ.fm _ _) (aJ.bK _ _) fun a b h1 h2=>by
  obtain⟨abU,v0,I,J,qb,e3',e4'⟩:=y_ h1 hf
  obtain⟨h3,h4⟩:=Ey J (by omega)
  subst h3
  have h5:post=I:=by
   have:=Ey h4 (by simp[gq])
   exact this.2
  subst h5
  exact e4' f' v' a b h2 (PM.le_refl _) (PM.le_refl _)
 refine jV.2 ⟨pre++(gq f' v'++post),?_⟩
 rw[bT]
 exact s2.ae [1]
theorem iS {row:List V}(hp:pre.length=a)(I:nth row j=some x): nth (pre++(row++post)) (a+j)=some x:=by
 rw[eX] at I ⊢
 have J:=(List.getElem?_eq_some_iff.1 I).1
 rw[g8 (by omega),show a+j-pre.length=j by omega,qw J,I]
theorem Wb {row:List V}(J:pre.length=a)(I:j<row.length): (pre++(row++post)).set (a+j) x=pre++(row.set j x++post):=by
 rw[Ef _ _ (by omega),show a+j-pre.length=j by omega,List.set_append_left _ _ I]
theorem Sat.stM {row:List V}(s:Sat h S)(hk:getA S k=some (pt id (.cells n (pre++(row++post)) false)))(hs:bg P t=some 1)(hp:pre.length=a)(J:(pre++(row++post)).length=n)(hj:j<row.length)(hv:x.cells=[x])(I:storable x=true):
  ∃h₁,iV P h t (.ptr id (a+j)) x=some h₁∧Sat h₁ (setA S k (pt id (.cells n (pre++(row.set j x++post)) false))):=by
 have:=s.lu (P:=P) (t:=t) (off:=a+j) (v:=x) hk hs J (by rw[←J];simp;omega) hv I
 rwa [Wb hp hj] at this
theorem Sat.UJ {row row':List V}(s:Sat h S)(hk:getA S k=some (pt id (.cells n (pre++(row++post)) false)))(hs:bg P t=some row'.length)(hp:pre.length=a)(J:(pre++(row++post)).length=n)(hr:row'.length=row.length)(I:row'.all storable=true):
  ∃h₁,iV P h t (.ptr id a) (.agg row')=some h₁∧Sat h₁ (setA S k (pt id (.cells n (pre++(row'++post)) false))):=by
 have:=s.stN (P:=P) (t:=t) (off:=a) (l:=row') hk hs J (by rw[←J];simp;omega) I
 have e:(pre++(row++post)).take a++(row'++(pre++(row++post)).drop (a+row'.length))=pre++(row'++post):=by
  rw[gj hp,sG,nA (by omega),cO,show a+row'.length-pre.length=row.length by omega,vD rfl]
 rwa [e] at this
theorem ldF {row:List V}(s:Sat h S)(J:getA S k=some (pt id (.cells n (pre++(row++post)) false)))(ht:isAggT P t=some true)(hs:bg P t=some row.length)(hp:pre.length=a)(I:(pre++(row++post)).length=n): loadV P h t (.ptr id a)=some (.agg row):=by
 rw[Ys ht hs (s.row J) I (by rw[←I];simp;omega),vD hp,gj rfl]
end
abbrev bw := Pl×LD
variable {ε aj:bw}
def sY (π:Pl)(n:Int): Nat:=match lookL n π.dh with
 |some x=>x.1
 |none=>0
def outF (ε:bw)(i:Nat): Int×bw:=match ε.1.ai[i]? with
 |none=>(0,ε)
 |some f=>if f.bE<0∨f.changed=false then(0,ε) else if b7 f.b=false then(4,ε) else
  if (cr ε.2 (c9 f.b 4 8)).1≠0 then((cr ε.2 (c9 f.b 4 8)).1,(ε.1,(cr ε.2 (c9 f.b 4 8)).2)) else
  if ((cr ε.2 (c9 f.b 4 8)).2.2.dI f.bE f.b).1≠0 then(((cr ε.2 (c9 f.b 4 8)).2.2.dI f.bE f.b).1,(ε.1,((cr ε.2 (c9 f.b 4 8)).2.1,((cr ε.2 (c9 f.b 4 8)).2.2.dI f.bE f.b).2))) else
  (0,({ ε.1 with ai:=ε.1.ai.set i { f with changed:=false },dh:=cY f.bE (sY ε.1 f.bE,false) ε.1.dh },((cr ε.2 (c9 f.b 4 8)).2.1,((cr ε.2 (c9 f.b 4 8)).2.2.dI f.bE f.b).2)))
section
variable {told:cy} {p:Nat} {v:V}
theorem YM (hT:W told){f:Fm}(s:Sat h (pt r (.cells 6 (qc p q c8 π.ai.length wh di π.hand) false)::eP c8 π.ai::Iy wh π.bJ::Lo di π.dh::cM q p μ::bM p δ::S))(hi:π.ai[i]?=some f)(YL:μ.Ok)(SG:δ.Ok)(nL:f.b.length<1073741824)(hw:δ.waiting.length≤268435456):
  Call ⟨Tryz.prog,told⟩ 147 [.ptr r 0,.ptr c8 (i*5)] h fun v h'=>v=.int .i64 (outF (π,μ,δ) i).1 ∧
   Sat h' (pt r (.cells 6 (qc p q c8 (outF (π,μ,δ) i).2.1.ai.length wh di (outF (π,μ,δ) i).2.1.hand) false)::eP c8 (outF (π,μ,δ) i).2.1.ai::Iy wh (outF (π,μ,δ) i).2.1.bJ::Lo di (outF (π,μ,δ) i).2.1.dh::cM q p (outF (π,μ,δ) i).2.2.1::bM p (outF (π,μ,δ) i).2.2.2::S):=by
 have s00:=s
 obtain⟨pre,fv,post,I,hlen,s⟩:=jj (s.ae [1]) hi
 have Ul:=(s.aq (k:=2) rfl (aY _ _))
 refine Call.of_wp (hT.free _ rfl) Tryz.func147 rfl rfl (zK 9 rfl (zf rfl (o9 _ _) (zl rfl (s.ld (k:=0) rfl bZ (iS I rfl)) ?_)))
 refine zd rfl (az rfl rfl aL) ?_ ?_
 ·intro hq
  have hq:f.bE<0:=by simpa using hq
  have he:outF (π,μ,δ) i=(0,(π,μ,δ)):=by simp only[outF,hi];rw[aH (.inl hq)]
  rw[he]
  exact zk 13 rfl (WP.ret ⟨aa,_,rfl,rfl,s00⟩)
 ·intro hq
  have hq:¬ f.bE<0:=by simpa using hq
  refine zk 3 rfl (zf rfl (E0 _ _) (zl rfl (s.ld (k:=0) rfl qn (iS I rfl)) ?_))
  have Pd:f.changed=false∨f.changed=true:=by cases f.changed<;>simp
  rcases Pd with hc|hc
  ·have he:outF (π,μ,δ) i=(0,(π,μ,δ)):=by simp only[outF,hi];rw[aH (.inr hc)]
   rw[he]
   refine zt rfl (eG rfl rfl) (by rw[hc];rfl) ?_
   exact zk 7 rfl (WP.ret ⟨aa,_,rfl,rfl,s00⟩)
  ·have he:outF (π,μ,δ) i=(if b7 f.b=false then(4,(π,μ,δ)) else
    if (cr (μ,δ) (c9 f.b 4 8)).1≠0 then((cr (μ,δ) (c9 f.b 4 8)).1,(π,(cr (μ,δ) (c9 f.b 4 8)).2)) else
    if ((cr (μ,δ) (c9 f.b 4 8)).2.2.dI f.bE f.b).1≠0 then(((cr (μ,δ) (c9 f.b 4 8)).2.2.dI f.bE f.b).1,(π,((cr (μ,δ) (c9 f.b 4 8)).2.1,((cr (μ,δ) (c9 f.b 4 8)).2.2.dI f.bE f.b).2))) else
    (0,({ π with ai:=π.ai.set i { f with changed:=false },dh:=cY f.bE (sY π f.bE,false) π.dh },((cr (μ,δ) (c9 f.b 4 8)).2.1,((cr (μ,δ) (c9 f.b 4 8)).2.2.dI f.bE f.b).2)))):=by
    simp only[outF,hi];rw[ax (by rw[hc];simp;omega)]
   rw[he]
   refine zh rfl (eG rfl rfl) (by rw[hc];rfl) ?_
   refine zk 8 rfl (zf rfl (A5 _ _) (zl rfl (s.ld (k:=0) rfl ah (iS I rfl)) (zc rfl (E7 hT (s.ae [2]) (aY _ _) (by omega)) ?_)))
   rintro w h ⟨s,(⟨hg,rfl⟩|⟨hg,rfl⟩)⟩
   ·dsimp only[bringA,getA,aT] at s
    rw[ax (by rw[hg];decide)]
    have SH:(cr (μ,δ) (c9 f.b 4 8)).2.2.Ok:=sC SG
    have YN:(cr (μ,δ) (c9 f.b 4 8)).2.2.waiting.length≤268435456:=by rw[y9];exact hw
    have J:=V_ (n:=c9 f.b 4 8) hT (s.ae [6,6]) YL SG.cn
    generalize cr (μ,δ) (c9 f.b 4 8)=x at J SH YN ⊢
    obtain⟨xe,xl,xd⟩:=x
    dsimp only at J SH YN ⊢
    refine zk 16 rfl (zC rfl aN (rfl) (zk 8 rfl (zY s 3 VR Se rfl (zm rfl (zc rfl (J) ?_)))))
    rintro w h ⟨rfl,s⟩
    refine zk 5 rfl ?_
    by_cases hx:xe=0
    ·subst hx
     rw[ax (by decide)]
     refine zC rfl aN (rfl) ?_
     have H9:=fun(s:Sat h (bM p xd::.bK fv f.b::cM q p xl::pt c8 (.cells (π.ai.length*5) (pre++(gq f fv++post)) false)::tM (pre++(gq f fv++post)) π.ai::pt r (.cells 6 (qc p q c8 π.ai.length wh di π.hand) false)::Iy wh π.bJ::Lo di π.dh::S))=>V8 (n:=f.bE) hT s (aY fv f.b) nL SH.cn YN
     generalize xd.dI f.bE f.b=y at H9 ⊢
     obtain⟨ye,yd⟩:=y
     dsimp only at H9 ⊢
     have s:=s.ae [1,1,0]
     refine zk 5 rfl (WP.drawn [af,af,af,af,af,af,af,af,af,af,af,af,af,af] rfl (by kernel_rfl) (by kernel_rfl) ?_)
     refine zM rfl (zN rfl (zF rfl (A4 _ _) (zL rfl (s.ld (k:=5) rfl uX rfl) (zM rfl (zN rfl (zF rfl (o9 _ _) (zL rfl (s.ld (k:=3) rfl bZ (iS I rfl)) (zM rfl (zN rfl (zF rfl (A5 _ _) (zL rfl (s.ld (k:=3) rfl ah (iS I rfl)) (aE.any rfl rfl rfl rfl (OpR.call rfl rfl rfl rfl (H9 s)) ?_))))))))))))
     rintro w h ⟨rfl,s⟩
     refine zA rfl ?_
     refine aE.nil ⟨⟨aa,aa,aa,aa,aa,aa,aa,aa,aa,aa,aa,aa,aa,aa,aa⟩,?_⟩
     refine zK 3 rfl ?_
     by_cases hy:ye=0
     ·subst hy
      rw[ax (by decide)]
      refine zC rfl aN (rfl) (zk 7 rfl (zf rfl (E0 _ _) (zS rfl (s.stM (k:=3) (j:=4) rfl BE I hlen (by simp[gq]) rfl rfl) ?_)))
      intro h s
      have e5:(gq f fv).set 4 (.bool false)=gq { f with changed:=false } fv:=rfl
      rw[e5] at s
      have s:=s.ae [7,3,4]
      refine zk 2 rfl (WP.drawn [af,af,af,af,af,af,af,af,af,af,af,af,af,af,af,af,af,af,af,af] rfl (by kernel_rfl) (by kernel_rfl) ?_)
      refine zM rfl (zN rfl (zF rfl (sX _ _) (zL rfl (s.ld (k:=2) rfl A3 rfl) (zM rfl (zN rfl (zF rfl (o9 _ _) (zL rfl (s.ld (k:=1) rfl bZ (iS I rfl)) (zM rfl (zN rfl (zF rfl (sX _ _) (zL rfl (s.ld (k:=2) rfl A3 rfl) (zM rfl (zN rfl (zF rfl (o9 _ _) (zL rfl (s.ld (k:=1) rfl bZ (iS I rfl)) ?_)))))))))))))))
      have Nb:∃b,eU Tryz.prog h 213 di (.int .i64 f.bE) false=some (.agg [.int .u64 (sY π f.bE:Nat),.bool b]):=by
       rcases l_ (f:=fun v (x:Nat×Bool)=>.pu (v=.agg [.int .u64 (x.1:Int),.bool x.2])) (n:=f.bE) (fun _ _=>aJ.pu _) s Df bP A7 with⟨g1,_,g3⟩|⟨u,x,g1,_,g3,s'⟩
       ·exact⟨false,by rw[g3];simp only[sY,g1];rfl⟩
       ·obtain⟨rfl,_⟩:=pT.1 s'
        exact⟨x.2,by rw[g3];simp only[sY,g1]⟩
      obtain⟨lb,Nb⟩:=Nb
      refine zO rfl (jo rfl rfl Nb) (zO rfl (aam rfl (aao (VS _) rfl)) (zO rfl (cP rfl (by rw[aaD];rfl)) ?_))
      refine aE.mS rfl rfl rfl (OpR.mapUpdate rfl rfl rfl rfl (mo (f:=fun v (x:Nat×Bool)=>.pu (v=.agg [.int .u64 (x.1:Int),.bool x.2])) (x:=(sY π f.bE,false)) (fun _ _=>aJ.pu _) (s.fq rfl) Df bP)) ?_
      intro w h s
      refine aE.nil ⟨⟨aa,aa,aa,aa,aa,aa,aa,aa,aa,aa,aa,aa,aa,aa,aa,aa,aa,aa,aa,aa,aa⟩,?_⟩
      refine zK 4 rfl (WP.ret ⟨aa,_,rfl,?_⟩)
      refine⟨rfl,?_⟩
      have s:=gE (i:=i) (f':={ f with changed:=false }) (s.ae [1,5,3]) rfl hi I
      have e6:(π.ai.set i { f with changed:=false }).length=π.ai.length:=bT
      rw[e6]
      exact s.ae [2,0,3,0,1,0]
     ·rw[aH hy]
      refine zB rfl aN (by simp;exact hy) ?_
      refine zk 7 rfl (WP.ret ⟨aa,_,rfl,?_⟩)
      refine⟨rfl,?_⟩
      have s:=jV.2 ⟨_,s.ae [3,3]⟩
      exact(s.del 2).ae [3,0,2,2,1,0]
    ·rw[aH hx]
     refine zB rfl aN (by simp;exact hx) ?_
     refine zk 7 rfl (WP.ret ⟨aa,_,rfl,?_⟩)
     refine⟨rfl,?_⟩
     have s:=jV.2 ⟨_,s.ae [3,3]⟩
     exact(s.del 3).ae [3,0,2,2,0,0]
   ·dsimp only[bringA,getA,aT] at s
    rw[aH hg]
    refine zk 16 rfl (zB rfl aN (rfl) (zk 7 rfl (WP.ret ⟨aa,_,rfl,?_⟩)))
    refine⟨rfl,?_⟩
    have s:=jV.2 ⟨_,s.ae [1,1]⟩
    exact(s.del 1).ae [1,0]
end
structure fW (π bY:Pl): Prop where
 bJ:bY.bJ=π.bJ
 dh:bY.dh=π.dh
 len:bY.ai.length=π.ai.length
 get:∀(i:Nat) (f:Fm),π.ai[i]?=some f→∃t,bY.ai[i]?=some { f with fK:=t }
theorem fW.refl (π:Pl): fW π π:=⟨rfl,rfl,rfl,fun _ f h=>⟨f.fK,h⟩⟩
theorem fW.trans {I:Pl}(a:fW π bY)(b:fW bY I): fW π I:=by
 refine⟨b.bJ.trans a.bJ,b.dh.trans a.dh,b.len.trans a.len,fun i f h => ?_⟩
 obtain⟨t,ht⟩:=a.get i f h
 obtain⟨t',J⟩:=b.get i _ ht
 exact⟨t',J⟩
theorem fW.hand : fW π { π with hand:=n }:=⟨rfl,rfl,rfl,fun _ f h=>⟨f.fK,h⟩⟩
theorem fW.Wc {f:Fm}(hi:π.ai[i]?=some f): fW π { π with ai:=π.ai.set i { f with fK:=false } }:=by
 refine⟨rfl,rfl,bT,fun j g I => ?_⟩
 by_cases h:i=j
 ·subst h
  rw[hi] at I
  have:=bp I
  subst this
  have J:=(List.getElem?_eq_some_iff.1 hi).1
  exact⟨false,by simp[sE,J]⟩
 ·exact⟨g.fK,by simp only[sE,ax h];exact I⟩
theorem Nc {x:Operand}{b:Nat}(I:0<b): binV P h .rem t x y (.int .i64 (a:Int)) (.int .i64 (b:Int))=some (.int .i64 ((a%b:Nat):Int)):=by
 simp only[binV,ikBeq,ag,intV]
 have:intBeq (b:Int) 0=false:=by rw[pX];simp;omega
 rw[this,aS,Int.tmod_eq_emod_of_nonneg (by omega)]
 rfl
section
variable {told:cy} {p:Nat} {v:V} {m:List Fm}
theorem ni (hi:i<n): indexAddrV Tryz.prog 211 (.sl c8 0 n (.exact n)) (.int .i64 (i:Int))=some (.ptr c8 (i*5)):=by
 rw[aaz,show(decide ((0:Int)≤(i:Int))&&decide ((i:Int)<(n:Int)))=true by simp;omega,ag]
 simp
theorem Kb (I:W told){f:Fm}(s:Sat h S)(hv:storable v=true): Call ⟨Tryz.prog,told⟩ 198 [.agg (gq f v)] h fun w h'=>w=.bool (decide (f.pins=0))∧Sat h' S:=by
 refine Call.of_wp (I.free _ rfl) Tryz.func198 rfl rfl (zg rfl (aA.cB s rfl rfl rfl (fH rfl (by simp only[V.cells,gq,kI,lM,hv];rfl)) ?_))
 intro p1 h s
 dsimp only[V.cells,gq] at s
 exact zk 4 rfl (zY s 0 qD bZ rfl (zb rfl ej (zk 2 rfl (WP.ret ⟨aa,_,rfl,rfl,s.drop⟩))))
theorem SI (hT:W told){f:Fm}(s:Sat h (eP c8 m::S))(h0:m[0]?=some f)(hp:f.pins=0): Call ⟨Tryz.prog,told⟩ 223 [.sl c8 0 m.length (.exact m.length),.fn (.func 198) [] []] h fun w h'=>w=.int .i64 0∧Sat h' (eP c8 m::S):=by
 have hl:=(List.getElem?_eq_some_iff.1 h0).1
 obtain⟨pre,fv,post,I,hlen,s⟩:=jj s h0
 have J:=(s.aq (k:=2) rfl (aY _ _)).cells.2
 refine Call.of_wp (hT.free _ rfl) Tryz.func223 rfl rfl (zK 8 rfl (zo rfl (aC rfl rfl rfl (mP rfl yS)) (zk 2 rfl (WP.block (WP.loop (zg rfl (zB rfl aL (by simp;omega) ?_)))))))
 refine zk 5 rfl (WP.block (zK 10 rfl (zo rfl (bx rfl rfl (ni (i:=0) hl)) (zl rfl (ldF s (k:=0) rfl aaB Da I hlen) (zc rfl (Kb hT s J) ?_)))))
 rintro w h ⟨rfl,s⟩
 rw[dy hp]
 exact zk 7 rfl (WP.ret ⟨aa,_,rfl,rfl,(jV.2 ⟨_,s⟩).del 1⟩)
theorem Kc (I:W told){f:Fm}(s:Sat h (eP c8 m::S))(J:m[0]?=some f)(hp:f.pins=0): Call ⟨Tryz.prog,told⟩ 197 [.sl c8 0 m.length (.exact m.length),.fn (.func 198) [] []] h fun w h'=>w=.bool true∧Sat h' (eP c8 m::S):=by
 refine Call.of_wp (I.free _ rfl) Tryz.func197 rfl rfl (zK 8 rfl (zc rfl (SI I s J hp) ?_))
 rintro w h ⟨rfl,s⟩
 refine zB rfl kC (by decide) ?_
 exact zk 2 rfl (WP.ret ⟨aa,_,rfl,rfl,s⟩)
noncomputable def fdA : Code:=cE [1,0,0,1,0,0] ((Tryz.f146.body).getD .skip)
noncomputable def YO : Code:=cE [1,0,1,1,1,0,0] ((Tryz.f146.body).getD .skip)
theorem Ke {hand:Nat}: ∀(j i:Nat) (h:H) (E:List (Nat×V)) (Q:Ex→List (Nat×V)→H→Prop),i+j=m.length→m.length<4294967296 →
  Sat h (pt r (.cells 6 (qc p q c8 m.length wh di hand) false)::eP c8 m::S)→Has E [(0,.ptr r 0),(10,.int .i64 m.length),(11,.int .i64 i)] →
  (∀E' (i:Nat) (f:Fm),m[i]?=some f→f.bE<0→look E' 2=some (.int .i64 (i:Int))→Q .ret E' h) →
  (∀E',Has E' [(0,.ptr r 0)]→Q (.exit 0) E' h)→WP ⟨Tryz.prog,told⟩ 70 (.loop fdA) E h Q:=by
 intro j
 induction j with
 |zero =>
  intro i h E Q hi hm s hE hr hx
  refine WP.loop (WP.has hE (zg rfl (zC rfl aL (by simp;omega) ?_)))
  exact zk 3 rfl (WP.exit (hx _ ⟨rfl,aa⟩))
 |succ j ih =>
  intro i h E Q hi hm s hE hr hx
  have hc:m[i]?=some (m[i]'(by omega)):=aG _
  generalize (m[i]'(by omega))=f at hc
  obtain⟨pre,fv,post,I,hlen,s'⟩:=jj (s.ae [1]) hc
  refine WP.loop (WP.has hE (zg rfl (zB rfl aL (by simp;omega) ?_)))
  refine zk 5 rfl (WP.block (zK 9 rfl (zY s 0 lW pW rfl (zm rfl (zo rfl (bx rfl rfl (ni (i:=i) (by omega))) ?_)))))
  refine zf rfl (o9 _ _) (zl rfl (s'.ld (k:=0) rfl bZ (iS I rfl)) ?_)
  refine zd rfl (az rfl rfl aL) ?_ ?_
  ·intro J
   have J:f.bE<0:=by simpa using J
   exact zk 7 rfl (WP.ret (hr _ i f hc J rfl))
  ·intro J
   refine zv (zj rfl (WP.skip (zr rfl (zb rfl (by exact aO (ay (by omega) (by omega))) ?_))))
   refine zm rfl (zv ?_)
   exact ih (i+1) h _ Q (by omega) hm s ⟨rfl,rfl,rfl,aa⟩ hr hx
def qI (m:List Fm): Nat:=(m.filter fun f=>f.fK).length
theorem BI {f:Fm}: ∀ {m:List Fm} {i:Nat},m[i]?=some f→f.fK=true→qI (m.set i { f with fK:=false })+1=qI m:=by
 intro m
 induction m with
 |nil=>intro i h;simp at h
 |cons g m J =>
  intro i h I
  cases i with
  |zero=>simp at h;subst h;simp[qI,I]
  |succ i =>
   rw[oH] at h
   have:=J h I
   simp only[qI,Ej,List.filter_cons] at this ⊢
   split<;>(try simp only[aZ])<;>omega
theorem Ds {f:Fm}(hf:π.ai[π.hand]?=some f)(hm:π.ai.length<4294967296)(hp:f.pins=0)
 (s:Sat h (pt r (.cells 6 (qc p q c8 π.ai.length wh di π.hand) false)::eP c8 π.ai::S))(hE:Has E [(0,.ptr r 0)])
 (hr:f.fK=false→∀E' h',look E' 2=some (.int .i64 (π.hand:Int))→Sat h' (pt r (.cells 6 (qc p q c8 π.ai.length wh di ((π.hand+1)%π.ai.length)) false)::eP c8 π.ai::S)→Q .ret E' h')
 (hx:f.fK=true→∀E' h',Has E' [(0,.ptr r 0)]→Sat h' (pt r (.cells 6 (qc p q c8 (π.ai.set π.hand { f with fK:=false }).length wh di ((π.hand+1)%π.ai.length)) false)::eP c8 (π.ai.set π.hand { f with fK:=false })::S)→WP ⟨Tryz.prog,told⟩ 70 (.loop YO) E' h' Q):
  WP ⟨Tryz.prog,told⟩ 70 (.loop YO) E h Q:=by
 have hl:=(List.getElem?_eq_some_iff.1 hf).1
 refine WP.loop (WP.has hE (WP.block (zK 4 rfl (zY s 0 EY bZ rfl (zk 6 rfl (zY s 0 lW pW rfl (zm rfl (zo rfl (bx rfl rfl (ni (i:=π.hand) hl)) (zk 3 rfl (WP.drawn [af,af,af,af,af,af,af,af,af,af,af,af,af,af,af] rfl (by kernel_rfl) (by kernel_rfl) ?_))))))))))
 refine zM rfl (zM rfl (zN rfl (zF rfl (EY _ _) (zL rfl (s.ld (k:=0) rfl bZ rfl) (zO rfl (az rfl rfl (by exact aO (ay (by omega) (by omega)))) ?_)))))
 refine zM rfl (zN rfl (zF rfl (lW _ _) (zL rfl (s.ld (k:=0) rfl pW rfl) (zO rfl (aC rfl rfl rfl (mP rfl yS)) (zO rfl (az rfl rfl (Nc (a:=π.hand+1) (by omega))) ?_)))))
 refine zN rfl (zF rfl (EY _ _) (aE.mS rfl rfl rfl (OpR.F6 rfl rfl rfl (s.lu (k:=0) rfl jO rfl (by decide) rfl rfl)) ?_))
 rintro v h ⟨rfl,s⟩
 have s:Sat h (pt r (.cells 6 (qc p q c8 π.ai.length wh di ((π.hand+1)%π.ai.length)) false)::eP c8 π.ai::S):=s
 refine aE.nil ⟨⟨aa,aa,aa,aa,aa,aa,aa,aa,aa,aa,aa,aa,aa,aa,aa,aa⟩,?_⟩
 obtain⟨pre,fv,post,I,hlen,s⟩:=jj (s.ae [1]) hf
 refine zw (WP.block (zK 4 rfl (zf rfl (qD _ _) (zl rfl (s.ld (k:=0) rfl bZ (iS I rfl)) (zC rfl cL (by rw[hp];decide) ?_)))))
 refine zk 7 rfl (zf rfl (EZ _ _) (zl rfl (s.ld (k:=0) rfl qn (iS I rfl)) (zk 2 rfl ?_)))
 have Gb:f.fK=false∨f.fK=true:=by cases f.fK<;>simp
 rcases Gb with J|J
 ·refine WP.Uq rfl (J) ?_
  refine zK 5 rfl (WP.ret (hr J _ _ rfl ?_))
  have s:=jV.2 ⟨_,s.ae [0,0]⟩
  exact(s.del 1).ae [1,0]
 ·skip
  refine WP.MK rfl (J) (zK 3 rfl (zf rfl (EZ _ _) (zS rfl (s.stM (k:=0) (j:=3) rfl BE I hlen (by simp[gq]) rfl rfl) ?_)))
  intro h s
  have e5:(gq f fv).set 3 (.bool false)=gq { f with fK:=false } fv:=rfl
  rw[e5] at s
  refine zv (WP.exit (hx J _ _ ⟨rfl,aa⟩ ?_))
  have s:=gE (i:=π.hand) (f':={ f with fK:=false }) s rfl hf I
  rw[bT]
  exact s.ae [1,0]
theorem Kf : ∀(fuel:Nat) (π:Pl) (h:H) (E:List (Nat×V)) (Q:Ex→List (Nat×V)→H→Prop),qI π.ai≤fuel→π.hand<π.ai.length→π.ai.length<4294967296→(∀f∈π.ai,f.pins=0) →
  Sat h (pt r (.cells 6 (qc p q c8 π.ai.length wh di π.hand) false)::eP c8 π.ai::S)→Has E [(0,.ptr r 0)] →
  (∀E' h' (i:Nat) (bY:Pl) (f:Fm),fW π bY→bY.ai[i]?=some f→bY.hand<bY.ai.length→look E' 2=some (.int .i64 (i:Int))→Sat h' (pt r (.cells 6 (qc p q c8 bY.ai.length wh di bY.hand) false)::eP c8 bY.ai::S)→Q .ret E' h') →
  WP ⟨Tryz.prog,told⟩ 70 (.loop YO) E h Q:=by
 intro fuel
 induction fuel with
 |zero =>
  intro π h E Q ht J hm hp s hE hr
  have I:π.ai[π.hand]?=some (π.ai[π.hand]'J):=aG _
  generalize (π.ai[π.hand]'J)=f at I
  refine Ds I hm (hp f (aR I)) s hE (fun h1 E' h' h2 s' => ?_) (fun h1 => ?_)
  ·exact hr E' h' π.hand { π with hand:=(π.hand+1)%π.ai.length } f fW.hand I (AH _ (by omega)) h2 s'
  ·have:=BI I h1
   omega
 |succ fuel ih =>
  intro π h E Q ht J hm hp s hE hr
  have I:π.ai[π.hand]?=some (π.ai[π.hand]'J):=aG _
  generalize (π.ai[π.hand]'J)=f at I
  refine Ds I hm (hp f (aR I)) s hE (fun h1 E' h' h2 s' => ?_) (fun h1 E' h' fh s' => ?_)
  ·exact hr E' h' π.hand { π with hand:=(π.hand+1)%π.ai.length } f fW.hand I (AH _ (by omega)) h2 s'
  ·have tq:=BI I h1
   have hn:fW π { π with ai:=π.ai.set π.hand { f with fK:=false },hand:=(π.hand+1)%π.ai.length }:=(fW.Wc I).trans fW.hand
   refine ih { π with ai:=π.ai.set π.hand { f with fK:=false },hand:=(π.hand+1)%π.ai.length } h' E' Q (by show qI (π.ai.set π.hand { f with fK:=false })≤fuel;omega) ?_ (by simp only[bT];exact hm) (fun g hg => ?_) s' fh (fun E2 h2 i bY g Xa hg YP hl s2=>hr E2 h2 i bY g (hn.trans Xa) hg YP hl s2)
   ·simp only[bT];exact AH _ (by omega)
   ·rcases lG hg with hg|rfl
    ·exact hp g hg
    ·exact hp f (aR I)
theorem SJ (hT:W told)(s:Sat h (pt r (.cells 6 (qc p q c8 π.ai.length wh di π.hand) false)::eP c8 π.ai::S))(hh:π.hand<π.ai.length)(hm:π.ai.length<4294967296)(hp:∀f∈π.ai,f.pins=0):
  Call ⟨Tryz.prog,told⟩ 146 [.ptr r 0] h fun v h'=>∃(i:Nat) (bY:Pl) (f:Fm),v=.int .i64 (i:Int)∧fW π bY∧bY.ai[i]?=some f∧bY.hand<bY.ai.length ∧
   Sat h' (pt r (.cells 6 (qc p q c8 bY.ai.length wh di bY.hand) false)::eP c8 bY.ai::S):=by
 have I:π.ai[0]?=some (π.ai[0]'(by omega)):=aG _
 generalize (π.ai[0]'(by omega))=f0 at I
 have s0:=s
 refine Call.of_wp (hT.free _ rfl) Tryz.func146 rfl rfl (zK 4 rfl (WP.scope (zK 5 rfl (zY s 0 lW pW rfl (zo rfl (aC rfl rfl rfl (mP rfl yS)) (zk 2 rfl (WP.block ?_)))))))
 refine Ke π.ai.length 0 _ _ _ (by omega) hm s ⟨rfl,rfl,rfl,aa⟩ (fun E' i f J _ h2 => ?_) (fun E' fh => ?_)
 ·exact⟨aa,_,EP h2,i,π,f,rfl,fW.refl π,J,hh,s⟩
 ·skip
  refine WP.has fh (zK 5 rfl (zY s 0 lW pW rfl (zc rfl (Kc hT (s.ae [1]) I (hp f0 (aR I))) ?_)))
  rintro w h ⟨rfl,s⟩
  refine zo rfl (eG rfl rfl) (zk 4 rfl (WP.label (WP.block ?_)))
  refine Kf (qI π.ai) π _ _ _ (aM _) hh hm hp (s.ae [1,0]) ⟨rfl,aa⟩ (fun E' h' i bY f hn J YP h2 s' => ?_)
  exact⟨aa,_,EP h2,i,bY,f,rfl,hn,J,YP,s'⟩
end
structure Pl.Ok (π:Pl): Prop where
 hand:π.hand<π.ai.length
 many:π.ai.length≤1024
 bJ:∀e∈π.bJ,0≤e.2∧e.2<π.ai.length
 len:∀f∈π.ai,f.b.length≤512
 pins:∀f∈π.ai,0≤f.pins∧f.pins≤4294967296
theorem Pl.Ok.at (h:π.Ok){n i:Int}(I:lookL n π.bJ=some i): ∃(k:Nat) (f:Fm),i=k∧π.ai[k]?=some f:=by
 have J:=h.bJ _ (mc I)
 exact⟨i.toNat,π.ai[i.toNat]'(by omega),by omega,aG _⟩
def heldI (π:Pl)(n:Int): Option Nat:=match lookL n π.bJ with
 |none=>none
 |some i=>match π.ai[i.toNat]? with
  |none=>none
  |some f=>if f.pins=0 then none else some i.toNat
def unpinF (π:Pl)(n:Int): Int×Pl:=match heldI π n with
 |none=>(18,π)
 |some i=>match π.ai[i]? with
  |none=>(18,π)
  |some f=>(0,{ π with ai:=π.ai.set i { f with pins:=f.pins-1 } })
def mC (π:Pl)(n:Int)(bf:Nat): Nat:=match lookL n π.dh with
 |some x=>x.1
 |none=>bf
def k9 (π:Pl)(n:Int)(b:List Nat)(bf:Nat): Int×Pl:=match heldI π n with
 |none=>(18,π)
 |some i=>match π.ai[i]? with
  |none=>(18,π)
  |some f=>if b7 b=false then(4,π) else(0,{ π with ai:=π.ai.set i { f with b:=dK b bf,changed:=true },dh:=cY n (mC π n bf,true) π.dh })
section
variable {told:cy} {p:Nat} {v:V} {m:List Fm}
theorem Lp {n:Int}{j:Nat}(s:Sat h (Iy wh π.bJ::S)): (lookL n π.bJ=none∧eU Tryz.prog h 212 wh (.int .i64 n) true=some (.aW [.int .i64 0,.bool false])) ∨
  ∃i,lookL n π.bJ=some i∧eU Tryz.prog h 212 wh (.int .i64 n) true=some (.aW [.int .i64 i,.bool true]):=by
 grind[l_,aJ.pu,Tryz.underlying212,Tryz.underlying3,yL,pT]
theorem Lq {n:Int}(s:Sat h (Lo di π.dh::S)): (lookL n π.dh=none∧eU Tryz.prog h 213 di (.int .i64 n) true=some (.aW [.agg [.int .u64 0,.bool false],.bool false])∧eU Tryz.prog h 213 di (.int .i64 n) false=some (.agg [.int .u64 0,.bool false])) ∨
  ∃x,lookL n π.dh=some x∧eU Tryz.prog h 213 di (.int .i64 n) true=some (.aW [.agg [.int .u64 (x.1:Int),.bool x.2],.bool true])∧eU Tryz.prog h 213 di (.int .i64 n) false=some (.agg [.int .u64 (x.1:Int),.bool x.2]):=by
 grind[l_,aJ.pu,Tryz.underlying213,Tryz.underlying3,A7,pT]
theorem Lr (hT:W told){n:Int}(s:Sat h (pt r (.cells 6 (qc p q c8 π.ai.length wh di π.hand) false)::eP c8 π.ai::Iy wh π.bJ::S))(J:π.Ok):
  Call ⟨Tryz.prog,told⟩ 150 [.ptr r 0,.int .i64 n] h fun v h'=>h'=h∧((heldI π n=none∧v=.aW [.cU,.int .i64 18])∨∃(i:Nat) (f:Fm),heldI π n=some i∧π.ai[i]?=some f∧v=.aW [.ptr c8 (i*5),.int .i64 0]):=by
 refine Call.of_wp (hT.free _ rfl) Tryz.func150 rfl rfl (zK 9 rfl (zY s 0 vY C_ rfl (zm rfl ?_)))
 rcases Lp (n:=n) (j:=0) (s.ae [2]) with⟨g1,g2⟩|⟨i,g1,g2⟩
 ·refine aA.op rfl rfl rfl (jo rfl rfl g2) ?_
  exact zk 10 rfl (zt rfl (eG rfl rfl) (rfl) (zk 18 rfl (WP.ret ⟨aa,_,rfl,rfl,.inl ⟨by simp only[heldI,g1],rfl⟩⟩)))
 ·obtain⟨i,f,rfl,hf⟩:=J.at g1
  have hl:=(List.getElem?_eq_some_iff.1 hf).1
  have hh:heldI π n=if f.pins=0 then none else some i:=by grind[heldI]
  obtain⟨pre,fv,post,I,hlen,s'⟩:=jj (s.ae [1]) hf
  refine zo rfl (jo rfl rfl g2) (zk 10 rfl (zh rfl (eG rfl rfl) (rfl) (zk 3 rfl (zY s 0 lW pW rfl (zm rfl (zo rfl (bx rfl rfl (ni (i:=i) hl)) (zf rfl (qD _ _) (zl rfl (s'.ld (k:=0) rfl bZ (iS I rfl)) ?_))))))))
  refine zd rfl (az rfl rfl ej) ?_ ?_
  ·intro hq
   have hq:f.pins=0:=by grind
   exact zk 8 rfl (WP.ret ⟨aa,_,rfl,rfl,.inl ⟨by grind,rfl⟩⟩)
  ·intro hq
   have hq:f.pins≠0:=by grind
   exact zk 8 rfl (zY s 0 lW pW rfl (zm rfl (zo rfl (bx rfl rfl (ni (i:=i) hl)) (zk 3 rfl (WP.ret ⟨aa,_,rfl,rfl,.inr ⟨i,f,by grind,hf,rfl⟩⟩)))))
theorem Iz (hT:W told){n:Int}(s:Sat h (e_ r p q π::S))(J:π.Ok):
  Call ⟨Tryz.prog,told⟩ 65 [.ptr r 0,.int .i64 n] h fun v h'=>v=.int .i64 (unpinF π n).1∧Sat h' (e_ r p q (unpinF π n).2::S):=by
 have s0:=s
 obtain⟨c8,wh,di,s⟩:=fL.1 s
 refine Call.of_wp (hT.free _ rfl) Tryz.func65 rfl rfl (zK 8 rfl (zc rfl (Lr (n:=n) hT s J) ?_))
 rintro v h' ⟨rfl,(⟨hh,rfl⟩|⟨i,f,hh,hf,rfl⟩)⟩
 ·have he:unpinF π n=(18,π):=by simp only[unpinF,hh]
  rw[he]
  exact zk 10 rfl (zB rfl aN (rfl) (zk 7 rfl (WP.ret ⟨aa,_,rfl,rfl,s0⟩)))
 ·have he:unpinF π n=(0,{ π with ai:=π.ai.set i { f with pins:=f.pins-1 } }):=by simp only[unpinF,hh,hf]
  rw[he]
  obtain⟨pre,fv,post,I,hlen,s⟩:=jj (s.ae [1]) hf
  have SK:=J.pins f (aR hf)
  refine zk 10 rfl (zC rfl aN (rfl) (zk 7 rfl (zf rfl (qD _ _) (zl rfl (s.ld (k:=0) rfl bZ (iS I rfl)) (zb rfl (by exact ei (ay (by omega) (by omega))) ?_)))))
  refine zn rfl (zf rfl (qD _ _) (zS rfl (s.stM (k:=0) (j:=2) rfl jO I hlen (by simp[gq]) rfl rfl) ?_))
  intro h s
  have e5:(gq f fv).set 2 (.int .i64 (f.pins-1))=gq { f with pins:=f.pins-1 } fv:=rfl
  rw[e5] at s
  refine zk 5 rfl (WP.ret ⟨aa,_,rfl,?_⟩)
  refine⟨rfl,fL.2 ⟨c8,wh,di,?_⟩⟩
  have s:=gE (i:=i) (f':={ f with pins:=f.pins-1 }) s rfl hf I
  rw[bT]
  exact s.ae [1,0]
theorem Wd (hT:W told){n:Int}(s:Sat h (e_ r p q π::X::S))(hX:bX X (b5 bv b))(SL:π.Ok)(hb:b.length<9223372036854775808):
  Call ⟨Tryz.prog,told⟩ 64 [.ptr r 0,.int .i64 n,bv,.int .u64 (bf:Int)] h fun v h'=>v=.int .i64 (k9 π n b bf).1∧Sat h' (e_ r p q (k9 π n b bf).2::X::S):=by
 have s0:=s
 obtain⟨c8,wh,di,s⟩:=fL.1 s
 refine Call.of_wp (hT.free _ rfl) Tryz.func64 rfl rfl (zK 8 rfl (zc rfl (Lr (n:=n) hT s SL) ?_))
 rintro v h' ⟨rfl,(⟨hh,rfl⟩|⟨i,f,hh,hf,rfl⟩)⟩
 ·have he:k9 π n b bf=(18,π):=by simp only[k9,hh]
  rw[he]
  exact zk 10 rfl (zB rfl aN (rfl) (zk 7 rfl (WP.ret ⟨aa,_,rfl,rfl,s0⟩)))
 ·have he:k9 π n b bf=(if b7 b=false then(4,π) else(0,{ π with ai:=π.ai.set i { f with b:=dK b bf,changed:=true },dh:=cY n (mC π n bf,true) π.dh })):=by simp only[k9,hh,hf]
  rw[he]
  refine zk 10 rfl (zC rfl aN (rfl) (zk 7 rfl (zc rfl (V4 (n:=bf) hT (s.ae [4]) hX hb) ?_)))
  rintro v h (⟨hg,u,rfl,s⟩|⟨hg,rfl,s⟩)
  ·rw[ax (by grind)]
   have qp:(dK b bf).length=512:=by
    grind[wZ,iR,dK,bL,dH]
   obtain⟨J,_,cap,_,rfl,_⟩:=s.dP (by omega)
   have s:=s.fD
   obtain⟨pre,fv,post,I,hlen,s⟩:=jj (s.ae [3]) hf
   refine zk 10 rfl (zC rfl aN (rfl) (zk 9 rfl (zf rfl (A5 _ _) (zS rfl (s.stM (k:=0) (j:=1) rfl eZ I hlen (by simp[gq]) rfl rfl) ?_))))
   intro h s
   refine zn rfl (zf rfl (E0 _ _) (zS rfl (s.stM (k:=0) (j:=4) rfl BE I (by grind) (by simp[gq]) rfl rfl) ?_))
   intro h s
   have e5:((gq f fv).set 1 (.sl J 0 (dK b bf).length cap)).set 4 (.bool true)=gq { f with b:=dK b bf,changed:=true } (.sl J 0 (dK b bf).length cap):=rfl
   rw[e5] at s
   have s:=gE (i:=i) (f':={ f with b:=dK b bf,changed:=true }) (s.ae [0,0,1]) rfl hf I
   have s:=s.ae [3,4,0]
   refine zk 5 rfl (zY s 0 sX A3 rfl (zm rfl ?_))
   rcases Lq (n:=n) (s.ae [1]) with⟨g1,g2,_⟩|⟨x,g1,g2,_⟩
   ·refine aA.op rfl rfl rfl (jo rfl rfl g2) ?_
    refine zk 3 rfl ?_
    refine aA.cB s rfl rfl rfl (cF A7) (fun p12 h s => ?_)
    refine zS rfl (s.iK (j:=0) rfl A6 rfl rfl) (fun h s => ?_)
    refine zk 6 rfl (zo rfl (eG rfl rfl) (zk 4 rfl (zf rfl (E1 _ _) ?_)))
    refine zS rfl (by exact s.lu (k:=0) rfl MN rfl (by decide) rfl rfl) (fun h s => ?_)
    refine zk 3 rfl (zf rfl (K9 _ _) ?_)
    refine zS rfl (by exact s.lu (k:=0) rfl BE rfl (by decide) rfl rfl) (fun h s => ?_)
    refine zk 2 rfl (WP.drawn [af,af,af,af,af,af,af] rfl (by kernel_rfl) (by kernel_rfl) ?_)
    refine zM rfl (zN rfl (zF rfl (sX _ _) (zL rfl (s.ld (k:=1) rfl A3 rfl) (zM rfl (zL rfl (s.cg (k:=0) rfl Uw A6) (aE.mS rfl rfl rfl (OpR.mapUpdate rfl rfl rfl rfl (mo (f:=fun v (x:Nat×Bool)=>.pu (v=.agg [.int .u64 (x.1:Int),.bool x.2])) (x:=(bf,true)) (fun _ _=>aJ.pu _) ((s.ae [2]).fq rfl) Df bP)) ?_))))))
    intro w h s
    refine aE.nil ⟨⟨aa,aa,aa,aa,aa,aa,aa,aa⟩,?_⟩
    refine zK 4 rfl (WP.ret ⟨aa,_,rfl,?_⟩)
    have ed:mC π n bf=bf:=by simp only[mC,g1]
    rw[ed]
    refine⟨rfl,fL.2 ⟨c8,wh,di,?_⟩⟩
    have e6:(π.ai.set i { f with b:=dK b bf,changed:=true }).length=π.ai.length:=bT
    show Sat h (pt r (.cells 6 (qc p q c8 (π.ai.set i { f with b:=dK b bf,changed:=true }).length wh di π.hand) false)::_)
    rw[e6]
    exact((s.ae [2,2,4,0,2]).del 6).del 5
   ·skip
    refine zo rfl (jo rfl rfl g2) (zk 3 rfl ?_)
    refine aA.cB s rfl rfl rfl (cF A7) (fun p12 h s => ?_)
    refine zS rfl (s.iK (j:=0) rfl A6 rfl rfl) (fun h s => ?_)
    refine zk 6 rfl (zo rfl (eG rfl rfl) (zk 5 rfl (zf rfl (K9 _ _) ?_)))
    refine zS rfl (by exact s.lu (k:=0) rfl BE rfl (by decide) rfl rfl) (fun h s => ?_)
    refine zk 2 rfl (WP.drawn [af,af,af,af,af,af,af] rfl (by kernel_rfl) (by kernel_rfl) ?_)
    refine zM rfl (zN rfl (zF rfl (sX _ _) (zL rfl (s.ld (k:=1) rfl A3 rfl) (zM rfl (zL rfl (s.cg (k:=0) rfl Uw A6) (aE.mS rfl rfl rfl (OpR.mapUpdate rfl rfl rfl rfl (mo (f:=fun v (x:Nat×Bool)=>.pu (v=.agg [.int .u64 (x.1:Int),.bool x.2])) (x:=(x.1,true)) (fun _ _=>aJ.pu _) ((s.ae [2]).fq rfl) Df bP)) ?_))))))
    intro w h s
    refine aE.nil ⟨⟨aa,aa,aa,aa,aa,aa,aa,aa⟩,?_⟩
    refine zK 4 rfl (WP.ret ⟨aa,_,rfl,?_⟩)
    have ed:mC π n bf=x.1:=by simp only[mC,g1]
    rw[ed]
    refine⟨rfl,fL.2 ⟨c8,wh,di,?_⟩⟩
    have e6:(π.ai.set i { f with b:=dK b bf,changed:=true }).length=π.ai.length:=bT
    show Sat h (pt r (.cells 6 (qc p q c8 (π.ai.set i { f with b:=dK b bf,changed:=true }).length wh di π.hand) false)::_)
    rw[e6]
    exact((s.ae [2,2,4,0,2]).del 6).del 5
  ·rw[aH hg]
   exact zk 10 rfl (zB rfl aN (rfl) (zk 7 rfl (WP.ret ⟨aa,_,rfl,rfl,fL.2 ⟨c8,wh,di,s.ae [1,1,1,1,0]⟩⟩)))
theorem YQ (hT:W told){n:Int}(s:Sat h (e_ r p q π::S)): Call ⟨Tryz.prog,told⟩ 138 [.ptr r 0,.int .i64 n] h fun v h'=>v=.aW [.int .u64 (mC π n 0:Nat),.bool (lookL n π.dh).isSome]∧Sat h' (e_ r p q π::S):=by
 obtain⟨c8,wh,di,s⟩:=fL.1 s
 refine Call.of_wp (hT.free _ rfl) Tryz.func138 rfl rfl (zK 9 rfl (zY s 0 sX A3 rfl (zm rfl ?_)))
 rcases Lq (n:=n) (s.ae [3]) with⟨I,J,_⟩|⟨x,I,J,_⟩
 ·refine aA.op rfl rfl rfl (jo rfl rfl J) ?_
  refine zk 3 rfl ?_
  refine aA.cB s rfl rfl rfl (cF A7) (fun p6 h s => ?_)
  refine zS rfl (s.iK (j:=0) rfl A6 rfl rfl) (fun h s => ?_)
  exact zk 4 rfl (zY s 0 E1 pU rfl (zk 4 rfl (WP.ret ⟨aa,_,rfl,by simp only[mC,I];rfl,fL.2 ⟨c8,wh,di,s.drop⟩⟩)))
 ·skip
  refine zo rfl (jo rfl rfl J) (zk 3 rfl ?_)
  refine aA.cB s rfl rfl rfl (cF A7) (fun p6 h s => ?_)
  refine zS rfl (s.iK (j:=0) rfl A6 rfl rfl) (fun h s => ?_)
  exact zk 4 rfl (zY s 0 E1 pU rfl (zk 4 rfl (WP.ret ⟨aa,_,rfl,by simp only[mC,I];rfl,fL.2 ⟨c8,wh,di,s.drop⟩⟩)))
def eS : Fm:=⟨-1,[],0,false,false⟩
def dz (π:Pl)(i:Nat)(f:Fm): Pl:={ π with ai:=π.ai.set i eS,bJ:=if f.bE<0 then π.bJ else nR f.bE π.bJ }
def jr (π:Pl)(i:Nat)(n:Int)(b:List Nat): Pl:={ π with ai:=π.ai.set i ⟨n,b,1,true,false⟩,bJ:=cY n (i:Int) π.bJ }
inductive fX (ε:bw)(n:Int): Int→List Nat→bw→Prop where
 |arg (h:¬(0≤n∧n<ε.2.2.bD.length)):fX ε n 1 [] ε
 |Gc (i:Nat) (f:Fm) (h1:0≤n) (h2:n<ε.2.2.bD.length) (hl:lookL n ε.1.bJ=some (i:Int)) (hf:ε.1.ai[i]?=some f):fX ε n 0 f.b ({ ε.1 with ai:=ε.1.ai.set i { f with fK:=true,pins:=f.pins+1 } },ε.2)
 |out (bY:Pl) (i:Nat) (f:Fm) (h1:0≤n) (h2:n<ε.2.2.bD.length) (hl:lookL n ε.1.bJ=none) (hn:fW ε.1 bY) (hf:bY.ai[i]?=some f) (hh:bY.hand<bY.ai.length) (he:(outF (bY,ε.2) i).1≠0):fX ε n (outF (bY,ε.2) i).1 [] (outF (bY,ε.2) i).2
 |read (bY:Pl) (i:Nat) (f:Fm) (h1:0≤n) (h2:n<ε.2.2.bD.length) (hl:lookL n ε.1.bJ=none) (hn:fW ε.1 bY) (hf:bY.ai[i]?=some f) (hh:bY.hand<bY.ai.length) (he:(outF (bY,ε.2) i).1=0)
   (hr:(outF (bY,ε.2) i).2.2.2.qV n≠0):fX ε n ((outF (bY,ε.2) i).2.2.2.qV n) [] (dz (outF (bY,ε.2) i).2.1 i f,(outF (bY,ε.2) i).2.2)
 |bad (bY:Pl) (i:Nat) (f:Fm) (h1:0≤n) (h2:n<ε.2.2.bD.length) (hl:lookL n ε.1.bJ=none) (hn:fW ε.1 bY) (hf:bY.ai[i]?=some f) (hh:bY.hand<bY.ai.length) (he:(outF (bY,ε.2) i).1=0)
   (hr:(outF (bY,ε.2) i).2.2.2.qV n=0) (hc:iL ((outF (bY,ε.2) i).2.2.2.at n)≠0):fX ε n (iL ((outF (bY,ε.2) i).2.2.2.at n)) [] (dz (outF (bY,ε.2) i).2.1 i f,(outF (bY,ε.2) i).2.2)
 |load (bY:Pl) (i:Nat) (f:Fm) (h1:0≤n) (h2:n<ε.2.2.bD.length) (hl:lookL n ε.1.bJ=none) (hn:fW ε.1 bY) (hf:bY.ai[i]?=some f) (hh:bY.hand<bY.ai.length) (he:(outF (bY,ε.2) i).1=0)
   (hr:(outF (bY,ε.2) i).2.2.2.qV n=0) (hc:iL ((outF (bY,ε.2) i).2.2.2.at n)=0):fX ε n 0 ((outF (bY,ε.2) i).2.2.2.at n) (jr (dz (outF (bY,ε.2) i).2.1 i f) i n ((outF (bY,ε.2) i).2.2.2.at n),(outF (bY,ε.2) i).2.2)
theorem B7 (h:ε.2.2.Ok): (outF ε i).2.2.2.Ok:=by
 unfold outF
 split
 ·exact h
 ·split
  ·exact h
  ·split
   ·exact h
   ·split
    ·exact sC h
    ·split
     ·exact(sC h).dI
     ·exact(sC h).dI
theorem SM (h:ε.2.1.Ok): (outF ε i).2.2.1.Ok:=by
 grind[outF,Ka]
theorem nH {f:Fm}(I:ε.1.ai[i]?=some f): ∃c,(outF ε i).2.1.ai[i]?=some { f with changed:=c }:=by
 have J:=(List.getElem?_eq_some_iff.1 I).1
 unfold outF
 rw[I]
 dsimp only
 split
 ·exact⟨f.changed,I⟩
 ·split
  ·exact⟨f.changed,I⟩
  ·split
   ·exact⟨f.changed,I⟩
   ·split
    ·exact⟨f.changed,I⟩
    simp_all
theorem PJ (hT:W told){n:Int}(s:Sat h (e_ r p q π::cM q p μ::bM p δ::S))(SL:π.Ok)(SK:∀f∈π.ai,f.pins=0)(YL:μ.Ok)(SG:δ.Ok)(hw:δ.waiting.length≤268435456):
  Call ⟨Tryz.prog,told⟩ 63 [.ptr r 0,.int .i64 n] h fun v h'=>∃(e:Int) (b:List Nat) (ε:bw),fX (π,μ,δ) n e b ε ∧
   ((e≠0∧v=.aW [.aV,.int .i64 e]∧Sat h' (e_ r p q ε.1::cM q p ε.2.1::bM p ε.2.2::S))∨(e=0∧∃u,v=.aW [u,.int .i64 0]∧Sat h' (aQ u b::e_ r p q ε.1::cM q p ε.2.1::bM p ε.2.2::S))):=by
 have s0:=s
 obtain⟨c8,wh,di,s⟩:=fL.1 s
 refine Call.of_wp (hT.free _ rfl) Tryz.func63 rfl rfl (zK 9 rfl ?_)
 refine zd rfl (az rfl rfl aL) ?_ ?_
 ·intro hq
  have hq:n<0:=by grind
  exact zk 16 rfl (WP.ret ⟨aa,_,rfl,1,[],(π,μ,δ),.arg (fun q=>by omega),.inl ⟨by decide,rfl,s0⟩⟩)
 ·intro hq
  have hq:0≤n:=by grind
  refine zk 4 rfl (zY s 0 A4 uX rfl (zc rfl (B5 hT (s.ae [5])) ?_))
  rintro v h' ⟨rfl,rfl⟩
  refine zd rfl (az rfl rfl kC) ?_ ?_
  ·intro jS
   have jS:¬ n<δ.bD.length:=by grind
   exact zk 8 rfl (WP.ret ⟨aa,_,rfl,1,[],(π,μ,δ),.arg (fun q=>jS q.2),.inl ⟨by decide,rfl,s0⟩⟩)
  ·intro jS
   have jS:n<δ.bD.length:=by grind
   refine zk 9 rfl (zY s 0 vY C_ rfl (zm rfl ?_))
   rcases Lp (n:=n) (j:=0) (s.ae [2]) with⟨g1,g2⟩|⟨i,g1,g2⟩
   ·refine aA.op rfl rfl rfl (jo rfl rfl g2) ?_
    refine zk 15 rfl (zc rfl (SJ hT s SL.hand (by have:=SL.many;omega) SK) ?_)
    rintro v h ⟨i,bY,f,rfl,qd,hf,hh,s⟩
    have hl:=(List.getElem?_eq_some_iff.1 hf).1
    rw[←qd.bJ,←qd.dh] at s
    have hfb:f.b.length≤512:=by
     have h1:π.ai[i]?=some (π.ai[i]'(by have:=qd.len;omega)):=aG _
     generalize (π.ai[i]'(by grind))=f0 at h1
     obtain⟨t,ht⟩:=qd.get i f0 h1
     rw[hf] at ht
     have:=bp ht
     rw[this]
     exact SL.len f0 (aR h1)
    refine zk 6 rfl (zC rfl aL (by rfl) ?_)
    refine zk 7 rfl (zY s 0 lW pW rfl (zm rfl (zo rfl (bx rfl rfl (ni (i:=i) hl)) (zk 7 rfl (zc rfl (YM (π:=bY) hT s hf YL SG (by omega) hw) ?_)))))
    rintro v h ⟨rfl,s⟩
    obtain⟨c,ux⟩:=nH (ε:=(bY,μ,δ)) hf
    have Fb:=B7 (ε:=(bY,μ,δ)) (i:=i) SG
    refine zk 5 rfl ?_
    by_cases he:(outF (bY,μ,δ) i).1=0
    ·generalize ho:outF (bY,μ,δ) i=o at he s ux Fb ⊢
     obtain⟨oe,I,μ1,zu⟩:=o
     dsimp only at he s ux Fb ⊢
     subst he
     have BJ:(outF (bY,μ,δ) i).1=0:=by rw[ho]
     have v8:(outF (bY,μ,δ) i).2=(I,μ1,zu):=by rw[ho]
     refine zC rfl aN (by decide) ?_
     obtain⟨pre,fv,post,J,hlen,s⟩:=jj (s.ae [1]) ux
     refine zk 8 rfl (zf rfl (o9 _ _) (zl rfl (s.ld (k:=0) rfl bZ (iS J rfl)) ?_))
     refine zd rfl (az rfl rfl kC) ?_ ?_
     ·intro dW
      have dW:¬ f.bE<0:=by grind
      refine zk 2 rfl (WP.drawn [af,af,af,af,af,af,af,af,af] rfl (by kernel_rfl) (by kernel_rfl) ?_)
      refine zM rfl (zN rfl (zF rfl (vY _ _) (zL rfl (s.ld (k:=3) rfl C_ rfl) (zM rfl (zN rfl (zF rfl (o9 _ _) (zL rfl (s.ld (k:=0) rfl bZ (iS J rfl)) (aE.mS rfl rfl rfl (OpR.delete rfl rfl rfl rfl (Sq (s.ae [4]) Dd bP)) ?_))))))))
      intro v h s
      have s:=s.ae [1,1,1,1,0]
      refine aE.nil ⟨⟨aa,aa,aa,aa,aa,aa,aa,aa,aa,aa⟩,?_⟩
      refine zK 3 rfl (zo rfl (cP rfl (by rw[G4];rfl)) ?_)
      refine zn rfl (zS rfl (s.UJ (k:=0) (row':=gq eS .aV) rfl Da J hlen (by rfl) rfl) ?_)
      intro h s
      have Bb:(pre++(gq eS .aV++post)).length=I.ai.length*5:=by simpa[gq] using hlen
      have rq:(dz I i f).bJ=nR f.bE I.bJ:=by grind[dz]
      refine zk 5 rfl (zY s 3 A4 uX rfl (zm rfl (zc rfl (PI (n:=n) hT (s.ae [7]) Fb) ?_)))
      rintro v h (⟨hr,rfl,s⟩|⟨hr,u,rfl,s⟩)
      ·dsimp only[bringA,getA,aT] at s
       refine zk 10 rfl (zB rfl aN (by grind) ?_)
       refine zk 8 rfl (WP.ret ⟨aa,_,rfl,?_⟩)
       have s:=gE (i:=i) (f':=eS) (v':=.aV) (s.qT.ae [2,2,0]) rfl ux J
       have e6:(I.ai.set i eS).length=I.ai.length:=bT
       rw[←e6,←rq] at s
       have s:=(fL (π:=dz I i f)).2 ⟨c8,wh,di,s.ae [3,0,2,2]⟩
       have hR:=fX.read (ε:=(π,μ,δ)) bY i f hq jS g1 qd hf hh BJ (by grind)
       rw[v8] at hR
       exact⟨_,[],_,hR,.inl ⟨hr,rfl,(s.del 2).ae [0,1,0]⟩⟩
      ·have aaR:=Fb.at n
       obtain⟨lz,_,cap,_,rfl,_⟩:=s.dP (by omega)
       refine zk 10 rfl (zC rfl aN (rfl) (zk 7 rfl (zc rfl (It hT s (aK _ _) (by omega)) ?_)))
       rintro v h ⟨rfl,s⟩
       refine zk 5 rfl ?_
       by_cases hc:iL (zu.at n)=0
       ·skip
        refine zC rfl aN (by grind) ?_
        have s:=s.fD.ae [2,2,0,2,2,2,2,0,0]
        refine zk 8 rfl (zo rfl (cP rfl (by rw[G4];rfl)) ?_)
        refine zn rfl (zS rfl (s.UJ (k:=0) (row':=gq ⟨n,zu.at n,1,true,false⟩ (.sl lz 0 (zu.at n).length cap)) rfl Da J Bb (by rfl) rfl) ?_)
        intro h s
        refine zk 5 rfl (zY s 3 vY C_ rfl (zk 2 rfl (aA.mS rfl rfl (OpR.mapUpdate rfl rfl rfl rfl (mo (f:=fun v (x:Int)=>.pu (v=.int .i64 x)) (x:=(i:Int)) (fun _ _=>aJ.pu _) ((s.ae [4]).fq rfl) Dd bP)) ?_)))
        intro w h s
        refine zk 4 rfl (zc rfl (wY hT (s.ae [3]) (aY _ _) (by omega)) ?_)
        intro u h s
        refine zk 3 rfl (WP.ret ⟨aa,_,rfl,?_⟩)
        have s:=gE (i:=i) (f':=⟨n,zu.at n,1,true,false⟩) (s.ae [3,3,1]) rfl ux J
        have e6:(I.ai.set i ⟨n,zu.at n,1,true,false⟩).length=I.ai.length:=bT
        have e7:(jr (dz I i f) i n (zu.at n)).ai=I.ai.set i ⟨n,zu.at n,1,true,false⟩:=by simp[jr,dz]
        rw[←e6,←e7,←rq] at s
        have s:=(fL (π:=jr (dz I i f) i n (zu.at n))).2 ⟨c8,wh,di,s.ae [3,0,1,1]⟩
        have hR:=fX.load (ε:=(π,μ,δ)) bY i f hq jS g1 qd hf hh BJ (by grind) (by grind)
        rw[v8] at hR
        exact⟨_,_,_,hR,.inr ⟨rfl,u,rfl,(s.del 4).ae [1,0]⟩⟩
       ·skip
        refine zB rfl aN (by grind) ?_
        refine zk 8 rfl (WP.ret ⟨aa,_,rfl,?_⟩)
        have s:=s.drop
        have s:=gE (i:=i) (f':=eS) (v':=.aV) (s.qT.ae [2,2,0]) rfl ux J
        dsimp only[bringA,getA,aT] at s
        have e6:(I.ai.set i eS).length=I.ai.length:=bT
        rw[←e6,←rq] at s
        have s:=(fL (π:=dz I i f)).2 ⟨c8,wh,di,s.ae [3,0,2,2]⟩
        dsimp only[bringA,getA,aT] at s
        have hR:=fX.bad (ε:=(π,μ,δ)) bY i f hq jS g1 qd hf hh BJ (by grind) (by grind)
        rw[v8] at hR
        exact⟨_,[],_,hR,.inl ⟨hc,rfl,(s.del 2).ae [0,1,0]⟩⟩
     ·intro dW
      have dW:f.bE<0:=by grind
      refine zk 6 rfl (zo rfl (cP rfl (by rw[G4];rfl)) ?_)
      refine zn rfl (zS rfl (s.UJ (k:=0) (row':=gq eS .aV) rfl Da J hlen (by rfl) rfl) ?_)
      intro h s
      dsimp only[setA] at s
      have Bb:(pre++(gq eS .aV++post)).length=I.ai.length*5:=by simpa[gq] using hlen
      have rq:(dz I i f).bJ=I.bJ:=by grind[dz]
      refine zk 5 rfl (zY s 3 A4 uX rfl (zm rfl (zc rfl (PI (n:=n) hT (s.ae [7]) Fb) ?_)))
      rintro v h (⟨hr,rfl,s⟩|⟨hr,u,rfl,s⟩)
      ·dsimp only[bringA,getA,aT] at s
       refine zk 10 rfl (zB rfl aN (by grind) ?_)
       refine zk 8 rfl (WP.ret ⟨aa,_,rfl,?_⟩)
       have s:=gE (i:=i) (f':=eS) (v':=.aV) (s.qT.ae [2,2,0]) rfl ux J
       dsimp only[bringA,getA,aT] at s
       have e6:(I.ai.set i eS).length=I.ai.length:=bT
       rw[←e6,←rq] at s
       have s:=(fL (π:=dz I i f)).2 ⟨c8,wh,di,s.ae [3,0,2,2]⟩
       dsimp only[bringA,getA,aT] at s
       have hR:=fX.read (ε:=(π,μ,δ)) bY i f hq jS g1 qd hf hh BJ (by grind)
       rw[v8] at hR
       exact⟨_,[],_,hR,.inl ⟨hr,rfl,(s.del 2).ae [0,1,0]⟩⟩
      ·have aaR:=Fb.at n
       obtain⟨lz,_,cap,_,rfl,_⟩:=s.dP (by omega)
       refine zk 10 rfl (zC rfl aN (rfl) (zk 7 rfl (zc rfl (It hT s (aK _ _) (by omega)) ?_)))
       rintro v h ⟨rfl,s⟩
       refine zk 5 rfl ?_
       by_cases hc:iL (zu.at n)=0
       ·skip
        refine zC rfl aN (by grind) ?_
        have s:=s.fD.ae [2,2,0,2,2,2,2,0,0]
        dsimp only[bringA,getA,aT] at s
        refine zk 8 rfl (zo rfl (cP rfl (by rw[G4];rfl)) ?_)
        refine zn rfl (zS rfl (s.UJ (k:=0) (row':=gq ⟨n,zu.at n,1,true,false⟩ (.sl lz 0 (zu.at n).length cap)) rfl Da J Bb (by rfl) rfl) ?_)
        intro h s
        dsimp only[setA] at s
        refine zk 5 rfl (zY s 3 vY C_ rfl (zk 2 rfl (aA.mS rfl rfl (OpR.mapUpdate rfl rfl rfl rfl (mo (f:=fun v (x:Int)=>.pu (v=.int .i64 x)) (x:=(i:Int)) (fun _ _=>aJ.pu _) ((s.ae [4]).fq rfl) Dd bP)) ?_)))
        intro w h s
        dsimp only[bringA,getA,aT] at s
        refine zk 4 rfl (zc rfl (wY hT (s.ae [3]) (aY _ _) (by omega)) ?_)
        intro u h s
        dsimp only[bringA,getA,aT] at s
        refine zk 3 rfl (WP.ret ⟨aa,_,rfl,?_⟩)
        have s:=gE (i:=i) (f':=⟨n,zu.at n,1,true,false⟩) (s.ae [3,3,1]) rfl ux J
        dsimp only[bringA,getA,aT] at s
        have e6:(I.ai.set i ⟨n,zu.at n,1,true,false⟩).length=I.ai.length:=bT
        have e7:(jr (dz I i f) i n (zu.at n)).ai=I.ai.set i ⟨n,zu.at n,1,true,false⟩:=by simp[jr,dz]
        rw[←e6,←e7,←rq] at s
        have s:=(fL (π:=jr (dz I i f) i n (zu.at n))).2 ⟨c8,wh,di,s.ae [3,0,1,1]⟩
        dsimp only[bringA,getA,aT] at s
        have hR:=fX.load (ε:=(π,μ,δ)) bY i f hq jS g1 qd hf hh BJ (by grind) (by grind)
        rw[v8] at hR
        exact⟨_,_,_,hR,.inr ⟨rfl,u,rfl,(s.del 4).ae [1,0]⟩⟩
       ·skip
        refine zB rfl aN (by grind) ?_
        refine zk 8 rfl (WP.ret ⟨aa,_,rfl,?_⟩)
        have s:=s.drop
        have s:=gE (i:=i) (f':=eS) (v':=.aV) (s.qT.ae [2,2,0]) rfl ux J
        dsimp only[bringA,getA,aT] at s
        have e6:(I.ai.set i eS).length=I.ai.length:=bT
        rw[←e6,←rq] at s
        have s:=(fL (π:=dz I i f)).2 ⟨c8,wh,di,s.ae [3,0,2,2]⟩
        dsimp only[bringA,getA,aT] at s
        have hR:=fX.bad (ε:=(π,μ,δ)) bY i f hq jS g1 qd hf hh BJ (by grind) (by grind)
        rw[v8] at hR
        exact⟨_,[],_,hR,.inl ⟨hc,rfl,(s.del 2).ae [0,1,0]⟩⟩
    ·skip
     refine zB rfl aN (by grind) ?_
     exact zk 8 rfl (WP.ret ⟨aa,_,rfl,_,[],_,.out bY i f hq jS g1 qd hf hh he,.inl ⟨he,rfl,fL.2 ⟨c8,wh,di,s⟩⟩⟩)
   ·obtain⟨i,f,rfl,hf⟩:=SL.at g1
    have hl:=(List.getElem?_eq_some_iff.1 hf).1
    obtain⟨pre,fv,post,J,hlen,s⟩:=jj (s.ae [1]) hf
    have ug:=SK f (aR hf)
    have nL:=SL.len f (aR hf)
    refine zo rfl (jo rfl rfl g2) (zk 15 rfl (zY s 3 lW pW rfl (zm rfl (zo rfl (bx rfl rfl (ni (i:=i) hl)) (zk 6 rfl (zf rfl (EZ _ _) (zS rfl (s.stM (k:=0) (j:=3) rfl BE J hlen (by simp[gq]) rfl rfl) ?_)))))))
    intro h s
    dsimp only[setA] at s
    refine zk 5 rfl (zf rfl (qD _ _) (zl rfl (s.ld (k:=0) rfl bZ (iS J rfl)) (zb rfl (by exact aO (ay (by omega) (by omega))) ?_)))
    refine zn rfl (zf rfl (qD _ _) (zS rfl (s.stM (k:=0) (j:=2) rfl jO J (by grind) (by simp[gq]) rfl rfl) ?_))
    intro h s
    have e5:((gq f fv).set 3 (.bool true)).set 2 (.int .i64 (f.pins+1))=gq { f with fK:=true,pins:=f.pins+1 } fv:=rfl
    rw[e5] at s
    refine zk 5 rfl (zf rfl (A5 _ _) (zl rfl (s.ld (k:=0) rfl ah (iS J rfl)) (zc rfl (wY hT (s.ae [2]) (aY _ _) (by omega)) ?_)))
    intro u h s
    refine zk 3 rfl (WP.ret ⟨aa,_,rfl,?_⟩)
    have s:=gE (i:=i) (f':={ f with fK:=true,pins:=f.pins+1 }) (s.ae [2,2,1]) rfl hf J
    refine⟨0,f.b,_,.Gc i f hq jS g1 hf,.inr ⟨rfl,u,rfl,?_⟩⟩
    have e6:(π.ai.set i { f with fK:=true,pins:=f.pins+1 }).length=π.ai.length:=bT
    rw[←e6] at s
    exact((fL (π:={ π with ai:=π.ai.set i { f with fK:=true,pins:=f.pins+1 } })).2 ⟨c8,wh,di,s.ae [2,0,1,1]⟩).ae [1,0]
end
def Dt : Fm:=⟨0,[],0,false,false⟩
def Pl.fresh (n:Nat): Pl:=⟨List.replicate n eS,[],[],0⟩
theorem We : ∃i,Tryz.prog.info? 218=some i∧i.size=5∧i.bytes=48 :=
 ⟨_,(show Tryz.prog.info? 218=some ((Tryz.prog.info? 218).getD default) by kernel_rfl),by kernel_rfl,by kernel_rfl⟩
theorem SN {a b:PM}: ∀n:Nat,(tM (repeatL [.int .i64 0,.aV,.int .i64 0,.bool false,.bool false] n) (List.replicate n Dt)).p a b:=by
 intro n
 induction n with
 |zero=>trivial
 |succ n I=>exact⟨⟨⟨rfl,rfl,rfl,rfl⟩,⟨(by intro b J;cases J),.inl ⟨.inl rfl,rfl⟩⟩⟩,I⟩
section
variable {told:cy} {p:Nat} {v:V} {m:List Fm}
noncomputable def pnL : Code:=cE [1,1,1,0,1,0,0] ((Tryz.f105.body).getD .skip)
theorem PK (hn:n<4294967296): ∀(j i:Nat) (m:List Fm) (h:H) (E:List (Nat×V)) (Q:Ex→List (Nat×V)→H→Prop),i+j=n→m=List.replicate i eS++List.replicate j Dt →
  Sat h (pt r (.cells 6 (qc p q c8 n wh di 0) false)::eP c8 m::S)→Has E [(8,.ptr r 0),(28,.int .i64 n),(29,.int .i64 i)] →
  (∀E' h',Has E' [(8,.ptr r 0)]→Sat h' (pt r (.cells 6 (qc p q c8 n wh di 0) false)::eP c8 (List.replicate n eS)::S)→Q (.exit 0) E' h')→WP ⟨Tryz.prog,told⟩ 41 (.loop pnL) E h Q:=by
 intro j
 induction j with
 |zero =>
  intro i m h E Q hi hm s J hx
  refine WP.loop (WP.has J (zg rfl (zC rfl aL (by simp<;>omega) ?_)))
  refine zk 3 rfl (WP.exit (hx _ _ ⟨rfl,aa⟩ ?_))
  rw[hm] at s
  have:i=n:=by omega
  subst this
  simpa using s
 |succ j ih =>
  intro i m h E Q hi hm s J hx
  have IA:m.length=n:=by rw[hm];simp;omega
  have hf:m[i]?=some Dt:=by rw[hm,g8 (by simp)];simp[Ei]
  obtain⟨pre,fv,post,I,hlen,s⟩:=jj (s.ae [1]) hf
  dsimp only[bringA,getA,aT] at s
  refine WP.loop (WP.has J (zg rfl (zB rfl aL (by simp<;>omega) ?_)))
  refine zk 5 rfl (WP.block (zK 8 rfl (zY s 3 lW pW rfl (zm rfl (zo rfl (bx rfl rfl (ni (i:=i) (by omega))) ?_)))))
  refine zf rfl (o9 _ _) (zS rfl (s.stM (k:=0) (j:=0) rfl jO I hlen (by simp[gq]) rfl rfl) ?_)
  intro h s
  dsimp only[setA] at s
  have e5:(gq Dt fv).set 0 (.int .i64 (-1))=gq eS fv:=rfl
  rw[e5] at s
  refine zv (zr rfl (zb rfl (by exact aO (ay (by omega) (by omega))) ?_))
  refine zm rfl (zv ?_)
  have s:=gE (i:=i) (f':=eS) s rfl hf I
  refine ih (i+1) (m.set i eS) h _ Q (by omega) ?_ (s.ae [1,0]) ⟨rfl,rfl,rfl,aa⟩ hx
  rw[hm,Ef _ _ (by simp),fc,gG,Ei,List.set_cons_zero,List.replicate_succ',eB]
  rfl
theorem Wf (hT:W told){n:Int}(s:Sat h S): Call ⟨Tryz.prog,told⟩ 105 [.ptr p 0,.ptr q 0,.int .i64 n] h fun v h' =>
  (¬(1≤n∧n≤1024)∧v=.aW [.cU,.int .i64 1]∧Sat h' S)∨(1≤n∧n≤1024∧∃r,v=.aW [.ptr r 0,.int .i64 0]∧Sat h' (e_ r p q (Pl.fresh n.toNat)::S)):=by
 refine Call.of_wp (hT.free _ rfl) Tryz.func105 rfl rfl (zK 9 rfl ?_)
 refine zd rfl (az rfl rfl aL) ?_ ?_
 ·intro J
  have J:n<1:=by simpa using J
  exact zk 11 rfl (WP.ret ⟨aa,_,rfl,.inl ⟨fun q=>by omega,rfl,s⟩⟩)
 ·intro J
  have J:1≤n:=by simp at J;omega
  refine zk 2 rfl ?_
  refine zd rfl (az rfl rfl cL) ?_ ?_
  ·intro I
   have I:1024<n:=by simpa using I
   exact zk 8 rfl (WP.ret ⟨aa,_,rfl,.inl ⟨fun q=>by omega,rfl,s⟩⟩)
  ·intro I
   have I:n≤1024:=by simp at I;omega
   obtain⟨n,rfl⟩:∃k:Nat,n=k:=⟨n.toNat,by omega⟩
   refine zk 9 rfl ?_
   obtain⟨i1,eT,gC,om⟩:=We
   obtain⟨id,h1,e1,s1⟩:=F9 (P:=Tryz.prog) s yS eT aaC gC (by omega) rfl (by decide) (n:=n) (by omega)
   refine aA.any rfl rfl rfl (OpR.of (R:=fun v h'=>v=.sl id 0 n (.exact n)∧h'=h1) (wQ rfl rfl e1) ⟨rfl,rfl⟩) ?_
   rintro v h ⟨rfl,rfl⟩
   have s:Sat h (eP id (List.replicate n Dt)::S):=jV.2 ⟨_,by rw[fc];exact((s1.fq (φ:=True) aa).dG fun a b _=>SN n).ae [1]⟩
   refine aA.yK s rfl rfl rfl rfl (fun p20 h s => ?_)
   refine aA.yK s rfl rfl rfl rfl (fun p21 h s => ?_)
   refine zo rfl (cP rfl (by rw[aaA];rfl)) ?_
   refine aA.cB s rfl rfl rfl (fH rfl rfl) (fun p23 h s => ?_)
   refine zk 7 rfl (zY s 0 lW pW rfl (zo rfl (aC rfl rfl rfl (mP rfl yS)) (zk 2 rfl (WP.block ?_))))
   have s:=oE (f:=fun v (x:Nat×Bool)=>.pu (v=.agg [.int .u64 (x.1:Int),.bool x.2])) (s.ae [1])
   have s:=oE (f:=fun v (x:Int)=>.pu (v=.int .i64 x)) (s.ae [2])
   have s:=s.ae [2,2,0,0]
   refine PK (n:=n) (by omega) n 0 _ _ _ _ (by omega) rfl s ⟨rfl,rfl,rfl,aa⟩ (fun E' h' fh s' => ?_)
   refine WP.has fh (zK 6 rfl (WP.ret ⟨aa,_,rfl,?_⟩))
   refine .inr ⟨J,I,_,rfl,(fL (π:=Pl.fresh n)).2 ⟨id,.map p20,.map p21,?_⟩⟩
   have e6:(Pl.fresh n).ai.length=n:=by simp[Pl.fresh]
   rw[e6]
   exact s'
end
theorem PL {c:Nat}: ∀ {l:iu} {b:Nat},pY c b l→bornUp c b (l.map Pe)=true:=by
 intro l
 induction l with
 |nil=>intro b _;rfl
 |cons e l I =>
  intro b h
  obtain⟨J,h2,h3⟩:=h
  simp only[jb,Pe,yR,bornUp]
  rw[show(Nat.ble b e.2.2&&Nat.blt e.2.2 c)=true by rw[bF,aP];exact⟨J,by rw[Nat.blt];exact aP.2 h2⟩,ag]
  exact I h3
theorem Nd : ∀ {l:iu},(∀e∈l,(Lit.int .i64 e.1).wf=true)→keyInts (l.map Pe)=some (l.map (·.1)):=by
 intro l
 induction l with
 |nil=>intro _;rfl
 |cons e l I =>
  intro h
  simp only[jb,Pe,yR,keyInts]
  rw[h e bO,ag]
  have:=I (fun e he=>h e (bR _ he))
  rw[this]
theorem Kg {x:Int}: ∀ {l:List Int},l.Pairwise (· < ·)→x∉l→(insI x l).Pairwise (· < ·):=by
 intro l
 induction l with
 |nil=>intro _ _;simp[insI]
 |cons y l ih =>
  intro h hx
  simp only[vu,gm,not_or] at h hx
  simp only[insI]
  by_cases J:x≤y
  ·rw[dy J,ag]
   have:x<y:=by omega
   simp only[vu,gm]
   refine⟨fun z I => ?_,h⟩
   rcases I with rfl|I
   ·exact this
   ·have:=h.1 z I;omega
  ·rw[eM J,aS]
   simp only[vu]
   refine⟨fun z I => ?_,ih h.2 hx.2⟩
   have:=(yC x l).mem_iff.1 I
   rcases List.mem_cons.1 this with rfl|I
   ·omega
   ·exact h.1 z I
theorem Kh : ∀ {l:List Int},l.Nodup→(mR l).Pairwise (· < ·):=by
 intro l
 induction l with
 |nil=>intro _;exact List.Pairwise.nil
 |cons x l I =>
  intro h
  simp only[sI] at h
  exact Kg (I h.2) (fun J=>h.1 ((gX l).mem_iff.1 J))
theorem SO : ∀ {l:List Int},l.Pairwise (· < ·)→rj l=true:=by
 intro l
 induction l with
 |nil=>intro _;rfl
 |cons x l I =>
  intro h
  simp only[vu] at h
  simp only[rj,bF,mJ,i_]
  exact⟨h.1,I h.2⟩
section
variable {f:V→α→aI} {told:cy} {mv:V} {m:List (Int×α)} {b:Nat}
def fy (m:List (Int×α)): List Int:=mR (m.map (·.1))
theorem rG {n:Int}: n∈fy m↔n∈m.map (·.1):=(gX _).mem_iff
theorem SP (l:List Int): (iF l).all storable=true:=by simp[iF,storable]
theorem zD (hT:W told)(s:Sat h (pt b (.cells 1 [mv] false)::nf f mv m::S))(hg:wE A9 g=true)(hm:m.length≤1048576)(hk:∀n∈m.map (·.1),(Lit.int .i64 n).wf=true):
  Call ⟨Tryz.prog,told⟩ 61 [.fn (.func g) [] [.ptr b 0]] h fun v h'=>Sat h' (.arr 1 v (iF (fy m))::pt b (.cells 1 [mv] false)::nf f mv m::S):=by
 obtain⟨id,l,c,rfl,hb,hn,s1⟩:=uw.1 (s.ae [1])
 have s1:Sat h (H_ id l c::iH f l m::pt b (.cells 1 [.map id] false)::S):=s1
 obtain⟨q1,q2,q3,q4,q5⟩:=s1.at (k:=1) rfl
 have I:=Dc q5
 have hlen:l.length=m.length:=by have:=dn List.length I;simpa using this
 have pR:=s1.row (k:=0) rfl
 have abV:=s1.row (k:=2) rfl
 have mV:∀e∈l,(Lit.int .i64 e.1).wf=true:=fun e he=>hk e.1 (by rw[←I];exact vr he)
 have hri:rj (mR (l.map (·.1)))=true:=SO (Kh (by rw[I];exact hn))
 have J:∃v h',toldSorted A9 [.fn (.func g) [] [.ptr b 0]] h=some (v,h')∧Sat h' (.arr 1 v (iF (fy m))::pt b (.cells 1 [.map id] false)::nf f (.map id) m::S):=by
  simp only[toldSorted,abV,pR,cq,hg,PL hb,Nd mV,hri]
  rw[show(Nat.beq 1 1&&true&&true&&Nat.ble l.length 1048576)=true by rw[aP.2 (by omega)];rfl,ag]
  simp only[ag]
  cases hl:l.map (·.1) with
  |nil =>
   refine⟨_,_,rfl,?_⟩
   have:fy m=[]:=by rw[fy,←I,hl];rfl
   rw[this]
   exact s.kS
  |cons x xs =>
   refine⟨_,_,rfl,?_⟩
   have e1:fy m=mR (x::xs):=by rw[fy,←I,hl]
   have e2:(mR (x::xs)).length=(x::xs).length:=(gX _).length_eq
   have e3:(x::xs).length=l.length:=by rw[←hl,cq]
   rw[e1,←e3]
   refine(s.new (.cells (iF (mR (x::xs))).length (iF (mR (x::xs))) false)).dG fun a r BC=>⟨SP _,.inr ⟨h.next,(x::xs).length,.rest 1 0,(iF (mR (x::xs))).length,[],rfl,?_,?_,by simp,rfl,rfl,rfl,rfl,by simp⟩⟩
   ·rw[g_];exact BC
   ·simp only[iF,cq,e2,cz]
 obtain⟨v,h',e1,e2⟩:=J
 exact⟨v,h',gQ.told hT.sorted Tryz.func61 rfl e1,e2⟩
end
structure zE (ε:bw): Prop where
 pl:ε.1.Ok
 lg:ε.2.1.Ok
 dk:ε.2.2.Ok
theorem SQ (h:ε.1.Ok): (outF ε i).2.1.Ok:=by
 unfold outF
 split
 ·exact h
 ·rename_i f J
  have hm:=aR J
  split
  ·exact h
  ·split
   ·exact h
   ·split
    ·exact h
    ·split
     ·exact h
     ·refine⟨by simp only[bT];exact h.hand,by simp only[bT];exact h.many,fun e he=>by simp only[bT];exact h.bJ e he,fun g I => ?_,fun g I => ?_⟩
      ·rcases lG I with I|rfl
       ·exact h.len g I
       ·exact h.len f hm
      ·rcases lG I with I|rfl
       ·exact h.pins g I
       ·exact h.pins f hm
theorem w9 (h:zE ε): zE (outF ε i).2:=⟨SQ h.pl,SM h.lg,B7 h.dk⟩
theorem Ki {n:Int}: (δ.dI n b).2.waiting.length≤δ.waiting.length+1:=by
 unfold Dk.dI
 split
 ·exact vJ _
 ·split
  ·exact vJ _
  ·split
   ·exact vJ _
   ·exact Nat.le_of_eq (by simp[Dk.wr])
end Go.Proofs.YtdonpgpfplgigaaGreat.Am
namespace Go.Proofs.YtdonpgpfplgigaaGreat.Am
open Go
variable {X:aI} {C:fB} {δ:Dk} {ε aj:bw} {Q:Ex→List (Nat×V)→H→Prop} {h:H} {kd pg:Int} {μ:Lg} {now:List (Int×List Nat)} {E:List (Nat×V)} {S:List aI} {cK:List eE} {l b data:List Nat} {cs pre post args:List V} {g n k i size bf a d z p6 id off q j tx pv nx j1 j2 p1 r c8 bA:Nat} {y:Operand} {π bY:Pl} {P:Program} {α:Type} {t e:TypeId} {x u bv dt w v' wh di:V}
open Classical in
noncomputable def oo (P:Program)(f:FuncId)(kr:List V→H→V×H→Prop)(args:List V)(h:H): Option (V×H) :=
 if I:∃r,kr args h r∧∀(c:Ctx) (w:World),Rel c h w→(∀x∈args,wf c x)→jm P f args c w r.1 r.2 then some I.choose else none
theorem PN {f : FuncId} {kr : List V → H → V × H → Prop} (J : ∃ fn, P.funcs[f]? = some fn ∧ fn.body.isSome = true ∧ (fn.name == "runtime.NumGoroutine") = false) : KI P f (oo P f kr) := by
 refine .inl ⟨J, fun args σ v dM I c w h hw => ?_⟩
 unfold oo at I
 split at I
 ·rename_i hx
  have := hx.choose_spec.2 c w h hw
  injection I with I
  rw [I] at this
  exact this
 ·cases I
theorem uy {f:FuncId}{kr:List V→H→V×H→Prop}{r:V×H}(J:kr args h r)(h2:∀(c:Ctx) (w:World),Rel c h w→(∀x∈args,wf c x)→jm P f args c w r.1 r.2):
  ∃r,oo P f kr args h=some r∧kr args h r:=by
 have I:∃r,kr args h r∧∀(c:Ctx) (w:World),Rel c h w→(∀x∈args,wf c x)→jm P f args c w r.1 r.2:=⟨r,J,h2⟩
 refine⟨I.choose,?_,I.choose_spec.1⟩
 unfold oo
 rw[dif_pos I]
noncomputable def qW (f:Nat): Option (List V→H→Option (V×H)) :=
 cond (Nat.beq f 61) (some (toldSorted A9)) (cond (Nat.beq f 211) (some toldMore) none)
noncomputable abbrev CB : fB:=⟨Tryz.prog,qW⟩
theorem zG : Tryz.prog.follows .mixedOrders=true:=by kernel_rfl
theorem w_ : gP CB:=by
 intro f g I
 simp only[CB,qW] at I ⊢
 by_cases h1:f=61
 ·subst h1
  rw[qy rfl,ag] at I
  simp only[aD] at I
  subst I
  exact .inl ⟨⟨_,Tryz.func61,rfl,by decide⟩,fun args σ v dM J c w h _=>GP bP Pk J h⟩
 ·rw[eD h1,aS] at I
  by_cases h2:f=211
  ·subst h2
   rw[qy rfl,ag] at I
   simp only[aD] at I
   subst I
   exact .inl ⟨⟨_,CO,rfl,by decide⟩,fun args σ v dM J c w h hw=>J4 (C:=CB) rfl zG J h hw⟩
  ·rw[eD h2,aS] at I
   cases I
theorem W.base : W qW:=by
 refine⟨fun f I => ?_,rfl,rfl⟩
 have J:f≠61:=fun e=>by subst e;revert I;decide
 have h2:f≠211:=fun e=>by subst e;revert I;decide
 simp only[qW,eD J,eD h2,aS]
theorem gQ.det {f:FuncId}{v:V}{h₁ I:H}(a:gQ C f args h v h₁)(b:gQ C f args h v' I): v=v'∧h₁=I:=by
 obtain⟨N,hN⟩:=a
 obtain⟨M,hM⟩:=b
 have e1:=pM (gH (oM N M)) hN
 have J:=pM (gH (oL N M)) hM
 rw[e1] at J
 simp only[aD,bG] at J
 exact J
theorem fW.ai (I:fW π bY): ∀g∈bY.ai,∃f∈π.ai,∃t,g={ f with fK:=t }:=by
 intro g hg
 obtain⟨i,hi,rfl⟩:=List.mem_iff_getElem.1 hg
 have hf:π.ai[i]?=some (π.ai[i]'(by rw[←I.len];exact hi)):=aG _
 obtain⟨t,J⟩:=I.get i _ hf
 rw[aG hi] at J
 exact⟨_,Aw _,t,bp J⟩
theorem fW.ok (I:fW π bY)(h:π.Ok)(hh:bY.hand<bY.ai.length): bY.Ok:=by
 refine⟨hh,by rw[I.len];exact h.many,by rw[I.bJ,I.len];exact h.bJ,fun g J => ?_,fun g J => ?_⟩
 ·obtain⟨f,hf,t,rfl⟩:=I.ai g J
  exact h.len f hf
 ·obtain⟨f,hf,t,rfl⟩:=I.ai g J
  exact h.pins f hf
theorem Pl.Ok.set {f:Fm}{w:List (Int×Int)}{d:List (Int×(Nat×Bool))}(h:π.Ok)(hw:∀e∈w,0≤e.2∧e.2<π.ai.length)(J:f.b.length≤512)(hp:0≤f.pins∧f.pins≤4294967296): Pl.Ok { π with ai:=π.ai.set i f,bJ:=w,dh:=d }:=by
 refine⟨by simp only[bT];exact h.hand,by simp only[bT];exact h.many,fun e he=>by simp only[bT];exact hw e he,fun g I => ?_,fun g I => ?_⟩
 ·rcases lG I with I|rfl
  ·exact h.len g I
  ·exact J
 ·rcases lG I with I|rfl
  ·exact h.pins g I
  ·exact hp
theorem Wg {n:Int}: ∀ {l:List (Int×α)} {e:Int×α},e∈nR n l→e∈l:=by
 intro l
 induction l with
 |nil=>intro e h;exact h
 |cons x l I =>
  intro e h
  simp only[nR] at h
  split at h
  ·exact bR _ h
  ·rcases List.mem_cons.1 h with rfl|h
   ·exact bO
   ·exact bR _ (I h)
theorem Wh {n:Int}{x:α}: ∀ {l:List (Int×α)} {e:Int×α},e∈cY n x l→e=(n,x)∨e∈l:=by
 intro l
 induction l with
 |nil=>intro e h;simp only[cY,Ek] at h;exact .inl h
 |cons y l I =>
  intro e h
  simp only[cY] at h
  split at h
  ·rcases List.mem_cons.1 h with rfl|h
   ·exact .inl rfl
   ·exact .inr (bR _ h)
  ·rcases List.mem_cons.1 h with rfl|h
   ·exact .inr bO
   ·rcases I h with h|h
    ·exact .inl h
    ·exact .inr (bR _ h)
theorem B8 {f:Fm}(h:π.Ok): (dz π i f).Ok:=by
 unfold dz
 refine h.set (fun e he => ?_) (by simp[eS]) (by simp[eS])
 split at he
 ·exact h.bJ e he
 ·exact h.bJ e (Wg he)
theorem fX.ok {n e:Int}(hr:fX ε n e b aj)(h:zE ε)(hp:∀f∈ε.1.ai,f.pins=0): zE aj:=by
 cases hr with
 |arg _=>exact h
 |Gc i f h1 h2 hl hf =>
  have hm:=aR hf
  exact⟨h.pl.set h.pl.bJ (h.pl.len f hm) (by have:=hp f hm;simp only;omega),h.lg,h.dk⟩
 |out bY i f h1 h2 hl I hf J he=>exact w9 (ε:=(bY,ε.2)) ⟨I.ok h.pl J,h.lg,h.dk⟩
 |read bY i f h1 h2 hl I hf J he hr =>
  have:=w9 (i:=i) (ε:=(bY,ε.2)) ⟨I.ok h.pl J,h.lg,h.dk⟩
  exact⟨B8 this.pl,this.lg,this.dk⟩
 |bad bY i f h1 h2 hl I hf J he hr hc =>
  have:=w9 (i:=i) (ε:=(bY,ε.2)) ⟨I.ok h.pl J,h.lg,h.dk⟩
  exact⟨B8 this.pl,this.lg,this.dk⟩
 |load bY i f h1 h2 hl I hf J he hr hc =>
  have:=w9 (i:=i) (ε:=(bY,ε.2)) ⟨I.ok h.pl J,h.lg,h.dk⟩
  have h3:=B8 (i:=i) (f:=f) this.pl
  have hlen:i<(dz (outF (bY,ε.2) i).2.1 i f).ai.length:=by
   obtain⟨c,hc⟩:=nH (ε:=(bY,ε.2)) hf
   have:=(List.getElem?_eq_some_iff.1 hc).1
   simpa[dz] using this
  refine⟨h3.set (fun e he => ?_) (by simp only;rw[this.dk.at];omega) (by simp),this.lg,this.dk⟩
  rcases Wh he with rfl|he
  ·simp only;omega
  ·exact h3.bJ e he
theorem Gd {n:Int}(h:π.Ok): (unpinF π n).2.Ok:=by
 unfold unpinF
 split
 ·exact h
 ·rename_i i hi
  split
  ·exact h
  ·rename_i f I
   have hm:=aR I
   refine h.set h.bJ (h.len f hm) ?_
   have:=h.pins f hm
   have J:f.pins≠0:=by
    unfold heldI at hi
    split at hi
    ·cases hi
    ·split at hi
     ·cases hi
     ·rename_i g hg
      split at hi
      ·cases hi
      ·rename_i hp
       have:=bp hi
       subst this
       rw[hg] at I
       have:=bp I
       subst this
       exact hp
   simp only;omega
inductive mW (ε:bw)(n:Int): Int→List Nat→bw→Prop where
 |dead (h:ε.2.2.dead=true):mW ε n 9 [] ε
 |kr (e:Int) (b:List Nat) (aj:bw) (h:ε.2.2.dead=false) (hr:fX ε n e b aj) (he:e≠0):mW ε n e [] aj
 |xg (b:List Nat) (aj:bw) (h:ε.2.2.dead=false) (hr:fX ε n 0 b aj) (he:(unpinF aj.1 n).1≠0):mW ε n (unpinF aj.1 n).1 [] ((unpinF aj.1 n).2,aj.2)
 |read (b:List Nat) (aj:bw) (h:ε.2.2.dead=false) (hr:fX ε n 0 b aj) (he:(unpinF aj.1 n).1=0):mW ε n 0 b ((unpinF aj.1 n).2,aj.2)
theorem mW.ok {n e:Int}(I:mW ε n e b aj)(h:zE ε)(J:∀f∈ε.1.ai,f.pins=0): zE aj:=by
 cases I with
 |dead _=>exact h
 |kr e b aj hd I he=>exact I.ok h J
 |xg b aj hd I he=>have:=I.ok h J;exact⟨Gd this.pl,this.lg,this.dk⟩
 |read b aj hd I he=>have:=I.ok h J;exact⟨Gd this.pl,this.lg,this.dk⟩
def Ls (a p q r:Nat)(op dv:V)(bA:Nat): List V:=[.ptr p 0,.ptr q 0,.ptr r 0,op,dv,.int .u64 (bA:Int)]
def fA (a p q r:Nat)(op:V)(data:List Nat)(bA:Nat): aI:=xs fun dv:V=>star [pt a (.cells 6 (Ls a p q r op dv bA) false),.bK dv data]
def gO (g a:Nat)(now:List (Int×List Nat))(b_:Bool): aI:=xs fun I:V=>star [pt g (.cells 3 [.ptr a 0,I,.bool b_] false),nf (fun v b=>.bK v b) I now]
section
variable {told:cy} {p:Nat} {op v:V} {m:List Fm} {b_:Bool}
theorem dB : Sat h (fA a p q r op data bA::S)↔∃dv,Sat h (pt a (.cells 6 (Ls a p q r op dv bA) false)::.bK dv data::S):=by
 simp only[fA,iC,cG,g9,cO]
theorem eH : Sat h (gO g a now b_::S)↔∃I,Sat h (pt g (.cells 3 [.ptr a 0,I,.bool b_] false)::nf (fun v b=>.bK v b) I now::S):=by
 simp only[gO,iC,cG,g9,cO]
theorem B9 (hT:W told){n:Int}(s:Sat h (fA a p q r op data bA::e_ r p q π::cM q p μ::bM p δ::S))(I:zE (π,μ,δ))(J:∀f∈π.ai,f.pins=0)(hw:δ.waiting.length≤268435456):
  Call ⟨Tryz.prog,told⟩ 137 [.ptr a 0,.int .i64 n] h fun v h'=>∃(e:Int) (b:List Nat) (ε:bw),mW (π,μ,δ) n e b ε ∧
   ((e≠0∧v=.aW [.aV,.int .i64 e]∧Sat h' (fA a p q r op data bA::e_ r p q ε.1::cM q p ε.2.1::bM p ε.2.2::S)) ∨
    (e=0∧∃u,v=.aW [u,.int .i64 0]∧Sat h' (aQ u b::fA a p q r op data bA::e_ r p q ε.1::cM q p ε.2.1::bM p ε.2.2::S))):=by
 have s0:=s
 obtain⟨dv,s⟩:=dB.1 s
 refine Call.of_wp (hT.free _ rfl) Tryz.func137 rfl rfl (zK 10 rfl (zY s 0 AZ uX rfl (zc rfl (Io hT (s.ae [4])) ?_)))
 rintro v h ⟨rfl,rfl⟩
 refine zv ?_
 cases hd:δ.dead with
 |true =>
  exact zK 6 rfl (WP.ret ⟨aa,_,rfl,9,[],_,.dead hd,.inl ⟨by decide,rfl,s0⟩⟩)
 |false =>
  refine zK 6 rfl (zY s 0 sS AY rfl (zm rfl (zc rfl (PJ (n:=n) hT (s.ae [2,2,2]) I.pl J I.lg I.dk hw) ?_)))
  rintro v h ⟨e,b,ε,hr,(⟨he,rfl,s⟩|⟨rfl,u,rfl,s⟩)⟩
  ·dsimp only[bringA,getA,aT] at s
   refine zk 10 rfl (zB rfl aN (by simp;exact he) ?_)
   exact zk 8 rfl (WP.ret ⟨aa,_,rfl,e,[],ε,.kr e b ε hd hr he,.inl ⟨he,rfl,dB.2 ⟨dv,s.ae [3,3,0,0,0]⟩⟩⟩)
  ·dsimp only[bringA,getA,aT] at s
   refine zk 10 rfl (zC rfl aN (rfl) ?_)
   have s:=s.ae [4,4,0,0,0,0]
   refine zk 8 rfl (zY s 0 sS AY rfl (zm rfl ?_))
   have lB:=hr.ok I J
   refine zc rfl (Iz (n:=n) hT (s.ae [3]) lB.pl) ?_
   rintro v h ⟨rfl,s⟩
   refine zk 5 rfl ?_
   by_cases he:(unpinF ε.1 n).1=0
   ·skip
    refine zC rfl aN (by simp;exact he) ?_
    exact zk 9 rfl (WP.ret ⟨aa,_,rfl,0,b,_,.read b ε hd hr he,.inr ⟨rfl,u,rfl,(dB.2 ⟨dv,s.ae [1,1,0,1,1,0]⟩).ae [4,0,0,0,0]⟩⟩)
   ·skip
    refine zB rfl aN (by simp;exact he) ?_
    exact zk 8 rfl (WP.ret ⟨aa,_,rfl,_,[],_,.xg b ε hd hr he,.inl ⟨he,rfl,(dB.2 ⟨dv,(s.ae [1,1,0,1,1,0]).del 5⟩)⟩⟩)
end
structure Pl.Full (π:Pl): Prop where
 nodup:(π.bJ.map (·.1)).Nodup
 nj:∀n i,lookL n π.bJ=some i→0≤n∧∃f,π.ai[i.toNat]?=some f∧f.bE=n∧f.b.length=512
structure jG (ε:bw): Prop where
 ok:zE ε
 pins:∀f∈ε.1.ai,f.pins=0
 full:ε.1.Full
theorem Pl.Full.set {f g:Fm}{d:List (Int×(Nat×Bool))}(h:π.Full)(hf:π.ai[i]?=some f)(hp:g.bE=f.bE)(hl:f.b.length=512→g.b.length=512): Pl.Full { π with ai:=π.ai.set i g,dh:=d }:=by
 refine⟨h.nodup,fun n j hj => ?_⟩
 obtain⟨h1,f',J,h3,h4⟩:=h.nj n j hj
 refine⟨h1,?_⟩
 by_cases I:i=j.toNat
 ·subst I
  rw[hf] at J
  have:=bp J
  subst this
  exact⟨g,iX (List.getElem?_eq_some_iff.1 hf).1,hp.trans h3,hl h4⟩
 ·exact⟨f',by simp only[kE I];exact J,h3,h4⟩
theorem fW.full (I:fW π bY)(h:π.Full): bY.Full:=by
 refine⟨by rw[I.bJ];exact h.nodup,fun n j J => ?_⟩
 rw[I.bJ] at J
 obtain⟨h1,f',h2,h3,h4⟩:=h.nj n j J
 obtain⟨t,ht⟩:=I.get _ _ h2
 exact⟨h1,_,ht,h3,h4⟩
theorem uz (h:ε.1.Full): (outF ε i).2.1.Full:=by
 unfold outF
 split
 ·exact h
 ·rename_i f I
  split
  ·exact h
  ·split
   ·exact h
   ·split
    ·exact h
    ·split
     ·exact h
     ·exact h.set I rfl fun J=>J
theorem xh {f g:Fm}(h:π.Full)(hg:π.ai[i]?=some g)(hp:g.bE=f.bE): (dz π i f).Full∧∀n j,lookL n (dz π i f).bJ=some j→j.toNat≠i:=by
 have key:∀n j,lookL n (dz π i f).bJ=some j→lookL n π.bJ=some j∧j.toNat≠i:=by
  intro n j I
  by_cases hf:f.bE<0
  ·have hw:(dz π i f).bJ=π.bJ:=by simp only[dz,aH hf]
   rw[hw] at I
   refine⟨I,fun hi => ?_⟩
   obtain⟨h1,f',J,h3,_⟩:=h.nj n j I
   rw[hi,hg] at J
   have:=bp J
   subst this
   omega
  ·have hw:(dz π i f).bJ=nR f.bE π.bJ:=by simp only[dz,ax hf]
   rw[hw,F_ h.nodup] at I
   by_cases hn:f.bE=n
   ·rw[aH hn] at I;cases I
   ·rw[ax hn] at I
    refine⟨I,fun hi => ?_⟩
    obtain⟨h1,f',J,h3,_⟩:=h.nj n j I
    rw[hi,hg] at J
    have:=bp J
    subst this
    omega
 refine⟨⟨?_,fun n j I => ?_⟩,fun n j I=>(key n j I).2⟩
 ·unfold dz
  simp only
  split
  ·exact h.nodup
  ·exact wX h.nodup
 ·obtain⟨h1,J⟩:=key n j I
  obtain⟨h3,f',h4,h5,h6⟩:=h.nj n j h1
  exact⟨h3,f',by simp only[dz,kE (lN J)];exact h4,h5,h6⟩
theorem Kj {n:Int}(h:π.Full)(hi:i<π.ai.length)(J:∀n j,lookL n π.bJ=some j→j.toNat≠i)(hn:0≤n)(hb:b.length=512): (jr π i n b).Full:=by
 refine⟨mj h.nodup,fun m j I => ?_⟩
 simp only[jr,kT] at I
 by_cases hm:n=m
 ·rw[aH hm] at I
  have:=bp I
  subst this;subst hm
  exact⟨hn,⟨n,b,1,true,false⟩,iX hi,rfl,hb⟩
 ·rw[ax hm] at I
  obtain⟨h3,f',h4,h5,h6⟩:=h.nj m j I
  exact⟨h3,f',by simp only[jr,kE (lN (J m j I))];exact h4,h5,h6⟩
theorem fX.full {n e:Int}(hr:fX ε n e b aj)(hd:ε.2.2.Ok)(h:ε.1.Full): aj.1.Full∧(e=0→b.length=512):=by
 cases hr with
 |arg _=>exact⟨h,fun h=>(by cases h)⟩
 |Gc i f h1 h2 hl J =>
  refine⟨h.set J rfl fun hl=>hl,fun _ => ?_⟩
  obtain⟨_,f',h4,_,h6⟩:=h.nj n i hl
  rw[dm,J] at h4
  have:=bp h4
  subst this
  exact h6
 |out bY i f h1 h2 hl hn J hh he=>exact⟨uz (ε:=(bY,ε.2)) (hn.full h),fun h=>absurd h he⟩
 |read bY i f h1 h2 hl hn J hh he hr =>
  obtain⟨c,I⟩:=nH (ε:=(bY,ε.2)) J
  exact⟨(xh (f:=f) (uz (ε:=(bY,ε.2)) (hn.full h)) I rfl).1,fun h=>absurd h hr⟩
 |bad bY i f h1 h2 hl hn J hh he hr hc =>
  obtain⟨c,I⟩:=nH (ε:=(bY,ε.2)) J
  exact⟨(xh (f:=f) (uz (ε:=(bY,ε.2)) (hn.full h)) I rfl).1,fun h=>absurd h hc⟩
 |load bY i f h1 h2 hl hn J hh he hr hc =>
  obtain⟨c,I⟩:=nH (ε:=(bY,ε.2)) J
  have hi:=(List.getElem?_eq_some_iff.1 I).1
  obtain⟨k1,k2⟩:=xh (f:=f) (uz (ε:=(bY,ε.2)) (hn.full h)) I rfl
  have rZ:=(B7 (ε:=(bY,ε.2)) (i:=i) hd).at n
  exact⟨Kj k1 (by simp only[dz,bT];exact hi) k2 h1 rZ,fun _=>rZ⟩
theorem BK {n:Int}(h:π.Full): (unpinF π n).2.Full:=by
 unfold unpinF
 split
 ·exact h
 ·split
  ·exact h
  ·rename_i f I
   exact h.set I rfl fun J=>J
theorem fW.pins (I:fW π bY)(h:∀f∈π.ai,f.pins=0): ∀f∈bY.ai,f.pins=0:=fun g J=>by
 obtain⟨f,hf,t,rfl⟩:=I.ai g J
 exact h f hf
theorem uA (h:∀f∈ε.1.ai,f.pins=0): ∀f∈(outF ε i).2.1.ai,f.pins=0:=by
 unfold outF
 split
 ·exact h
 ·rename_i f J
  have hm:=aR J
  split
  ·exact h
  ·split
   ·exact h
   ·split
    ·exact h
    ·split
     ·exact h
     ·intro g I
      rcases lG I with I|rfl
      ·exact h g I
      ·exact h f hm
theorem xj {f:Fm}(h:∀f∈π.ai,f.pins=0): ∀f∈(dz π i f).ai,f.pins=0:=by
 intro g I
 rcases lG I with I|rfl
 ·exact h g I
 ·rfl
theorem fX.Lt {n e:Int}(J:fX ε n e b aj)(he:e≠0)(hp:∀f∈ε.1.ai,f.pins=0): ∀f∈aj.1.ai,f.pins=0:=by
 cases J with
 |arg _=>exact hp
 |Gc i f h1 h2 hl hf=>exact absurd rfl he
 |out bY i f h1 h2 hl I hf hh he=>exact uA (ε:=(bY,ε.2)) (I.pins hp)
 |read bY i f h1 h2 hl I hf hh he J=>exact xj (f:=f) (uA (ε:=(bY,ε.2)) (I.pins hp))
 |bad bY i f h1 h2 hl I hf hh he J hc=>exact xj (f:=f) (uA (ε:=(bY,ε.2)) (I.pins hp))
 |load bY i f h1 h2 hl I hf hh he J hc=>exact absurd rfl he
theorem IB {m:List Fm}{f g:Fm}(h:∀f∈m,f.pins=0)(J:g.pins=0): ∀x∈(m.set i f).set i g,x.pins=0:=by
 intro x I
 rw[List.set_set] at I
 rcases lG I with I|rfl
 ·exact h x I
 ·exact J
theorem tN {n:Int}{f:Fm}(hl:lookL n π.bJ=some (i:Int))(I:π.ai[i]?=some f)(J:f.pins=1): heldI π n=some i∧unpinF π n=(0,{ π with ai:=π.ai.set i { f with pins:=0 } }):=by
 have h1:heldI π n=some i:=by
  simp only[heldI,hl,dm,I,J]
  rfl
 refine⟨h1,?_⟩
 simp only[unpinF,h1,I,J]
 rfl
theorem SR {n:Int}{x:α}{l:List (Int×α)}: lookL n (cY n x l)=some x:=by rw[kT,aH rfl]
theorem fX.at {n:Int}(hr:fX ε n 0 b aj)(hp:∀f∈ε.1.ai,f.pins=0):
  ∃(i:Nat) (f:Fm),lookL n aj.1.bJ=some (i:Int)∧aj.1.ai[i]?=some f∧f.pins=1∧f.b=b∧∀g:Fm,g.pins=0→∀x∈aj.1.ai.set i g,x.pins=0:=by
 generalize I:(0:Int)=e at hr
 cases hr with
 |arg _=>cases I
 |Gc i f h1 h2 hl J =>
  have hi:=(List.getElem?_eq_some_iff.1 J).1
  refine⟨i,{ f with fK:=true,pins:=f.pins+1 },hl,by simp[hi],by have:=hp f (aR J);show f.pins+1=1;omega,rfl,fun g hg=>IB hp hg⟩
 |out bY i f h1 h2 hl hn J hh he=>exact absurd I.symm he
 |read bY i f h1 h2 hl hn J hh he hr=>exact absurd I.symm hr
 |bad bY i f h1 h2 hl hn J hh he hr hc=>exact absurd I.symm hc
 |load bY i f h1 h2 hl hn J hh he hr hc =>
  obtain⟨c,Pc⟩:=nH (ε:=(bY,ε.2)) J
  have hi:=(List.getElem?_eq_some_iff.1 Pc).1
  refine⟨i,⟨n,_,1,true,false⟩,SR,iX (by show i<(List.set _ i _).length;rw[bT];exact hi),rfl,rfl,fun g hg=>IB (xj (f:=f) (uA (ε:=(bY,ε.2)) (hn.pins hp))) hg⟩
theorem fX.B_ {n:Int}(I:fX ε n 0 b aj)(J:∀f∈ε.1.ai,f.pins=0): (unpinF aj.1 n).1=0∧∀f∈(unpinF aj.1 n).2.ai,f.pins=0:=by
 obtain⟨i,f,h1,h2,h3,h4,h5⟩:=I.at J
 rw[(tN h1 h2 h3).2]
 exact⟨rfl,h5 _ rfl⟩
theorem mW.ou {n e:Int}(I:mW ε n e b aj)(h:jG ε): jG aj:=by
 refine⟨I.ok h.ok h.pins,?_,?_⟩
 ·cases I with
  |dead _=>exact h.pins
  |kr e b aj J I he=>exact I.Lt he h.pins
  |xg b aj J I he=>exact(I.B_ h.pins).2
  |read b aj J I he=>exact(I.B_ h.pins).2
 ·cases I with
  |dead _=>exact h.full
  |kr e b aj J I he=>exact(I.full h.ok.dk h.full).1
  |xg b aj J I he=>exact BK (I.full h.ok.dk h.full).1
  |read b aj J I he=>exact BK (I.full h.ok.dk h.full).1
theorem mW.len {n:Int}(J:mW ε n 0 b aj)(h:jG ε): b.length=512:=by
 generalize I:(0:Int)=e at J
 cases J with
 |dead _=>cases I
 |kr e b aj hd J he=>exact absurd I.symm he
 |xg b aj hd J he=>exact absurd I.symm he
 |read b aj hd J he=>exact(J.full h.ok.dk h.full).2 rfl
inductive GRd (ε:bw)(now:List (Int×List Nat))(b_:Bool)(n:Int): Int→List Nat→bw→Prop where
 |arg (h:¬(0≤n∧n<ε.2.2.bD.length)):GRd ε now b_ n 1 [] ε
 |b_ (h1:0≤n) (h2:n<ε.2.2.bD.length) (h:b_=true):GRd ε now b_ n 18 [] ε
 |own (b:List Nat) (h1:0≤n) (h2:n<ε.2.2.bD.length) (h:b_=false) (hl:lookL n now=some b):GRd ε now b_ n 0 b ε
 |read (e:Int) (b:List Nat) (aj:bw) (h1:0≤n) (h2:n<ε.2.2.bD.length) (h:b_=false) (hl:lookL n now=none) (hr:mW ε n e b aj):GRd ε now b_ n e b aj
theorem GRd.ou {b_:Bool}{n e:Int}(I:GRd ε now b_ n e b aj)(h:jG ε): jG aj:=by
 cases I with
 |arg _=>exact h
 |b_ _ _ _=>exact h
 |own _ _ _ _ _=>exact h
 |read e b aj J h2 h3 hl I=>exact I.ou h
theorem OpR.invoke {o:Oper}{cl:Go.Call}{x:Operand}{m:String}{k:FuncId}{R:V→H→Prop}(J:o.op=.call cl)(hc:cl.callee=.invoke x m)
 (hx:bq E x=some (.iface t u))(hm:methV C.P t m=some k)(ha:lookArgs E cl.args.toList=some args)(I:Am.Call C k (u::args) h R): OpR C E h o R:=by
 obtain⟨v,h₁,⟨N,hN⟩,hr⟩:=I
 exact⟨v,h₁,hr,fun env hE=>⟨N,by simp only[evOp,J,evCall,mM hE ha,hc,b6 hE hx,hm];exact hN⟩⟩
theorem Lu : methV Tryz.prog 32 "Read" = some 255 := by kernel_rfl
theorem Wi : methV Tryz.prog 24 "Read" = some 137 := by kernel_rfl
theorem aaS {x:Operand}(hu:Tryz.prog.underlying t=some (.pointer e)): binV Tryz.prog h .neq t x y .cU .cU=some (.bool false):=by simp only[binV,eqV,hu];rfl
theorem xk {x:Operand}{o:Nat}(hu:Tryz.prog.underlying t=some (.pointer e)): binV Tryz.prog h .eql t x y (.ptr i o) .cU=some (.bool false):=by simp only[binV,eqV,hu];rfl
theorem aaT {x:Operand}{o:Nat}(hu:Tryz.prog.underlying t=some (.pointer e)): binV Tryz.prog h .eql t x y .cU (.ptr i o)=some (.bool false):=by simp only[binV,eqV,hu];rfl
theorem aaU {k:TypeId}{x:Operand}{m:Nat}{ds:List V}(hu:Tryz.prog.underlying t=some (.pointer e))(I:bg Tryz.prog e=some k)(J:1≤k)(hi:T.get h.tr i=some (.cells n cs false))(hj:T.get h.tr j=some (.cells m ds false))(hn:1≤n)(hm:1≤m):
  binV Tryz.prog h .eql t x y (.ptr i 0) (.ptr j 0)=some (.bool (Nat.beq i j)):=by
 simp only[binV,eqV,hu,I,aP.2 J,ag,hi,hj,aP.2 hn,aP.2 hm,jc,jd,Bool.and_true,fQ]
section
variable {told:cy} {p:Nat} {op v:V} {m:List Fm} {b_:Bool}
theorem Ge (I:W told)(s:Sat h (fA a p q r .cU data bA::S)): Call ⟨Tryz.prog,told⟩ 43 [.ptr a 0] h fun v h'=>∃g,v=.aW [.ptr g 0,.int .i64 0]∧Sat h' (gO g a [] false::fA a p q r (.ptr g 0) data bA::S):=by
 obtain⟨dv,s⟩:=dB.1 s
 refine Call.of_wp (I.free _ rfl) Tryz.func43 rfl rfl (zK 10 rfl (zY s 0 sU MM rfl (zC rfl (aaS kU) (rfl) (zk 7 rfl ?_))))
 refine aA.yK s rfl rfl rfl rfl (fun J h s => ?_)
 refine zo rfl (cP rfl (by rw[aaq];rfl)) ?_
 refine aA.cB s rfl rfl rfl (fH rfl rfl) (fun p13 h s => ?_)
 refine zn rfl (zf rfl (sU _ _) ?_)
 refine zS rfl (by exact s.lu (k:=2) rfl Yi rfl (by decide) rfl rfl) (fun h s => ?_)
 refine zk 5 rfl (zY s 2 sU MM rfl (zk 3 rfl (WP.ret ⟨aa,_,rfl,?_⟩)))
 have s1:=oE (f:=fun v (b:List Nat)=>.bK v b) (s.ae [1])
 have s:=eH.2 ⟨_,s1.ae [1]⟩
 exact⟨_,rfl,(dB.2 ⟨dv,s.ae [1,1,0]⟩).ae [1]⟩
theorem IC (hT:W told){n:Int}(s:Sat h (gO g a now b_::fA a p q r op data bA::e_ r p q π::cM q p μ::bM p δ::S))(dL:jG (π,μ,δ))(hw:δ.waiting.length≤268435456)(u_:∀e∈now,e.2.length=512):
  Call ⟨Tryz.prog,told⟩ 255 [.ptr g 0,.int .i64 n] h fun v h'=>∃(e:Int) (b:List Nat) (ε:bw),GRd (π,μ,δ) now b_ n e b ε ∧
   ((e≠0∧v=.aW [.aV,.int .i64 e]∧Sat h' (gO g a now b_::fA a p q r op data bA::e_ r p q ε.1::cM q p ε.2.1::bM p ε.2.2::S)) ∨
    (e=0∧∃u,v=.aW [u,.int .i64 0]∧Sat h' (aQ u b::gO g a now b_::fA a p q r op data bA::e_ r p q ε.1::cM q p ε.2.1::bM p ε.2.2::S))):=by
 have s0:=s
 obtain⟨nv,s⟩:=eH.1 s
 obtain⟨dv,s⟩:=dB.1 (s.ae [2])
 dsimp only[bringA,getA,aT] at s
 refine Call.of_wp (hT.free _ rfl) Tryz.func255 rfl rfl (zK 6 rfl (WP.block (zK 3 rfl ?_)))
 refine zd rfl (az rfl rfl aL) ?_ ?_
 ·intro J
  have J:n<0:=by simpa using J
  exact zk 20 rfl (WP.ret ⟨aa,_,rfl,1,[],_,.arg (by simp only;omega),.inl ⟨by decide,rfl,s0⟩⟩)
 ·intro J
  have J:0≤n:=by simp at J;omega
  refine zk 4 rfl (zY s 2 o7 yM rfl (zn rfl (zY s 0 AZ uX rfl (zc rfl (B5 hT (s.ae [6])) ?_))))
  rintro v h ⟨rfl,rfl⟩
  refine zd rfl (az rfl rfl kC) ?_ ?_
  ·intro I
   have I:(δ.bD.length:Int)≤n:=by simpa using I
   exact zk 9 rfl (WP.ret ⟨aa,_,rfl,1,[],_,.arg (by simp only;omega),.inl ⟨by decide,rfl,s0⟩⟩)
  ·intro I
   have I:n<(δ.bD.length:Int):=by simp at I;omega
   refine zk 8 rfl (zf rfl (AX _ _) ?_)
   cases b_ with
   |true =>
    exact zt rfl (o_load rfl (s.ld (k:=2) rfl qn rfl)) (rfl) (zk 8 rfl (WP.ret ⟨aa,_,rfl,18,[],_,.b_ J I rfl,.inl ⟨by decide,rfl,s0⟩⟩))
   |false =>
    refine zh rfl (o_load rfl (by exact s.ld (k:=2) rfl qn rfl)) (rfl) ?_
    refine za rfl (zv (zj rfl (WP.skip (zw (zg rfl (zk 2 rfl (zf rfl (qB _ _) (zl rfl (by exact s.ld (k:=2) rfl oB rfl) ?_))))))))
    refine zm rfl ?_
    rcases l_ (n:=n) (fun _ _=>aJ.bK _ _) (s.ae [3]) rD bP k8 with⟨g1,g2,_⟩|⟨u,b,g1,g2,_,s2⟩
    ·refine aA.op rfl rfl rfl (jo rfl rfl g2) ?_
     refine zk 5 rfl (zv (zg rfl (zm rfl (zv (zj rfl (WP.skip (zg rfl (zk 2 rfl (zf rfl (o7 _ _) (zl rfl (by exact s.ld (k:=2) rfl yM rfl) ?_))))))))))
     refine zm rfl (zc rfl (B9 (n:=n) hT (s0.ae [1,1,1,1]) dL.ok dL.pins hw) ?_)
     rintro v h ⟨e,b,ε,hr,(⟨he,rfl,s⟩|⟨rfl,u,rfl,s⟩)⟩
     ·dsimp only[bringA,getA,aT] at s
      exact zk 5 rfl (WP.ret ⟨aa,_,rfl,e,b,ε,.read e b ε J I rfl g1 hr,.inl ⟨he,rfl,s.ae [4]⟩⟩)
     ·dsimp only[bringA,getA,aT] at s
      exact zk 5 rfl (WP.ret ⟨aa,_,rfl,0,b,ε,.read 0 b ε J I rfl g1 hr,.inr ⟨rfl,u,rfl,s.ae [0,4]⟩⟩)
    ·dsimp only[bringA,getA,aT] at s2
     refine zo rfl (jo rfl rfl g2) (zk 14 rfl ?_)
     have hb:=u_ _ (mc g1)
     refine zc rfl (sA hT s2 (aY _ _) (by simp only at hb;omega)) ?_
     intro v h s
     refine zk 3 rfl (WP.ret ⟨aa,_,rfl,?_⟩)
     have s:=dB.2 ⟨dv,s.ae [3,3,0,0,0,0,0,0,0]⟩
     have s:=eH.2 ⟨nv,s.ae [4,3]⟩
     exact⟨0,b,_,.own b J I rfl g1,.inr ⟨rfl,v,rfl,((s.ae [2,0,0,1,1,1]).del 6)⟩⟩
end
inductive tO (ε:bw)(now:List (Int×List Nat))(b_:Bool)(n:Int)(b:List Nat): Int→List (Int×List Nat)→bw→Prop where
 |may (e:Int) (c:List Nat) (aj:bw) (hr:GRd ε now b_ n e c aj) (he:e≠0):tO ε now b_ n b e now aj
 |bad (c:List Nat) (aj:bw) (hr:GRd ε now b_ n 0 c aj) (hg:b7 b=false):tO ε now b_ n b 4 now aj
 |done (c:List Nat) (aj:bw) (hr:GRd ε now b_ n 0 c aj) (hg:b7 b=true):tO ε now b_ n b 0 (cY n b now) aj
theorem tO.ou {bH:List (Int×List Nat)}{b_:Bool}{n e:Int}(I:tO ε now b_ n b e bH aj)(h:jG ε): jG aj:=by
 cases I with
 |may e c aj I he=>exact I.ou h
 |bad c aj I J=>exact I.ou h
 |done c aj I J=>exact I.ou h
section
variable {told:cy} {p:Nat} {op v:V} {m:List Fm} {b_:Bool}
theorem YR (hT:W told){n:Int}(s:Sat h (gO g a now b_::fA a p q r op data bA::e_ r p q π::cM q p μ::bM p δ::S))(J:jG (π,μ,δ))(hw:δ.waiting.length≤268435456)(I:∀e∈now,e.2.length=512):
  Call ⟨Tryz.prog,told⟩ 133 [.iface 32 (.ptr g 0),.int .i64 n] h fun v h'=>∃(e:Int) (b:List Nat) (ε:bw),GRd (π,μ,δ) now b_ n e b ε∧v=.int .i64 e ∧
   Sat h' (gO g a now b_::fA a p q r op data bA::e_ r p q ε.1::cM q p ε.2.1::bM p ε.2.2::S):=by
 refine Call.of_wp (hT.free _ rfl) Tryz.func133 rfl rfl (zK 8 rfl (aA.any rfl rfl rfl (OpR.invoke rfl rfl rfl Lu rfl (IC (n:=n) hT s J hw I)) ?_))
 rintro v h ⟨e,b,ε,hr,(⟨he,rfl,s⟩|⟨rfl,u,rfl,s⟩)⟩
 ·refine aA.op rfl rfl rfl (bV rfl) ?_
  exact zk 10 rfl (WP.ret ⟨aa,_,rfl,e,b,ε,hr,rfl,s⟩)
 ·skip
  exact zk 11 rfl (WP.ret ⟨aa,_,rfl,0,b,ε,hr,rfl,s.drop⟩)
theorem Gf (hT:W told){n:Int}(s:Sat h (gO g a now b_::fA a p q r op data bA::e_ r p q π::cM q p μ::bM p δ::X::S))(hX:bX X (b5 x b))(hb:b.length<9223372036854775808)(dL:jG (π,μ,δ))(hw:δ.waiting.length≤268435456)(J:∀e∈now,e.2.length=512):
  Call ⟨Tryz.prog,told⟩ 55 [.ptr g 0,.int .i64 n,x] h fun v h'=>∃(e:Int) (bH:List (Int×List Nat)) (ε:bw),tO (π,μ,δ) now b_ n b e bH ε∧v=.int .i64 e ∧
   Sat h' (gO g a bH b_::fA a p q r op data bA::e_ r p q ε.1::cM q p ε.2.1::bM p ε.2.2::X::S):=by
 refine Call.of_wp (hT.free _ rfl) Tryz.func55 rfl rfl (zK 8 rfl (zo rfl (qR rfl (mki_of kU rfl)) (zm rfl (zc rfl (YR (n:=n) hT s dL hw J) ?_))))
 rintro v h ⟨e,c,ε,hr,rfl,s⟩
 refine zk 5 rfl ?_
 by_cases he:e=0
 ·skip
  subst he
  refine zC rfl aN (rfl) (zk 7 rfl (zc rfl (Lk hT (s.ae [5]) hX hb) ?_))
  rintro v h ⟨rfl,s⟩
  refine zo rfl (eG rfl rfl) (zv ?_)
  by_cases I:b7 b=true
  ·skip
   refine WP.Uq rfl (by rw[I];rfl) ?_
   have YG:=iR I
   obtain⟨nv,s⟩:=eH.1 (s.ae [1])
   have s:=s.ae [2,0,0]
   obtain⟨v_,rfl⟩:=Ia s (j:=2) rfl
   refine zK 2 rfl ?_
   have s0:=s
   refine WP.drawn [some (0,2),some (0,2),some (0,2),some (0,2),some (0,2),af,af,af] rfl (by kernel_rfl) (by kernel_rfl) ?_
   refine zM rfl (zN rfl (zF rfl (qB _ _) (zL rfl (s.ld (k:=1) rfl oB rfl) (zM rfl (zM rfl (aE.any rfl rfl rfl rfl (OpR.call rfl rfl rfl rfl (sA hT s hX (by omega))) ?_))))))
   intro u h s
   obtain⟨lz,_,cap,_,rfl,_⟩:=s.dP (by omega)
   have s:=s.fD
   have s1:=s
   refine aE.mS rfl rfl rfl (OpR.mapUpdate rfl rfl rfl rfl (mo (f:=fun v b=>aI.bK v b) (x:=b) (fun _ _=>aJ.bK _ _) (s.ae [0,2]) rD bP)) ?_
   intro w h s
   refine aE.nil ⟨⟨fun _ _=>.inr ⟨rfl,⟨_,bV rfl⟩,bj _ rfl⟩,fun _ _=>.inr ⟨rfl,⟨_,su rfl⟩,bj _ rfl⟩,fun _ _=>.inr ⟨rfl,⟨_,lU rfl (qB _ _)⟩,bj _ rfl⟩,ga (.inr ⟨rfl,⟨_,o_load rfl (s0.ld (k:=1) rfl oB rfl)⟩,bj _ rfl⟩) (.inr ⟨rfl,⟨_,o_load rfl (s1.ld (k:=2) rfl oB rfl)⟩,bj _ rfl⟩),fun _ _=>.inr ⟨rfl,⟨_,bV rfl⟩,bj _ rfl⟩,aa,aa,aa,aa⟩,?_⟩
   exact zK 4 rfl (WP.ret ⟨aa,_,rfl,0,_,ε,.done c ε hr I,rfl,eH.2 ⟨.map v_,s.ae [2,0,1,1,1,1,0]⟩⟩)
  ·have I:b7 b=false:=by simpa using I
   refine WP.MK rfl (by rw[I];rfl) ?_
   exact zK 4 rfl (WP.ret ⟨aa,_,rfl,4,_,ε,.bad c ε hr I,rfl,s.ae [1,1,1,1,1,0]⟩)
 ·skip
  refine zB rfl aN (by simp;exact he) ?_
  exact zk 7 rfl (WP.ret ⟨aa,_,rfl,e,_,ε,.may e c ε hr he,rfl,s⟩)
theorem PO (I:W told)(s:Sat h (gO g a now b_::fA a p q r (.ptr g 0) data bA::S)): Call ⟨Tryz.prog,told⟩ 60 [.ptr g 0] h fun v h'=>v=.aW []∧Sat h' (gO g a now true::fA a p q r .cU data bA::S):=by
 obtain⟨J,s⟩:=eH.1 s
 obtain⟨dv,s⟩:=dB.1 (s.ae [2])
 refine Call.of_wp (I.free _ rfl) Tryz.func60 rfl rfl (zK 4 rfl (zf rfl (AX _ _) ?_))
 refine zS rfl (by exact s.lu (k:=2) rfl BE rfl (by decide) rfl rfl) (fun h s => ?_)
 refine zk 5 rfl (zY s 2 o7 yM rfl (zn rfl (zY s 0 sU MM rfl (zm rfl (zB rfl (aaU kU aap (by decide) (s.row (k:=2) rfl) (s.row (k:=2) rfl) (by decide) (by decide)) (jd g) ?_)))))
 refine zk 5 rfl (zY s 2 o7 yM rfl (zn rfl (zf rfl (sU _ _) ?_)))
 refine zS rfl (by exact s.lu (k:=0) rfl Yi rfl (by decide) rfl rfl) (fun h s => ?_)
 refine zv ?_
 have s:=eH.2 ⟨J,(dB.2 ⟨dv,s⟩).ae [1,1]⟩
 exact⟨aa,_,rfl,rfl,s⟩
theorem Kk (I:W told)(s:Sat h (gO g a now b_::fA a p q r .cU data bA::S)): Call ⟨Tryz.prog,told⟩ 60 [.ptr g 0] h fun v h'=>v=.aW []∧Sat h' (gO g a now true::fA a p q r .cU data bA::S):=by
 obtain⟨J,s⟩:=eH.1 s
 obtain⟨dv,s⟩:=dB.1 (s.ae [2])
 dsimp only[bringA,getA,aT] at s
 refine Call.of_wp (I.free _ rfl) Tryz.func60 rfl rfl (zK 4 rfl (zf rfl (AX _ _) ?_))
 refine zS rfl (by exact s.lu (k:=2) rfl BE rfl (by decide) rfl rfl) (fun h s => ?_)
 dsimp only[Ls,Nat.reduceAdd,List.set,setA] at s
 refine zv (zg rfl (zk 2 rfl (zf rfl (o7 _ _) (zl rfl (by exact s.ld (k:=2) rfl yM rfl) ?_))))
 refine zn rfl (zf rfl (sU _ _) (zl rfl (by exact s.ld (k:=0) rfl MM rfl) ?_))
 refine zm rfl (zh rfl (az rfl rfl (aaT kU)) (rfl) (zv (zj rfl (WP.skip ?_))))
 have s:=eH.2 ⟨J,(dB.2 ⟨dv,s⟩).ae [1,1]⟩
 exact⟨aa,_,rfl,rfl,s⟩
theorem Nf (I:W told)(s:Sat h (gO g a now b_::fA a p q r .cU data bA::S)): Call ⟨Tryz.prog,told⟩ 20 [.ptr g 0] h fun v h'=>v=.aW []∧Sat h' (gO g a now true::fA a p q r .cU data bA::S):=by
 refine Call.of_wp (I.free _ rfl) Tryz.func20 rfl rfl (zK 2 rfl (zc rfl (Kk I s) ?_))
 rintro v h ⟨rfl,s⟩
 exact zv ⟨aa,_,rfl,rfl,s⟩
end
inductive xQ (bE:Int)(was now:List Nat): Nat→List eE→Prop where
 |done (i:Nat) (h:now.length≤i):xQ bE was now i []
 |skip (i:Nat) (l:List eE) (h:i<now.length) (he:was[i]?=now[i]?) (hr:xQ bE was now (i+1) l):xQ bE was now i l
 |take (i e:Nat) (l:List eE) (h1:i<e) (h2:e≤now.length) (h3:was[i]?≠now[i]?) (h4:∀k,e≤k→k<e+8→was[k]?=now[k]?) (hr:xQ bE was now e l):xQ bE was now i (⟨bE,i,false,(now.take e).drop i⟩::l)
def PR (bE:Int)(was now:List Nat)(c:List eE): Prop:=∃l,xQ bE was now 12 l∧c=if l=[] then[⟨bE,0,false,[]⟩] else l
theorem Ca : ∃i,Tryz.prog.info? 206=some i∧i.size=4∧i.bytes=48 :=
 ⟨_,(show Tryz.prog.info? 206=some ((Tryz.prog.info? 206).getD default) by kernel_rfl),by kernel_rfl,by kernel_rfl⟩
section
variable {told:cy} {Y:aI} {p:Nat} {op v:V} {was now:List Nat}
noncomputable def rgO : Code:=cE [1,1,0,1,0,0] ((Tryz.f139.body).getD .skip)
noncomputable def rgI : Code:=cE [1,1,0,1,0,0,1,0,1,1,0,1,0,0] ((Tryz.f139.body).getD .skip)
theorem SS {I:Nat}{t7:V}{k1 k2:Nat}(s:Sat h S)(lR:getA S k1=some X)(hX:bX X (b5 u was))(j8:getA S k2=some Y)(hY:bX Y (b5 v now))(yX:was.length=512)(iq:now.length=512): ∀(j i e:Nat) (E:List (Nat×V)) (Q:Ex→List (Nat×V)→H→Prop),i+j=512→I<e→e≤i→(∀k,e≤k→k<i→was[k]?=now[k]?) →
  Has E [(0,.int .i64 pg),(1,u),(2,v),(7,t7),(8,.int .i64 (I:Int)),(9,.int .i64 (e:Int)),(10,.int .i64 (i:Int))] →
  (∀J E',I<J→J≤512→(∀k,J≤k→k<J+8→was[k]?=now[k]?)→Has E' [(0,.int .i64 pg),(1,u),(2,v),(7,t7),(8,.int .i64 (I:Int)),(9,.int .i64 (J:Int))]→Q (.exit 2) E' h) →
  WP ⟨Tryz.prog,told⟩ 71 (.loop rgI) E h Q:=by
 have hv:=s.aq j8 hY
 have hu:=s.aq lR hX
 have hlen:lenV Tryz.prog h 29 v=some (.int .i64 now.length):=au ak hv
 intro j
 induction j with
 |zero =>
  intro i e E Q hi h1 h2 hg hE hq
  refine WP.loop (WP.has hE (zK 5 rfl (zo rfl (aC rfl rfl rfl hlen) (zC rfl aL (by grind) ?_))))
  refine zk 8 rfl (WP.exit ?_)
  refine hq e _ h1 (by omega) (fun k k1 _ => ?_) ⟨rfl,rfl,rfl,rfl,rfl,rfl,aa⟩
  by_cases hk:k<i
  ·grind
  ·grind
 |succ j ih =>
  intro i e E Q hi h1 h2 hg hE hq
  have hb:now[i]?=some (now[i]'(by omega)):=aG _
  generalize (now[i]'(by omega))=b at hb
  have hc:was[i]?=some (was[i]'(by omega)):=aG _
  generalize (was[i]'(by omega))=c at hc
  obtain⟨id,off,e1,e2⟩:=c7 hv hb
  obtain⟨Bw,off',e3,e4⟩:=c7 hu hc
  refine WP.loop (WP.has hE (zK 5 rfl (zo rfl (aC rfl rfl rfl hlen) (zB rfl aL (by grind) ?_))))
  refine zk 3 rfl (zb rfl (by exact aO (ay (by omega) (by omega))) ?_)
  by_cases hd:i<e+8
  ·skip
   refine zB rfl aL (by grind) ?_
   refine zk 5 rfl (WP.block (zw ?_))
   have s0:=s
   refine WP.drawn [af,af,af,af,af,af,af,af,af] rfl (by kernel_rfl) (by kernel_rfl) ?_
   refine zM rfl (zM rfl (zO rfl (bx (r:=.ptr Bw off') rfl rfl e3) (zL rfl e4 (zM rfl (zM rfl (zO rfl (bx (r:=.ptr id off) rfl rfl e1) (zL rfl e2 ?_)))))))
   by_cases hbc:c=b
   ·skip
    refine aE.rX rfl rfl rfl rfl (az rfl rfl aN) (by grind) ?_
    refine aE.nil ⟨⟨aa,aa,aa,aa,aa,aa,aa,aa,aa,aa⟩,?_⟩
    refine zj rfl (WP.skip (zr rfl (zm rfl (zb rfl (by exact aO (ay (by omega) (by omega))) ?_))))
    refine za rfl (zv ?_)
    exact ih (i+1) e _ Q (by omega) h1 (by omega) (fun k k1 k2=>(by
     grind)) ⟨rfl,rfl,rfl,rfl,rfl,rfl,rfl,aa⟩ hq
   ·skip
    refine aE.vV rfl rfl rfl rfl (az rfl rfl aN) (by grind) ?_
    refine aE.nil ⟨⟨aa,aa,aa,aa,aa,aa,aa,aa,aa,aa⟩,?_⟩
    refine zK 3 rfl (zb rfl (by exact aO (ay (by omega) (by omega))) ?_)
    refine za rfl (zv (zr rfl (zm rfl (zb rfl (by exact aO (ay (by omega) (by omega))) ?_))))
    refine za rfl (zv ?_)
    exact ih (i+1) (i+1) _ Q (by omega) (by omega) (by omega) (fun k k1 k2=>absurd k2 (by omega)) ⟨rfl,rfl,rfl,rfl,rfl,rfl,rfl,aa⟩ hq
  ·skip
   refine zC rfl aL (by grind) ?_
   exact zk 3 rfl (WP.exit (hq e _ h1 (by omega) (fun k k1 k2=>hg k k1 (by omega)) ⟨rfl,rfl,rfl,rfl,rfl,rfl,aa⟩))
theorem SU (hT:W told)(hX:bX X (b5 u was))(hY:bX Y (b5 v now))(yX:was.length=512)(iq:now.length=512): ∀(j i:Nat) (acc:List eE) (av:V) (cs:List V) (h:H) (E:List (Nat×V)) (Q:Ex→List (Nat×V)→H→Prop),512≤i+j→i≤512→acc.length≤i →
  Sat h (.arr 4 av cs::ew cs acc::X::Y::S)→(∀l,xQ pg was now i l→xQ pg was now 12 (acc++l)) →
  Has E [(0,.int .i64 pg),(1,u),(2,v),(7,av),(8,.int .i64 (i:Int))] →
  (∀uB cs' l E' h',xQ pg was now 12 l→l.length≤512→Sat h' (.arr 4 uB cs'::ew cs' l::X::Y::S)→Has E' [(0,.int .i64 pg),(7,uB)]→Q (.exit 0) E' h') →
  WP ⟨Tryz.prog,told⟩ 71 (.loop rgO) E h Q:=by
 intro j
 induction j with
 |zero =>
  intro i acc av cs h E Q hj hi YS s I hE hq
  have hlen:lenV Tryz.prog h 29 v=some (.int .i64 now.length):=au ak (s.aq (k:=3) rfl hY)
  refine WP.loop (WP.has hE (zK 5 rfl (zo rfl (aC rfl rfl rfl hlen) (zC rfl aL (by grind) ?_))))
  refine zk 2 rfl (WP.exit ?_)
  have:=I [] (.done _ (by omega))
  rw[g_] at this
  exact hq av cs acc _ _ this (by omega) s ⟨rfl,rfl,aa⟩
 |succ j ih =>
  intro i acc av cs h E Q hj hi YS s I hE hq
  have hv:=s.aq (k:=3) rfl hY
  have hu:=s.aq (k:=2) rfl hX
  have hlen:lenV Tryz.prog h 29 v=some (.int .i64 now.length):=au ak hv
  by_cases cV:i<512
  ·have hb:now[i]?=some (now[i]'(by omega)):=aG _
   generalize (now[i]'(by omega))=b at hb
   have hc:was[i]?=some (was[i]'(by omega)):=aG _
   generalize (was[i]'(by omega))=c at hc
   obtain⟨id,off,e1,e2⟩:=c7 hv hb
   obtain⟨Bw,off',e3,e4⟩:=c7 hu hc
   refine WP.loop (WP.has hE (zK 5 rfl (zo rfl (aC rfl rfl rfl hlen) (zB rfl aL (by grind) ?_))))
   refine zk 3 rfl (WP.block (zK 2 rfl ?_))
   have s0:=s
   refine WP.drawn [af,af,af,af,af,af,af,af,af] rfl (by kernel_rfl) (by kernel_rfl) ?_
   refine zM rfl (zM rfl (zO rfl (bx (r:=.ptr Bw off') rfl rfl e3) (zL rfl e4 (zM rfl (zM rfl (zO rfl (bx (r:=.ptr id off) rfl rfl e1) (zL rfl e2 ?_)))))))
   by_cases hbc:c=b
   ·skip
    refine aE.vV rfl rfl rfl rfl (az rfl rfl ej) (by grind) ?_
    refine aE.nil ⟨⟨aa,aa,aa,aa,aa,aa,aa,aa,aa,aa⟩,?_⟩
    refine zK 4 rfl (zb rfl (by exact aO (ay (by omega) (by omega))) ?_)
    exact zk 2 rfl (WP.exit (ih (i+1) acc av cs h _ Q (by omega) (by omega) (by omega) s (fun l hl=>I l (.skip i l (by omega) (by grind) hl)) ⟨rfl,rfl,rfl,rfl,rfl,aa⟩ hq))
   ·skip
    refine aE.rX rfl rfl rfl rfl (az rfl rfl ej) (by grind) ?_
    refine aE.nil ⟨⟨aa,aa,aa,aa,aa,aa,aa,aa,aa,aa⟩,?_⟩
    refine zK 5 rfl (zb rfl (by exact aO (ay (by omega) (by omega))) ?_)
    refine zk 8 rfl (WP.block ?_)
    refine SS s (k1:=2) (k2:=3) rfl hX rfl hY yX iq (512-(i+1)) (i+1) (i+1) _ _ (by omega) (sF i) (aM _) (fun k k1 k2=>absurd k2 (by omega)) ⟨rfl,rfl,rfl,rfl,rfl,rfl,rfl,aa⟩ (fun e' E' he1 Du he3 fh => ?_)
    refine WP.has fh ?_
    have hsv:=fI hv (a:=i) (b:=e') (by omega) (by omega)
    refine zK 8 rfl (zo rfl (bS (p:=some (.int .i64 (i:Int))) (q:=some (.int .i64 (e':Int))) (m:=none) (p':=some i) (q':=some e') (m':=none) rfl rfl rfl rfl (by rfl) (by rfl) rfl hsv.1) ?_)
    refine zc rfl (sA hT (s.ae [3]) (wW hY (a:=i) (b:=e') (by omega) (by omega)) (by grind)) ?_
    intro w h s
    dsimp only[bringA,getA,aT] at s
    obtain⟨wid,_,J,_,rfl,_⟩:=s.dP (by grind)
    have s:=s.fD
    generalize Ui:(now.take e').drop i=bs at s
    refine zo rfl (cP rfl (by rw[MS];rfl)) ?_
    obtain⟨rv,h1,zH,s1⟩:=jB (P:=Tryz.prog) (k:=4) (x:=.agg [.int .i64 pg,.int .i64 (i:Int),.bool false,.sl wid 0 bs.length J]) s j7 uq A2 rfl (by decide) (by decide) rfl rfl
    dsimp only[V.cells] at s1
    refine aA.any rfl rfl rfl (OpR.of (R:=fun v h'=>v=rv∧h'=h1) (gI rfl zH) ⟨rfl,rfl⟩) ?_
    rintro v' h' ⟨rfl,rfl⟩
    obtain⟨i1,eT,gC,om⟩:=Ca
    have ff:cs.length=acc.length*4:=by
     obtain⟨a,b,q1,q2,q3⟩:=s1.at (k:=4) rfl
     exact qG q3
    obtain⟨uB,h2,qb,s2⟩:=gK (s1.ae [3,0]) j7 eT uq gC (by omega) rfl (by decide) (by grind)
    dsimp only[bringA,getA,aT] at s2
    refine aA.any rfl rfl rfl (OpR.of (R:=fun v h'=>v=uB∧h'=h2) (iG rfl rfl qb) ⟨rfl,rfl⟩) ?_
    rintro v' h' ⟨rfl,rfl⟩
    refine za rfl (zv (zr rfl (zk 2 rfl (zv ?_))))
    have s3:Sat _ (ew cs acc::.bK (.sl wid 0 bs.length J) bs::_):=s2.ae [4,2]
    have s4:=s3.two (C:=ew (cs++[.int .i64 pg,.int .i64 (i:Int),.bool false,.sl wid 0 bs.length J]) (acc++[⟨pg,i,false,bs⟩])) (aJ.qo _ _) (aJ.bK _ _) fun a b q1 q2=>B6 q1 ⟨⟨⟨rfl,rfl,rfl⟩,q2⟩,aa⟩
    have s5:=(s4.ae [1,0,2,1]).del 4
    dsimp only[bringA,getA,aT] at s5
    refine ih e' (acc++[⟨pg,(i:Int),false,bs⟩]) _ _ _ _ Q (by omega) Du (by grind) s5 (fun l hl => ?_) ⟨rfl,rfl,rfl,rfl,rfl,aa⟩ hq
    have:=I _ (.take i e' l he1 (by omega) (fun hx=>by grind) he3 hl)
    rw[Ui] at this
    rwa [eB]
  ·have hi5:i=512:=by omega
   refine WP.loop (WP.has hE (zK 5 rfl (zo rfl (aC rfl rfl rfl hlen) (zC rfl aL (by simp<;>omega) ?_))))
   refine zk 2 rfl (WP.exit ?_)
   have:=I [] (.done _ (by omega))
   rw[g_] at this
   exact hq av cs acc _ _ this (by omega) s ⟨rfl,rfl,aa⟩
theorem PS (hT:W told)(s:Sat h (X::Y::S))(hX:bX X (b5 u was))(hY:bX Y (b5 v now))(I:was.length=512)(J:now.length=512):
  Call ⟨Tryz.prog,told⟩ 139 [.int .i64 pg,u,v] h fun w h'=>∃cs l,PR pg was now l∧l.length≤512∧Sat h' (.arr 4 w cs::ew cs l::X::Y::S):=by
 refine Call.of_wp (hT.free _ rfl) Tryz.func139 rfl rfl (zK 13 rfl (WP.block ?_))
 refine SU hT (pg:=pg) hX hY I J 500 12 [] .aV [] _ _ _ (by omega) (by omega) (by simp) ((s.fq aa).kS) (fun l hl=>hl) ⟨rfl,rfl,rfl,rfl,rfl,aa⟩ (fun uB cs' l E' h' hr pz s' fh => ?_)
 have s:=s'
 have hlen:=s.yZ (j1:=0) (j2:=1) rfl rfl j7
 have Lv:=s.rQ (j:=0) rfl
 refine WP.has fh (zK 4 rfl (zo rfl (aC rfl rfl rfl hlen) ?_))
 by_cases yt:l=[]
 ·skip
  refine zB rfl ej (by grind) ?_
  refine zk 5 rfl (zo rfl (cP rfl (by rw[MS];rfl)) ?_)
  obtain⟨rv,h1,zH,s1⟩:=jB (P:=Tryz.prog) (k:=4) (x:=.agg [.int .i64 pg,.int .i64 0,.bool false,.aV]) s j7 uq A2 rfl (by decide) (by decide) rfl rfl
  dsimp only[V.cells] at s1
  refine aA.any rfl rfl rfl (OpR.of (R:=fun v h'=>v=rv∧h'=h1) (gI rfl zH) ⟨rfl,rfl⟩) ?_
  rintro v' h' ⟨rfl,rfl⟩
  refine zk 2 rfl (WP.ret ⟨aa,_,rfl,?_⟩)
  refine⟨[.int .i64 pg,.int .i64 0,.bool false,.aV],[⟨pg,0,false,[]⟩],⟨l,hr,by grind⟩,by simp,?_⟩
  have s2:=(s1.del 2).del 1
  have s3:Sat _ (.bK .aV []::.arr 4 v' _::X::Y::S):=s2.qT
  have s4:=s3.dG (B:=ew [.int .i64 pg,.int .i64 0,.bool false,.aV] [⟨pg,0,false,[]⟩]) fun a b q=>⟨⟨⟨rfl,rfl,rfl⟩,q⟩,aa⟩
  exact s4.ae [1,0]
 ·skip
  refine zC rfl ej (by simp_all) ?_
  exact zk 8 rfl (WP.ret ⟨aa,_,rfl,_,l,⟨l,hr,by grind⟩,pz,s⟩)
end
end Go.Proofs.YtdonpgpfplgigaaGreat.Am
